/- The document's Drop. -/
import Derived.Test.YtiedhjmnjpkcoaaRowApp
namespace Go.Proofs.Ytiedhjmnjpkcoaa
set_option linter.unusedVariables false
set_option linter.unusedSimpArgs false
open Go.RowKit

/-- What a part of a row shows. -/
theorem part_of {w : World} {b g cap i n : Nat} {l : List Rl} (h : w.ownsRow b 26 6 (.slice (some ⟨g, 0, none⟩) l.length cap) l.length (rlCells l)) (hi : i + n ≤ l.length) (c : Nat) (hc : n ≤ c) : PartAt w (.slice (some ⟨g, i * 6, none⟩) n c) ((l.drop i).take n) := by
  have hlen : ((l.drop i).take n).length = n := by simp; omega
  refine Or.inr ⟨⟨g, i * 6, none⟩, c, by rw [hlen], by rw [hlen]; exact hc, fun j u hu => ?_⟩
  have hj : j < n * 6 := by
    have := (List.getElem?_eq_some_iff.1 hu).1
    rwa [rlCells_length, hlen] at this
  have e1 : (rlCells ((l.drop i).take n))[j]? = (rlCells l)[i * 6 + j]? := by
    rw [rlCells_get _ j (by rw [hlen]; exact hj), rlCells_get l (i * 6 + j) (by omega), show (i * 6 + j) / 6 = i + j / 6 by omega, show (i * 6 + j) % 6 = j % 6 by omega]
    have h6 : j / 6 < n := by omega
    congr 2
    rw [getElem!_pos _ (j / 6) (by rw [hlen]; exact h6), getElem!_pos l (i + j / 6) (by omega)]
    simp
  have h2 := h.cellAt (i * 6 + j) (by omega)
  rw [← e1, hu] at h2
  have hadd : (⟨g, i * 6, none⟩ : Addr).add j = ⟨g, i * 6 + j, none⟩ := by unfold Addr.add; split <;> simp_all
  rw [hadd]
  exact h2

theorem part_head {w : World} {b g cap i : Nat} {l : List Rl} (h : w.ownsRow b 26 6 (.slice (some ⟨g, 0, none⟩) l.length cap) l.length (rlCells l)) (hi : i ≤ l.length) (c : Nat) (hc : i ≤ c) : PartAt w (.slice (some ⟨g, 0, none⟩) i c) (l.take i) := by
  have := part_of (i := 0) (n := i) h (by omega) c hc
  simpa using this

theorem part_tail {w : World} {b g cap k : Nat} {l : List Rl} (h : w.ownsRow b 26 6 (.slice (some ⟨g, 0, none⟩) l.length cap) l.length (rlCells l)) (hk : k ≤ l.length) (hc : l.length ≤ cap) :
    PartAt w (.slice (if cap = k then some ⟨g, 0, none⟩ else some ⟨g, k * 6, none⟩) (l.length - k) (cap - k)) (l.drop k) := by
  by_cases e : cap = k
  · rw [if_pos e]
    have h0 : l.drop k = [] := List.drop_eq_nil_of_le (by omega)
    refine Or.inr ⟨⟨g, 0, none⟩, cap - k, ?_, by rw [h0]; simp, fun j u hu => ?_⟩
    · rw [h0, show l.length - k = 0 by omega]
      rfl
    · rw [h0] at hu
      cases hu
  · rw [if_neg e]
    have := part_of (i := k) (n := l.length - k) h (by omega) (cap - k) (by omega)
    rwa [List.take_of_length_le (by simp)] at this

/-- What only grew one's own row. -/
theorem below_grew {w w' : World} {B : Nat} {o : Option Nat} (h : w.grownBy w' o) (hz : B ≤ w.heap.size) (hB : ∀ k, o = some k → B ≤ k) : Below B w w' :=
  ⟨h.os, h.tape, h.output, h.size, fun k hk => h.block k (by omega) (fun e => by have := hB k e.symm; omega)⟩

end Go.Proofs.Ytiedhjmnjpkcoaa
