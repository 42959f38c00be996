/- A part of a row of rules, maybe empty, appended to a row. · The document's Drop. -/
import Derived.Test.YtjoblahedgpgbaaGreatTabC
import Derived.Maps.AppendAt
import Derived.Deep.Upon
namespace Go.Proofs.YtjoblahedgpgbaaGreat
set_option linter.unusedVariables false
set_option linter.unusedSimpArgs false
open Go.RowKit

/-- A slice of m rules: what it shows. -/
def PartAt (w : World) (x : Value) (l : List Rl) : Prop := (∃ c, x = .slice none 0 c ∧ l = [] ∧ c = 0) ∨ ∃ ad c, x = .slice (some ad) l.length c ∧ l.length ≤ c ∧ ∀ j u, (rlCells l)[j]? = some u → w.cell? (ad.add j) = some u

theorem run_app_rules {w : World} {base : Nat} {v x : Value} {l l2 : List Rl} (ty : TypeId) (h : w.ownsRow base 89 6 v l.length (rlCells l)) (hx : PartAt w x l2) (hl : l.length + l2.length ≤ 1000000) (hb : base ≤ w.heap.size) :
    ∃ v' w', (Builtin.append_ #[183, 183] ty #[v, x]).run Tryz.prog w = .ok v' w' ∧ w'.ownsRow base 89 6 v' (l ++ l2).length (rlCells (l ++ l2)) ∧ w.grownBy w' v.ownBlock ∧ (v'.ownBlock = v.ownBlock ∨ v'.ownBlock = some w.heap.size) := by
  obtain ⟨i0, hi, hz0, hz1, hz2⟩ := info_parts rule_info
  have e1 : rlCells (l ++ l2) = rlCells l ++ rlCells l2 := by simp [rlCells]
  rcases hx with ⟨c, rfl, rfl, rfl⟩ | ⟨ad, c, rfl, hc, hcells⟩
  · obtain ⟨ao, cap, hv, hle⟩ : ∃ ao cap, v = .slice ao l.length cap ∧ l.length ≤ cap := by
      rcases h.2 with ⟨h0, h1⟩ | ⟨g', cap', cur, h0, _, _, h3, _⟩
      · exact ⟨none, 0, by rw [h0, h1], by omega⟩
      · exact ⟨_, cap', h0, h3⟩
    subst hv
    refine ⟨_, w, run_append_nothing w _ _ ty _ i0 Tryz.underlying183 hi ao _ cap hle _ ?_, by simpa using h, ⟨rfl, rfl, rfl, Nat.le_refl _, fun _ _ _ => rfl⟩, Or.inl rfl⟩
    refine ⟨Or.inl ⟨_, Tryz.underlying183⟩, fun w' => ?_, ?_, ?_, by simp, by simp⟩
    · simp [Builtin.lenOf]
    · simp [Builtin.firstCells]
    · simp [Builtin.firstCells]
  · obtain ⟨v', w', h1, h2, h3, _, h5⟩ := run_append_own_at (P := Tryz.prog) w base 183 ty 89 i0 _ 6 48 Tryz.underlying183 hi hz0 hz1 hz2 rfl (by decide) v l.length _ h ad l2.length c (rlCells l2) (rlCells_length l2) hcells (by
      intro u hu
      obtain ⟨r, _, hr⟩ := List.mem_flatMap.1 hu
      exact rule_one r u hr) (by unfold maxLen; omega) (by omega) hb
    exact ⟨v', w', h1, by rw [e1, List.length_append]; exact h2, h3, h5⟩

/-- At the operation. -/
theorem wpList_app_rules {w : World} {ops : Array Oper} {rest : List Oper} {o : Oper} {a : Act} {Q : Exit → Act → World → Prop} (hgd : o.guard = none) (s x : Operand)
    (ho : o.op = .call { callee := .builtin .append, args := #[s, x], argTypes := #[183, 183] }) {base : Nat} {v xv : Value} {l l2 : List Rl} (h : w.ownsRow base 89 6 v l.length (rlCells l)) (hx : PartAt w xv l2) (hl : l.length + l2.length ≤ 1000000) (hb : base ≤ w.heap.size) (hs : a.eval s = v) (hxe : a.eval x = xv)
    (hK : ∀ v' w', w'.ownsRow base 89 6 v' (l ++ l2).length (rlCells (l ++ l2)) → w.grownBy w' v.ownBlock → (v'.ownBlock = v.ownBlock ∨ v'.ownBlock = some w.heap.size) → wpList Tryz.prog ops Q rest (a.put o.dst v') w') : wpList Tryz.prog ops Q (o :: rest) a w := by
  refine wpList_plain hgd fun K' hK' => ?_
  obtain ⟨v', w', hr, h2, h3, h4⟩ := run_app_rules o.type h hx hl hb
  unfold Oper.wp execOp
  simp only [ho, resolve, invoke, builtin, Sem.run_bind, Sem.run_pure, Result.andThen_ok, List.map_toArray, List.map_cons, List.map_nil, hs, hxe, hr]
  exact hK' _ _ (hK v' w' h2 h3 h4)
end Go.Proofs.YtjoblahedgpgbaaGreat

namespace Go.Proofs.YtjoblahedgpgbaaGreat
set_option linter.unusedVariables false
set_option linter.unusedSimpArgs false
open Go.RowKit

/-- What a part of a row shows. -/
theorem part_of {w : World} {b g cap i n : Nat} {l : List Rl} (h : w.ownsRow b 89 6 (.slice (some ⟨g, 0, none⟩) l.length cap) l.length (rlCells l)) (hi : i + n ≤ l.length) (c : Nat) (hc : n ≤ c) : PartAt w (.slice (some ⟨g, i * 6, none⟩) n c) ((l.drop i).take n) := by
  have hlen : ((l.drop i).take n).length = n := by simp; omega
  refine Or.inr ⟨⟨g, i * 6, none⟩, c, by rw [hlen], by rw [hlen]; exact hc, fun j u hu => ?_⟩
  have hj : j < n * 6 := by
    have := (List.getElem?_eq_some_iff.1 hu).1
    rwa [rlCells_length, hlen] at this
  have e1 : (rlCells ((l.drop i).take n))[j]? = (rlCells l)[i * 6 + j]? := by
    rw [rlCells_get _ j (by rw [hlen]; exact hj), rlCells_get l (i * 6 + j) (by omega), show (i * 6 + j) / 6 = i + j / 6 by omega, show (i * 6 + j) % 6 = j % 6 by omega]
    have h6 : j / 6 < n := by omega
    congr 2
    rw [getElem!_pos _ (j / 6) (by rw [hlen]; exact h6), getElem!_pos l (i + j / 6) (by omega)]
    simp
  have h2 := h.cellAt (i * 6 + j) (by omega)
  rw [← e1, hu] at h2
  have hadd : (⟨g, i * 6, none⟩ : Addr).add j = ⟨g, i * 6 + j, none⟩ := by unfold Addr.add; split <;> simp_all
  rw [hadd]
  exact h2

theorem part_head {w : World} {b g cap i : Nat} {l : List Rl} (h : w.ownsRow b 89 6 (.slice (some ⟨g, 0, none⟩) l.length cap) l.length (rlCells l)) (hi : i ≤ l.length) (c : Nat) (hc : i ≤ c) : PartAt w (.slice (some ⟨g, 0, none⟩) i c) (l.take i) := by
  have := part_of (i := 0) (n := i) h (by omega) c hc
  simpa using this

theorem part_tail {w : World} {b g cap k : Nat} {l : List Rl} (h : w.ownsRow b 89 6 (.slice (some ⟨g, 0, none⟩) l.length cap) l.length (rlCells l)) (hk : k ≤ l.length) (hc : l.length ≤ cap) :
    PartAt w (.slice (if cap = k then some ⟨g, 0, none⟩ else some ⟨g, k * 6, none⟩) (l.length - k) (cap - k)) (l.drop k) := by
  by_cases e : cap = k
  · rw [if_pos e]
    have h0 : l.drop k = [] := List.drop_eq_nil_of_le (by omega)
    refine Or.inr ⟨⟨g, 0, none⟩, cap - k, ?_, by rw [h0]; simp, fun j u hu => ?_⟩
    · rw [h0, show l.length - k = 0 by omega]
      rfl
    · rw [h0] at hu
      cases hu
  · rw [if_neg e]
    have := part_of (i := k) (n := l.length - k) h (by omega) (cap - k) (by omega)
    rwa [List.take_of_length_le (by simp)] at this

/-- What only grew one's own row. -/
theorem below_grew {w w' : World} {B : Nat} {o : Option Nat} (h : w.grownBy w' o) (hz : B ≤ w.heap.size) (hB : ∀ k, o = some k → B ≤ k) : Below B w w' :=
  ⟨h.os, h.tape, h.output, h.size, fun k hk => h.block k (by omega) (fun e => by have := hB k e.symm; omega)⟩

end Go.Proofs.YtjoblahedgpgbaaGreat
