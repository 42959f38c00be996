/- A list of bools, as the rows hand it in. -/
import Derived.Test.YtakgghhmecphmaaArgsH
import Derived.Deep.Grids
namespace Go.Proofs.Ytakgghhmecphmaa
set_option linter.unusedVariables false
set_option linter.unusedSimpArgs false
open Go.ChangeShapes Go.WideShapes Go.ChangeAt Go.RowKit Go.Deep

def BsAt (w : World) (b off : Nat) (l : List Bool) : Prop := ∀ i x, l[i]? = some x → w.cell? ⟨b, off + i, none⟩ = some (.bool x)
def ArgBs (W : World) (v : Value) : Prop := ∃ l : List Bool, (l = [] ∧ ∃ ao cap, v = .slice ao 0 cap) ∨
  ∃ b off n cap, 0 < n ∧ v = .slice (some ⟨b, off, none⟩) n cap ∧ l.length = n ∧ BsAt W b off l ∧ b < W.heap.size

set_option maxRecDepth 100000 in
theorem bools_open {H : Type} {enc : TypeId × Value → H} {W : World} {r : Reach} {b0 : Nat} {held : Bool} {v : Value} {d : DataW H} {p : List MemPlace} (hv : Value.okWide Try.prog W r b0 35 v)
    (h : DataW.Trod enc Try.prog W 0 (fun _ => true) held 35 v d p) : ArgBs W v := by
  obtain ⟨a, len, cap, rfl⟩ := okWide_slice Try.underlying35 hv
  obtain ⟨fuel, hf⟩ := h
  rcases open_bools Try.underlying35 Try.underlying4 (by kernel_rfl) hf with ⟨hcs, _⟩ | ⟨x, l, c, B, hcs, _, hlc, _, _, hB⟩
  · simp [Value.cells] at hcs
    obtain ⟨rfl, rfl, rfl⟩ := hcs
    exact ⟨[], Or.inl ⟨rfl, none, 0, rfl⟩⟩
  · simp [Value.cells] at hcs
    obtain ⟨rfl, rfl, rfl⟩ := hcs
    rcases Nat.eq_zero_or_pos len with h0 | h0
    · subst h0
      exact ⟨[], Or.inl ⟨rfl, some x, cap, rfl⟩⟩
    have h00 := hB 0 (by omega)
    have hsp := cell_spot h00
    obtain ⟨xb, xo, xs⟩ := x
    have hxs : xs = none := by
      have := hsp.1
      simpa [Addr.add] using this
    subst hxs
    simp only [add_none] at hB hsp
    refine ⟨(List.range len).map B, Or.inr ⟨xb, xo, len, cap, h0, rfl, by simp, fun i y hy => ?_, hsp.2⟩⟩
    have hi : i < len := by
      have := (List.getElem?_eq_some_iff.1 hy).1
      simpa using this
    have e : B i = y := by simpa [hi] using hy
    rw [← e]
    exact hB i (by omega)

end Go.Proofs.Ytakgghhmecphmaa
