/- Headers, as the rows hand them in. -/
import Derived.Test.YtiedhjmnjpkcoaaArgsT
namespace Go.Proofs.Ytiedhjmnjpkcoaa
set_option linter.unusedVariables false
set_option linter.unusedSimpArgs false
open Go.ChangeShapes Go.WideShapes Go.ChangeAt Go.RowKit Go.Deep

theorem nat_of_byte {n : Int} (h : (Lit.int .u8 n).wf = true) : ∃ m : Nat, n = m ∧ m < 256 := by
  have m1 : IntKind.u8.min = 0 := by decide
  have m2 : IntKind.u8.max = 255 := by decide
  simp [Lit.wf, m1, m2] at h
  exact ⟨n.toNat, by omega, by omega⟩
/-- A header, by value. -/
def ArgHv (v : Value) : Prop := ∃ hv : Hv, hv.Wf ∧ v = hv.val
set_option maxRecDepth 100000 in
theorem hv_open {H : Type} {enc : TypeId × Value → H} {W : World} {r : Reach} {b0 : Nat} {sp : Nat → Bool} {held : Bool} {v : Value} {d : DataW H} {p : List MemPlace} (hv : Value.okWide Try.prog W r b0 89 v)
    (h : DataW.Trod enc Try.prog W 0 sp held 89 v d p) : ArgHv v := by
  obtain ⟨cs, rfl, hsz⟩ := okWide_struct Try.underlying89 hv
  have c0 : Try.prog.cellsOf 22 = 1 := by kernel_rfl
  have c1 : Try.prog.cellsOf 5 = 1 := by kernel_rfl
  have c2 : Try.prog.cellsOf 87 = 1 := by kernel_rfl
  have c3 : Try.prog.cellsOf 89 = 5 := by kernel_rfl
  rw [c3] at hsz
  obtain ⟨fuel, hf⟩ := h
  obtain ⟨xs, k, hk, hxy, _, hxl, hfd⟩ := DataW.trod_struct Try.underlying89 hf
  obtain ⟨cs⟩ := cs
  match xs, hxl, cs, hsz with
  | [y0, y1, y2, y3, y4], _, [v0, v1, v2, v3, v4], _ =>
    have g0 := hfd 0 _ rfl
    have g1 := hfd 1 _ rfl
    have g2 := hfd 2 _ rfl
    have g3 := hfd 3 _ rfl
    have g4 := hfd 4 _ rfl
    simp [c0, c1, c2, Value.cells] at g0 g1 g2 g3 g4
    obtain ⟨n0, e0, _, w0⟩ := DataW.trod_int Try.underlying22 g0
    obtain ⟨n1, e1, _, w1⟩ := DataW.trod_int Try.underlying22 g1
    obtain ⟨n2, e2, _, w2⟩ := DataW.trod_int Try.underlying5 g2
    obtain ⟨n3, e3, _, w3⟩ := DataW.trod_int Try.underlying87 g3
    obtain ⟨n4, e4, _, w4⟩ := DataW.trod_int Try.underlying87 g4
    cases e0; cases e1; cases e2; cases e3; cases e4
    obtain ⟨a, rfl, ha⟩ := nat_of_u32 w0
    obtain ⟨b, rfl, hb⟩ := nat_of_u32 w1
    obtain ⟨c, rfl, hc⟩ := nat_of_byte w2
    obtain ⟨s, rfl, _⟩ := nat_of_u16 w3
    obtain ⟨t, rfl, _⟩ := nat_of_u16 w4
    exact ⟨⟨a, b, c, s, t⟩, ⟨ha, hb, hc⟩, rfl⟩
end Go.Proofs.Ytiedhjmnjpkcoaa
