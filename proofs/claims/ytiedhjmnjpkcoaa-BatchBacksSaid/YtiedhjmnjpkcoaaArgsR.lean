/- Rules by value, as the rows hand them in. -/
import Derived.Test.YtiedhjmnjpkcoaaRul
import Derived.WalkKit
import Derived.ProofKit
import Derived.OpenShut
import Derived.ChangeOld
import Derived.Below
import Derived.SizedLaws
import Derived.Deep.Slices
namespace Go.Proofs.Ytiedhjmnjpkcoaa
set_option linter.unusedVariables false
set_option linter.unusedSimpArgs false
open Go.ChangeShapes Go.WideShapes Go.ChangeAt Go.RowKit Go.Deep

def inI (x : Int) : Prop := -9223372036854775808 ≤ x ∧ x ≤ 9223372036854775807
/-- A rule, by value. -/
def ArgRl (v : Value) : Prop := ∃ r : Rl, r.addr < 2 ^ 32 ∧ inI r.id ∧ inI r.dev ∧ inI r.bits ∧ inI r.prio ∧ inI r.out ∧ v = r.val
theorem in_of {n : Int} (h : (Lit.int .i64 n).wf = true) : inI n := by
  have m1 : IntKind.i64.min = -9223372036854775808 := by decide
  have m2 : IntKind.i64.max = 9223372036854775807 := by decide
  simp [Lit.wf, m1, m2] at h
  exact h
theorem nat_of_u32 {n : Int} (h : (Lit.int .u32 n).wf = true) : ∃ m : Nat, n = m ∧ m < 2 ^ 32 := by
  have m1 : IntKind.u32.min = 0 := by decide
  have m2 : IntKind.u32.max = 4294967295 := by decide
  simp [Lit.wf, m1, m2] at h
  exact ⟨n.toNat, by omega, by omega⟩

set_option maxRecDepth 100000 in
theorem rule_cells {H : Type} {enc : TypeId × Value → H} {W : World} {sp : Nat → Bool} {held : Bool} {cs : List Value} {fuel : Nat} {x : DataW H × List MemPlace} (hl : cs.length = 6)
    (h : DataW.trod enc Try.prog W 0 sp held fuel 26 cs = some x) : ∃ r : Rl, r.addr < 2 ^ 32 ∧ inI r.id ∧ inI r.dev ∧ inI r.bits ∧ inI r.prio ∧ inI r.out ∧ cs = r.cells := by
  have c0 : Try.prog.cellsOf 22 = 1 := by kernel_rfl
  have c1 : Try.prog.cellsOf 3 = 1 := by kernel_rfl
  have c2 : Try.prog.cellsOf 24 = 2 := by kernel_rfl
  obtain ⟨xs, k, hk, hxy, _, hxl, hfd⟩ := DataW.trod_struct Try.underlying26 h
  match xs, hxl, cs, hl with
  | [y0, y1, y2, y3, y4], _, [v0, v1, v2, v3, v4, v5], _ =>
    have g0 := hfd 0 _ rfl
    have g1 := hfd 1 _ rfl
    have g2 := hfd 2 _ rfl
    have g3 := hfd 3 _ rfl
    have g4 := hfd 4 _ rfl
    simp [c0, c1, c2] at g0 g1 g2 g3 g4
    obtain ⟨zs, k2, hk2, hxy2, _, hxl2, hfd2⟩ := DataW.trod_struct Try.underlying24 g2
    match zs, hxl2 with
    | [z0, z1], _ =>
      have f0 := hfd2 0 _ rfl
      have f1 := hfd2 1 _ rfl
      simp [c0, c1] at f0 f1
      obtain ⟨n0, e0, _, w0⟩ := DataW.trod_int Try.underlying3 g0
      obtain ⟨n1, e1, _, w1⟩ := DataW.trod_int Try.underlying3 g1
      obtain ⟨n2, e2, _, w2⟩ := DataW.trod_int Try.underlying22 f0
      obtain ⟨n3, e3, _, w3⟩ := DataW.trod_int Try.underlying3 f1
      obtain ⟨n4, e4, _, w4⟩ := DataW.trod_int Try.underlying3 g3
      obtain ⟨n5, e5, _, w5⟩ := DataW.trod_int Try.underlying3 g4
      cases e0; cases e1; cases e2; cases e3; cases e4; cases e5
      obtain ⟨a, rfl, ha⟩ := nat_of_u32 w2
      exact ⟨⟨n0, n1, a, n3, n4, n5⟩, ha, in_of w0, in_of w1, in_of w3, in_of w4, in_of w5, rfl⟩

set_option maxRecDepth 100000 in
theorem rule_open {H : Type} {enc : TypeId × Value → H} {W : World} {r : Reach} {b0 : Nat} {sp : Nat → Bool} {held : Bool} {v : Value} {d : DataW H} {p : List MemPlace} (hv : Value.okWide Try.prog W r b0 26 v)
    (h : DataW.Trod enc Try.prog W 0 sp held 26 v d p) : ArgRl v := by
  obtain ⟨cs, rfl, hsz⟩ := okWide_struct Try.underlying26 hv
  have c5 : Try.prog.cellsOf 26 = 6 := by kernel_rfl
  rw [c5] at hsz
  obtain ⟨fuel, hf⟩ := h
  obtain ⟨r, h1, h2, h3, h4, h5, h6, e⟩ := rule_cells (by simpa [Value.cells] using hsz) hf
  refine ⟨r, h1, h2, h3, h4, h5, h6, ?_⟩
  unfold Rl.val
  congr 1
  apply Array.toList_inj.1
  unfold Rl.cells at e
  simpa [Value.cells] using e
end Go.Proofs.Ytiedhjmnjpkcoaa
