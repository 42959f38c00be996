/- Filters by value, as the rows hand them in. -/
import Derived.Test.YtakgghhmecphmaaFilA
import Derived.Test.YtakgghhmecphmaaArgsH
namespace Go.Proofs.Ytakgghhmecphmaa
set_option linter.unusedVariables false
set_option linter.unusedSimpArgs false
open Go.ChangeShapes Go.WideShapes Go.ChangeAt Go.RowKit Go.Deep

/-- A filter, by value. -/
def ArgFl (v : Value) : Prop := ∃ f : Fl, f.Wf ∧ (f.s2 < 65536 ∧ f.d2 < 65536) ∧ v = f.val
theorem nat_u32 {n : Int} (h : (Lit.int .u32 n).wf = true) : ∃ m : Nat, n = m ∧ m < 2 ^ 32 := by
  have m1 : IntKind.u32.min = 0 := by decide
  have m2 : IntKind.u32.max = 4294967295 := by decide
  simp [Lit.wf, m1, m2] at h
  exact ⟨n.toNat, by omega, by omega⟩
theorem nat_u16 {n : Int} (h : (Lit.int .u16 n).wf = true) : ∃ m : Nat, n = m ∧ m < 65536 := by
  have m1 : IntKind.u16.min = 0 := by decide
  have m2 : IntKind.u16.max = 65535 := by decide
  simp [Lit.wf, m1, m2] at h
  exact ⟨n.toNat, by omega, by omega⟩
set_option maxRecDepth 100000 in
theorem filter_cells {H : Type} {enc : TypeId × Value → H} {W : World} {sp : Nat → Bool} {held : Bool} {cs : List Value} {fuel : Nat} {x : DataW H × List MemPlace} (hl : cs.length = 9)
    (h : DataW.trod enc Try.prog W 0 sp held fuel 77 cs = some x) : ∃ f : Fl, f.Wf ∧ (f.s2 < 65536 ∧ f.d2 < 65536) ∧ cs = f.cells := by
  have c0 : Try.prog.cellsOf 22 = 1 := by kernel_rfl
  have c1 : Try.prog.cellsOf 3 = 1 := by kernel_rfl
  have c2 : Try.prog.cellsOf 73 = 2 := by kernel_rfl
  have c3 : Try.prog.cellsOf 75 = 2 := by kernel_rfl
  have c4 : Try.prog.cellsOf 23 = 1 := by kernel_rfl
  obtain ⟨xs, k, hk, hxy, _, hxl, hfd⟩ := DataW.trod_struct Try.underlying77 h
  match xs, hxl, cs, hl with
  | [y0, y1, y2, y3, y4], _, [v0, v1, v2, v3, v4, v5, v6, v7, v8], _ =>
    have g0 := hfd 0 _ rfl
    have g1 := hfd 1 _ rfl
    have g2 := hfd 2 _ rfl
    have g3 := hfd 3 _ rfl
    have g4 := hfd 4 _ rfl
    simp [c0, c1, c2, c3, c4] at g0 g1 g2 g3 g4
    obtain ⟨zs, k2, hk2, hxy2, _, hxl2, hfd2⟩ := DataW.trod_struct Try.underlying73 g0
    obtain ⟨zs3, k3, hk3, hxy3, _, hxl3, hfd3⟩ := DataW.trod_struct Try.underlying73 g1
    obtain ⟨zs4, k4, hk4, hxy4, _, hxl4, hfd4⟩ := DataW.trod_struct Try.underlying75 g3
    obtain ⟨zs5, k5, hk5, hxy5, _, hxl5, hfd5⟩ := DataW.trod_struct Try.underlying75 g4
    match zs, hxl2, zs3, hxl3, zs4, hxl4, zs5, hxl5 with
    | [z0, z1], _, [z2, z3], _, [z4, z5], _, [z6, z7], _ =>
      have f0 := hfd2 0 _ rfl
      have f1 := hfd2 1 _ rfl
      have f2 := hfd3 0 _ rfl
      have f3 := hfd3 1 _ rfl
      have f4 := hfd4 0 _ rfl
      have f5 := hfd4 1 _ rfl
      have f6 := hfd5 0 _ rfl
      have f7 := hfd5 1 _ rfl
      simp [c0, c1, c4] at f0 f1 f2 f3 f4 f5 f6 f7
      obtain ⟨n0, e0, _, w0⟩ := DataW.trod_int Try.underlying22 f0
      obtain ⟨n1, e1, _, w1⟩ := DataW.trod_int Try.underlying3 f1
      obtain ⟨n2, e2, _, w2⟩ := DataW.trod_int Try.underlying22 f2
      obtain ⟨n3, e3, _, w3⟩ := DataW.trod_int Try.underlying3 f3
      obtain ⟨n8, e8, _, w8⟩ := DataW.trod_int Try.underlying3 g2
      obtain ⟨n4, e4, _, w4⟩ := DataW.trod_int Try.underlying23 f4
      obtain ⟨n5, e5, _, w5⟩ := DataW.trod_int Try.underlying23 f5
      obtain ⟨n6, e6, _, w6⟩ := DataW.trod_int Try.underlying23 f6
      obtain ⟨n7, e7, _, w7⟩ := DataW.trod_int Try.underlying23 f7
      cases e0; cases e1; cases e2; cases e3; cases e4; cases e5; cases e6; cases e7; cases e8
      obtain ⟨a, rfl, ha⟩ := nat_u32 w0
      obtain ⟨b, rfl, hb⟩ := nat_u32 w2
      obtain ⟨c, rfl, hc⟩ := nat_u16 w4
      obtain ⟨d, rfl, hd⟩ := nat_u16 w5
      obtain ⟨e, rfl, he⟩ := nat_u16 w6
      obtain ⟨f, rfl, hf⟩ := nat_u16 w7
      exact ⟨⟨a, n1, b, n3, n8, c, d, e, f⟩, ⟨ha, hb⟩, ⟨hd, hf⟩, rfl⟩

set_option maxRecDepth 100000 in
theorem filter_open {H : Type} {enc : TypeId × Value → H} {W : World} {r : Reach} {b0 : Nat} {sp : Nat → Bool} {held : Bool} {v : Value} {d : DataW H} {p : List MemPlace} (hv : Value.okWide Try.prog W r b0 77 v)
    (h : DataW.Trod enc Try.prog W 0 sp held 77 v d p) : ArgFl v := by
  obtain ⟨cs, rfl, hsz⟩ := okWide_struct Try.underlying77 hv
  have c5 : Try.prog.cellsOf 77 = 9 := by kernel_rfl
  rw [c5] at hsz
  obtain ⟨fuel, hf⟩ := h
  obtain ⟨r, h1, h2, e⟩ := filter_cells (by simpa [Value.cells] using hsz) hf
  refine ⟨r, h1, h2, ?_⟩
  unfold Fl.val
  congr 1
  apply Array.toList_inj.1
  unfold Fl.cells at e
  simpa [Value.cells] using e
end Go.Proofs.Ytakgghhmecphmaa
