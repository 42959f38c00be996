/- The table's methods at nil. -/
import Derived.Test.YtiedhjmnjpkcoaaTabL
namespace Go.Proofs.Ytiedhjmnjpkcoaa
set_option linter.unusedVariables false
set_option linter.unusedSimpArgs false
open Go.RowKit

def boxZ : Obj := .cells #[.int .i64 0, .int .i64 0, .int .u32 0, .int .i64 0, .int .i64 0, .int .i64 0] 26

theorem tlen_nil (w : World) : Calls Try.prog 28 #[.pointer none] w fun e w' => e = .returned (.int .i64 0) ∧ w' = w := by
  go_enter Try.func28, Try.ntmps28
  go_wp2
  go_ret
  exact ⟨rfl, rfl⟩
theorem trules_nil (w : World) : Calls Try.prog 20 #[.pointer none] w fun e w' => e = .returned (.slice none 0 0) ∧ w' = w := by
  go_enter Try.func20, Try.ntmps20
  go_wp2
  go_ret
  exact ⟨rfl, rfl⟩
theorem tdrop_nil (w : World) (id : Int) : Calls Try.prog 23 #[.pointer none, .int .i64 id] w fun e w' => e = .returned (.int .i64 2) ∧ Below w.heap.size w w' := by
  have k0 := (Below.refl w.heap.size w)
  go_enter Try.func23, Try.ntmps23
  go_wp2
  go_ret
  first | exact ⟨rfl, k0⟩ | exact ⟨rfl, k0.alloc (Nat.le_refl _) _⟩
theorem tadd_nil (w : World) : Calls Try.prog 24 #[.pointer none, .agg #[.int .i64 0, .int .i64 0, .int .u32 0, .int .i64 0, .int .i64 0, .int .i64 0]] w fun e w' => e = .returned (.int .i64 2) ∧ Below w.heap.size w w' := by
  have k0 := (Below.refl w.heap.size w)
  go_enter Try.func24, Try.ntmps24
  go_wp2
  go_ret
  first | exact ⟨rfl, k0⟩ | exact ⟨rfl, k0.alloc (Nat.le_refl _) _⟩
theorem tbest_nil (w : World) (a : Int) : Calls Try.prog 21 #[.pointer none, .int .u32 a] w fun e w' => e = .returned (.tuple #[.agg #[.int .i64 0, .int .i64 0, .int .u32 0, .int .i64 0, .int .i64 0, .int .i64 0], .bool false]) ∧ Below w.heap.size w w' := by
  have k0 := (Below.refl w.heap.size w)
  have kz := k0.alloc (Nat.le_refl _) (.cells #[.int .i64 0, .int .i64 0, .int .u32 0, .int .i64 0, .int .i64 0, .int .i64 0] 26)
  have hX := heap_alloc_new w (.cells #[.int .i64 0, .int .i64 0, .int .u32 0, .int .i64 0, .int .i64 0, .int .i64 0] 26)
  have HX := Lib.hid hX
  have HZ := Lib.hid kz
  clear hX kz
  go_enter Try.func21, Try.ntmps21
  go_upto_region 1 with (fail)
  generalize w.alloc (.cells #[.int .i64 0, .int .i64 0, .int .u32 0, .int .i64 0, .int .i64 0, .int .i64 0] 26) = w1 at *
  have x0 := And.intro (cell_of HX.out 0) (unfrozen_of HX.out 0)
  have x1 := And.intro (cell_of HX.out 1) (unfrozen_of HX.out 1)
  have x2 := And.intro (cell_of HX.out 2) (unfrozen_of HX.out 2)
  have x3 := And.intro (cell_of HX.out 3) (unfrozen_of HX.out 3)
  have x4 := And.intro (cell_of HX.out 4) (unfrozen_of HX.out 4)
  have x5 := And.intro (cell_of HX.out 5) (unfrozen_of HX.out 5)
  simp only [List.getElem?_toArray, List.getElem?_cons_zero, List.getElem?_cons_succ] at x0 x1 x2 x3 x4 x5
  generalize hbx : w.heap.size = bx at *
  have HBX := Lib.hid hbx
  have HK6 : Hid (Below w.heap.size w w1) := Lib.hid (hbx.symm ▸ HZ.out)
  clear hbx
  go_wp2
  simp [bodyPost, results, Try.results21, go_sem, x0, x1, x2, x3, x4, x5]
  exact ((((((((Kept.of_below (S := [bx]) HK6.out).setCell _ _ (by simp)).setCell _ _ (by simp)).setCell _ _ (by simp)).setCell _ _ (by simp)).setCell _ _ (by simp)).setCell _ _ (by simp)).below (Nat.le_refl _) (by simp [HBX.out]))
theorem tget_nil (w : World) (a : Int) : Calls Try.prog 29 #[.pointer none, .int .i64 a] w fun e w' => e = .returned (.tuple #[.agg #[.int .i64 0, .int .i64 0, .int .u32 0, .int .i64 0, .int .i64 0, .int .i64 0], .bool false]) ∧ Below w.heap.size w w' := by
  have k0 := (Below.refl w.heap.size w)
  have kz := k0.alloc (Nat.le_refl _) (.cells #[.int .i64 0, .int .i64 0, .int .u32 0, .int .i64 0, .int .i64 0, .int .i64 0] 26)
  have hX := heap_alloc_new w (.cells #[.int .i64 0, .int .i64 0, .int .u32 0, .int .i64 0, .int .i64 0, .int .i64 0] 26)
  have HX := Lib.hid hX
  have HZ := Lib.hid kz
  clear hX kz
  go_enter Try.func29, Try.ntmps29
  go_upto_region 1 with (fail)
  generalize w.alloc (.cells #[.int .i64 0, .int .i64 0, .int .u32 0, .int .i64 0, .int .i64 0, .int .i64 0] 26) = w1 at *
  have x0 := And.intro (cell_of HX.out 0) (unfrozen_of HX.out 0)
  have x1 := And.intro (cell_of HX.out 1) (unfrozen_of HX.out 1)
  have x2 := And.intro (cell_of HX.out 2) (unfrozen_of HX.out 2)
  have x3 := And.intro (cell_of HX.out 3) (unfrozen_of HX.out 3)
  have x4 := And.intro (cell_of HX.out 4) (unfrozen_of HX.out 4)
  have x5 := And.intro (cell_of HX.out 5) (unfrozen_of HX.out 5)
  simp only [List.getElem?_toArray, List.getElem?_cons_zero, List.getElem?_cons_succ] at x0 x1 x2 x3 x4 x5
  generalize hbx : w.heap.size = bx at *
  have HBX := Lib.hid hbx
  have HK6 : Hid (Below w.heap.size w w1) := Lib.hid (hbx.symm ▸ HZ.out)
  clear hbx
  go_wp2
  simp [bodyPost, results, Try.results29, go_sem, x0, x1, x2, x3, x4, x5]
  exact ((((((((Kept.of_below (S := [bx]) HK6.out).setCell _ _ (by simp)).setCell _ _ (by simp)).setCell _ _ (by simp)).setCell _ _ (by simp)).setCell _ _ (by simp)).setCell _ _ (by simp)).below (Nat.le_refl _) (by simp [HBX.out]))
set_option maxRecDepth 100000 in
theorem tclone_nil (w : World) : Calls Try.prog 34 #[.pointer none] w fun e w' => ∃ p mb, e = .returned (.pointer (some ⟨p, 0, none⟩)) ∧ TabAt w' p mb [p] [] ∧ Below w.heap.size w w' := by
  go_enter Try.func34, Try.ntmps34
  go_wp2_with (fail)
  refine (tnew_calls w).mono ?_
  rintro e w1 ⟨p, mb, he, hT, hp, hm, hk⟩
  subst he
  have HT := Lib.hid hT
  have HK := Lib.hid hk
  clear hT hk
  go_wp2_with (fail)
  refine (trules_nil _).mono ?_
  rintro e w2 ⟨he, hw⟩
  subst he
  subst hw
  go_wp2_with (fail)
  go_loopg [10] 0 (fun gk vi wr => gk = 0 ∧ vi = .int .i64 0 ∧ wr = w2)
  case atStart => exact ⟨rfl, rfl, rfl⟩
  case round =>
    obtain ⟨rfl, rfl, rfl⟩ := hrel
    go_wp2_with (fail)
    go_ret
    exact ⟨p, mb, rfl, HT.out, HK.out⟩
theorem thidden_nil (w : World) (id : Int) : Calls Try.prog 32 #[.pointer none, .int .i64 id] w fun e w' => e = .returned (.bool false) ∧ Below w.heap.size w w' := by
  go_enter Try.func32, Try.ntmps32
  go_wp2_with (fail)
  refine (tget_nil w id).mono ?_
  rintro e w2 ⟨he, k2⟩
  subst he
  have K2 := Lib.hid k2
  clear k2
  go_wp2_with (fail)
  go_ret
  exact ⟨rfl, K2.out.alloc K2.out.size _⟩
end Go.Proofs.Ytiedhjmnjpkcoaa
