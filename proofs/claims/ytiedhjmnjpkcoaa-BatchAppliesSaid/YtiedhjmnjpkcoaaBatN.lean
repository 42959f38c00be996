/- Batches: Apply at nil. -/
import Derived.Test.YtiedhjmnjpkcoaaBatW
namespace Go.Proofs.Ytiedhjmnjpkcoaa
set_option linter.unusedVariables false
set_option linter.unusedSimpArgs false
open Go.RowKit

set_option maxRecDepth 100000 in
theorem bapply_nil (w : World) (v : Value) : Calls Try.prog 38 #[.pointer none, v] w fun e w' => e = .returned (.tuple #[.pointer none, .agg #[.int .i64 (-1), .int .i64 2]]) ∧ Below w.heap.size w w' := by
  have HZ := Lib.hid (heap_alloc_new w (.cells #[.int .i64 0, .int .i64 0] 73))
  have HK := Lib.hid ((Below.refl w.heap.size w).alloc (Nat.le_refl _) (.cells #[.int .i64 0, .int .i64 0] 73))
  go_enter Try.func38, Try.ntmps38
  go_upto_region 1 with (fail)
  generalize w.alloc (.cells #[.int .i64 0, .int .i64 0] 73) = w1 at *
  have e0 := And.intro (cell_of HZ.out 0) (unfrozen_of HZ.out 0)
  have e1 := And.intro (cell_of HZ.out 1) (unfrozen_of HZ.out 1)
  simp only [List.getElem?_toArray, List.getElem?_cons_zero, List.getElem?_cons_succ] at e0 e1
  go_wp2_with (fail)
  exact bodyPost_ret (v := .tuple #[.pointer none, .agg #[.int .i64 (-1), .int .i64 2]]) (by simp [results, Try.results38, go_sem, e0, e1]) rfl ⟨rfl, HK.out.trans ((kept_set2 w1 w.heap.size (.int .i64 (-1)) (.int .i64 2)).below HK.out.size (by simp))⟩
end Go.Proofs.Ytiedhjmnjpkcoaa
