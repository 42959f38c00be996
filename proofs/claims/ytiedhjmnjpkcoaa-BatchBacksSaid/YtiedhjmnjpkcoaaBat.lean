/- Batches: the walks of bounds and of the program's Apply. -/
import Derived.Test.YtiedhjmnjpkcoaaMadeW
import Derived.Test.YtiedhjmnjpkcoaaBatP
namespace Go.Proofs.Ytiedhjmnjpkcoaa
set_option linter.unusedVariables false
set_option linter.unusedSimpArgs false
open Go.RowKit

def boundsR (r : Rl) : Int := if r.id < 0 ∨ 1048576 < r.id ∨ r.prio < 0 ∨ 1000 < r.prio then 5 else 0
set_option maxRecDepth 100000 in
set_option maxHeartbeats 4000000 in
theorem bounds_calls (w : World) (r : Rl) : Calls Try.prog 71 #[.agg #[.int .i64 r.id, .int .i64 r.dev, .int .u32 (r.addr : Int), .int .i64 r.bits, .int .i64 r.prio, .int .i64 r.out]] w fun e w' => e = .returned (.int .i64 (boundsR r)) ∧ Below w.heap.size w w' := by
  have HX := Lib.hid (heap_alloc_new w (.cells #[.int .i64 r.id, .int .i64 r.dev, .int .u32 (r.addr : Int), .int .i64 r.bits, .int .i64 r.prio, .int .i64 r.out] 26))
  have HK := Lib.hid ((Below.refl w.heap.size w).alloc (Nat.le_refl _) (.cells #[.int .i64 r.id, .int .i64 r.dev, .int .u32 (r.addr : Int), .int .i64 r.bits, .int .i64 r.prio, .int .i64 r.out] 26))
  obtain ⟨id, dev, ad, bi, pr, ou⟩ := r
  obtain ⟨res, hres⟩ : ∃ res, res = boundsR ⟨id, dev, ad, bi, pr, ou⟩ := ⟨_, rfl⟩
  rw [← hres]
  unfold boundsR at hres
  simp only at *
  go_enter Try.func71, Try.ntmps71
  go_upto_region 1 with (fail)
  generalize w.alloc (.cells #[.int .i64 id, .int .i64 dev, .int .u32 (ad : Int), .int .i64 bi, .int .i64 pr, .int .i64 ou] 26) = w1 at *
  have y0 := cell_of HX.out 0
  have y4 := cell_of HX.out 4
  simp only [List.getElem?_toArray, List.getElem?_cons_zero, List.getElem?_cons_succ] at y0 y4
  by_cases h1 : id < 0
  · rw [if_pos (Or.inl h1)] at hres
    subst hres
    have h1' : decide (id < 0) = true := decide_eq_true h1
    clear h1
    go_wp2_with (fail)
    go_ret
    exact ⟨rfl, HK.out⟩
  · have h1' : decide (id < 0) = false := decide_eq_false h1
    by_cases h2 : 1048576 < id
    · rw [if_pos (Or.inr (Or.inl h2))] at hres
      subst hres
      have h2' : decide (1048576 < id) = true := decide_eq_true h2
      clear h1 h2
      go_wp2_with (fail)
      go_ret
      exact ⟨rfl, HK.out⟩
    · have h2' : decide (1048576 < id) = false := decide_eq_false h2
      by_cases h3 : pr < 0
      · rw [if_pos (Or.inr (Or.inr (Or.inl h3)))] at hres
        subst hres
        have h3' : decide (pr < 0) = true := decide_eq_true h3
        clear h1 h2 h3
        go_wp2_with (fail)
        go_ret
        exact ⟨rfl, HK.out⟩
      · have h3' : decide (pr < 0) = false := decide_eq_false h3
        by_cases h4 : 1000 < pr
        · rw [if_pos (Or.inr (Or.inr (Or.inr h4)))] at hres
          subst hres
          have h4' : decide (1000 < pr) = true := decide_eq_true h4
          clear h1 h2 h3 h4
          go_wp2_with (fail)
          go_ret
          exact ⟨rfl, HK.out⟩
        · rw [if_neg (by omega)] at hres
          subst hres
          have h4' : decide (1000 < pr) = false := decide_eq_false h4
          clear h1 h2 h3 h4
          go_wp2_with (fail)
          go_ret
          exact ⟨rfl, HK.out⟩
theorem badO_iff (o : Op) : badO o = (!o.del && decide (boundsR o.rule ≠ 0)) := by
  unfold badO boundsR
  cases o.del with
  | true => rfl
  | false =>
    by_cases h : o.rule.id < 0 ∨ 1048576 < o.rule.id ∨ o.rule.prio < 0 ∨ 1000 < o.rule.prio
    · simp [h]
    · simp [h]
end Go.Proofs.Ytiedhjmnjpkcoaa
