/- The walk of BddWrong: some of its cases. -/
import Derived.Test.YtakgghhmecphmaaWrong
namespace Go.Proofs.Ytakgghhmecphmaa
open Go.RowKit Go.Maps

set_option maxRecDepth 100000 in
set_option maxHeartbeats 8000000 in
theorem wrong_7 (f g kind i : Int) (w : World) (c1 : 0 ≤ f) (c2 : f < 3) (c3 : 0 ≤ g) (c4 : g < 3) (c5 : 0 ≤ kind) (c6 : kind ≤ 3) : Calls Try.prog 10 #[.int .i64 f, .int .i64 g, .int .i64 kind, .int .i64 i] w fun e w' => e = .returned (.bool true) ∧ Below w.heap.size w w' := by
  have hi : i < 0 ∨ 104 ≤ i ∨ (0 ≤ i ∧ i < 104) := by omega
  rcases hi with d1 | d1 | ⟨d1, d2⟩
  all_goals
    go_enter Try.func10, Try.ntmps10
    go_wp2_with (fail)
    refine (Ar.new _ 100 (by omega) (by omega)).mono ?_
    rintro e w1 ⟨p, mb, he, H1⟩
    subst he
    have H1 := Lib.hid H1
    go_wp2_with (fail)
    have V := H1.out.post (cubeF_ok H1.out.ok (rise_one (v := 5) (by omega) true)).1 fun g h => var_calls h H1.out.ok 5 (by omega)
    rw [wrong_5] at V
    refine V.mono ?_
    clear V
    rintro e w2 ⟨he, H2⟩
    subst he
    have H2 := Lib.hid H2
    simp only [resV, Option.getD_some, Option.isSome_some, if_true]
    go_wp2_with (fail)
    refine H2.out.len.mono ?_
    rintro e w3 ⟨he, hw⟩
    subst he hw
    go_wp2_with (fail)
    refine (Join_any H2.out kind f g).mono ?_
    rintro e w3 ⟨x3, e3, A3, he, H3, r3, o3⟩
    subst he
    have H3 := Lib.hid H3
    simp only [List.length_cons, List.length_nil] at r3 o3
    first | rw [decide_eq_true (by omega)] at r3 | rw [decide_eq_false (by omega)] at r3
    have o4 : A3.nodes.length = 3 ∨ (f < 3 ∧ 3 ≤ A3.nodes.length) := by
      rcases o3 with h | h
      · exact Or.inl (by rw [h]; rfl)
      · exact Or.inr (by omega)
    clear o3
    have o3 := Lib.hid o4
    clear o4
    go_wp2_with (fail)
    refine (Restrict_any H3.out f i true).mono ?_
    rintro e w4 ⟨x4, e4, A4, he, H4, r4⟩
    subst he
    have H4 := Lib.hid H4
    have o4 := o3.out
    first | rw [decide_eq_true (by omega)] at r4 | rw [decide_eq_false (by omega)] at r4
    clear o4
    go_wp2_with (fail)
    refine (Var_any H4.out i).mono ?_
    rintro e w5 ⟨x5, e5, A5, he, H5, r5⟩
    subst he
    have H5 := Lib.hid H5
    first | rw [decide_eq_true (by omega)] at r5 | rw [decide_eq_false (by omega)] at r5
    go_wp2_with (fail)
    refine cube_33.mono ?_
    rintro e w6 ⟨he, k6⟩
    subst he
    have H6 := Lib.hid (H5.out.below k6)
    clear k6
    go_wp2_with (fail)
    refine (Ite_any H6.out 2 2).mono ?_
    rintro e w7 ⟨he, hw⟩
    subst he hw
    go_wp2_with (first | (go_at_call 41; refine (cut_nil _ _).mono ?_; rintro e w' ⟨rfl, rfl⟩) | (go_at_call 37; refine (var_nil _ _).mono ?_; rintro e w' ⟨rfl, k7⟩; have k7 := Lib.hid k7) | (go_at_call 33; refine (Join_nil _ _ _ _).mono ?_; rintro e w' ⟨rfl, rfl⟩) | (go_at_call 36; refine (Restrict_nil _ _ _ _).mono ?_; rintro e w' ⟨rfl, rfl⟩) | (go_at_call 35; refine (Ite_nil _ _ _ _).mono ?_; rintro e w' ⟨rfl, rfl⟩) | (go_at_call 30; refine (len_nil_calls _).mono ?_; rintro e w' ⟨rfl, rfl⟩) | (go_at_call 39; refine (has_nil_calls _ _).mono ?_; rintro e w' ⟨rfl, rfl⟩) | (go_at_call 20; refine (In_nil _ _ _).mono ?_; rintro e w' ⟨rfl, k9⟩; have k9 := Lib.hid k9) | (go_at_call 29; refine (awake06_calls _).mono ?_; rintro e w' ⟨rfl, k8⟩; have k8 := Lib.hid k8))
    go_ret
    exact ⟨rfl, (((H6.out.below k7.out).below k8.out).below k9.out).below0⟩


end Go.Proofs.Ytakgghhmecphmaa
