/- The walk of BddHeld. -/
import Derived.Test.YtakgghhmecphmaaLaw
import Derived.Test.YtakgghhmecphmaaHeldP
namespace Go.Proofs.Ytakgghhmecphmaa
set_option linter.unusedVariables false
set_option linter.unusedSimpArgs false
open Go.RowKit Go.Maps

theorem row_slice {w : World} {base n : Nat} {vo : Value} {out : List Nat} (h : w.ownsRow base 3 1 vo n (out.map nat64)) (hn : 0 < n) : ∃ s0 cap, vo = .slice (some ⟨s0, 0, none⟩) n cap := by
  rcases h.2 with ⟨_, h1⟩ | ⟨g, cap, cur, rfl, _⟩
  · omega
  · exact ⟨g, cap, rfl⟩

theorem AR.awake {w0 w w' : World} {p g mb : Nat} {A : Arn} (h : AR w0 w p g mb A) (k : Below w.heap.size w w') : Below w0.heap.size w0 w' := (h.below k).2.2.2.2.2

set_option maxRecDepth 100000 in
theorem held_dark {W : World} {v : Value} {l : List Ex} (h : ArgL W.heap.size W v l) (i : Int) (hl : ¬ LightP l) :
    Calls Try.prog 7 #[v, .int .u8 i] W fun e w' => e = .returned (.bool true) ∧ Below W.heap.size W w' := by
  have HL := Lib.hid (light_no h hl)
  obtain ⟨ao, cap, rfl, hlen⟩ := h.slice
  go_enter Try.func7, Try.ntmps7
  go_wp2_with (fail)
  refine HL.out.mono ?_
  rintro e w1 ⟨he, k1⟩
  subst he
  have k1 := Lib.hid k1
  go_wp2_with (go_at_call 29; refine (awake06_calls _).mono ?_; rintro e w' ⟨rfl, k8⟩; have k8 := Lib.hid k8)
  go_ret
  exact ⟨rfl, k1.out.trans (k8.out.mono k1.out.size)⟩

set_option maxRecDepth 100000 in
theorem held_none {W : World} {v : Value} (h : ArgL W.heap.size W v []) (i : Int) :
    Calls Try.prog 7 #[v, .int .u8 i] W fun e w' => e = .returned (.bool true) ∧ Below W.heap.size W w' := by
  have hl : LightP [] := ⟨by simp, by simp [dset, varsOf], fun i x hx => by simp at hx, by simp [heldN]⟩
  have HL := Lib.hid (light_yes h hl)
  obtain ⟨ao, cap, rfl, hlen⟩ := h.slice
  clear hlen
  simp only [List.length_nil] at *
  go_enter Try.func7, Try.ntmps7
  go_wp2_with (fail)
  refine HL.out.mono ?_
  rintro e w1 ⟨he, k1⟩
  subst he
  have k1 := Lib.hid k1
  go_wp2_with (go_at_call 29; refine (awake06_calls _).mono ?_; rintro e w' ⟨rfl, k8⟩; have k8 := Lib.hid k8)
  go_ret
  exact ⟨rfl, k1.out.trans (k8.out.mono k1.out.size)⟩

set_option maxRecDepth 100000 in
set_option maxHeartbeats 4000000 in
theorem held_main {W : World} {v : Value} {l : List Ex} (h : ArgL W.heap.size W v l) (i : Nat) (hi : i < 256) (hl : LightP l) (hne : 0 < l.length) :
    Calls Try.prog 7 #[v, .int .u8 (i : Int)] W fun e w' => e = .returned (.bool true) ∧ Below W.heap.size W w' := by
  have HL := Lib.hid (light_yes h hl)
  have HV := Lib.hid h
  obtain ⟨ao, cap, rfl, hlen⟩ := h.slice
  obtain ⟨m1, m2, m3, m4, m5, m6, m7, _, m9⟩ := light_room hl rfl
  generalize hR : makeGo (newF 262144) [] l = R at *
  obtain ⟨out, ok, A⟩ := R
  simp only at m1 m2 m3 m4 m5 m6 m7
  subst m1
  have hf : out.getD (l.length - 1) 0 < A.nodes.length := getD_lt m7 (by have := m5.two; omega) _
  generalize hfd : out.getD (l.length - 1) 0 = f at *
  obtain ⟨low, high, vv, A1, A2, A3, A4, r1, r2, r3, r4, r5, hlow, o1, o2, o3, o4, f1, low4, v3, high3, low3⟩ := held_plain m5 m2 m9 m3 m6 hf (k := i % 104) (Nat.mod_lt _ (by omega))
  have hk : i % 104 < 104 := Nat.mod_lt _ (by omega)
  have hki : ((i : Int) % 104) = ((i % 104 : Nat) : Int) := by omega
  generalize hkk : i % 104 = k at *
  have HFD := Lib.hid hfd
  have HRR := Lib.hid hR
  have HO := Lib.hid m5
  have HM4 := Lib.hid m4
  have h60 := hl.1
  have HLP := Lib.hid hl
  have HF := Lib.hid hlow
  have HKI := Lib.hid hki
  clear h hR hfd m2 m3 m4 m5 m6 m7 hlow hkk hl hki
  go_enter Try.func7, Try.ntmps7
  go_wp2_with (fail)
  refine HL.out.mono ?_
  rintro e w1 ⟨he, k1⟩
  subst he
  have k1 := Lib.hid k1
  go_wp2_with (fail)
  refine (AR.new k1.out 262144 (by omega) (by omega)).mono ?_
  rintro e w2 ⟨p, g, mb, he, H2⟩
  subst he
  have H2 := Lib.hid H2
  go_wp2_with (fail)
  refine (make_arg H2.out HV.out h60 HLP.out.2.2.1).mono ?_
  rw [HRR.out]
  simp only [if_true]
  rintro e w3 ⟨vo, he, how, g3, hg3, H3, K3⟩
  subst he
  rw [HM4.out] at how
  obtain ⟨s0, cap2, rfl⟩ := row_slice how hne
  have c3 := out_cell how (i := l.length - 1) (by omega)
  rw [HFD.out] at c3
  have HOW := Lib.hid how
  have H3 := Lib.hid H3
  have K3 := Lib.hid K3
  clear how
  go_wp2_with (fail)
  rw [HKI.out]
  clear hg3
  refine (H3.out.post o1 (by have := Restrict_calls H3.out.2.2.2.1 HO.out f k false hf hk; rw [r1] at this; exact this)).mono ?_
  rintro e w4 ⟨he, g4, hg4, H4, K4⟩
  subst he
  have H4 := Lib.hid H4
  clear hg4 K4 H3
  simp only [resV, Option.getD_some, Option.isSome_some, if_true]
  go_wp2_with (fail)
  refine (H4.out.post o2 (by have := Restrict_calls H4.out.2.2.2.1 o1 f k true f1 hk; rw [r2] at this; exact this)).mono ?_
  rintro e w5 ⟨he, g5, hg5, H5, K5⟩
  subst he
  have H5 := Lib.hid H5
  clear hg5 K5 H4
  simp only [resV, Option.getD_some, Option.isSome_some, if_true]
  go_wp2_with (fail)
  refine (H5.out.post o3 (by have := var_calls H5.out.2.2.2.1 o2 k hk; rw [r3] at this; exact this)).mono ?_
  rintro e w6 ⟨he, g6, hg6, H6, K6⟩
  subst he
  have H6 := Lib.hid H6
  clear hg6 K6 H5
  simp only [resV, Option.getD_some, Option.isSome_some, if_true]
  go_wp2_with (fail)
  refine (H6.out.post o4 (by have := Ite_calls H6.out.2.2.2.1 o3 vv high low v3 high3 low3; rw [r4] at this; exact this)).mono ?_
  rintro e w7 ⟨he, g7, hg7, H7, K7⟩
  subst he
  have H7 := Lib.hid H7
  clear hg7 K7 H6
  simp only [resV, Option.getD_some, Option.isSome_some, if_true]
  go_wp2_with (fail)
  refine (H7.out.post o4 (by have := Restrict_calls H7.out.2.2.2.1 o4 low k true low4 hk; rw [r5] at this; exact this)).mono ?_
  rintro e w8 ⟨he, g8, hg8, H8, K8⟩
  subst he
  have H8 := Lib.hid H8
  clear hg8 K8 H7
  simp only [resV, Option.getD_some, Option.isSome_some, if_true]
  go_wp2_with (fail)
  refine (awake06_calls _).mono ?_
  rintro e w9 ⟨he, k9⟩
  subst he
  have k9 := Lib.hid k9
  rcases HF.out with hn | hn
  · have t1 : ((low : Int) == (high : Int)) = false := by simp; omega
    go_wp2_with (fail)
    go_ret
    exact ⟨rfl, H8.out.awake k9.out⟩
  · have t1 : ((low : Int) == (f : Int)) = true := by simp; omega
    go_wp2_with (fail)
    all_goals (go_ret; exact ⟨rfl, H8.out.awake k9.out⟩)

theorem u8_nat {i : Int} (h : (Lit.int .u8 i).wf = true) : ∃ n : Nat, i = n ∧ n < 256 := by
  simp [Lit.wf] at h
  have a : IntKind.u8.min = 0 := by decide
  have b : IntKind.u8.max = 255 := by decide
  exact ⟨i.toNat, by omega, by omega⟩

theorem held_row (v : Value) (i : Int) {W : World} (hv : ArgEx W v) (wi : (Lit.int .u8 i).wf = true) :
    Calls Try.prog 7 #[v, .int .u8 i] W fun e w' => e = .returned (.bool true) ∧ Below W.heap.size W w' := by
  obtain ⟨l, hl⟩ := hv.list
  obtain ⟨n, rfl, hn⟩ := u8_nat wi
  by_cases h : LightP l
  · rcases Nat.eq_zero_or_pos l.length with h0 | h0
    · obtain rfl := List.eq_nil_of_length_eq_zero h0
      exact held_none hl _
    · exact held_main hl n hn h h0
  · exact held_dark hl _ h

end Go.Proofs.Ytakgghhmecphmaa
