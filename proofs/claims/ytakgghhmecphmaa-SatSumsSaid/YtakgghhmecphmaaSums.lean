/- The walk of SatSums. -/
import Derived.Test.YtakgghhmecphmaaSumsP
import Derived.Test.YtakgghhmecphmaaWithin
import Derived.Test.YtakgghhmecphmaaCntEq
import Derived.Test.YtakgghhmecphmaaAwake8
import Derived.Test.YtakgghhmecphmaaHeld
namespace Go.Proofs.Ytakgghhmecphmaa
set_option linter.unusedVariables false
set_option linter.unusedSimpArgs false
open Go.RowKit Go.Maps

set_option maxRecDepth 100000 in
theorem sums_dark {W : World} {v : Value} {l : List Ex} (h : ArgL W.heap.size W v l) (hl : ¬ (LightP l ∧ 2 ≤ l.length)) :
    Calls Try.prog 13 #[v] W fun e w' => e = .returned (.bool true) ∧ Below W.heap.size W w' := by
  by_cases h1 : LightP l
  · have HL := Lib.hid (light_yes h h1)
    have h2 : l.length < 2 := Nat.lt_of_not_le fun h2 => hl ⟨h1, h2⟩
    obtain ⟨ao, cap, rfl, hlen⟩ := h.slice
    have t1 : decide ((l.length : Int) < 2) = true := decide_eq_true (by omega)
    clear hl h1
    go_enter Try.func13, Try.ntmps13
    go_wp2_with (fail)
    refine HL.out.mono ?_
    rintro e w1 ⟨he, k1⟩
    subst he
    have k1 := Lib.hid k1
    go_wp2_with (go_at_call 21; refine (awake08_calls _).mono ?_; rintro e w' ⟨rfl, k8⟩; have k8 := Lib.hid k8)
    go_ret
    exact ⟨rfl, k1.out.trans (k8.out.mono k1.out.size)⟩
  · have HL := Lib.hid (light_no h h1)
    obtain ⟨ao, cap, rfl, hlen⟩ := h.slice
    clear hl h1
    go_enter Try.func13, Try.ntmps13
    go_wp2_with (fail)
    refine HL.out.mono ?_
    rintro e w1 ⟨he, k1⟩
    subst he
    have k1 := Lib.hid k1
    go_wp2_with (go_at_call 21; refine (awake08_calls _).mono ?_; rintro e w' ⟨rfl, k8⟩; have k8 := Lib.hid k8)
    go_ret
    exact ⟨rfl, k1.out.trans (k8.out.mono k1.out.size)⟩

set_option maxRecDepth 100000 in
set_option maxHeartbeats 4000000 in
theorem sums_main {W : World} {v : Value} {l : List Ex} (h : ArgL W.heap.size W v l) (hl : LightP l) (h3 : 2 ≤ l.length) :
    Calls Try.prog 13 #[v] W fun e w' => e = .returned (.bool true) ∧ Below W.heap.size W w' := by
  have HL := Lib.hid (light_yes h hl)
  have HV := Lib.hid h
  obtain ⟨ao, cap, rfl, hlen⟩ := h.slice
  have hG := light_good hl
  obtain ⟨m1, _, _, m4, _, _, m7, _, _⟩ := light_room hl rfl
  generalize hR : makeGo (newF 262144) [] l = R at *
  obtain ⟨out, ok, A⟩ := R
  simp only at m1 m4 m7 hG
  subst m1
  have h2 := hG.ok.two
  have hf : out.getD (l.length - 1) 0 < A.nodes.length := getD_lt m7 (by omega) _
  have hg : out.getD (l.length - 2) 0 < A.nodes.length := getD_lt m7 (by omega) _
  generalize hfd : out.getD (l.length - 1) 0 = f at *
  generalize hgd : out.getD (l.length - 2) 0 = q at *
  obtain ⟨x, A1, y, A2, z, A3, j1, j2, j3, o1, o2, o3, f1, q1, f2, f3, q3, x3, y3, z3, s1, s2, i1, i2, i3⟩ := sums_plain hG hf hg
  have o0 := hG.ok
  have t1 : decide ((l.length : Int) < 2) = false := decide_eq_false (by omega)
  have HFD := Lib.hid (And.intro hfd hgd)
  have HRR := Lib.hid hR
  have HM4 := Lib.hid m4
  have h60 := hl.1
  have HLP := Lib.hid hl
  have HJ := Lib.hid (And.intro j1 (And.intro j2 j3))
  have HI := Lib.hid (And.intro i1 (And.intro i2 i3))
  have HS := Lib.hid (And.intro s1 s2)
  clear h hR hfd hgd m4 m7 hl hG j1 j2 j3 i1 i2 i3 s1 s2
  go_enter Try.func13, Try.ntmps13
  go_wp2_with (fail)
  refine HL.out.mono ?_
  rintro e w1 ⟨he, k1⟩
  subst he
  have k1 := Lib.hid k1
  go_wp2_with (fail)
  refine (AR.new k1.out 262144 (by omega) (by omega)).mono ?_
  rintro e w2 ⟨p, g, mb, he, H2⟩
  subst he
  have H2 := Lib.hid H2
  go_wp2_with (fail)
  refine (make_arg H2.out HV.out h60 HLP.out.2.2.1).mono ?_
  rw [HRR.out]
  simp only [if_true]
  rintro e w3 ⟨vo, he, how, g3, hg3, H3, K3⟩
  subst he
  rw [HM4.out] at how
  obtain ⟨s0, cap2, rfl⟩ := row_slice how (by omega)
  have c1 := out_cell how (i := l.length - 1) (by omega)
  have c2 := out_cell how (i := l.length - 2) (by omega)
  rw [HFD.out.1] at c1
  rw [HFD.out.2] at c2
  have H3 := Lib.hid H3
  clear how K3 hg3 H2
  go_wp2_with (fail)
  go_quiet (fail)
  have H3d := Lib.hid (H3.out.below (Kept.below (Kept.of_drewN (S := []) w3 nq) (Nat.le_refl _) (by simp)))
  clear H3
  go_wp2_with (fail)
  refine (H3d.out.post o1 (by have := Join_calls H3d.out.2.2.2.1 o0 0 0 f q rfl (by omega) hf hg; rw [HJ.out.1] at this; exact this)).mono ?_
  rintro e w4 ⟨he, g4, hg4, H4, K4⟩
  subst he
  have H4 := Lib.hid H4
  clear hg4 K4 H3d
  simp only [resV, Option.getD_some, Option.isSome_some, if_true]
  go_wp2_with (fail)
  refine (H4.out.post o2 (by have := Join_calls H4.out.2.2.2.1 o1 1 1 f q rfl (by omega) f1 q1; rw [HJ.out.2.1] at this; exact this)).mono ?_
  rintro e w5 ⟨he, g5, hg5, H5, K5⟩
  subst he
  have H5 := Lib.hid H5
  clear hg5 K5 H4
  simp only [resV, Option.getD_some, Option.isSome_some, if_true]
  go_wp2_with (fail)
  refine (H5.out.post o3 (by have := Not_calls H5.out.2.2.2.1 o2 f f2; rw [HJ.out.2.2] at this; exact this)).mono ?_
  rintro e w6 ⟨he, g6, hg6, H6, K6⟩
  subst he
  have H6 := Lib.hid H6
  clear hg6 K6 H5
  simp only [resV, Option.getD_some, Option.isSome_some, if_true]
  go_wp2_with (fail)
  refine (awake08_calls _).mono ?_
  rintro e w7 ⟨he, k7⟩
  subst he
  have H7 := Lib.hid (H6.out.below k7)
  clear k7 H6
  have CNT := Lib.hid (fun w' (R : AR W w' p g6 mb A3) (i : Nat) (hi : i < A3.nodes.length) => (Count_calls R.2.2.2.1 o3 i hi).mono fun e w'' ⟨he, k⟩ => And.intro he (R.below k))
  have hle := fun i => Nat.lt_of_le_of_lt (cntA_le A3 i) (show 2 ^ 104 < 2 ^ 126 by decide)
  have AD1 := fun w' => cadd_calls w' (cntA A3 x) (cntA A3 y) (by have := hle x; have := hle y; omega)
  have AD2 := fun w' => cadd_calls w' (cntA A3 f) (cntA A3 q) (by have := hle f; have := hle q; omega)
  have AD3 := fun w' => cadd_calls w' (cntA A3 f) (cntA A3 z) (by have := hle f; have := hle z; omega)
  rw [HS.out.1] at AD1
  rw [HS.out.2, show cval (2 ^ 104) = .agg #[.int .u64 1099511627776, .int .u64 0] from by kernel_rfl] at AD3
  have PW := fun w' => pow_calls w' 104 (by omega)
  rw [show cval (2 ^ 104) = .agg #[.int .u64 1099511627776, .int .u64 0] from by kernel_rfl] at PW
  generalize cntA A3 f + cntA A3 q = S at *
  have CX := fun w' R => CNT.out w' R x x3
  have CY := fun w' R => CNT.out w' R y y3
  have CF := fun w' R => CNT.out w' R f f3
  have CQ := fun w' R => CNT.out w' R q q3
  have CZ := fun w' R => CNT.out w' R z z3
  generalize cval (cntA A3 x) = vx at *
  generalize cval (cntA A3 y) = vy at *
  generalize cval (cntA A3 f) = vf at *
  generalize cval (cntA A3 q) = vq at *
  generalize cval (cntA A3 z) = vz at *
  have CX := Lib.hid CX
  have CY := Lib.hid CY
  have CF := Lib.hid CF
  have CQ := Lib.hid CQ
  have CZ := Lib.hid CZ
  have AD1 := Lib.hid AD1
  have AD2 := Lib.hid AD2
  have AD3 := Lib.hid AD3
  have PW := Lib.hid PW
  clear CNT hle
  go_wp2_with (fail)
  refine (CX.out _ H7.out).mono ?_
  rintro e w8 ⟨he, K8⟩
  subst he
  have H8 := Lib.hid K8
  clear H7 K8
  go_wp2_with (fail)
  refine (CY.out _ H8.out).mono ?_
  rintro e w9 ⟨he, K9⟩
  subst he
  have H9 := Lib.hid K9
  clear H8 K9
  go_wp2_with (fail)
  refine (AD1.out _).mono ?_
  rintro e w10 ⟨he, K10⟩
  subst he
  have H10 := Lib.hid (H9.out.below K10)
  clear H9 K10
  go_wp2_with (fail)
  refine (CF.out _ H10.out).mono ?_
  rintro e w11 ⟨he, K11⟩
  subst he
  have H11 := Lib.hid K11
  clear H10 K11
  go_wp2_with (fail)
  refine (CQ.out _ H11.out).mono ?_
  rintro e w12 ⟨he, K12⟩
  subst he
  have H12 := Lib.hid K12
  clear H11 K12
  go_wp2_with (fail)
  refine (AD2.out _).mono ?_
  rintro e w13 ⟨he, K13⟩
  subst he
  have H13 := Lib.hid (H12.out.below K13)
  clear H12 K13
  go_wp2_with (refine wpList_eqC _ _ _ rfl S rfl rfl rfl ?_)
  refine (CF.out _ H13.out).mono ?_
  rintro e w14 ⟨he, K14⟩
  subst he
  have H14 := Lib.hid K14
  clear H13 K14
  go_wp2_with (fail)
  refine (CZ.out _ H14.out).mono ?_
  rintro e w15 ⟨he, K15⟩
  subst he
  have H15 := Lib.hid K15
  clear H14 K15
  go_wp2_with (fail)
  refine (AD3.out _).mono ?_
  rintro e w16 ⟨he, K16⟩
  subst he
  have H16 := Lib.hid (H15.out.below K16)
  clear H15 K16
  go_wp2_with (fail)
  refine (PW.out _).mono ?_
  rintro e w17 ⟨he, K17⟩
  subst he
  have H17 := Lib.hid (H16.out.below K17)
  clear H16 K17
  go_wp2_with (fail)
  refine (Within_calls H17.out.2.2.2.1 o3 x f x3 f3).mono ?_
  rintro e w18 ⟨⟨r, he, hr⟩, K18⟩
  subst he
  obtain rfl : r = true := hr.2 HI.out.1
  clear hr
  have H18 := Lib.hid (H17.out.below K18)
  clear H17 K18
  go_wp2_with (fail)
  refine (Within_calls H18.out.2.2.2.1 o3 f y f3 y3).mono ?_
  rintro e w19 ⟨⟨r, he, hr⟩, K19⟩
  subst he
  obtain rfl : r = true := hr.2 HI.out.2.1
  clear hr
  have H19 := Lib.hid (H18.out.below K19)
  clear H18 K19
  go_wp2_with (fail)
  refine (Within_calls H19.out.2.2.2.1 o3 f q f3 q3).mono ?_
  rintro e w20 ⟨⟨r, he, hr⟩, K20⟩
  subst he
  have hrx := hr.trans HI.out.2.2
  clear hr
  have H20 := Lib.hid (H19.out.below K20)
  clear H19 K20
  by_cases hxf : x = f
  · obtain rfl : r = true := hrx.2 hxf
    have t2 : ((x : Int) == (f : Int)) = true := by rw [hxf]; simp
    clear hrx hxf
    go_wp2_with (fail)
    go_ret
    exact ⟨rfl, H20.out.2.2.2.2.2⟩
  · obtain rfl : r = false := by
      cases r
      · rfl
      · exact absurd (hrx.1 rfl) hxf
    have t2 : ((x : Int) == (f : Int)) = false := by simp; omega
    clear hrx hxf
    go_wp2_with (fail)
    go_ret
    exact ⟨rfl, H20.out.2.2.2.2.2⟩

theorem sums_row (v : Value) {W : World} (hv : ArgEx W v) :
    Calls Try.prog 13 #[v] W fun e w' => e = .returned (.bool true) ∧ Below W.heap.size W w' := by
  obtain ⟨l, hl⟩ := hv.list
  by_cases h : LightP l ∧ 2 ≤ l.length
  · exact sums_main hl h.1 h.2
  · exact sums_dark hl h

end Go.Proofs.Ytakgghhmecphmaa
