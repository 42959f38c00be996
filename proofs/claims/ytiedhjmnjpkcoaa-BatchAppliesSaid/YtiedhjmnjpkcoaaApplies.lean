/- The law BatchApplies. -/
import Derived.Test.YtiedhjmnjpkcoaaRBatW
import Derived.Test.YtiedhjmnjpkcoaaBatN
import Derived.Test.YtiedhjmnjpkcoaaAwake17
import Derived.Test.YtiedhjmnjpkcoaaJoinP
import Derived.Test.YtiedhjmnjpkcoaaArgsT
namespace Go.Proofs.Ytiedhjmnjpkcoaa
set_option linter.unusedVariables false
set_option linter.unusedSimpArgs false
open Go.RowKit

/-- The net behind all changes, and the document's. -/
theorem duo_apart {w6 w8 X : World} {B nb2 : Nat} {vp vl va vt2 vr vr' : Value} {ts2 : List TD} {rs rs' : List Value} {ls' : List (List Rl)} {b5 : Nat} (hN : NetAt w6 b5 nb2 vp vl va vt2 ts2) (hk : Below w6.heap.size w6 X) (hR : RNetAt w8 B vr' rs' ls') (hk8 : Below w8.heap.size w8 X) (hB : B ≤ b5) (hp : Pairs (TD.Ls ts2) ls') (hf : ∀ x ∈ rfoot vr' rs', x ∈ rfoot vr rs ∨ w6.heap.size ≤ x) (hlo : ∀ x ∈ rfoot vr rs, x < b5) :
    DuoAt X B nb2 vp vl va vt2 vr' ts2 rs' ls' := by
  refine ⟨(hN.below hk).low hB, hR.below hk8, fun x hx hm => ?_, hp⟩
  have h1 := hN.feet_lt x hm
  have h2 := hN.feet_lo x hm
  rcases hf x hx with h3 | h3
  · have := hlo x h3
    omega
  · omega

set_option maxRecDepth 100000 in
set_option maxHeartbeats 16000000 in
theorem applies17_calls {W : World} {vp vl va v1 v2 : Value} {T : Tp} {ops more : List Op} (h0 : TpIn W.heap.size W vp vl va T) (h1 : OpsIn W v1 ops) (h2 : OpsIn W v2 more) :
    Calls Try.prog 8 #[.agg #[vp, vl, va], v1, v2] W fun e w' => e = .returned (.bool true) ∧ Below W.heap.size W w' := by
  have H0 := Lib.hid h0
  have H1 := Lib.hid h1
  have H2 := Lib.hid h2
  obtain ⟨ap, cp, rfl, _⟩ := h0.ports
  obtain ⟨al, cl, rfl, _⟩ := h0.links
  obtain ⟨aa, ca, rfl, _⟩ := h0.aces
  obtain ⟨ao1, cap1, rfl, _⟩ := h1.val
  obtain ⟨ao2, cap2, rfl, _⟩ := h2.val
  clear h0 h1 h2
  have HX1 := Lib.hid (heap_alloc_new W (.cells #[.slice ap T.ports.length cp, .slice al T.links.length cl, .slice aa T.aces.length ca] 64))
  have HK1 := Lib.hid ((Below.refl W.heap.size W).alloc (Nat.le_refl _) (.cells #[.slice ap T.ports.length cp, .slice al T.links.length cl, .slice aa T.aces.length ca] 64))
  go_enter Try.func8, Try.ntmps8
  go_upto_region 1 with (fail)
  generalize W.alloc (.cells #[.slice ap T.ports.length cp, .slice al T.links.length cl, .slice aa T.aces.length ca] 64) = w1 at *
  have z0 := cell_of HX1.out 0
  have z1 := cell_of HX1.out 1
  have z2 := cell_of HX1.out 2
  simp only [List.getElem?_toArray, List.getElem?_cons_zero, List.getElem?_cons_succ] at z0 z1 z2
  have HLI := Lib.hid (light13_calls (H0.out.kept HK1.out) HK1.out.size)
  obtain ⟨ft, hft⟩ : ∃ ft, ft = fineT T := ⟨_, rfl⟩
  rw [← hft] at HLI
  have HFT := Lib.hid hft
  clear hft
  go_wp2_with (fail)
  refine Calls.mono HLI.out ?_
  rintro e w2 ⟨he, k2⟩
  subst he
  have HK2 := Lib.hid (HK1.out.trans (k2.mono HK1.out.size))
  have HX2 := Lib.hid ((k2.block _ (lt_of_block HX1.out)).trans HX1.out)
  clear k2 z0 z1 z2
  have z0 := cell_of HX2.out 0
  have z1 := cell_of HX2.out 1
  have z2 := cell_of HX2.out 2
  simp only [List.getElem?_toArray, List.getElem?_cons_zero, List.getElem?_cons_succ] at z0 z1 z2
  cases ft with
  | false =>
    go_wp2_with (fail)
    refine (awake17_calls _).mono ?_
    rintro e w3 ⟨he, kw3⟩
    subst he
    have Kw3 := Lib.hid (HK2.out.trans (kw3.mono HK2.out.size))
    clear kw3
    go_wp2_with (fail)
    go_ret
    exact ⟨rfl, Kw3.out⟩
  | true =>
    rcases Nat.lt_or_ge 60 ops.length with hb | hb
    · have hb' : decide ((60 : Int) < (ops.length : Int)) = true := decide_eq_true (by omega)
      clear hb
      go_wp2_with (fail)
      refine (awake17_calls _).mono ?_
      rintro e w3 ⟨he, kw3⟩
      subst he
      have Kw3 := Lib.hid (HK2.out.trans (kw3.mono HK2.out.size))
      clear kw3
      go_wp2_with (fail)
      go_ret
      exact ⟨rfl, Kw3.out⟩
    · have hb' : decide ((60 : Int) < (ops.length : Int)) = false := decide_eq_false (by omega)
      rcases Nat.lt_or_ge 60 more.length with hm | hm
      · have hm' : decide ((60 : Int) < (more.length : Int)) = true := decide_eq_true (by omega)
        clear hb hm
        go_wp2_with (fail)
        refine (awake17_calls _).mono ?_
        rintro e w3 ⟨he, kw3⟩
        subst he
        have Kw3 := Lib.hid (HK2.out.trans (kw3.mono HK2.out.size))
        clear kw3
        go_wp2_with (fail)
        go_ret
        exact ⟨rfl, Kw3.out⟩
      · have hm' : decide ((60 : Int) < (more.length : Int)) = false := decide_eq_false (by omega)
        have hfine : lightT T = true ∧ checkT T = 0 := by
          have := HFT.out
          unfold fineT at this
          have h2 := this.symm
          rw [Bool.and_eq_true] at h2
          exact ⟨h2.1, of_decide_eq_true h2.2⟩
        have HF := Lib.hid hfine
        have HPL : Hid (0 < T.ports.length ∧ T.ports.length ≤ 40) := Lib.hid (by
          refine ⟨?_, ((lightT_iff T).1 hfine.1).1⟩
          have hc := hfine.2
          unfold checkT at hc
          split at hc
          · cases hc
          · omega)
        clear hfine
        have HMD := Lib.hid (made13_calls (H0.out.kept HK2.out) HK2.out.size HF.out.1 HF.out.2 (H1.out.next HK2.out) (by omega))
        go_wp2_with (fail)
        refine Calls.mono HMD.out ?_
        rintro e w4 ⟨nb, vt, vr, ts, rs, ls, he, hD, hLs, k4⟩
        obtain ⟨ar, cr, rfl, _, _⟩ := hD.doc.shape
        subst he
        have HOK : Hid (NetOk T.ports (TD.Ls ts) ∧ lenT (TD.Ls ts) ≤ 60) := Lib.hid (by
          rw [hLs]
          exact ⟨madeS_ok _ _, Nat.le_trans (madeS_len _ _) (by omega)⟩)
        have hka := (Below.refl w4.heap.size w4).alloc (Nat.le_refl _) (.cells #[.slice ap T.ports.length cp, .slice al T.links.length cl, .slice aa T.aces.length ca, .slice ar ls.length cr] 69)
        have HD5 := Lib.hid (hD.below hka)
        have hk4 := HK2.out.trans (k4.mono HK2.out.size)
        have HK5 := Lib.hid (hk4.trans (hka.mono hk4.size))
        have HM5 := Lib.hid (heap_alloc_new w4 (.cells #[.slice ap T.ports.length cp, .slice al T.links.length cl, .slice aa T.aces.length ca, .slice ar ls.length cr] 69))
        have HLS := Lib.hid hLs
        have HLO5 : Hid (w2.heap.size ≤ w4.heap.size) := Lib.hid k4.size
        have HAP := Lib.hid (bapply_calls HD5.out.net (H0.out.kept HK5.out) HK5.out.size HOK.out.1 HPL.out.2 (by have := HOK.out.2; omega) (H2.out.next HK5.out))
        clear hD hLs k4 hka hk4 z0 z1 z2 hb hm HMD
        go_upto_region 6 with (fail)
        generalize w4.alloc (.cells #[.slice ap T.ports.length cp, .slice al T.links.length cl, .slice aa T.aces.length ca, .slice ar ls.length cr] 69) = w5 at *
        obtain ⟨Lx, at_, er, hres⟩ : ∃ Lx at_ er, batchS T.ports more (TD.Ls ts) = (Lx, at_, er) := ⟨_, _, _, rfl⟩
        unfold BPost at HAP
        rw [hres] at HAP
        simp only at HAP
        have HRES := Lib.hid hres
        clear hres
        go_wp2_with (fail)
        refine Calls.mono HAP.out ?_
        rintro e w6 ⟨v, he, k6, hv1, hv0⟩
        subst he
        have HK6 := Lib.hid (HK5.out.trans (k6.mono HK5.out.size))
        have hka := (Below.refl w6.heap.size w6).alloc (Nat.le_refl _) (.cells #[.int .i64 at_, .int .i64 er] 73)
        have HK7 := Lib.hid (HK6.out.trans (hka.mono HK6.out.size))
        have H57 := Lib.hid (k6.trans (hka.mono k6.size))
        have HS56 := Lib.hid k6.size
        have HV1 := Lib.hid hv1
        have HV0 := Lib.hid hv0
        have H67 := Lib.hid hka
        have HE7 := Lib.hid (heap_alloc_new w6 (.cells #[.int .i64 at_, .int .i64 er] 73))
        clear k6 hka hv1 hv0 HAP
        go_upto_region 7 with (fail)
        generalize w6.alloc (.cells #[.int .i64 at_, .int .i64 er] 73) = w7 at *
        have HD7 := Lib.hid (HD5.out.below H57.out)
        have HM7 := Lib.hid ((H57.out.block _ (lt_of_block HM5.out)).trans HM5.out)
        have HRA := Lib.hid (rapply_calls HD7.out.doc HD7.out.pair (H0.out.kept HK7.out) HK7.out.size (Nat.le_trans (Nat.le_trans HLO5.out (Nat.le_of_lt (lt_of_block HM5.out))) H57.out.size) HOK.out.1 HPL.out.1 HPL.out.2 (by have := HOK.out.2; omega) (H2.out.next HK7.out))
        unfold RBPost at HRA
        rw [HRES.out] at HRA
        simp only at HRA
        have m0 := cell_of HM7.out 0
        have m1 := cell_of HM7.out 1
        have m2 := cell_of HM7.out 2
        have m3 := cell_of HM7.out 3
        simp only [List.getElem?_toArray, List.getElem?_cons_zero, List.getElem?_cons_succ] at m0 m1 m2 m3
        go_wp2_with (fail)
        refine Calls.mono HRA.out ?_
        rintro e w8 ⟨vy, rs', ls', he, hR8, hp8, hf8, k8⟩
        obtain ⟨ay, cy, rfl, _, _⟩ := hR8.shape
        subst he
        have HY9 := Lib.hid (heap_alloc_new w8 (.cells #[.slice ap T.ports.length cp, .slice al T.links.length cl, .slice aa T.aces.length ca, .slice ay ls'.length cy] 69))
        have hka := (Below.refl w8.heap.size w8).alloc (Nat.le_refl _) (.cells #[.slice ap T.ports.length cp, .slice al T.links.length cl, .slice aa T.aces.length ca, .slice ay ls'.length cy] 69)
        have HK8 := Lib.hid (HK7.out.trans (k8.mono HK7.out.size))
        have HK9 := Lib.hid (HK8.out.trans (hka.mono HK8.out.size))
        have H79 := Lib.hid (k8.trans (hka.mono k8.size))
        have H89 := Lib.hid hka
        have HR8 := Lib.hid hR8
        have HP8 := Lib.hid hp8
        have HF8 := Lib.hid hf8
        clear hR8 hp8 hf8 k8 hka m0 m1 m2 m3 HRA
        go_upto_region 8 with (fail)
        generalize w8.alloc (.cells #[.slice ap T.ports.length cp, .slice al T.links.length cl, .slice aa T.aces.length ca, .slice ay ls'.length cy] 69) = w9 at *
        have HD9 := Lib.hid (HD7.out.below H79.out)
        have HM9 := Lib.hid ((H79.out.block _ (lt_of_block HM7.out)).trans HM7.out)
        have HE9 := Lib.hid ((H79.out.block _ (lt_of_block HE7.out)).trans HE7.out)
        have HAL := Lib.hid (alike_calls HD9.out (by rw [← HD9.out.tlen]; have := HOK.out.1.len; have h2 := HPL.out.2; simp [TD.Ls] at this; omega) (by have := HOK.out.2; rw [HD9.out.pair.lens] at this; omega))
        have m0 := cell_of HM9.out 0
        have m1 := cell_of HM9.out 1
        have m2 := cell_of HM9.out 2
        have m3 := cell_of HM9.out 3
        simp only [List.getElem?_toArray, List.getElem?_cons_zero, List.getElem?_cons_succ] at m0 m1 m2 m3
        have q0 := cell_of HE9.out 0
        have q1 := cell_of HE9.out 1
        simp only [List.getElem?_toArray, List.getElem?_cons_zero, List.getElem?_cons_succ] at q0 q1
        go_wp2_with (fail)
        refine Calls.mono HAL.out ?_
        rintro e w10 ⟨he, k10⟩
        subst he
        have HK10 := Lib.hid (HK9.out.trans (k10.mono HK9.out.size))
        have H910 := Lib.hid k10
        have HY10 := Lib.hid ((k10.block _ (lt_of_block HY9.out)).trans HY9.out)
        clear k10 m0 m1 m2 m3 q0 q1 HAL
        go_wp2_with (fail)
        refine Calls.mono (bapply_nil w10 _) ?_
        rintro e w11 ⟨he, k11⟩
        subst he
        have hka := (Below.refl w11.heap.size w11).alloc (Nat.le_refl _) (.cells #[.int .i64 (-1), .int .i64 2] 73)
        have HG12 := Lib.hid (heap_alloc_new w11 (.cells #[.int .i64 (-1), .int .i64 2] 73))
        have H1012 := Lib.hid (k11.trans (hka.mono k11.size))
        clear k11 hka
        go_upto_region 11 with (fail)
        generalize w11.alloc (.cells #[.int .i64 (-1), .int .i64 2] 73) = w12 at *
        go_wp2_with (fail)
        refine (awake17_calls _).mono ?_
        rintro e w13 ⟨he, k13⟩
        subst he
        have HG13 := Lib.hid ((k13.block _ (lt_of_block HG12.out)).trans HG12.out)
        have H1013 := Lib.hid (H1012.out.trans (k13.mono H1012.out.size))
        have HK13 := Lib.hid (HK10.out.trans (H1013.out.mono HK10.out.size))
        clear k13
        have q0 := cell_of HG13.out 0
        have q1 := cell_of HG13.out 1
        simp only [List.getElem?_toArray, List.getElem?_cons_zero, List.getElem?_cons_succ] at q0 q1
        by_cases her : er = 0
        · subst her
          obtain ⟨nb2, vt2, ts2, rfl, hN6, hL6⟩ := HV0.out rfl
          have hY := (H1013.out.block _ (lt_of_block HY10.out)).trans HY10.out
          have h813 : Below w8.heap.size w8 w13 := H89.out.trans (((H910.out.trans (H1013.out.mono H910.out.size))).mono H89.out.size)
          have h713 : Below w7.heap.size w7 w13 := H79.out.trans (((H910.out.trans (H1013.out.mono H910.out.size))).mono H79.out.size)
          have h613 : Below w6.heap.size w6 w13 := H67.out.trans (h713.mono H67.out.size)
          have hDX := duo_apart (vr := .slice ar ls.length cr) (rs := rs) hN6 h613 HR8.out h813 (Nat.le_trans HLO5.out (Nat.le_of_lt (lt_of_block HM5.out))) (by rw [hL6]; exact HP8.out rfl) (fun x hx => (HF8.out x hx).imp id (fun h => Nat.le_trans H67.out.size h)) (fun x hx => (HD5.out.doc.lo x hx).2)
          have hbok : NetOk T.ports Lx ∧ lenT Lx ≤ 256 := by
            have h1 := HRES.out
            have h2 := batchS_one (ports := T.ports) (l := more) (Ls := TD.Ls ts) (by rw [h1])
            rw [batchS_app h2.1 h2.2] at h1
            refine ⟨?_, ?_⟩
            · have := HOK.out.1.app more 0
              rw [h1] at this
              exact this
            · have := app_lenT more 0 (TD.Ls ts) (ports := T.ports) (by have := HOK.out.2; omega) (by rw [h1])
              rw [h1] at this
              exact this
          have HAL2 := Lib.hid (alike_calls hDX (by rw [← hDX.tlen]; have := hbok.1.len; have h2 := HPL.out.2; rw [← hL6] at this; simp [TD.Ls] at this; omega) (by have := hbok.2; rw [← hL6, hDX.pair.lens] at this; omega))
          have m0 := cell_of hY 0
          have m1 := cell_of hY 1
          have m2 := cell_of hY 2
          have m3 := cell_of hY 3
          simp only [List.getElem?_toArray, List.getElem?_cons_zero, List.getElem?_cons_succ] at m0 m1 m2 m3
          clear hY h813 h713 h613 hDX hbok hN6 hL6
          go_wp2_with (fail)
          refine Calls.mono HAL2.out ?_
          rintro e w14 ⟨he, k14⟩
          subst he
          have K14 := Lib.hid (HK13.out.trans (k14.mono HK13.out.size))
          clear k14
          go_wp2_with (fail)
          go_ret
          exact ⟨rfl, K14.out⟩
        · obtain rfl : v = .pointer none := HV1.out her
          have hne : (er == 0) = false := beq_eq_false_iff_ne.2 her
          go_wp2_with (fail)
          go_ret
          exact ⟨rfl, HK13.out⟩
theorem applies17_row {W : World} (v0 v1 v2 : Value) (h0 : ArgTp W v0) (h1 : ArgOps W v1) (h2 : ArgOps W v2) :
    Calls Try.prog 8 #[v0, v1, v2] W fun e w' => e = .returned (.bool true) ∧ Below W.heap.size W w' := by
  obtain ⟨T, vp, vl, va, rfl, h0⟩ := h0
  obtain ⟨ops, h1⟩ := ops_in h1
  obtain ⟨more, h2⟩ := ops_in h2
  exact applies17_calls h0 h1 h2
end Go.Proofs.Ytiedhjmnjpkcoaa
