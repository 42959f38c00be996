/- The law BatchBacks. -/
import Derived.Test.YtiedhjmnjpkcoaaJoins17
import Derived.Test.YtiedhjmnjpkcoaaBackW
namespace Go.Proofs.Ytiedhjmnjpkcoaa
set_option linter.unusedVariables false
set_option linter.unusedSimpArgs false
open Go.RowKit

set_option maxRecDepth 100000 in
set_option maxHeartbeats 16000000 in
theorem backs17_calls {W : World} {vp vl va v1 v2 : Value} {T : Tp} {ops more : List Op} (h0 : TpIn W.heap.size W vp vl va T) (h1 : OpsIn W v1 ops) (h2 : OpsIn W v2 more) :
    Calls Try.prog 10 #[.agg #[vp, vl, va], v1, v2] W fun e w' => e = .returned (.bool true) ∧ Below W.heap.size W w' := by
  have H0 := Lib.hid h0
  have H1 := Lib.hid h1
  have H2 := Lib.hid h2
  obtain ⟨ap, cp, rfl, _⟩ := h0.ports
  obtain ⟨al, cl, rfl, _⟩ := h0.links
  obtain ⟨aa, ca, rfl, _⟩ := h0.aces
  obtain ⟨ao1, cap1, rfl, _⟩ := h1.val
  obtain ⟨ao2, cap2, rfl, _⟩ := h2.val
  clear h0 h1 h2
  have HX1 := Lib.hid (heap_alloc_new W (.cells #[.slice ap T.ports.length cp, .slice al T.links.length cl, .slice aa T.aces.length ca] 64))
  have HK1 := Lib.hid ((Below.refl W.heap.size W).alloc (Nat.le_refl _) (.cells #[.slice ap T.ports.length cp, .slice al T.links.length cl, .slice aa T.aces.length ca] 64))
  go_enter Try.func10, Try.ntmps10
  go_upto_region 1 with (fail)
  generalize W.alloc (.cells #[.slice ap T.ports.length cp, .slice al T.links.length cl, .slice aa T.aces.length ca] 64) = w1 at *
  have z0 := cell_of HX1.out 0
  have z1 := cell_of HX1.out 1
  have z2 := cell_of HX1.out 2
  simp only [List.getElem?_toArray, List.getElem?_cons_zero, List.getElem?_cons_succ] at z0 z1 z2
  have HLI := Lib.hid (light13_calls (H0.out.kept HK1.out) HK1.out.size)
  obtain ⟨ft, hft⟩ : ∃ ft, ft = fineT T := ⟨_, rfl⟩
  rw [← hft] at HLI
  have HFT := Lib.hid hft
  clear hft
  go_wp2_with (fail)
  refine Calls.mono HLI.out ?_
  rintro e w2 ⟨he, k2⟩
  subst he
  have HK2 := Lib.hid (HK1.out.trans (k2.mono HK1.out.size))
  have HX2 := Lib.hid ((k2.block _ (lt_of_block HX1.out)).trans HX1.out)
  clear k2 z0 z1 z2
  have z0 := cell_of HX2.out 0
  have z1 := cell_of HX2.out 1
  have z2 := cell_of HX2.out 2
  simp only [List.getElem?_toArray, List.getElem?_cons_zero, List.getElem?_cons_succ] at z0 z1 z2
  cases ft with
  | false =>
    go_wp2_with (fail)
    refine (awake17_calls _).mono ?_
    rintro e w3 ⟨he, kw3⟩
    subst he
    have Kw3 := Lib.hid (HK2.out.trans (kw3.mono HK2.out.size))
    clear kw3
    go_wp2_with (fail)
    go_ret
    exact ⟨rfl, Kw3.out⟩
  | true =>
    rcases Nat.lt_or_ge 40 ops.length with hb | hb
    · have hb' : decide ((40 : Int) < (ops.length : Int)) = true := decide_eq_true (by omega)
      clear hb
      go_wp2_with (fail)
      refine (awake17_calls _).mono ?_
      rintro e w3 ⟨he, kw3⟩
      subst he
      have Kw3 := Lib.hid (HK2.out.trans (kw3.mono HK2.out.size))
      clear kw3
      go_wp2_with (fail)
      go_ret
      exact ⟨rfl, Kw3.out⟩
    · have hb' : decide ((40 : Int) < (ops.length : Int)) = false := decide_eq_false (by omega)
      rcases Nat.lt_or_ge 32 more.length with hm | hm
      · have hm' : decide ((32 : Int) < (more.length : Int)) = true := decide_eq_true (by omega)
        clear hb hm
        go_wp2_with (fail)
        refine (awake17_calls _).mono ?_
        rintro e w3 ⟨he, kw3⟩
        subst he
        have Kw3 := Lib.hid (HK2.out.trans (kw3.mono HK2.out.size))
        clear kw3
        go_wp2_with (fail)
        go_ret
        exact ⟨rfl, Kw3.out⟩
      · have hm' : decide ((32 : Int) < (more.length : Int)) = false := decide_eq_false (by omega)
        have HLAB : Hid (ops.length ≤ 40 ∧ more.length ≤ 32) := Lib.hid ⟨hb, hm⟩
        have hfine : lightT T = true ∧ checkT T = 0 := by
          have := HFT.out
          unfold fineT at this
          have h2 := this.symm
          rw [Bool.and_eq_true] at h2
          exact ⟨h2.1, of_decide_eq_true h2.2⟩
        have HF := Lib.hid hfine
        have HPL : Hid (0 < T.ports.length ∧ T.ports.length ≤ 40) := Lib.hid (by
          refine ⟨?_, ((lightT_iff T).1 hfine.1).1⟩
          have hc := hfine.2
          unfold checkT at hc
          split at hc
          · cases hc
          · omega)
        clear hfine
        have HOA : Hid (∀ X, Below W.heap.size W X → OpsIn X _ ops) := Lib.hid (fun X kX => H1.out.next kX)
        have HOB : Hid (∀ X, Below W.heap.size W X → OpsIn X _ more) := Lib.hid (fun X kX => H2.out.next kX)
        have HWFA := Lib.hid H1.out.wf
        have HWFB := Lib.hid H2.out.wf
        have HLIT := Lib.hid (World.ownsRow_lit (base := w2.heap.size) (e := 47) (size := 7) w2 #[] 0 (Nat.le_refl _) (by unfold maxLen; omega) rfl)
        clear z0 z1 z2
        go_wp2_with (first | (at_builtin; refine wpList_app_ops (l := []) (l2 := ops) ?_ (.tmp 31) (.tmp 32) ?_ HLIT.out (HOA.out _ (HK2.out.alloc HK2.out.size _)) ?_ (by simp) ?_ ?_ ?_; (· rfl); (· rfl); (· simp; omega); (· rfl); (· rfl); intro x1 w10 how1 hgr1 hat1; have HA1 := Lib.hid (app_one how1 hgr1 hat1); have HOW1 := Lib.hid how1; clear how1 hgr1 hat1) | (at_builtin; refine wpList_app_ops (l := [] ++ ops) (l2 := more) ?_ (.tmp 33) (.tmp 34) ?_ HOW1.out (HOB.out _ (HK2.out.trans (HA1.out.1.mono HK2.out.size))) ?_ HA1.out.1.size ?_ ?_ ?_; (· rfl); (· rfl); (· simp; omega); (· rfl); (· rfl); intro x2 w11 how2 hgr2 hat2; have HA2 := Lib.hid (app_two HA1.out how2 hgr2 HWFA.out HWFB.out); clear how2 hgr2 hat2; generalize hAL : ops ++ more = AL at HA2; have HALE := Lib.hid hAL; clear hAL; obtain ⟨aoc, capc, rfl, hopc⟩ := HA2.out.2.val; have HOPC := Lib.hid hopc; clear hopc))
        have HK11 := Lib.hid (HK2.out.trans (HA2.out.1.mono HK2.out.size))
        have HX11 := Lib.hid ((HA2.out.1.block _ (lt_of_block HX2.out)).trans HX2.out)
        have HLC : Hid (AL.length ≤ 72) := Lib.hid (by rw [← HALE.out, List.length_append]; omega)
        clear hb hm
        go_loopg [37] AL.length (fun gk vi wr => ∃ i : Nat, i + gk = AL.length ∧ vi = .int .i64 (i : Int) ∧ Below w11.heap.size w11 wr ∧ ∀ k, k < i → ∀ hk : k < AL.length, boundsR (AL[k]).rule = 0)
        case atStart => exact ⟨0, by omega, rfl, Below.refl _ _, fun k hk => absurd hk (by omega)⟩
        case round =>
          obtain ⟨i, hgk, rfl, hK, hgd⟩ := hrel
          have HKR := Lib.hid hK
          have HGD := Lib.hid hgd
          have hlc := HLC.out
          by_cases hlt : i < AL.length
          · obtain ⟨b, off, rfl, hat, hb⟩ := HOPC.out i hlt
            have hcx := hat.cells hb hK i hlt
            have HOI : Hid (∀ d r, AL[i] = ⟨d, r⟩ → AL[i].rule = r) := Lib.hid (fun d r h => by rw [h])
            obtain ⟨o, ho⟩ : ∃ o, AL[i] = o := ⟨_, rfl⟩
            rw [ho] at hcx
            have HO := Lib.hid ho
            clear ho HOI
            obtain ⟨del, r⟩ := o
            simp only at hcx
            have HOI : Hid (AL[i].rule = r) := Lib.hid (by rw [HO.out])
            have HXA := Lib.hid (heap_alloc_new wr (.cells #[.bool del, .int .i64 r.id, .int .i64 r.dev, .int .u32 (r.addr : Int), .int .i64 r.bits, .int .i64 r.prio, .int .i64 r.out] 47))
            have hka := (Below.refl wr.heap.size wr).alloc (Nat.le_refl _) (.cells #[.bool del, .int .i64 r.id, .int .i64 r.dev, .int .u32 (r.addr : Int), .int .i64 r.bits, .int .i64 r.prio, .int .i64 r.out] 47)
            have HKA := Lib.hid (hK.trans (hka.mono hK.size))
            have HKAA := Lib.hid (HK11.out.trans (HKA.out.mono HK11.out.size))
            clear hat hK hka hb hgd
            go_upto_region 6 with (fail)
            generalize wr.alloc (.cells #[.bool del, .int .i64 r.id, .int .i64 r.dev, .int .u32 (r.addr : Int), .int .i64 r.bits, .int .i64 r.prio, .int .i64 r.out] 47) = wa at *
            clear hcx
            have y1 := cell_of HXA.out 1
            have y5 := cell_of HXA.out 5
            simp only [List.getElem?_toArray, List.getElem?_cons_zero, List.getElem?_cons_succ] at y1 y5
            by_cases h0_ : r.id < 0
            · have h0' : decide (r.id < 0) = true := decide_eq_true h0_
              clear h0_
              go_wp2_with (fail)
              refine (awake17_calls _).mono ?_
              rintro e w16 ⟨he, kw16⟩
              subst he
              have Kw16 := Lib.hid (HKAA.out.trans (kw16.mono HKAA.out.size))
              clear kw16
              go_wp2_with (fail)
              go_ret
              exact ⟨rfl, Kw16.out⟩
            · have h0' : decide (r.id < 0) = false := decide_eq_false h0_
              by_cases h1_ : 1048576 < r.id
              · have h1' : decide (1048576 < r.id) = true := decide_eq_true h1_
                clear h0_ h1_
                go_wp2_with (fail)
                refine (awake17_calls _).mono ?_
                rintro e w16 ⟨he, kw16⟩
                subst he
                have Kw16 := Lib.hid (HKAA.out.trans (kw16.mono HKAA.out.size))
                clear kw16
                go_wp2_with (fail)
                go_ret
                exact ⟨rfl, Kw16.out⟩
              · have h1' : decide (1048576 < r.id) = false := decide_eq_false h1_
                by_cases h2_ : r.prio < 0
                · have h2' : decide (r.prio < 0) = true := decide_eq_true h2_
                  clear h0_ h1_ h2_
                  go_wp2_with (fail)
                  refine (awake17_calls _).mono ?_
                  rintro e w16 ⟨he, kw16⟩
                  subst he
                  have Kw16 := Lib.hid (HKAA.out.trans (kw16.mono HKAA.out.size))
                  clear kw16
                  go_wp2_with (fail)
                  go_ret
                  exact ⟨rfl, Kw16.out⟩
                · have h2' : decide (r.prio < 0) = false := decide_eq_false h2_
                  by_cases h3_ : 1000 < r.prio
                  · have h3' : decide (1000 < r.prio) = true := decide_eq_true h3_
                    clear h0_ h1_ h2_ h3_
                    go_wp2_with (fail)
                    refine (awake17_calls _).mono ?_
                    rintro e w16 ⟨he, kw16⟩
                    subst he
                    have Kw16 := Lib.hid (HKAA.out.trans (kw16.mono HKAA.out.size))
                    clear kw16
                    go_wp2_with (fail)
                    go_ret
                    exact ⟨rfl, Kw16.out⟩
                  · have h3' : decide (1000 < r.prio) = false := decide_eq_false h3_
                    have hb0 : boundsR r = 0 := by simp [boundsR, h0_, h1_, h2_, h3_]
                    clear h0_ h1_ h2_ h3_
                    go_wp2_with (fail)
                    go_roundg (gk - 1)
                    case measure => omega
                    case rel =>
                      refine ⟨i + 1, by omega, by go_num, HKA.out, fun k hk hkl => ?_⟩
                      by_cases e : k = i
                      · subst e
                        rw [HOI.out]
                        exact hb0
                      · exact HGD.out k (by omega) hkl
          · obtain rfl : i = AL.length := by omega
            have HBD : Hid (∀ o ∈ ops ++ more, boundsR o.rule = 0) := Lib.hid (fun o ho => by
              rw [HALE.out] at ho
              obtain ⟨k, hk, rfl⟩ := List.mem_iff_getElem.1 ho
              exact hgd k hk hk)
            have HKL := Lib.hid (HK11.out.trans (HKR.out.mono HK11.out.size))
            have hxl := (HKR.out.block _ (lt_of_block HX11.out)).trans HX11.out
            have z0 := cell_of hxl 0
            have z1 := cell_of hxl 1
            have z2 := cell_of hxl 2
            simp only [List.getElem?_toArray, List.getElem?_cons_zero, List.getElem?_cons_succ] at z0 z1 z2
            have hla := HLAB.out
            clear hlc hK hgd hgk hxl
            have HMD := Lib.hid (made13_calls (H0.out.kept HKL.out) HKL.out.size HF.out.1 HF.out.2 (H1.out.next HKL.out) (by omega))
            go_wp2_with (fail)
            refine Calls.mono HMD.out ?_
            rintro e w4 ⟨nb, vt, vr, ts, rs, ls, he, hD, hLs, k4⟩
            obtain ⟨ar, cr, rfl, _, _⟩ := hD.doc.shape
            subst he
            have HOK : Hid (NetOk T.ports (TD.Ls ts) ∧ lenT (TD.Ls ts) ≤ 40) := Lib.hid (by
              rw [hLs]
              exact ⟨madeS_ok _ _, Nat.le_trans (madeS_len _ _) (by omega)⟩)
            have hka := (Below.refl w4.heap.size w4).alloc (Nat.le_refl _) (.cells #[.slice ap T.ports.length cp, .slice al T.links.length cl, .slice aa T.aces.length ca, .slice ar ls.length cr] 69)
            have HD5 := Lib.hid (hD.below hka)
            have hk4 := HKL.out.trans (k4.mono HKL.out.size)
            have HK5 := Lib.hid (hk4.trans (hka.mono hk4.size))
            have HM5 := Lib.hid (heap_alloc_new w4 (.cells #[.slice ap T.ports.length cp, .slice al T.links.length cl, .slice aa T.aces.length ca, .slice ar ls.length cr] 69))
            have HLS := Lib.hid hLs
            have HLO5 : Hid (wr.heap.size ≤ w4.heap.size) := Lib.hid k4.size
            have HFIT : Hid (Fit T.ports (TD.Ls ts) ∧ WfS (TD.Ls ts)) := Lib.hid (by
              rw [hLs]
              exact ⟨foldS_fit (Fit.empty T.ports) ops (fun o ho => HBD.out o (List.mem_append.2 (Or.inl ho))), madeS_wf ops HWFA.out⟩)
            have HAP := Lib.hid (bapply_calls HD5.out.net (H0.out.kept HK5.out) HK5.out.size HOK.out.1 HPL.out.2 (by have := HOK.out.2; omega) (H2.out.next HK5.out))
            clear hD hLs k4 hka hk4 HMD hla
            go_upto_region 12 with (fail)
            clear z0 z1 z2
            generalize w4.alloc (.cells #[.slice ap T.ports.length cp, .slice al T.links.length cl, .slice aa T.aces.length ca, .slice ar ls.length cr] 69) = w5 at *
            obtain ⟨Lx, at_, er, hres⟩ : ∃ Lx at_ er, batchS T.ports more (TD.Ls ts) = (Lx, at_, er) := ⟨_, _, _, rfl⟩
            unfold BPost at HAP
            rw [hres] at HAP
            simp only at HAP
            have HRES := Lib.hid hres
            clear hres
            go_wp2_with (fail)
            refine Calls.mono HAP.out ?_
            rintro e w6 ⟨x, he, k6, hv1, hv0⟩
            subst he
            have HK6 := Lib.hid (HK5.out.trans (k6.mono HK5.out.size))
            have hka := (Below.refl w6.heap.size w6).alloc (Nat.le_refl _) (.cells #[.int .i64 at_, .int .i64 er] 73)
            have HK7 := Lib.hid (HK6.out.trans (hka.mono HK6.out.size))
            have H57 := Lib.hid (k6.trans (hka.mono k6.size))
            have H67 := Lib.hid hka
            have HV1 := Lib.hid hv1
            have HV0 := Lib.hid hv0
            have HE7 := Lib.hid (heap_alloc_new w6 (.cells #[.int .i64 at_, .int .i64 er] 73))
            clear k6 hka hv1 hv0 HAP
            go_upto_region 13 with (fail)
            generalize w6.alloc (.cells #[.int .i64 at_, .int .i64 er] 73) = w7 at *
            have q0 := cell_of HE7.out 0
            have q1 := cell_of HE7.out 1
            simp only [List.getElem?_toArray, List.getElem?_cons_zero, List.getElem?_cons_succ] at q0 q1
            by_cases her : er = 0
            · subst her
              obtain ⟨nb2, vt2, ts2, rfl, hN6, hL6⟩ := HV0.out rfl
              have hLa := HRES.out
              have h2 := batchS_one (ports := T.ports) (l := more) (Ls := TD.Ls ts) (by rw [hLa])
              have hm32 := HLAB.out.2
              rw [batchS_app h2.1 h2.2] at hLa
              have hbok : NetOk T.ports Lx ∧ lenT Lx ≤ 256 := by
                refine ⟨?_, ?_⟩
                · have := HOK.out.1.app more 0
                  rw [hLa] at this
                  exact this
                · have := app_lenT more 0 (TD.Ls ts) (ports := T.ports) (by have := HOK.out.2; omega) (by rw [hLa])
                  rw [hLa] at this
                  exact this
              obtain ⟨hb1, hb2, hb3⟩ := back_ok more 0 0 (TD.Ls ts) HFIT.out.1 (by have := HOK.out.2; omega) (by rw [hLa])
              rw [hLa] at hb1 hb2
              simp only at hb1 hb2
              have hbw := back_wf (ports := T.ports) more (TD.Ls ts) HFIT.out.2 HWFB.out
              have HBK := Lib.hid (back_calls (HD5.out.below H57.out).net (H0.out.kept HK7.out) HK7.out.size HOK.out.1 HPL.out.2 (by have := HOK.out.2; omega) HFIT.out.2 (H2.out.next HK7.out) (by omega))
              unfold BackPost at HBK
              generalize backS T.ports more (TD.Ls ts) = bk at *
              have hbb : batchS T.ports bk Lx = appS T.ports bk 0 Lx := batchS_app (by omega) (by omega)
              obtain ⟨Ly, aty, ey, hry⟩ : ∃ Ly aty ey, appS T.ports bk 0 Lx = (Ly, aty, ey) := ⟨_, _, _, rfl⟩
              rw [hry] at hb1 hb2 hbb
              simp only at hb1 hb2
              subst hb1
              have HBB := Lib.hid hbb
              have HPM := Lib.hid hb2
              have HBL := Lib.hid hb3
              have HBW := Lib.hid hbw
              have HBOK := Lib.hid hbok
              have HN6 := Lib.hid hN6
              have HL6 := Lib.hid hL6
              clear hLa h2 hbok hb2 hb3 hbw hbb hry hm32 hN6 hL6
              go_wp2_with (fail)
              refine Calls.mono HBK.out ?_
              rintro e w8 ⟨vb, he, how, k8⟩
              subst he
              have HOB8 := Lib.hid (own_ops HBW.out how)
              have HK8 := Lib.hid (HK7.out.trans (k8.mono HK7.out.size))
              have H68 := Lib.hid (H67.out.trans (k8.mono H67.out.size))
              have H58 := Lib.hid (H57.out.trans (k8.mono H57.out.size))
              obtain ⟨aob, capb, rfl, _⟩ := HOB8.out.val
              have hap := bapply_calls (HN6.out.below H68.out) (H0.out.kept HK8.out) HK8.out.size (by rw [HL6.out]; exact HBOK.out.1) HPL.out.2 (by rw [HL6.out]; have := HBOK.out.2; omega) HOB8.out
              rw [HL6.out] at hap
              unfold BPost at hap
              rw [HBB.out] at hap
              simp only at hap
              have HAP2 := Lib.hid hap
              clear how k8 hap HBK q0 q1
              go_wp2_with (fail)
              refine Calls.mono HAP2.out ?_
              rintro e w9 ⟨y, he, k9, hy1, hy0⟩
              obtain ⟨nby, vty, tsy, rfl, hNy, hLy⟩ := hy0 (by first | exact rfl | exact trivial)
              subst he
              have HK9 := Lib.hid (HK8.out.trans (k9.mono HK8.out.size))
              have hka := (Below.refl w9.heap.size w9).alloc (Nat.le_refl _) (.cells #[.int .i64 aty, .int .i64 0] 73)
              have HK10 := Lib.hid (HK9.out.trans (hka.mono HK9.out.size))
              have H510 := Lib.hid (H58.out.trans ((k9.trans (hka.mono k9.size)).mono H58.out.size))
              have H910 := Lib.hid hka
              have HNY := Lib.hid hNy
              have HLY := Lib.hid hLy
              have HF10 := Lib.hid (heap_alloc_new w9 (.cells #[.int .i64 aty, .int .i64 0] 73))
              clear k9 hka hy1 hy0 hNy hLy
              go_upto_region 17 with (fail)
              generalize w9.alloc (.cells #[.int .i64 aty, .int .i64 0] 73) = w10 at *
              go_wp2_with (fail)
              refine (awake17_calls _).mono ?_
              rintro e w11 ⟨he, k11⟩
              subst he
              have HK11b := Lib.hid (HK10.out.trans (k11.mono HK10.out.size))
              have H511 := Lib.hid (H510.out.trans (k11.mono H510.out.size))
              have H911 := Lib.hid (H910.out.trans (k11.mono H910.out.size))
              have hf11 := (k11.block _ (lt_of_block HF10.out)).trans HF10.out
              have hm11 := (H511.out.block _ (lt_of_block HM5.out)).trans HM5.out
              have hDX : DuoAt w11 wr.heap.size nby (.slice ap T.ports.length cp) (.slice al T.links.length cl) (.slice aa T.aces.length ca) vty (.slice ar ls.length cr) tsy rs ls := ⟨(HNY.out.below H911.out).low (Nat.le_trans (Nat.le_trans HLO5.out (Nat.le_of_lt (lt_of_block HM5.out))) H58.out.size), HD5.out.doc.below H511.out, fun x hx hm => by
                have h1 := HNY.out.feet_lo x hm
                have h2 := (HD5.out.doc.lo x hx).2
                have := H58.out.size
                omega, PermS.pairs (by rw [HLY.out]; exact HPM.out) HD5.out.pair⟩
              have HAL := Lib.hid (alike_calls hDX (by rw [← HD5.out.tlen]; have := HOK.out.1.len; have h2 := HPL.out.2; simp [TD.Ls] at this; omega) (by have := HOK.out.2; rw [HD5.out.pair.lens] at this; omega))
              have hbl := HBL.out
              have hbl2 : ((bk.length : Int) == (more.length : Int)) = true := beq_iff_eq.2 (by omega)
              have m0 := cell_of hm11 0
              have m1 := cell_of hm11 1
              have m2 := cell_of hm11 2
              have m3 := cell_of hm11 3
              simp only [List.getElem?_toArray, List.getElem?_cons_zero, List.getElem?_cons_succ] at m0 m1 m2 m3
              have q0 := cell_of hf11 0
              have q1 := cell_of hf11 1
              simp only [List.getElem?_toArray, List.getElem?_cons_zero, List.getElem?_cons_succ] at q0 q1
              clear k11 hf11 hm11 hDX
              go_wp2_with (fail)
              refine Calls.mono HAL.out ?_
              rintro e w12 ⟨he, k12⟩
              subst he
              have HK12 := Lib.hid (HK11b.out.trans (k12.mono HK11b.out.size))
              clear k12 m0 m1 m2 m3 q0 q1
              go_wp2_with (fail)
              refine Calls.mono (back_nil _ _) ?_
              rintro e w13 ⟨he, k13⟩
              subst he
              have HK13 := Lib.hid (HK12.out.trans (k13.mono HK12.out.size))
              clear k13
              go_wp2_with (fail)
              refine Calls.mono (prefixes_nil _ _) ?_
              rintro e w14 ⟨he, k14⟩
              subst he
              have HK14 := Lib.hid (HK13.out.trans (k14.mono HK13.out.size))
              clear k14
              go_wp2_with (fail)
              go_ret
              exact ⟨rfl, HK14.out⟩
            · obtain rfl : x = .pointer none := HV1.out her
              have hne : (er == 0) = false := beq_eq_false_iff_ne.2 her
              go_wp2_with (fail)
              refine (awake17_calls _).mono ?_
              rintro e w14 ⟨he, k14⟩
              subst he
              have K14 := Lib.hid (HK7.out.trans (k14.mono HK7.out.size))
              clear k14
              go_wp2_with (fail)
              go_ret
              exact ⟨rfl, K14.out⟩
theorem backs17_row {W : World} (v0 v1 v2 : Value) (h0 : ArgTp W v0) (h1 : ArgOps W v1) (h2 : ArgOps W v2) :
    Calls Try.prog 10 #[v0, v1, v2] W fun e w' => e = .returned (.bool true) ∧ Below W.heap.size W w' := by
  obtain ⟨T, vp, vl, va, rfl, h0⟩ := h0
  obtain ⟨ops, h1⟩ := ops_in h1
  obtain ⟨more, h2⟩ := ops_in h2
  exact backs17_calls h0 h1 h2
end Go.Proofs.Ytiedhjmnjpkcoaa
