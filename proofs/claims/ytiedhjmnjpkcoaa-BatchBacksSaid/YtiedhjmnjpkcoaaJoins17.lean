/- The law BatchJoins. -/
import Derived.Test.YtiedhjmnjpkcoaaAppOps
import Derived.Test.YtiedhjmnjpkcoaaBatW
import Derived.Test.YtiedhjmnjpkcoaaAwake17
import Derived.Test.YtiedhjmnjpkcoaaJoinP
import Derived.Test.YtiedhjmnjpkcoaaArgsT
import Derived.Test.YtiedhjmnjpkcoaaTabL
import Derived.Test.YtiedhjmnjpkcoaaTabSame
import Derived.Deep.RegionHeld3
namespace Go.Proofs.Ytiedhjmnjpkcoaa
set_option linter.unusedVariables false
set_option linter.unusedSimpArgs false
open Go.RowKit

theorem app_one {w w1 : World} {v1 : Value} {l : List Op} (how : w1.ownsRow w.heap.size 47 7 v1 l.length (opCells l)) (hg : (w.alloc (.cells #[] 47)).grownBy w1 (Value.slice (some ⟨w.heap.size, 0, none⟩) 0 0).ownBlock) (hat : v1.ownBlock = (Value.slice (some ⟨w.heap.size, 0, none⟩) 0 0).ownBlock ∨ v1.ownBlock = some (w.alloc (.cells #[] 47)).heap.size) :
    Below w.heap.size w w1 ∧ ∀ k, v1.ownBlock = some k → w.heap.size ≤ k := by
  refine ⟨((Below.refl w.heap.size w).alloc (Nat.le_refl _) _).trans (below_grew (B := w.heap.size) hg (Below.size ((Below.refl w.heap.size w).alloc (Nat.le_refl _) _)) (fun k e => by cases e; exact Nat.le_refl _)), fun k e => ?_⟩
  rcases hat with h | h <;> rw [h] at e <;> cases e
  · exact Nat.le_refl _
  · simp
theorem app_two {w w1 w2 : World} {v1 v2 : Value} {a b : List Op} (h1 : Below w.heap.size w w1 ∧ ∀ k, v1.ownBlock = some k → w.heap.size ≤ k) (how : w2.ownsRow w.heap.size 47 7 v2 ([] ++ a ++ b).length (opCells ([] ++ a ++ b))) (hg : w1.grownBy w2 v1.ownBlock) (ha : ∀ o ∈ a, o.rule.Wf) (hb : ∀ o ∈ b, o.rule.Wf) :
    Below w.heap.size w w2 ∧ OpsIn w2 v2 (a ++ b) := by
  refine ⟨h1.1.trans (below_grew hg h1.1.size h1.2), own_ops (fun o ho => ?_) how⟩
  rcases List.mem_append.1 ho with h | h
  · exact ha o h
  · exact hb o h
theorem below_next {w X Y : World} (h : Below w.heap.size w X) (k : Below X.heap.size X Y) : Below w.heap.size w Y := h.trans (k.mono h.size)
/-- Two rows of one list. -/
def TwoRows (w0 X : World) (v1 v2 : Value) (l : List Rl) : Prop := Below w0.heap.size w0 X ∧ X.ownsRow w0.heap.size 26 6 v1 l.length (rlCells l) ∧ X.ownsRow w0.heap.size 26 6 v2 l.length (rlCells l)
theorem two_of {w0 X Y Z : World} {p1 p2 : Value} {l : List Rl} (h0 : Below w0.heap.size w0 X) (h1 : Y.ownsRow X.heap.size 26 6 p1 l.length (rlCells l) ∧ Below X.heap.size X Y) (h2 : Z.ownsRow Y.heap.size 26 6 p2 l.length (rlCells l) ∧ Below Y.heap.size Y Z) : TwoRows w0 Z p1 p2 l ∧ TwoRows w0 Z p2 p1 l := by
  have k1 := h0.trans (h1.2.mono h0.size)
  have a1 := (own_kept h1.1 (Kept.of_below (S := []) h2.2) (by simp)).mono h0.size
  have a2 := h2.1.mono k1.size
  have k2 := k1.trans (h2.2.mono k1.size)
  exact ⟨⟨k2, a1, a2⟩, ⟨k2, a2, a1⟩⟩

set_option maxRecDepth 100000 in
set_option maxHeartbeats 16000000 in
theorem joins17_calls {W : World} {vp vl va v1 v2 v3 : Value} {T : Tp} {ops la lb : List Op} (h0 : TpIn W.heap.size W vp vl va T) (h1 : OpsIn W v1 ops) (h2 : OpsIn W v2 la) (h3 : OpsIn W v3 lb) (hla : la.length ≤ 140737488355328) (hlb : lb.length ≤ 140737488355328) :
    Calls Try.prog 9 #[.agg #[vp, vl, va], v1, v2, v3] W fun e w' => e = .returned (.bool true) ∧ Below W.heap.size W w' := by
  have hsum : IntKind.i64.wrap ((la.length : Int) + (lb.length : Int)) = (la.length : Int) + (lb.length : Int) := IntWalk.i64_in _ (by omega)
  have H0 := Lib.hid h0
  have H1 := Lib.hid h1
  have H2 := Lib.hid h2
  have H3 := Lib.hid h3
  obtain ⟨ap, cp, rfl, _⟩ := h0.ports
  obtain ⟨al, cl, rfl, _⟩ := h0.links
  obtain ⟨aa, ca, rfl, _⟩ := h0.aces
  obtain ⟨ao1, cap1, rfl, _⟩ := h1.val
  obtain ⟨ao2, cap2, rfl, _⟩ := h2.val
  obtain ⟨ao3, cap3, rfl, _⟩ := h3.val
  clear h0 h1 h2 h3
  have HX1 := Lib.hid (heap_alloc_new W (.cells #[.slice ap T.ports.length cp, .slice al T.links.length cl, .slice aa T.aces.length ca] 64))
  have HK1 := Lib.hid ((Below.refl W.heap.size W).alloc (Nat.le_refl _) (.cells #[.slice ap T.ports.length cp, .slice al T.links.length cl, .slice aa T.aces.length ca] 64))
  go_enter Try.func9, Try.ntmps9
  go_upto_region 1 with (fail)
  generalize W.alloc (.cells #[.slice ap T.ports.length cp, .slice al T.links.length cl, .slice aa T.aces.length ca] 64) = w1 at *
  have z0 := cell_of HX1.out 0
  have z1 := cell_of HX1.out 1
  have z2 := cell_of HX1.out 2
  simp only [List.getElem?_toArray, List.getElem?_cons_zero, List.getElem?_cons_succ] at z0 z1 z2
  have HLI := Lib.hid (light13_calls (H0.out.kept HK1.out) HK1.out.size)
  obtain ⟨ft, hft⟩ : ∃ ft, ft = fineT T := ⟨_, rfl⟩
  rw [← hft] at HLI
  have HFT := Lib.hid hft
  clear hft
  go_wp2_with (fail)
  refine Calls.mono HLI.out ?_
  rintro e w2 ⟨he, k2⟩
  subst he
  have HK2 := Lib.hid (HK1.out.trans (k2.mono HK1.out.size))
  have HX2 := Lib.hid ((k2.block _ (lt_of_block HX1.out)).trans HX1.out)
  clear k2 z0 z1 z2
  have z0 := cell_of HX2.out 0
  have z1 := cell_of HX2.out 1
  have z2 := cell_of HX2.out 2
  simp only [List.getElem?_toArray, List.getElem?_cons_zero, List.getElem?_cons_succ] at z0 z1 z2
  cases ft with
  | false =>
    go_wp2_with (fail)
    refine (awake17_calls _).mono ?_
    rintro e w3 ⟨he, kw3⟩
    subst he
    have Kw3 := Lib.hid (HK2.out.trans (kw3.mono HK2.out.size))
    clear kw3
    go_wp2_with (fail)
    go_ret
    exact ⟨rfl, Kw3.out⟩
  | true =>
    rcases Nat.lt_or_ge 30 ops.length with hb | hb
    · have hb' : decide ((30 : Int) < (ops.length : Int)) = true := decide_eq_true (by omega)
      clear hb
      go_wp2_with (fail)
      refine (awake17_calls _).mono ?_
      rintro e w3 ⟨he, kw3⟩
      subst he
      have Kw3 := Lib.hid (HK2.out.trans (kw3.mono HK2.out.size))
      clear kw3
      go_wp2_with (fail)
      go_ret
      exact ⟨rfl, Kw3.out⟩
    · have hb' : decide ((30 : Int) < (ops.length : Int)) = false := decide_eq_false (by omega)
      rcases Nat.lt_or_ge 32 (la.length + lb.length) with hm | hm
      · have hm' : decide ((32 : Int) < (la.length : Int) + (lb.length : Int)) = true := decide_eq_true (by omega)
        clear hb hm
        go_wp2_with (fail)
        refine (awake17_calls _).mono ?_
        rintro e w3 ⟨he, kw3⟩
        subst he
        have Kw3 := Lib.hid (HK2.out.trans (kw3.mono HK2.out.size))
        clear kw3
        go_wp2_with (fail)
        go_ret
        exact ⟨rfl, Kw3.out⟩
      · have hm' : decide ((32 : Int) < (la.length : Int) + (lb.length : Int)) = false := decide_eq_false (by omega)
        have HLAB : Hid (la.length + lb.length ≤ 32) := Lib.hid hm
        have hfine : lightT T = true ∧ checkT T = 0 := by
          have := HFT.out
          unfold fineT at this
          have h2 := this.symm
          rw [Bool.and_eq_true] at h2
          exact ⟨h2.1, of_decide_eq_true h2.2⟩
        have HF := Lib.hid hfine
        have HPL : Hid (0 < T.ports.length ∧ T.ports.length ≤ 40) := Lib.hid (by
          refine ⟨?_, ((lightT_iff T).1 hfine.1).1⟩
          have hc := hfine.2
          unfold checkT at hc
          split at hc
          · cases hc
          · omega)
        clear hfine
        have HMD := Lib.hid (made13_calls (H0.out.kept HK2.out) HK2.out.size HF.out.1 HF.out.2 (H1.out.next HK2.out) (by omega))
        go_wp2_with (fail)
        refine Calls.mono HMD.out ?_
        rintro e w4 ⟨nb, vt, vr, ts, rs, ls, he, hD, hLs, k4⟩
        obtain ⟨ar, cr, rfl, _, _⟩ := hD.doc.shape
        subst he
        have HOK : Hid (NetOk T.ports (TD.Ls ts) ∧ lenT (TD.Ls ts) ≤ 30) := Lib.hid (by
          rw [hLs]
          exact ⟨madeS_ok _ _, Nat.le_trans (madeS_len _ _) (by omega)⟩)
        have hka := (Below.refl w4.heap.size w4).alloc (Nat.le_refl _) (.cells #[.slice ap T.ports.length cp, .slice al T.links.length cl, .slice aa T.aces.length ca, .slice ar ls.length cr] 69)
        have HD5 := Lib.hid (hD.below hka)
        have hk4 := HK2.out.trans (k4.mono HK2.out.size)
        have HK5 := Lib.hid (hk4.trans (hka.mono hk4.size))
        have HM5 := Lib.hid (heap_alloc_new w4 (.cells #[.slice ap T.ports.length cp, .slice al T.links.length cl, .slice aa T.aces.length ca, .slice ar ls.length cr] 69))
        have HLS := Lib.hid hLs
        have HLO5 : Hid (w2.heap.size ≤ w4.heap.size) := Lib.hid k4.size
        have HAP := Lib.hid (bapply_calls HD5.out.net (H0.out.kept HK5.out) HK5.out.size HOK.out.1 HPL.out.2 (by have := HOK.out.2; omega) (H2.out.next HK5.out))
        clear hD hLs k4 hka hk4 z0 z1 z2 hb hm hm' hsum HMD
        go_upto_region 6 with (fail)
        generalize w4.alloc (.cells #[.slice ap T.ports.length cp, .slice al T.links.length cl, .slice aa T.aces.length ca, .slice ar ls.length cr] 69) = w5 at *
        obtain ⟨La, ata, ea, hres⟩ : ∃ La ata ea, batchS T.ports la (TD.Ls ts) = (La, ata, ea) := ⟨_, _, _, rfl⟩
        unfold BPost at HAP
        rw [hres] at HAP
        simp only at HAP
        have HRES := Lib.hid hres
        clear hres
        go_wp2_with (fail)
        refine Calls.mono HAP.out ?_
        rintro e w6 ⟨x, he, k6, hv1, hv0⟩
        subst he
        have HK6 := Lib.hid (HK5.out.trans (k6.mono HK5.out.size))
        have hka := (Below.refl w6.heap.size w6).alloc (Nat.le_refl _) (.cells #[.int .i64 ata, .int .i64 ea] 73)
        have HK7 := Lib.hid (HK6.out.trans (hka.mono HK6.out.size))
        have H57 := Lib.hid (k6.trans (hka.mono k6.size))
        have H67 := Lib.hid hka
        have HV1 := Lib.hid hv1
        have HV0 := Lib.hid hv0
        have HE7 := Lib.hid (heap_alloc_new w6 (.cells #[.int .i64 ata, .int .i64 ea] 73))
        clear k6 hka hv1 hv0 HAP
        go_upto_region 7 with (fail)
        generalize w6.alloc (.cells #[.int .i64 ata, .int .i64 ea] 73) = w7 at *
        have q0 := cell_of HE7.out 0
        have q1 := cell_of HE7.out 1
        simp only [List.getElem?_toArray, List.getElem?_cons_zero, List.getElem?_cons_succ] at q0 q1
        by_cases hea : ea = 0
        · subst hea
          obtain ⟨nb2, vt2, ts2, rfl, hN6, hL6⟩ := HV0.out rfl
          have hLa := HRES.out
          have h2 := batchS_one (ports := T.ports) (l := la) (Ls := TD.Ls ts) (by rw [hLa])
          have hbok : NetOk T.ports La ∧ lenT La ≤ 256 := by
            rw [batchS_app h2.1 h2.2] at hLa
            refine ⟨?_, ?_⟩
            · have := HOK.out.1.app la 0
              rw [hLa] at this
              exact this
            · have := app_lenT la 0 (TD.Ls ts) (ports := T.ports) (by have := HOK.out.2; omega) (by rw [hLa])
              rw [hLa] at this
              exact this
          have HBOK := Lib.hid hbok
          have hap := bapply_calls (hN6.below H67.out) (H0.out.kept HK7.out) HK7.out.size (by rw [hL6]; exact hbok.1) HPL.out.2 (by rw [hL6]; have := hbok.2; omega) (H3.out.next HK7.out)
          rw [hL6] at hap
          have HAP2 := Lib.hid hap
          obtain ⟨Lb, atb, eb, hres⟩ : ∃ Lb atb eb, batchS T.ports lb La = (Lb, atb, eb) := ⟨_, _, _, rfl⟩
          unfold BPost at HAP2
          rw [hres] at HAP2
          simp only at HAP2
          have HRES2 := Lib.hid hres
          obtain ⟨Lc, atc, ec, hres3⟩ : ∃ Lc atc ec, batchS T.ports (la ++ lb) (TD.Ls ts) = (Lc, atc, ec) := ⟨_, _, _, rfl⟩
          have hj := joins (ports := T.ports) (a := la) (b := lb) (Ls := TD.Ls ts) (by rw [hLa]) HLAB.out
          rw [hLa] at hj
          simp only at hj
          rw [hres, hres3] at hj
          simp only at hj
          have HJ := Lib.hid hj
          have HRES3 := Lib.hid hres3
          clear hLa h2 hbok hap hres hres3 hj hN6 hL6
          go_wp2_with (fail)
          refine Calls.mono HAP2.out ?_
          rintro e w8 ⟨y, he, k8, hy1, hy0⟩
          subst he
          have HK8 := Lib.hid (HK7.out.trans (k8.mono HK7.out.size))
          have hka := (Below.refl w8.heap.size w8).alloc (Nat.le_refl _) (.cells #[.int .i64 atb, .int .i64 eb] 73)
          have HK9 := Lib.hid (HK8.out.trans (hka.mono HK8.out.size))
          have H59 := Lib.hid (H57.out.trans ((k8.trans (hka.mono k8.size)).mono H57.out.size))
          have H89 := Lib.hid hka
          have HY1 := Lib.hid hy1
          have HY0 := Lib.hid hy0
          have HF9 := Lib.hid (heap_alloc_new w8 (.cells #[.int .i64 atb, .int .i64 eb] 73))
          clear k8 hka hy1 hy0 q0 q1
          go_upto_region 10 with (fail)
          generalize w8.alloc (.cells #[.int .i64 atb, .int .i64 eb] 73) = w9 at *
          have HOA : Hid (∀ X, Below W.heap.size W X → OpsIn X _ la) := Lib.hid (fun X kX => H2.out.next kX)
          have HOB : Hid (∀ X, Below W.heap.size W X → OpsIn X _ lb) := Lib.hid (fun X kX => H3.out.next kX)
          have HWFA := Lib.hid H2.out.wf
          have HWFB := Lib.hid H3.out.wf
          have HLIT := Lib.hid (World.ownsRow_lit (base := w9.heap.size) (e := 47) (size := 7) w9 #[] 0 (Nat.le_refl _) (by unfold maxLen; omega) rfl)
          have HAP3 : Hid (∀ X v, Below w9.heap.size w9 X ∧ OpsIn X v (la ++ lb) → Calls Try.prog 38 #[.pointer (some ⟨nb, 0, none⟩), v] X fun e w' => BPost T (la ++ lb) (TD.Ls ts) X _ _ _ e w') := Lib.hid (fun X v hX => bapply_calls (HD5.out.below (H59.out.trans (hX.1.mono H59.out.size))).net (H0.out.kept (HK9.out.trans (hX.1.mono HK9.out.size))) (HK9.out.trans (hX.1.mono HK9.out.size)).size HOK.out.1 HPL.out.2 (by have := HOK.out.2; omega) hX.2)
          have hab : la.length + lb.length ≤ 32 := HLAB.out
          go_wp2_with (first | (at_builtin; refine wpList_app_ops (l := []) (l2 := la) ?_ (.tmp 70) (.tmp 71) ?_ HLIT.out (HOA.out _ (HK9.out.alloc HK9.out.size _)) ?_ (by simp) ?_ ?_ ?_; (· rfl); (· rfl); (· simp; omega); (· rfl); (· rfl); intro x1 w10 how1 hgr1 hat1; have HA1 := Lib.hid (app_one how1 hgr1 hat1); have HOW1 := Lib.hid how1; clear how1 hgr1 hat1) | (at_builtin; refine wpList_app_ops (l := [] ++ la) (l2 := lb) ?_ (.tmp 72) (.tmp 73) ?_ HOW1.out (HOB.out _ (HK9.out.trans (HA1.out.1.mono HK9.out.size))) ?_ HA1.out.1.size ?_ ?_ ?_; (· rfl); (· rfl); (· simp; omega); (· rfl); (· rfl); intro x2 w11 how2 hgr2 hat2; have HA2 := Lib.hid (app_two HA1.out how2 hgr2 HWFA.out HWFB.out); clear how2 hgr2 hat2))
          refine Calls.mono (HAP3.out _ _ HA2.out) ?_
          rintro e w12 ⟨z, he, k12, hz1, hz0⟩
          rw [HRES3.out] at he hz1 hz0
          simp only at he hz1 hz0
          subst he
          have h912 := HA2.out.1.trans (k12.mono HA2.out.1.size)
          have hka := (Below.refl w12.heap.size w12).alloc (Nat.le_refl _) (.cells #[.int .i64 atc, .int .i64 ec] 73)
          have HG13 := Lib.hid (heap_alloc_new w12 (.cells #[.int .i64 atc, .int .i64 ec] 73))
          have H913 := Lib.hid (h912.trans (hka.mono h912.size))
          have HK13 := Lib.hid (HK9.out.trans (H913.out.mono HK9.out.size))
          have HZ1 := Lib.hid hz1
          have HZ0 := Lib.hid hz0
          have H1213 := Lib.hid hka
          clear k12 h912 hka hz1 hz0
          go_upto_region 11 with (fail)
          generalize w12.alloc (.cells #[.int .i64 atc, .int .i64 ec] 73) = w13 at *
          have HF13 := Lib.hid ((H913.out.block _ (lt_of_block HF9.out)).trans HF9.out)
          rcases Nat.eq_zero_or_pos lb.length with hlb | hlb
          · obtain ⟨rfl, rfl⟩ := HJ.out.1 (List.length_eq_zero_iff.1 hlb)
            have hlb' : (lb.length : Int) = 0 := by omega
            have hlb2 : ((lb.length : Int) == 0) = true := beq_iff_eq.2 hlb'
            clear hlb
            go_wp2_with (fail)
            refine (awake17_calls _).mono ?_
            rintro e w14 ⟨he, k14⟩
            subst he
            have hf14 := (k14.block _ (lt_of_block HF13.out)).trans HF13.out
            have hg14 := (k14.block _ (lt_of_block HG13.out)).trans HG13.out
            have K14 := Lib.hid (HK13.out.trans (k14.mono HK13.out.size))
            have q0 := cell_of hf14 0
            have q1 := cell_of hf14 1
            simp only [List.getElem?_toArray, List.getElem?_cons_zero, List.getElem?_cons_succ] at q0 q1
            have u0 := cell_of hg14 0
            have u1 := cell_of hg14 1
            simp only [List.getElem?_toArray, List.getElem?_cons_zero, List.getElem?_cons_succ] at u0 u1
            clear k14 hf14 hg14
            go_wp2_with (fail)
            go_ret
            exact ⟨rfl, K14.out⟩
          · have hlb' : ((lb.length : Int) == 0) = false := beq_eq_false_iff_ne.2 (by omega)
            have hj := HJ.out.2 (List.length_pos_iff.1 hlb)
            obtain ⟨hLc, hec, hat⟩ := hj
            have hec := hec.symm
            subst hec
            subst hLc
            have hbat := batch_at HRES2.out
            have HLBP := Lib.hid hlb
            clear hlb
            by_cases heb : eb = 0
            · subst heb
              clear hat hbat
              obtain ⟨nby, vty, tsy, rfl, hNy, hLy⟩ := HY0.out rfl
              obtain ⟨nbz, vtz, tsz, rfl, hNz, hLz⟩ := HZ0.out rfl
              have hb2 := batchS_one (ports := T.ports) (l := lb) (Ls := La) (by rw [HRES2.out])
              have hok2 : NetOk T.ports Lc ∧ lenT Lc ≤ 256 := by
                have h1 := HRES2.out
                rw [batchS_app hb2.1 hb2.2] at h1
                refine ⟨?_, ?_⟩
                · have := HBOK.out.1.app lb 0
                  rw [h1] at this
                  exact this
                · have := app_lenT lb 0 La (ports := T.ports) HBOK.out.2 (by rw [h1])
                  rw [h1] at this
                  exact this
              have hzl : tsz.length = tsy.length := by
                have h1 : (TD.Ls tsz).length = (TD.Ls tsy).length := by rw [hLy, hLz]
                simpa [TD.Ls] using h1
              have hyl : tsy.length ≤ 40 := by
                have h1 := hok2.1.len
                rw [← hLy] at h1
                have := HPL.out.2
                simp [TD.Ls] at h1
                omega
              have HOK2 := Lib.hid hok2
              have HTL := Lib.hid (And.intro hzl hyl)
              have HLY := Lib.hid hLy
              have HLZ := Lib.hid hLz
              have HNY := Lib.hid (hNy.below (H89.out.trans (H913.out.mono H89.out.size)))
              have HNZ := Lib.hid (hNz.below H1213.out)
              have HML : Hid (∀ t ∈ tsy, t.L.length < 100000) := Lib.hid (fun t ht => by
                have h1 := lenT_mem (Ls := TD.Ls tsy) (List.mem_map_of_mem (f := (·.L)) ht)
                rw [hLy] at h1
                have := hok2.2
                omega)
              have hly2 := nlen_calls HNY.out hyl HML.out
              have hlz2 : ∀ X, Below w13.heap.size w13 X → _ := fun X kX => nlen_calls (HNZ.out.below kX) (by omega) (fun t ht => by
                have h1 := lenT_mem (Ls := TD.Ls tsz) (List.mem_map_of_mem (f := (·.L)) ht)
                rw [hLz] at h1
                have := hok2.2
                omega)
              rw [lenT_S, hLy] at hly2
              rw [lenT_S, hLz] at hlz2
              have HLEY := Lib.hid hly2
              have HLEZ := Lib.hid hlz2
              have hf13 := HF13.out
              have hg13 := HG13.out
              have q0 := cell_of hf13 0
              have q1 := cell_of hf13 1
              simp only [List.getElem?_toArray, List.getElem?_cons_zero, List.getElem?_cons_succ] at q0 q1
              have u0 := cell_of hg13 0
              have u1 := cell_of hg13 1
              simp only [List.getElem?_toArray, List.getElem?_cons_zero, List.getElem?_cons_succ] at u0 u1
              clear hNy hLy hNz hLz hb2 hok2 hzl hyl hly2 hlz2 hf13 hg13
              go_wp2_with (fail)
              refine Calls.mono HLEY.out ?_
              rintro e w14 ⟨he, k14⟩
              subst he
              have HK14 := Lib.hid (HK13.out.trans (k14.mono HK13.out.size))
              have H1314 := Lib.hid k14
              clear k14 q0 q1 u0 u1
              go_wp2_with (fail)
              refine Calls.mono (HLEZ.out _ H1314.out) ?_
              rintro e w15 ⟨he, k15⟩
              subst he
              have HK15 := Lib.hid (HK14.out.trans (k15.mono HK14.out.size))
              have H1315 := Lib.hid (H1314.out.trans (k15.mono H1314.out.size))
              have HNY5 := Lib.hid (HNY.out.below H1315.out)
              have HNZ5 := Lib.hid (HNZ.out.below H1315.out)
              obtain ⟨aoy, cpy, rfl, haoy⟩ := HNY5.out.shape
              obtain ⟨aoz, cpz, rfl, haoz⟩ := HNZ5.out.shape
              have HAOY := Lib.hid haoy
              have HAOZ := Lib.hid haoz
              have c1 := cell_of HNY5.out.head 3
              simp only [List.getElem?_toArray, List.getElem?_cons_zero, List.getElem?_cons_succ] at c1
              clear k15 haoy haoz
              go_wp2_with (fail)
              clear c1
              go_loopg [138] tsy.length (fun gk vi wr => ∃ i : Nat, i + gk = tsy.length ∧ vi = .int .i64 (i : Int) ∧ Below w15.heap.size w15 wr)
              case atStart => exact ⟨0, by omega, rfl, Below.refl _ _⟩
              case round =>
                obtain ⟨i, hgk, rfl, hK⟩ := hrel
                have HKR := Lib.hid hK
                by_cases hlt : i < tsy.length
                · obtain ⟨gy, rfl⟩ := HAOY.out i hlt
                  have hlt2 : i < tsz.length := by have := HTL.out.1; omega
                  obtain ⟨gz, rfl⟩ := HAOZ.out i hlt2
                  have hny := HNY5.out.below hK
                  have hnz := HNZ5.out.below hK
                  obtain ⟨g2, cap2, he, ey⟩ := hny.at hlt
                  cases he
                  obtain ⟨g2, cap2, he, ez⟩ := hnz.at hlt2
                  cases he
                  have ch := fun X (kX : Below wr.heap.size wr X) => (kX.block _ (lt_of_block hny.head)).trans hny.head
                  have chz := fun X (kX : Below wr.heap.size wr X) => (kX.block _ (lt_of_block hnz.head)).trans hnz.head
                  have hty := hny.tab _ (List.getElem_mem hlt)
                  have htz := hnz.tab _ (List.getElem_mem hlt2)
                  have hLL : tsz[i].L = tsy[i].L := by
                    have h1 : (TD.Ls tsz)[i]? = (TD.Ls tsy)[i]? := by rw [HLY.out, HLZ.out]
                    simpa [TD.Ls, List.getElem?_map, List.getElem?_eq_getElem hlt, List.getElem?_eq_getElem hlt2] using h1
                  have hml := HML.out _ (List.getElem_mem hlt)
                  have hzi : ((i : Nat) : Int) < (tsz.length : Int) := by omega
                  have hyi : ((i : Nat) : Int) < (tsy.length : Int) := by omega
                  generalize tsy[i] = ty at *
                  generalize tsz[i] = tz at *
                  obtain ⟨l, hpl⟩ := pair_of hty.ids
                  have HRY : Hid (∀ X, Below wr.heap.size wr X → Calls Try.prog 20 #[.pointer (some ⟨ty.p, 0, none⟩)] X fun e w' => ∃ vr : Value, e = .returned vr ∧ w'.ownsRow X.heap.size 26 6 vr l.length (rlCells l) ∧ Below X.heap.size X w') := Lib.hid (fun X kX => trulesL_calls (hty.kept (Kept.of_below (S := []) kX) (by simp) (by simp)) hpl hml)
                  have HRZ : Hid (∀ X, Below wr.heap.size wr X → Calls Try.prog 20 #[.pointer (some ⟨tz.p, 0, none⟩)] X fun e w' => ∃ vr : Value, e = .returned vr ∧ w'.ownsRow X.heap.size 26 6 vr l.length (rlCells l) ∧ Below X.heap.size X w') := Lib.hid (fun X kX => trulesL_calls (htz.kept (Kept.of_below (S := []) kX) (by simp) (by simp)) (by rw [hLL]; exact hpl) (by rw [hLL]; exact hml))
                  have HLL : Hid (l.length < 1000000) := Lib.hid (by have := hpl.perm.length_eq; omega)
                  have HCH : Hid (∀ X, Below wr.heap.size wr X → X.cell? ⟨nby, 3, none⟩ = some (.slice (some ⟨gy, 0, none⟩) tsy.length cpy)) := Lib.hid (fun X kX => cell_of (ch X kX) 3)
                  have HCZ : Hid (∀ X, Below wr.heap.size wr X → X.cell? ⟨nbz, 3, none⟩ = some (.slice (some ⟨gz, 0, none⟩) tsz.length cpz)) := Lib.hid (fun X kX => cell_of (chz X kX) 3)
                  have HEY := Lib.hid (fun X (kX : Below wr.heap.size wr X) => ((Kept.of_below (S := []) kX).cell ey (by simp)))
                  have HEZ := Lib.hid (fun X (kX : Below wr.heap.size wr X) => ((Kept.of_below (S := []) kX).cell ez (by simp)))
                  have HKW := Lib.hid (HK15.out.trans (HKR.out.mono HK15.out.size))
                  clear hny hnz hty htz hLL hml hpl ch chz ey ez hK
                  go_upto_region 20 with (fail)
                  have hB0 := (Below.refl wr.heap.size wr).drew
                  refine (have KEY : ∀ (X : World) (p1 p2 : Value), TwoRows wr X p1 p2 l → (?PP : World → Value → Value → Prop) X p1 p2 := ?hkey; ?main)
                  case main =>
                    have a1 := HCH.out wr.drew hB0
                    have a2 := HCZ.out wr.drew hB0
                    have a3 := HEY.out wr.drew hB0
                    have a4 := HEZ.out wr.drew hB0
                    go_region_held3 (fun X => X.cell? ⟨nby, 3, none⟩ = some (.slice (some ⟨gy, 0, none⟩) tsy.length cpy) ∧ X.cell? ⟨nbz, 3, none⟩ = some (.slice (some ⟨gz, 0, none⟩) tsz.length cpz) ∧ X.cell? ⟨gy, i, none⟩ = some (.pointer (some ⟨ty.p, 0, none⟩)) ∧ X.cell? ⟨gz, i, none⟩ = some (.pointer (some ⟨tz.p, 0, none⟩))) (go_keep) (first | (go_at_call_of 20 (Value.pointer (some ⟨ty.p, 0, none⟩)); refine Calls.mono (HRY.out _ (by assumption)) ?_; rintro e wy ⟨p1, he, how, hk⟩; subst he; have HPY := Lib.hid (And.intro how hk); have hby := below_next (w := wr) (by assumption) hk; have b1 := HCH.out wy hby; have b2 := HCZ.out wy hby; have b3 := HEY.out wy hby; have b4 := HEZ.out wy hby; clear how hk) | (go_at_call_of 20 (Value.pointer (some ⟨tz.p, 0, none⟩)); refine Calls.mono (HRZ.out _ (by assumption)) ?_; rintro e wz ⟨p2, he, how, hk⟩; subst he; have HPZ := Lib.hid (And.intro how hk); have hbz := below_next (w := wr) (by assumption) hk; have b1 := HCH.out wz hbz; have b2 := HCZ.out wz hbz; have b3 := HEY.out wz hbz; have b4 := HEZ.out wz hbz; clear how hk))
                    all_goals
                      go_simp
                      first
                        | exact KEY wz p1 p2 (two_of hB0 HPY.out HPZ.out).1
                        | exact KEY wy p1 p2 (two_of hB0 HPZ.out HPY.out).2
                  case hkey =>
                    intro X p1 p2 hX
                    obtain ⟨hX, h1, h2⟩ := hX
                    obtain ⟨ao1, cap1, hv1⟩ : ∃ ao cap, p1 = .slice ao l.length cap := by
                      rcases h1.2 with ⟨h0, h1⟩ | ⟨g', cap', cur, h0, _⟩
                      · exact ⟨none, 0, by rw [h0, h1]⟩
                      · exact ⟨_, cap', h0⟩
                    obtain ⟨ao2, cap2, hv2⟩ : ∃ ao cap, p2 = .slice ao l.length cap := by
                      rcases h2.2 with ⟨h0, h1⟩ | ⟨g', cap', cur, h0, _⟩
                      · exact ⟨none, 0, by rw [h0, h1]⟩
                      · exact ⟨_, cap', h0⟩
                    subst hv1
                    subst hv2
                    have HP1 := Lib.hid h1
                    have HP2 := Lib.hid h2
                    have HX := Lib.hid (And.intro (HKR.out.trans (hX.mono HKR.out.size)) (And.intro hlt (And.intro hyi hzi)))
                    clear h1 h2 hX
                    generalize wr = wo at *
                    generalize gk = go at *
                    have HGK := Lib.hid hgk
                    go_wp2_with (fail)
                    go_loopg [164] l.length (fun gk vi wr => ∃ j : Nat, j + gk = l.length ∧ vi = .int .i64 (j : Int) ∧ Kept [] X wr)
                    case atStart => exact ⟨0, by omega, rfl, Kept.refl _ _⟩
                    case round =>
                      obtain ⟨j, hgj, rfl, hK⟩ := hrel
                      have HK := Lib.hid hK
                      have HGJ := Lib.hid hgj
                      by_cases hlj : j < l.length
                      · obtain ⟨g1, hg1⟩ : ∃ g, ao1 = some ⟨g, 0, none⟩ := by
                          rcases HP1.out.2 with ⟨h0, h1⟩ | ⟨g', cap', cur, h0, _⟩
                          · omega
                          · injection h0 with h0; exact ⟨g', h0⟩
                        obtain ⟨g2, hg2⟩ : ∃ g, ao2 = some ⟨g, 0, none⟩ := by
                          rcases HP2.out.2 with ⟨h0, h1⟩ | ⟨g', cap', cur, h0, _⟩
                          · omega
                          · injection h0 with h0; exact ⟨g', h0⟩
                        subst hg1
                        subst hg2
                        have hkd := hK.drew
                        have hc1 := fun k (hj : k < 6) => ((own_kept HP1.out hkd (by simp)).cellAt (j * 6 + k) (by omega)).trans (rlCells_at l j hlj k hj)
                        have hc2 := fun k (hj : k < 6) => ((own_kept HP2.out hkd (by simp)).cellAt (j * 6 + k) (by omega)).trans (rlCells_at l j hlj k hj)
                        have d0 := hc1 0 (by omega)
                        have d1 := hc1 1 (by omega)
                        have d2 := hc1 2 (by omega)
                        have d3 := hc1 3 (by omega)
                        have d4 := hc1 4 (by omega)
                        have d5 := hc1 5 (by omega)
                        have e0 := hc2 0 (by omega)
                        have e1 := hc2 1 (by omega)
                        have e2 := hc2 2 (by omega)
                        have e3 := hc2 3 (by omega)
                        have e4 := hc2 4 (by omega)
                        have e5 := hc2 5 (by omega)
                        have HKD := Lib.hid hkd
                        have hjl : (j : Int) < (l.length : Int) := by omega
                        have hj1 : IntKind.i64.wrap ((j : Int) + 1) = (j : Int) + 1 := IntWalk.i64_in _ (by have := HLL.out; omega)
                        clear hc1 hc2 hK hkd
                        generalize l[j] = r at *
                        simp [Rl.cells] at d0 d1 d2 d3 d4 d5 e0 e1 e2 e3 e4 e5
                        go_upto_region 26 with (fail)
                        go_quiet (fail)
                        go_wp2_with (fail)
                        go_roundg (gk - 1)
                        case measure => omega
                        case rel => exact ⟨j + 1, by have := HGJ.out; omega, by go_num, HK.out.drewN _⟩
                      · obtain rfl : j = l.length := by omega
                        have hi1 : IntKind.i64.wrap ((i : Int) + 1) = (i : Int) + 1 := IntWalk.i64_in _ (by have := HX.out.2.1; have := HTL.out; omega)
                        clear hK
                        go_wp2_with (fail)
                        go_roundg (go - 1)
                        case measure => omega
                        case rel => exact ⟨i + 1, by have := HX.out.2.1; have := HGK.out; omega, by go_num, below_next HX.out.1 (HK.out.below (Nat.le_refl _) (by simp))⟩
                · obtain rfl : i = tsy.length := by omega
                  clear hK
                  go_wp2_with (fail)
                  refine (awake17_calls _).mono ?_
                  rintro e w16 ⟨he, k16⟩
                  subst he
                  have hk := HK15.out.trans (HKR.out.mono HK15.out.size)
                  have K16 := Lib.hid (hk.trans (k16.mono hk.size))
                  clear k16 hk
                  go_wp2_with (fail)
                  go_ret
                  exact ⟨rfl, K16.out⟩
            · have hat' := hat heb
              subst hat'
              have hne : (eb == 0) = false := beq_eq_false_iff_ne.2 heb
              have hla32 : la.length ≤ 32 := by have := HLAB.out; omega
              have hwr : IntKind.i64.wrap (atb + (la.length : Int)) = atb + (la.length : Int) := IntWalk.i64_in _ (by omega)
              have hf13 := HF13.out
              have hg13 := HG13.out
              have q0 := cell_of hf13 0
              have q1 := cell_of hf13 1
              simp only [List.getElem?_toArray, List.getElem?_cons_zero, List.getElem?_cons_succ] at q0 q1
              have u0 := cell_of hg13 0
              have u1 := cell_of hg13 1
              simp only [List.getElem?_toArray, List.getElem?_cons_zero, List.getElem?_cons_succ] at u0 u1
              clear hf13 hg13
              go_wp2_with (fail)
              refine (awake17_calls _).mono ?_
              rintro e w14 ⟨he, k14⟩
              subst he
              have hf14 := (k14.block _ (lt_of_block HF13.out)).trans HF13.out
              have hg14 := (k14.block _ (lt_of_block HG13.out)).trans HG13.out
              have K14 := Lib.hid (HK13.out.trans (k14.mono HK13.out.size))
              clear q0 q1 u0 u1
              have q0 := cell_of hf14 0
              have q1 := cell_of hf14 1
              simp only [List.getElem?_toArray, List.getElem?_cons_zero, List.getElem?_cons_succ] at q0 q1
              have u0 := cell_of hg14 0
              have u1 := cell_of hg14 1
              simp only [List.getElem?_toArray, List.getElem?_cons_zero, List.getElem?_cons_succ] at u0 u1
              clear k14 hf14 hg14
              go_wp2_with (fail)
              go_ret
              exact ⟨rfl, K14.out⟩
        · obtain rfl : x = .pointer none := HV1.out hea
          have hne : (ea == 0) = false := beq_eq_false_iff_ne.2 hea
          go_wp2_with (fail)
          refine (awake17_calls _).mono ?_
          rintro e w14 ⟨he, k14⟩
          subst he
          have K14 := Lib.hid (HK7.out.trans (k14.mono HK7.out.size))
          clear k14
          go_wp2_with (fail)
          go_ret
          exact ⟨rfl, K14.out⟩
theorem ops_in2 {W : World} {v : Value} (h : ArgOps W v) : ∃ l, OpsIn W v l ∧ l.length ≤ 140737488355328 := by
  obtain ⟨l, h1, ⟨rfl, ao, cap, rfl⟩ | ⟨b, off, n, cap, h2, rfl, rfl, h3, h4, h5⟩⟩ := h
  · exact ⟨[], ⟨h1, ao, cap, rfl, fun i hi => by simp at hi⟩, by simp⟩
  · exact ⟨l, ⟨h1, _, cap, rfl, fun i hi => ⟨b, off, rfl, h4, h5⟩⟩, h3⟩
theorem joins17_row {W : World} (v0 v1 v2 v3 : Value) (h0 : ArgTp W v0) (h1 : ArgOps W v1) (h2 : ArgOps W v2) (h3 : ArgOps W v3) :
    Calls Try.prog 9 #[v0, v1, v2, v3] W fun e w' => e = .returned (.bool true) ∧ Below W.heap.size W w' := by
  obtain ⟨T, vp, vl, va, rfl, h0⟩ := h0
  obtain ⟨ops, h1⟩ := ops_in h1
  obtain ⟨la, h2, hla⟩ := ops_in2 h2
  obtain ⟨lb, h3, hlb⟩ := ops_in2 h3
  exact joins17_calls h0 h1 h2 h3 hla hlb
end Go.Proofs.Ytiedhjmnjpkcoaa
