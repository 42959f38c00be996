/- The law StepTraces. -/
import Derived.Test.YtiedhjmnjpkcoaaHop0
import Derived.Test.YtiedhjmnjpkcoaaArgsV
import Derived.Test.YtiedhjmnjpkcoaaRTraceW
namespace Go.Proofs.Ytiedhjmnjpkcoaa
set_option linter.unusedVariables false
set_option linter.unusedSimpArgs false
open Go.RowKit

set_option maxRecDepth 100000 in
set_option maxHeartbeats 16000000 in
theorem traces13_calls {W : World} {vp vl va v1 : Value} {T : Tp} {ops : List Op} (h0 : TpIn W.heap.size W vp vl va T) (h1 : OpsIn W v1 ops) (dv : Int) (hv : Hv) (hh : hv.Wf) :
    Calls Try.prog 11 #[.agg #[vp, vl, va], v1, .int .i64 dv, hv.val] W fun e w' => e = .returned (.bool true) ∧ Below W.heap.size W w' := by
  have H0 := Lib.hid h0
  have H1 := Lib.hid h1
  obtain ⟨ap, cp, rfl, _⟩ := h0.ports
  obtain ⟨al, cl, rfl, _⟩ := h0.links
  obtain ⟨aa, ca, rfl, _⟩ := h0.aces
  obtain ⟨ao1, cap1, rfl, _⟩ := h1.shape
  clear h0 h1
  have H2 := Lib.hid (two_new W (.cells #[.slice ap T.ports.length cp, .slice al T.links.length cl, .slice aa T.aces.length ca] 64) (.cells #[.int .u32 (hv.dst : Int), .int .u32 (hv.src : Int), .int .u8 (hv.proto : Int), .int .u16 (hv.sport : Int), .int .u16 (hv.dport : Int)] 89))
  have HHH := Lib.hid hh
  clear hh
  unfold Hv.val
  go_enter Try.func11, Try.ntmps11
  go_upto_region 1 with (fail)
  generalize (W.alloc (.cells #[.slice ap T.ports.length cp, .slice al T.links.length cl, .slice aa T.aces.length ca] 64)).alloc (.cells #[.int .u32 (hv.dst : Int), .int .u32 (hv.src : Int), .int .u8 (hv.proto : Int), .int .u16 (hv.sport : Int), .int .u16 (hv.dport : Int)] 89) = w1 at *
  have z0 := cell_of H2.out.1 0
  have z1 := cell_of H2.out.1 1
  have z2 := cell_of H2.out.1 2
  simp only [List.getElem?_toArray, List.getElem?_cons_zero, List.getElem?_cons_succ] at z0 z1 z2
  have HLI := Lib.hid (light13_calls (H0.out.kept H2.out.2.2) H2.out.2.2.size)
  obtain ⟨ft, hft⟩ : ∃ ft, ft = fineT T := ⟨_, rfl⟩
  rw [← hft] at HLI
  have HFT := Lib.hid hft
  clear hft
  go_wp2_with (fail)
  refine Calls.mono HLI.out ?_
  rintro e w2 ⟨he, k2⟩
  subst he
  have HK2 := Lib.hid (H2.out.2.2.trans (k2.mono H2.out.2.2.size))
  have HX2 := Lib.hid ((k2.block _ (lt_of_block H2.out.1)).trans H2.out.1)
  have HY2 := Lib.hid ((k2.block _ (lt_of_block H2.out.2.1)).trans H2.out.2.1)
  clear k2 z0 z1 z2
  have z0 := cell_of HX2.out 0
  have z1 := cell_of HX2.out 1
  have z2 := cell_of HX2.out 2
  simp only [List.getElem?_toArray, List.getElem?_cons_zero, List.getElem?_cons_succ] at z0 z1 z2
  by_cases hbig : ft = false ∨ 60 < ops.length
  · cases ft with
    | false =>
      clear hbig
      go_wp2_with (fail)
      refine (awake13_calls _).mono ?_
      rintro e w3 ⟨he, k3⟩
      subst he
      have K3 := Lib.hid (HK2.out.trans (k3.mono HK2.out.size))
      clear k3
      go_wp2_with (fail)
      go_ret
      exact ⟨rfl, K3.out⟩
    | true =>
      have hb' : decide ((60 : Int) < (ops.length : Int)) = true := decide_eq_true (by rcases hbig with h | h; cases h; omega)
      clear hbig
      go_wp2_with (fail)
      refine (awake13_calls _).mono ?_
      rintro e w3 ⟨he, k3⟩
      subst he
      have K3 := Lib.hid (HK2.out.trans (k3.mono HK2.out.size))
      clear k3
      go_wp2_with (fail)
      go_ret
      exact ⟨rfl, K3.out⟩
  · obtain rfl : ft = true := by cases ft <;> simp_all
    have hbb : ops.length ≤ 60 := by
      apply Decidable.byContradiction
      intro hn
      exact hbig (Or.inr (by omega))
    clear hbig
    have HB1 := Lib.hid hbb
    have hb' : decide ((60 : Int) < (ops.length : Int)) = false := decide_eq_false (by omega)
    have HF := Lib.hid (fine_of HFT.out.symm)
    have HMD := Lib.hid (made13_calls (H0.out.kept HK2.out) HK2.out.size HF.out.light HF.out.check (H1.out.next HK2.out) hbb)
    clear hbb
    go_wp2_with (fail)
    refine Calls.mono HMD.out ?_
    rintro e w4 ⟨nb, vt, vr, ts, rs, ls, he, hD, hLs, k4⟩
    obtain ⟨ar, cr, rfl, _, _⟩ := hD.doc.shape
    subst he
    have HOK : Hid (NetOk T.ports (TD.Ls ts) ∧ lenT (TD.Ls ts) ≤ 60) := Lib.hid (by
      rw [hLs]
      exact ⟨madeS_ok _ _, Nat.le_trans (madeS_len _ _) HB1.out⟩)
    have hka := (Below.refl w4.heap.size w4).alloc (Nat.le_refl _) (.cells #[.slice ap T.ports.length cp, .slice al T.links.length cl, .slice aa T.aces.length ca, .slice ar ls.length cr] 69)
    have HD5 := Lib.hid (hD.below hka)
    have hk4 := HK2.out.trans (k4.mono HK2.out.size)
    have HK5 := Lib.hid (hk4.trans (hka.mono hk4.size))
    have HMB5 := Lib.hid (heap_alloc_new w4 (.cells #[.slice ap T.ports.length cp, .slice al T.links.length cl, .slice aa T.aces.length ca, .slice ar ls.length cr] 69))
    have HX5 := Lib.hid (blk_alloc ((k4.block _ (lt_of_block HX2.out)).trans HX2.out) (.cells #[.slice ap T.ports.length cp, .slice al T.links.length cl, .slice aa T.aces.length ca, .slice ar ls.length cr] 69))
    have HY5 := Lib.hid (blk_alloc ((k4.block _ (lt_of_block HY2.out)).trans HY2.out) (.cells #[.slice ap T.ports.length cp, .slice al T.links.length cl, .slice aa T.aces.length ca, .slice ar ls.length cr] 69))
    clear hD hLs k4 hka hk4 z0 z1 z2
    go_upto_region 6 with (fail)
    generalize w4.alloc (.cells #[.slice ap T.ports.length cp, .slice al T.links.length cl, .slice aa T.aces.length ca, .slice ar ls.length cr] 69) = w5 at *
    have x0 := cell_of HY5.out 0
    have x1 := cell_of HY5.out 1
    have x2 := cell_of HY5.out 2
    have x3 := cell_of HY5.out 3
    have x4 := cell_of HY5.out 4
    simp only [List.getElem?_toArray, List.getElem?_cons_zero, List.getElem?_cons_succ] at x0 x1 x2 x3 x4
    have HTSL : Hid (ts.length = T.ports.length) := Lib.hid (by have := HOK.out.1.len; simpa [TD.Ls] using this)
    by_cases hrange : dv < 0 ∨ (T.ports.length : Int) ≤ dv
    · have HBD := Lib.hid (strace_bad HD5.out.net (by rw [HTSL.out]; exact HF.out.small.1) dv (by rw [HTSL.out]; exact hrange) hv)
      unfold Hv.val at HBD
      go_wp2_with (fail)
      refine Calls.mono HBD.out ?_
      rintro e w6 ⟨he, k6⟩
      subst he
      have hk6 := HK5.out.trans (k6.mono HK5.out.size)
      have HK7 := Lib.hid (hk6.alloc hk6.size (.cells #[.int .i64 0, .int .i64 0, .int .i64 0] 91))
      have hx7 := blk_alloc ((k6.block _ (lt_of_block HX5.out)).trans HX5.out) (.cells #[.int .i64 0, .int .i64 0, .int .i64 0] 91)
      clear hk6 k6 x0 x1 x2 x3 x4
      go_upto_region 7 with (fail)
      generalize w6.alloc (.cells #[.int .i64 0, .int .i64 0, .int .i64 0] 91) = w7 at *
      have z0 := cell_of hx7 0
      simp only [List.getElem?_toArray, List.getElem?_cons_zero, List.getElem?_cons_succ] at z0
      clear hx7
      have hAW := awake13_calls
      rcases Int.lt_or_le dv 0 with hd | hd
      · have hd' : decide (dv < 0) = true := decide_eq_true hd
        clear hrange hd hAW
        go_wp2_with (fail)
        refine (awake13_calls _).mono ?_
        rintro e w8 ⟨he, k8⟩
        subst he
        have K8 := Lib.hid (HK7.out.trans (k8.mono HK7.out.size))
        clear k8 z0
        go_wp2_with (fail)
        go_ret
        exact ⟨rfl, K8.out⟩
      · have hd' : decide (dv < 0) = false := decide_eq_false (by omega)
        have he' : decide ((T.ports.length : Int) ≤ dv) = true := decide_eq_true (by rcases hrange with h | h; omega; exact h)
        clear hrange hd hAW
        go_wp2_with (fail)
        refine (awake13_calls _).mono ?_
        rintro e w8 ⟨he, k8⟩
        subst he
        have K8 := Lib.hid (HK7.out.trans (k8.mono HK7.out.size))
        clear k8 z0
        go_wp2_with (fail)
        go_ret
        exact ⟨rfl, K8.out⟩
    · obtain ⟨d, rfl⟩ : ∃ d : Nat, dv = d := ⟨dv.toNat, by omega⟩
      have HBB : Hid (ops.length ≤ 60 ∧ d < T.ports.length) := Lib.hid ⟨HB1.out, by omega⟩
      have hd' : decide (((d : Nat) : Int) < 0) = false := decide_eq_false (by omega)
      have he' : decide ((T.ports.length : Int) ≤ (d : Int)) = false := decide_eq_false (by omega)
      have hd2' : ¬ T.ports.length ≤ d := by omega
      have hd3' : decide (T.ports.length ≤ d) = false := decide_eq_false hd2'
      have HDI : Hid (InD T (d : Int)) := Lib.hid ⟨by omega, by have := HBB.out.2; omega⟩
      clear hrange
      have HTR := Lib.hid (strace_calls HD5.out.net HD5.out.pair (H0.out.kept HK5.out) HK5.out.size HF.out HOK.out.1 (by have := HOK.out.2; omega) d HBB.out.2 hv HHH.out)
      obtain ⟨way, ⟨ek, edv, ep⟩, hway⟩ : ∃ way ed, wayS T ls hv (T.ports.length + 1) [] d = (way, ed) := ⟨_, _, rfl⟩
      obtain ⟨hwo, more, hmo, hhd⟩ := wayS_ok (ls := ls) (h := hv) HF.out.parts.1 (T.ports.length + 1) [] d List.nodup_nil (by simp) HDI.out (by simp) (Chain.nil _)
      rw [hway] at hwo hmo
      simp only [List.nil_append] at hmo
      have HWO : Hid (WayOk T ls hv way ⟨ek, edv, ep⟩ ∧ way.head? = some (d : Int)) := Lib.hid ⟨hwo, by rw [hmo]; exact hhd rfl⟩
      unfold TracePost at HTR
      rw [hway] at HTR
      unfold Hv.val at HTR
      simp only at HTR
      have hwne : 0 < way.length := List.length_pos_iff.2 hwo.ne
      have hwl : way.length ≤ 40 := Nat.le_trans hwo.len HF.out.small.1
      have HWY := Lib.hid hway
      clear hway hwo hmo hhd
      go_wp2_with (fail)
      refine Calls.mono HTR.out ?_
      rintro e w6 ⟨vw, he, how, k6⟩
      obtain ⟨gw, cw, rfl⟩ : ∃ gw cw, vw = .slice (some ⟨gw, 0, none⟩) way.length cw := by
        rcases how.2 with ⟨_, h1⟩ | ⟨g', cap', cur, h0, _⟩
        · omega
        · exact ⟨g', cap', h0⟩
      subst he
      have hk6 := HK5.out.trans (k6.mono HK5.out.size)
      have HK7 := Lib.hid (hk6.alloc hk6.size (.cells #[.int .i64 ek, .int .i64 edv, .int .i64 ep] 91))
      have HE7 := Lib.hid (heap_alloc_new w6 (.cells #[.int .i64 ek, .int .i64 edv, .int .i64 ep] 91))
      have HMB := Lib.hid (blk_alloc ((k6.block _ (lt_of_block HMB5.out)).trans HMB5.out) (.cells #[.int .i64 ek, .int .i64 edv, .int .i64 ep] 91))
      have HX7 := Lib.hid (blk_alloc ((k6.block _ (lt_of_block HX5.out)).trans HX5.out) (.cells #[.int .i64 ek, .int .i64 edv, .int .i64 ep] 91))
      have HY7 := Lib.hid (blk_alloc ((k6.block _ (lt_of_block HY5.out)).trans HY5.out) (.cells #[.int .i64 ek, .int .i64 edv, .int .i64 ep] 91))
      have HW7 := Lib.hid (own_kept how (Kept.of_alloc (S := []) w6 (.cells #[.int .i64 ek, .int .i64 edv, .int .i64 ep] 91)) (by simp))
      have hd7 := HD5.out.below k6
      have HD7 := Lib.hid (hd7.below ((Below.refl w6.heap.size w6).alloc (Nat.le_refl _) (.cells #[.int .i64 ek, .int .i64 edv, .int .i64 ep] 91)))
      clear hk6 how k6 hd7 x0 x1 x2 x3 x4
      go_upto_region 7 with (fail)
      generalize w6.alloc (.cells #[.int .i64 ek, .int .i64 edv, .int .i64 ep] 91) = w7 at *
      generalize w6.heap.size = eb at *
      have HWC : Hid (∀ X, Below w7.heap.size w7 X → ∀ i (h : i < way.length), X.cell? ⟨gw, i, none⟩ = some (.int .i64 way[i])) := Lib.hid (fun X kX i h => by
        have hr := (own_kept HW7.out (Kept.of_below (S := []) kX) (by simp)).cellAt (i * 1) (by omega)
        rw [Nat.mul_one, List.getElem?_map, List.getElem?_eq_getElem h] at hr
        exact hr)
      have HRT := Lib.hid (rtrace_calls HD7.out.doc (by rw [← HD7.out.pair.len, HOK.out.1.len]) (fun l hl => by
        obtain ⟨i, hi, rfl⟩ := List.mem_iff_getElem.1 hl
        have hiL : i < (TD.Ls ts).length := by rw [HD7.out.pair.len]; exact hi
        have hpr := HD7.out.pair.get i hiL hi
        refine ⟨fun r hr => ?_, ?_⟩
        · have hit : i < ts.length := by simpa [TD.Ls] using hiL
          have h1 := (HD7.out.net.tab _ (List.getElem_mem hit)).ok r
          have h2 := hpr.perm.mem_iff.1 hr
          simp only [TD.Ls, List.getElem_map] at h2
          exact h1 h2
        · have h1 := lenT_mem hl
          have h2 := HOK.out.2
          rw [HD7.out.pair.lens] at h2
          omega) (H0.out.kept HK7.out) HK7.out.size HF.out d HBB.out.2 hv HHH.out)
      unfold RTracePost at HRT
      rw [HWY.out] at HRT
      unfold Hv.val at HRT
      simp only at HRT
      have HM7 := Lib.hid HMB.out
      have hwp : decide ((T.ports.length : Int) < (way.length : Int)) = false := decide_eq_false (by have := HWO.out.1.len; omega)
      have hwp2 : ¬ T.ports.length < way.length := by have := HWO.out.1.len; omega
      have HBR := Lib.hid (Below.refl w7.heap.size w7)
      have x0 := cell_of HY7.out 0
      have x1 := cell_of HY7.out 1
      have x2 := cell_of HY7.out 2
      have x3 := cell_of HY7.out 3
      have x4 := cell_of HY7.out 4
      simp only [List.getElem?_toArray, List.getElem?_cons_zero, List.getElem?_cons_succ] at x0 x1 x2 x3 x4
      have z0 := cell_of HX7.out 0
      have z1 := cell_of HX7.out 1
      have z2 := cell_of HX7.out 2
      simp only [List.getElem?_toArray, List.getElem?_cons_zero, List.getElem?_cons_succ] at z0 z1 z2
      have m0 := cell_of HM7.out 0
      have m1 := cell_of HM7.out 1
      have m2 := cell_of HM7.out 2
      have m3 := cell_of HM7.out 3
      simp only [List.getElem?_toArray, List.getElem?_cons_zero, List.getElem?_cons_succ] at m0 m1 m2 m3
      go_wp2_with (fail)
      refine Calls.mono HRT.out ?_
      rintro e w8 ⟨vq, he, hoq, k8⟩
      obtain ⟨gq, cq, rfl⟩ : ∃ gq cq, vq = .slice (some ⟨gq, 0, none⟩) way.length cq := by
        rcases hoq.2 with ⟨_, h1⟩ | ⟨g', cap', cur, h0, _⟩
        · omega
        · exact ⟨g', cap', h0⟩
      subst he
      have hk9 := k8.alloc k8.size (.cells #[.int .i64 ek, .int .i64 edv, .int .i64 ep] 94)
      have HK9 := Lib.hid hk9
      have HB9 := Lib.hid (heap_alloc_new w8 (.cells #[.int .i64 ek, .int .i64 edv, .int .i64 ep] 94))
      have HQ9 := Lib.hid (own_kept hoq (Kept.of_alloc (S := []) w8 (.cells #[.int .i64 ek, .int .i64 edv, .int .i64 ep] 94)) (by simp))
      clear hk9 hoq k8 x0 x1 x2 x3 x4 z0 z1 z2 m0 m1 m2 m3
      go_upto_region 10 with (fail)
      generalize w8.alloc (.cells #[.int .i64 ek, .int .i64 edv, .int .i64 ep] 94) = w9 at *
      generalize w8.heap.size = b9 at *
      have he9 := (HK9.out.block _ (lt_of_block HE7.out)).trans HE7.out
      have hx9 := (HK9.out.block _ (lt_of_block HX7.out)).trans HX7.out
      have q0 := cell_of he9 0
      have q1 := cell_of he9 1
      have q2 := cell_of he9 2
      simp only [List.getElem?_toArray, List.getElem?_cons_zero, List.getElem?_cons_succ] at q0 q1 q2
      have b0 := cell_of HB9.out 0
      have b1 := cell_of HB9.out 1
      have b2 := cell_of HB9.out 2
      simp only [List.getElem?_toArray, List.getElem?_cons_zero, List.getElem?_cons_succ] at b0 b1 b2
      have z0 := cell_of hx9 0
      simp only [List.getElem?_toArray, List.getElem?_cons_zero, List.getElem?_cons_succ] at z0
      clear he9 hx9
      go_wp2_with (fail)
      clear q0 q1 q2 b0 b1 b2 z0
      go_loopg [100] way.length (fun gk vi wr => ∃ i : Nat, i + gk = way.length ∧ vi = .int .i64 (i : Int) ∧ Below w9.heap.size w9 wr)
      case atStart => exact ⟨0, by omega, rfl, Below.refl _ _⟩
      case round =>
        obtain ⟨i, hgk, rfl, hK⟩ := hrel
        have HKR := Lib.hid hK
        by_cases hlt : i < way.length
        · have hwi := HWC.out wr (HK9.out.trans (hK.mono HK9.out.size)) i hlt
          have hqi := (own_kept HQ9.out (Kept.of_below (S := []) hK) (by simp)).cellAt (i * 1) (by omega)
          rw [Nat.mul_one, List.getElem?_map, List.getElem?_eq_getElem hlt] at hqi
          simp only [Option.map_some, i64v] at hqi
          have hii : (i : Int) < (way.length : Int) := by omega
          generalize way[i] = y at *
          clear hK
          go_wp2_with (fail)
          go_region
          go_wp2_with (fail)
          go_roundg (gk - 1)
          case measure => omega
          case rel => exact ⟨i + 1, by omega, by go_num, HKR.out.drew⟩
        · obtain rfl : i = way.length := by omega
          have HKE := Lib.hid (HK7.out.trans ((HK9.out.trans (hK.mono HK9.out.size)).mono HK7.out.size))
          clear hK
          go_wp2_with (fail)
          refine (awake13_calls _).mono ?_
          rintro e w10 ⟨he, k10⟩
          subst he
          have K10 := Lib.hid (HKE.out.trans (k10.mono HKE.out.size))
          clear k10
          go_wp2_with (fail)
          go_ret
          exact ⟨rfl, K10.out⟩

theorem traces13_row {W : World} (v0 v1 : Value) (a : Int) (v3 : Value) (h0 : ArgTp W v0) (h1 : ArgOps W v1) (h2 : (Lit.int .i64 a).wf = true) (h3 : ArgHv v3) :
    Calls Try.prog 11 #[v0, v1, .int .i64 a, v3] W fun e w' => e = .returned (.bool true) ∧ Below W.heap.size W w' := by
  obtain ⟨T, vp, vl, va, rfl, h0⟩ := h0
  obtain ⟨ops, h1⟩ := ops_in h1
  obtain ⟨hv, hh, rfl⟩ := h3
  exact traces13_calls h0 h1 a hv hh
end Go.Proofs.Ytiedhjmnjpkcoaa
