/- The law StepSteps. -/
import Derived.Test.YtiedhjmnjpkcoaaHop0
import Derived.Test.YtiedhjmnjpkcoaaArgsV
namespace Go.Proofs.Ytiedhjmnjpkcoaa
set_option linter.unusedVariables false
set_option linter.unusedSimpArgs false
open Go.RowKit

set_option maxRecDepth 100000 in
set_option maxHeartbeats 16000000 in
theorem steps13_calls {W : World} {vp vl va v1 : Value} {T : Tp} {ops : List Op} (h0 : TpIn W.heap.size W vp vl va T) (h1 : OpsIn W v1 ops) (dv : Int) (hv : Hv) (hh : hv.Wf) :
    Calls Try.prog 12 #[.agg #[vp, vl, va], v1, .int .i64 dv, hv.val] W fun e w' => e = .returned (.bool true) ∧ Below W.heap.size W w' := by
  have H0 := Lib.hid h0
  have H1 := Lib.hid h1
  obtain ⟨ap, cp, rfl, _⟩ := h0.ports
  obtain ⟨al, cl, rfl, _⟩ := h0.links
  obtain ⟨aa, ca, rfl, _⟩ := h0.aces
  obtain ⟨ao1, cap1, rfl, _⟩ := h1.shape
  clear h0 h1
  have H2 := Lib.hid (two_new W (.cells #[.slice ap T.ports.length cp, .slice al T.links.length cl, .slice aa T.aces.length ca] 64) (.cells #[.int .u32 (hv.dst : Int), .int .u32 (hv.src : Int), .int .u8 (hv.proto : Int), .int .u16 (hv.sport : Int), .int .u16 (hv.dport : Int)] 89))
  have HHH := Lib.hid hh
  clear hh
  unfold Hv.val
  go_enter Try.func12, Try.ntmps12
  go_upto_region 1 with (fail)
  generalize (W.alloc (.cells #[.slice ap T.ports.length cp, .slice al T.links.length cl, .slice aa T.aces.length ca] 64)).alloc (.cells #[.int .u32 (hv.dst : Int), .int .u32 (hv.src : Int), .int .u8 (hv.proto : Int), .int .u16 (hv.sport : Int), .int .u16 (hv.dport : Int)] 89) = w1 at *
  have z0 := cell_of H2.out.1 0
  have z1 := cell_of H2.out.1 1
  have z2 := cell_of H2.out.1 2
  simp only [List.getElem?_toArray, List.getElem?_cons_zero, List.getElem?_cons_succ] at z0 z1 z2
  have HLI := Lib.hid (light13_calls (H0.out.kept H2.out.2.2) H2.out.2.2.size)
  obtain ⟨ft, hft⟩ : ∃ ft, ft = fineT T := ⟨_, rfl⟩
  rw [← hft] at HLI
  have HFT := Lib.hid hft
  clear hft
  go_wp2_with (fail)
  refine Calls.mono HLI.out ?_
  rintro e w2 ⟨he, k2⟩
  subst he
  have HK2 := Lib.hid (H2.out.2.2.trans (k2.mono H2.out.2.2.size))
  have HX2 := Lib.hid ((k2.block _ (lt_of_block H2.out.1)).trans H2.out.1)
  have HY2 := Lib.hid ((k2.block _ (lt_of_block H2.out.2.1)).trans H2.out.2.1)
  clear k2 z0 z1 z2
  have z0 := cell_of HX2.out 0
  have z1 := cell_of HX2.out 1
  have z2 := cell_of HX2.out 2
  simp only [List.getElem?_toArray, List.getElem?_cons_zero, List.getElem?_cons_succ] at z0 z1 z2
  by_cases hbig : ft = false ∨ 60 < ops.length ∨ dv < 0 ∨ (T.ports.length : Int) ≤ dv
  · cases ft with
    | false =>
      clear hbig
      go_wp2_with (fail)
      refine (awake13_calls _).mono ?_
      rintro e w3 ⟨he, k3⟩
      subst he
      have K3 := Lib.hid (HK2.out.trans (k3.mono HK2.out.size))
      clear k3
      go_wp2_with (fail)
      go_ret
      exact ⟨rfl, K3.out⟩
    | true =>
      rcases Nat.lt_or_ge 60 ops.length with hb | hb
      · have hb' : decide ((60 : Int) < (ops.length : Int)) = true := decide_eq_true (by omega)
        clear hbig hb
        go_wp2_with (fail)
        refine (awake13_calls _).mono ?_
        rintro e w3 ⟨he, k3⟩
        subst he
        have K3 := Lib.hid (HK2.out.trans (k3.mono HK2.out.size))
        clear k3
        go_wp2_with (fail)
        go_ret
        exact ⟨rfl, K3.out⟩
      · have hb' : decide ((60 : Int) < (ops.length : Int)) = false := decide_eq_false (by omega)
        rcases Int.lt_or_le dv 0 with hd | hd
        · have hd' : decide (dv < 0) = true := decide_eq_true hd
          clear hbig hb hd
          go_wp2_with (fail)
          refine (awake13_calls _).mono ?_
          rintro e w3 ⟨he, k3⟩
          subst he
          have K3 := Lib.hid (HK2.out.trans (k3.mono HK2.out.size))
          clear k3
          go_wp2_with (fail)
          go_ret
          exact ⟨rfl, K3.out⟩
        · have hd' : decide (dv < 0) = false := decide_eq_false (by omega)
          have he' : decide ((T.ports.length : Int) ≤ dv) = true := decide_eq_true (by rcases hbig with h | h | h | h; cases h; omega; omega; exact h)
          clear hbig hb hd
          go_wp2_with (fail)
          refine (awake13_calls _).mono ?_
          rintro e w3 ⟨he, k3⟩
          subst he
          have K3 := Lib.hid (HK2.out.trans (k3.mono HK2.out.size))
          clear k3
          go_wp2_with (fail)
          go_ret
          exact ⟨rfl, K3.out⟩
  · obtain rfl : ft = true := by cases ft <;> simp_all
    have hbb : ops.length ≤ 60 ∧ 0 ≤ dv ∧ dv < T.ports.length := by
      refine ⟨?_, ?_, ?_⟩ <;> (apply Decidable.byContradiction; intro hn; apply hbig; right)
      · exact Or.inl (by omega)
      · exact Or.inr (Or.inl (by omega))
      · exact Or.inr (Or.inr (by omega))
    clear hbig
    obtain ⟨d, rfl⟩ : ∃ d : Nat, dv = d := ⟨dv.toNat, by omega⟩
    have HBB : Hid (ops.length ≤ 60 ∧ d < T.ports.length) := Lib.hid ⟨hbb.1, by omega⟩
    have hb' : decide ((60 : Int) < (ops.length : Int)) = false := decide_eq_false (by omega)
    have hd' : decide (((d : Nat) : Int) < 0) = false := decide_eq_false (by omega)
    have he' : decide ((T.ports.length : Int) ≤ (d : Int)) = false := decide_eq_false (by omega)
    have hd2' : ¬ T.ports.length ≤ d := by omega
    have hd3' : decide (T.ports.length ≤ d) = false := decide_eq_false hd2'
    have HF := Lib.hid (fine_of HFT.out.symm)
    have HMD := Lib.hid (made13_calls (H0.out.kept HK2.out) HK2.out.size HF.out.light HF.out.check (H1.out.next HK2.out) hbb.1)
    clear hbb
    go_wp2_with (fail)
    refine Calls.mono HMD.out ?_
    rintro e w4 ⟨nb, vt, vr, ts, rs, ls, he, hD, hLs, k4⟩
    obtain ⟨ar, cr, rfl, _, _⟩ := hD.doc.shape
    subst he
    have HOK : Hid (NetOk T.ports (TD.Ls ts) ∧ lenT (TD.Ls ts) ≤ 60) := Lib.hid (by
      rw [hLs]
      exact ⟨madeS_ok _ _, Nat.le_trans (madeS_len _ _) HBB.out.1⟩)
    have hka := (Below.refl w4.heap.size w4).alloc (Nat.le_refl _) (.cells #[.slice ap T.ports.length cp, .slice al T.links.length cl, .slice aa T.aces.length ca, .slice ar ls.length cr] 69)
    have HD5 := Lib.hid (hD.below hka)
    have hk4 := HK2.out.trans (k4.mono HK2.out.size)
    have HK5 := Lib.hid (hk4.trans (hka.mono hk4.size))
    have HX5 := Lib.hid (blk_alloc ((k4.block _ (lt_of_block HX2.out)).trans HX2.out) (.cells #[.slice ap T.ports.length cp, .slice al T.links.length cl, .slice aa T.aces.length ca, .slice ar ls.length cr] 69))
    have HY5 := Lib.hid (blk_alloc ((k4.block _ (lt_of_block HY2.out)).trans HY2.out) (.cells #[.slice ap T.ports.length cp, .slice al T.links.length cl, .slice aa T.aces.length ca, .slice ar ls.length cr] 69))
    clear hD hLs k4 hka hk4 z0 z1 z2
    go_upto_region 6 with (fail)
    generalize w4.alloc (.cells #[.slice ap T.ports.length cp, .slice al T.links.length cl, .slice aa T.aces.length ca, .slice ar ls.length cr] 69) = w5 at *
    have x0 := cell_of HY5.out 0
    have x1 := cell_of HY5.out 1
    have x2 := cell_of HY5.out 2
    have x3 := cell_of HY5.out 3
    have x4 := cell_of HY5.out 4
    simp only [List.getElem?_toArray, List.getElem?_cons_zero, List.getElem?_cons_succ] at x0 x1 x2 x3 x4
    have HTR := Lib.hid (strace_calls HD5.out.net HD5.out.pair (H0.out.kept HK5.out) HK5.out.size HF.out HOK.out.1 (by have := HOK.out.2; omega) d HBB.out.2 hv HHH.out)
    obtain ⟨way, ⟨ek, edv, ep⟩, hway⟩ : ∃ way ed, wayS T ls hv (T.ports.length + 1) [] d = (way, ed) := ⟨_, _, rfl⟩
    obtain ⟨hwo, more, hmo, hhd⟩ := wayS_ok (ls := ls) (h := hv) HF.out.parts.1 (T.ports.length + 1) [] d List.nodup_nil (by simp) ⟨by omega, by have := HBB.out.2; omega⟩ (by simp) (Chain.nil _)
    rw [hway] at hwo hmo
    simp only [List.nil_append] at hmo
    have HWO : Hid (WayOk T ls hv way ⟨ek, edv, ep⟩ ∧ way.head? = some (d : Int)) := Lib.hid ⟨hwo, by rw [hmo]; exact hhd rfl⟩
    unfold TracePost at HTR
    rw [hway] at HTR
    unfold Hv.val at HTR
    simp only at HTR
    have hwne : 0 < way.length := List.length_pos_iff.2 hwo.ne
    have hwl : way.length ≤ 40 := Nat.le_trans hwo.len HF.out.small.1
    have HWY := Lib.hid hway
    clear hway hwo hmo hhd
    go_wp2_with (fail)
    refine Calls.mono HTR.out ?_
    rintro e w6 ⟨vw, he, how, k6⟩
    obtain ⟨gw, cw, rfl⟩ : ∃ gw cw, vw = .slice (some ⟨gw, 0, none⟩) way.length cw := by
      rcases how.2 with ⟨_, h1⟩ | ⟨g', cap', cur, h0, _⟩
      · omega
      · exact ⟨g', cap', h0⟩
    subst he
    have hk6 := HK5.out.trans (k6.mono HK5.out.size)
    have HK7 := Lib.hid (hk6.alloc hk6.size (.cells #[.int .i64 ek, .int .i64 edv, .int .i64 ep] 91))
    have HE7 := Lib.hid (heap_alloc_new w6 (.cells #[.int .i64 ek, .int .i64 edv, .int .i64 ep] 91))
    have HX7 := Lib.hid (blk_alloc ((k6.block _ (lt_of_block HX5.out)).trans HX5.out) (.cells #[.int .i64 ek, .int .i64 edv, .int .i64 ep] 91))
    have HY7 := Lib.hid (blk_alloc ((k6.block _ (lt_of_block HY5.out)).trans HY5.out) (.cells #[.int .i64 ek, .int .i64 edv, .int .i64 ep] 91))
    have HW7 := Lib.hid (own_kept how (Kept.of_alloc (S := []) w6 (.cells #[.int .i64 ek, .int .i64 edv, .int .i64 ep] 91)) (by simp))
    have hd7 := HD5.out.below k6
    have HD7 := Lib.hid (hd7.below ((Below.refl w6.heap.size w6).alloc (Nat.le_refl _) (.cells #[.int .i64 ek, .int .i64 edv, .int .i64 ep] 91)))
    clear hk6 how k6 hd7 x0 x1 x2 x3 x4
    go_upto_region 7 with (fail)
    generalize w6.alloc (.cells #[.int .i64 ek, .int .i64 edv, .int .i64 ep] 91) = w7 at *
    generalize w6.heap.size = eb at *
    have HWC : Hid (∀ X, Below w7.heap.size w7 X → ∀ i (h : i < way.length), X.cell? ⟨gw, i, none⟩ = some (.int .i64 way[i])) := Lib.hid (fun X kX i h => by
      have hr := (own_kept HW7.out (Kept.of_below (S := []) kX) (by simp)).cellAt (i * 1) (by omega)
      rw [Nat.mul_one, List.getElem?_map, List.getElem?_eq_getElem h] at hr
      exact hr)
    have HST : Hid (∀ X, Below w7.heap.size w7 X → ∀ x : Nat, x < T.ports.length → Calls Try.prog 47 #[.pointer (some ⟨nb, 0, none⟩), .int .i64 (x : Int), .agg #[.int .u32 (hv.dst : Int), .int .u32 (hv.src : Int), .int .u8 (hv.proto : Int), .int .u16 (hv.sport : Int), .int .u16 (hv.dport : Int)]] X fun e w' => e = .returned (stepV (stepS T ls hv x)) ∧ Below X.heap.size X w') := Lib.hid (fun X kX x hx => sstep_calls (HD7.out.below kX).net HD7.out.pair (H0.out.kept (HK7.out.trans (kX.mono HK7.out.size))) (HK7.out.trans (kX.mono HK7.out.size)).size HF.out HOK.out.1 (by have := HOK.out.2; omega) x hx hv HHH.out)
    have HBR := Lib.hid (Below.refl w7.heap.size w7)
    have hw0 := HWC.out w7 HBR.out 0 hwne
    have hwd : way[0] = (d : Int) := by
      have := HWO.out.2
      rw [List.head?_eq_getElem?, List.getElem?_eq_getElem hwne] at this
      exact Option.some.inj this
    rw [hwd] at hw0
    have hwz : ((way.length : Int) == 0) = false := beq_eq_false_iff_ne.2 (by omega)
    clear hwd
    go_wp2_with (fail)
    clear hw0 hwz
    go_loopg [76] way.length (fun gk vi wr => ∃ i : Nat, i + gk = way.length ∧ vi = .int .i64 (i : Int) ∧ Below w7.heap.size w7 wr)
    case atStart => exact ⟨0, by omega, rfl, HBR.out⟩
    case round =>
      obtain ⟨i, hgk, rfl, hK⟩ := hrel
      have HKR := Lib.hid hK
      by_cases hlt : i < way.length
      · have hwi := HWC.out wr hK i hlt
        obtain ⟨y, hy, hyn⟩ : ∃ y : Nat, way[i] = (y : Int) ∧ y < T.ports.length := by
          have := HWO.out.1.ind _ (List.getElem_mem hlt)
          unfold InD at this
          exact ⟨way[i].toNat, by omega, by omega⟩
        have hon := HWO.out.1.on i hlt
        have hla : i + 1 = way.length → _ := fun e => HWO.out.1.last way[i] (by rw [List.getLast?_eq_getElem?, show way.length - 1 = i by omega]; exact List.getElem?_eq_getElem hlt)
        rw [hy] at hwi hon hla
        have hyr := (hK.block _ (lt_of_block HY7.out)).trans HY7.out
        have x0 := cell_of hyr 0
        have x1 := cell_of hyr 1
        have x2 := cell_of hyr 2
        have x3 := cell_of hyr 3
        have x4 := cell_of hyr 4
        simp only [List.getElem?_toArray, List.getElem?_cons_zero, List.getElem?_cons_succ] at x0 x1 x2 x3 x4
        have HS := Lib.hid (HST.out wr hK y hyn)
        have hst := step_on (T := T) (ls := ls) (h := hv) (y : Int)
        obtain ⟨s1, s2, s3, s4, s5, hss⟩ : ∃ s1 s2 s3 s4 s5, stepS T ls hv (y : Int) = (s1, ⟨s2, s3, s4⟩, s5) := ⟨_, _, _, _, _, rfl⟩
        rw [hss] at HS hon hla hst
        unfold stepV at HS
        simp only at HS hon hla hst
        have HON := Lib.hid hon
        have HLA := Lib.hid hla
        have HSTO := Lib.hid hst
        clear hy hss hon hla hst hyr hK
        go_wp2_with (fail)
        refine Calls.mono HS.out ?_
        rintro e w8 ⟨he, k8⟩
        subst he
        have hk8 := HKR.out.trans (k8.mono HKR.out.size)
        have HK9 := Lib.hid (hk8.alloc hk8.size (.cells #[.int .i64 s2, .int .i64 s3, .int .i64 s4] 91))
        have hb9 := heap_alloc_new w8 (.cells #[.int .i64 s2, .int .i64 s3, .int .i64 s4] 91)
        clear hk8 k8 x0 x1 x2 x3 x4 hwi
        go_upto_region 15 with (fail)
        generalize w8.alloc (.cells #[.int .i64 s2, .int .i64 s3, .int .i64 s4] 91) = w9 at *
        generalize w8.heap.size = b8 at *
        have he9 := (HK9.out.block _ (lt_of_block HE7.out)).trans HE7.out
        have b0 := cell_of hb9 0
        have b1 := cell_of hb9 1
        have b2 := cell_of hb9 2
        simp only [List.getElem?_toArray, List.getElem?_cons_zero, List.getElem?_cons_succ] at b0 b1 b2
        have q0 := cell_of he9 0
        have q1 := cell_of he9 1
        have q2 := cell_of he9 2
        simp only [List.getElem?_toArray, List.getElem?_cons_zero, List.getElem?_cons_succ] at q0 q1 q2
        clear hb9 he9
        cases s5 with
        | true =>
          obtain ⟨rfl, rfl, rfl⟩ : s2 = 0 ∧ s3 = 0 ∧ s4 = 0 := by
            have := HSTO.out rfl
            injection this with a1 a2 a3
            exact ⟨a1, a2, a3⟩
          by_cases hi1 : i + 1 < way.length
          · have hn := (HON.out hi1).2
            have hwn := HWC.out w9 HK9.out (i + 1) hi1
            rw [List.getElem?_eq_getElem hi1] at hn
            rw [Option.some.inj hn] at hwn
            have hi1' : decide ((i : Int) + 1 < (way.length : Int)) = true := decide_eq_true (by omega)
            clear hn
            go_wp2_with (fail)
            go_roundg (gk - 1)
            case measure => omega
            case rel => exact ⟨i + 1, by omega, by go_num, HK9.out⟩
          · have hil : i + 1 = way.length := by omega
            rcases HLA.out hil with ⟨_, h4, _⟩ | ⟨h3, _⟩
            · injection h4 with a1 a2 a3
              subst a1
              subst a2
              subst a3
              have hi1' : decide ((i : Int) + 1 < (way.length : Int)) = false := decide_eq_false (by omega)
              clear hi1 hil
              go_wp2_with (fail)
              go_roundg (gk - 1)
              case measure => omega
              case rel => exact ⟨i + 1, by omega, by go_num, HK9.out⟩
            · cases h3
        | false =>
          have hil : i + 1 = way.length := by
            apply Decidable.byContradiction
            intro hn
            have := (HON.out (by omega)).1
            cases this
          rcases HLA.out hil with ⟨h3, _⟩ | ⟨_, h4⟩
          · cases h3
          · injection h4 with a1 a2 a3
            subst a1
            subst a2
            subst a3
            have hie : (i : Int) + 1 = (way.length : Int) := by omega
            have HIL := Lib.hid hil
            clear hil
            go_wp2_with (fail)
            go_roundg (gk - 1)
            case measure => have := HIL.out; omega
            case rel => exact ⟨i + 1, by have := HIL.out; omega, by first | go_num | (rw [hie]; have := HIL.out; simp; omega), HK9.out⟩
      · obtain rfl : i = way.length := by omega
        have he9 := (hK.block _ (lt_of_block HE7.out)).trans HE7.out
        have q0 := cell_of he9 0
        have q1 := cell_of he9 1
        have q2 := cell_of he9 2
        simp only [List.getElem?_toArray, List.getElem?_cons_zero, List.getElem?_cons_succ] at q0 q1 q2
        have HER := Lib.hid he9
        have HKE := Lib.hid (HK7.out.trans (hK.mono HK7.out.size))
        clear he9
        by_cases hk0 : ek = 0
        · subst hk0
          go_wp2_with (fail)
          refine (awake13_calls _).mono ?_
          rintro e w10 ⟨he, k10⟩
          subst he
          have K10 := Lib.hid (HKE.out.trans (k10.mono HKE.out.size))
          clear k10
          go_wp2_with (fail)
          go_ret
          exact ⟨rfl, K10.out⟩
        · have hk1 : (ek == 0) = false := beq_eq_false_iff_ne.2 hk0
          by_cases hl2 : way.length < 2
          · have hl2' : decide ((way.length : Int) < 2) = true := decide_eq_true (by omega)
            clear hl2 hk0
            go_wp2_with (fail)
            refine (awake13_calls _).mono ?_
            rintro e w10 ⟨he, k10⟩
            subst he
            have K10 := Lib.hid (HKE.out.trans (k10.mono HKE.out.size))
            clear k10
            go_wp2_with (fail)
            go_ret
            exact ⟨rfl, K10.out⟩
          · have hl2' : decide ((way.length : Int) < 2) = false := decide_eq_false (by omega)
            have h2 : 1 < way.length := by omega
            obtain ⟨n1, hn1⟩ : ∃ n1, way.length = n1 + 1 := ⟨way.length - 1, by omega⟩
            obtain ⟨y, hy, hyn⟩ : ∃ y : Nat, way[1] = (y : Int) ∧ y < T.ports.length := by
              have := HWO.out.1.ind _ (List.getElem_mem h2)
              unfold InD at this
              exact ⟨way[1].toNat, by omega, by omega⟩
            have hrest := HWO.out.1.rest hk0 h2
            rw [hy] at hrest
            have hw1 := HWC.out wr hK 1 h2
            rw [hy] at hw1
            have hyr := (hK.block _ (lt_of_block HY7.out)).trans HY7.out
            have hBZ0 := (Below.refl wr.heap.size wr).alloc (Nat.le_refl _) (.cells #[.int .i64 0, .int .i64 0, .int .i64 0] 91)
            have hyz := (hBZ0.block _ (lt_of_block hyr)).trans hyr
            have hw1z := (Kept.of_below (S := []) hBZ0).cell hw1 (by simp)
            have x0 := cell_of hyr 0
            have x1 := cell_of hyr 1
            have x2 := cell_of hyr 2
            have x3 := cell_of hyr 3
            have x4 := cell_of hyr 4
            have v0 := cell_of hyz 0
            have v1 := cell_of hyz 1
            have v2 := cell_of hyz 2
            have v3 := cell_of hyz 3
            have v4 := cell_of hyz 4
            simp only [List.getElem?_toArray, List.getElem?_cons_zero, List.getElem?_cons_succ] at x0 x1 x2 x3 x4 v0 v1 v2 v3 v4
            have HTX : Hid (∀ X, Below wr.heap.size wr X → Calls Try.prog 45 #[.pointer (some ⟨nb, 0, none⟩), .int .i64 (y : Int), .agg #[.int .u32 (hv.dst : Int), .int .u32 (hv.src : Int), .int .u8 (hv.proto : Int), .int .u16 (hv.sport : Int), .int .u16 (hv.dport : Int)]] X fun e w' => ∃ gq cq, e = .returned (.tuple #[.slice (some ⟨gq, 0, none⟩) n1 cq, .agg #[.int .i64 ek, .int .i64 edv, .int .i64 ep], .int .i64 0]) ∧ Below X.heap.size X w') := Lib.hid (fun X kX => by
              have kk := HKE.out.trans (kX.mono HKE.out.size)
              refine (strace_calls ((HD7.out.below hK).below kX).net HD7.out.pair (H0.out.kept kk) kk.size HF.out HOK.out.1 (by have := HOK.out.2; omega) y hyn hv HHH.out).mono ?_
              rintro e w' ⟨vq, he, hq, hkq⟩
              rw [hrest] at he hq
              simp only at he hq
              rcases hq.2 with ⟨_, h1⟩ | ⟨g', cap', cur, h0, _⟩
              · simp only [List.length_drop] at h1
                omega
              · rw [h0, show (way.drop 1).length = n1 by simp; omega] at he
                exact ⟨g', cap', he, hkq⟩)
            have hn1' : (way.length : Int) - 1 = (n1 : Int) := by omega
            have HZN := Lib.hid (heap_alloc_new wr (.cells #[.int .i64 0, .int .i64 0, .int .i64 0] 91))
            have hBW := (Below.refl wr.heap.size wr).drew
            have hBZ : Below wr.heap.size wr (wr.alloc (.cells #[.int .i64 0, .int .i64 0, .int .i64 0] 91)).drew := hBZ0.drew
            have h1i : (1 : Int) < (way.length : Int) := by omega
            clear hy hrest hyr hyz hBZ0 hk0 hl2 hK hn1
            go_upto_region 24 with (fail)
            refine (have KEY : ∀ (rb gq cq : Nat) (wq : World), EBox wr wq rb ek edv ep → (?PP : Nat → Nat → Nat → World → Prop) rb gq cq wq := ?hkey; ?main)
            case main =>
              go_region_law (first | (go_simp; go_at_call 45; with_reducible refine Calls.mono (HTX.out wr.drew hBW) ?_; rintro e w5z ⟨gq, cq, he, hB5⟩; subst he; have hz := heap_alloc_new w5z (.cells #[.int .i64 0, .int .i64 0, .int .i64 0] 91); have b0 := And.intro (cell_of hz 0) (unfrozen_of hz 0); have b1 := And.intro (cell_of hz 1) (unfrozen_of hz 1); have b2 := And.intro (cell_of hz 2) (unfrozen_of hz 2); simp only [List.getElem?_toArray, List.getElem?_cons_zero, List.getElem?_cons_succ] at b0 b1 b2; have hb6 := hBW.trans (hB5.mono hBW.size); have hrb := EBox.new (a := ek) (d := edv) (p := ep) hb6; have HRB := Lib.hid hrb; clear hB5 hz hb6 hrb) | (go_simp; go_at_call 45; refine Calls.mono (HTX.out _ hBZ) ?_; rintro e w5z ⟨gq, cq, he, hB5⟩; subst he; have hz : w5z.heap[wr.heap.size]? = some (.cells #[.int .i64 0, .int .i64 0, .int .i64 0] 91 (0, 0)) := (hB5.block wr.heap.size (lt_of_block HZN.out)).trans HZN.out; have b0 := And.intro (cell_of hz 0) (unfrozen_of hz 0); have b1 := And.intro (cell_of hz 1) (unfrozen_of hz 1); have b2 := And.intro (cell_of hz 2) (unfrozen_of hz 2); simp only [List.getElem?_toArray, List.getElem?_cons_zero, List.getElem?_cons_succ] at b0 b1 b2; have hb6 := hBZ.trans (hB5.mono hBZ.size); have hrb := EBox.mk3 (a := ek) (d := edv) (p := ep) hz hb6 (Nat.le_refl _); unfold set3 at hrb; have HRB := Lib.hid hrb; clear hB5 hz hb6 hrb))
              all_goals
                go_simp
                first
                  | (have hrb : EBox wr (w5z.alloc (.cells #[.int .i64 ek, .int .i64 edv, .int .i64 ep] 91)) w5z.heap.size ek edv ep := by with_reducible exact HRB.out
                     clear HRB
                     revert hrb
                     generalize w5z.alloc (.cells #[.int .i64 ek, .int .i64 edv, .int .i64 ep] 91) = wq
                     generalize w5z.heap.size = rb
                     intro hrb
                     exact KEY rb gq cq wq hrb)
                  | (have hrb : EBox wr (((w5z.setCell ⟨wr.heap.size, 0, none⟩ (.int .i64 ek)).setCell ⟨wr.heap.size, 1, none⟩ (.int .i64 edv)).setCell ⟨wr.heap.size, 2, none⟩ (.int .i64 ep)) wr.heap.size ek edv ep := by with_reducible exact HRB.out
                     clear HRB
                     revert hrb
                     generalize (((w5z.setCell ⟨wr.heap.size, 0, none⟩ (.int .i64 ek)).setCell ⟨wr.heap.size, 1, none⟩ (.int .i64 edv)).setCell ⟨wr.heap.size, 2, none⟩ (.int .i64 ep)) = wq
                     generalize wr.heap.size = rb
                     intro hrb
                     exact KEY rb gq cq wq hrb)
            case hkey =>
              intro rb gq cq wq hq
              obtain ⟨hrb, hkq⟩ := hq
              have HRB := Lib.hid hrb
              have HEQ := Lib.hid ((hkq.block _ (lt_of_block HER.out)).trans HER.out)
              have HKQ := Lib.hid (HKE.out.trans (hkq.mono HKE.out.size))
              clear hrb hkq hBW hBZ x0 x1 x2 x3 x4 v0 v1 v2 v3 v4 hw1 hw1z q0 q1 q2
              go_wp2_with (fail)
              refine (awake13_calls _).mono ?_
              rintro e w10 ⟨he, k10⟩
              subst he
              have K10 := Lib.hid (HKQ.out.trans (k10.mono HKQ.out.size))
              have hr10 := (k10.block _ (lt_of_block HRB.out)).trans HRB.out
              have he10 := (k10.block _ (lt_of_block HEQ.out)).trans HEQ.out
              have q0 := cell_of he10 0
              have q1 := cell_of he10 1
              have q2 := cell_of he10 2
              have r0 := cell_of hr10 0
              have r1 := cell_of hr10 1
              have r2 := cell_of hr10 2
              simp only [List.getElem?_toArray, List.getElem?_cons_zero, List.getElem?_cons_succ] at q0 q1 q2 r0 r1 r2
              clear k10 hr10 he10
              go_wp2_with (fail)
              go_ret
              exact ⟨rfl, K10.out⟩

theorem steps13_row {W : World} (v0 v1 : Value) (a : Int) (v3 : Value) (h0 : ArgTp W v0) (h1 : ArgOps W v1) (h2 : (Lit.int .i64 a).wf = true) (h3 : ArgHv v3) :
    Calls Try.prog 12 #[v0, v1, .int .i64 a, v3] W fun e w' => e = .returned (.bool true) ∧ Below W.heap.size W w' := by
  obtain ⟨T, vp, vl, va, rfl, h0⟩ := h0
  obtain ⟨ops, h1⟩ := ops_in h1
  obtain ⟨hv, hh, rfl⟩ := h3
  exact steps13_calls h0 h1 a hv hh
end Go.Proofs.Ytiedhjmnjpkcoaa
