/- The law StepHops. -/
import Derived.Test.YtiedhjmnjpkcoaaHop0
import Derived.Test.YtiedhjmnjpkcoaaArgsV
namespace Go.Proofs.Ytiedhjmnjpkcoaa
set_option linter.unusedVariables false
set_option linter.unusedSimpArgs false
open Go.RowKit

theorem Fine.ports {T : Tp} (h : Fine T) : ∀ i (hi : i < T.ports.length), 0 ≤ T.ports[i] ∧ T.ports[i] ≤ 8 := by
  intro i hi
  have := h.check
  unfold checkT at this
  split at this
  · cases this
  · split at this
    · cases this
    · rename_i e
      have hb : badP T.ports[i] = false := by
        cases hb : badP T.ports[i] with
        | false => rfl
        | true => exact absurd (List.any_eq_true.2 ⟨_, List.getElem_mem hi, hb⟩) e
      unfold badP at hb
      have := of_decide_eq_false hb
      omega
set_option maxRecDepth 100000 in
set_option maxHeartbeats 16000000 in
theorem hops13_calls {W : World} {vp vl va v1 : Value} {T : Tp} {ops : List Op} (h0 : TpIn W.heap.size W vp vl va T) (h1 : OpsIn W v1 ops) (dv : Int) (hv : Hv) (hh : hv.Wf) :
    Calls Try.prog 13 #[.agg #[vp, vl, va], v1, .int .i64 dv, hv.val] W fun e w' => e = .returned (.bool true) ∧ Below W.heap.size W w' := by
  have H0 := Lib.hid h0
  have H1 := Lib.hid h1
  obtain ⟨ap, cp, rfl, _⟩ := h0.ports
  obtain ⟨al, cl, rfl, _⟩ := h0.links
  obtain ⟨aa, ca, rfl, _⟩ := h0.aces
  obtain ⟨ao1, cap1, rfl, _⟩ := h1.shape
  clear h0 h1
  have H2 := Lib.hid (two_new W (.cells #[.slice ap T.ports.length cp, .slice al T.links.length cl, .slice aa T.aces.length ca] 64) (.cells #[.int .u32 (hv.dst : Int), .int .u32 (hv.src : Int), .int .u8 (hv.proto : Int), .int .u16 (hv.sport : Int), .int .u16 (hv.dport : Int)] 89))
  have HHH := Lib.hid hh
  clear hh
  unfold Hv.val
  go_enter Try.func13, Try.ntmps13
  go_upto_region 1 with (fail)
  generalize (W.alloc (.cells #[.slice ap T.ports.length cp, .slice al T.links.length cl, .slice aa T.aces.length ca] 64)).alloc (.cells #[.int .u32 (hv.dst : Int), .int .u32 (hv.src : Int), .int .u8 (hv.proto : Int), .int .u16 (hv.sport : Int), .int .u16 (hv.dport : Int)] 89) = w1 at *
  have z0 := cell_of H2.out.1 0
  have z1 := cell_of H2.out.1 1
  have z2 := cell_of H2.out.1 2
  simp only [List.getElem?_toArray, List.getElem?_cons_zero, List.getElem?_cons_succ] at z0 z1 z2
  have HLI := Lib.hid (light13_calls (H0.out.kept H2.out.2.2) H2.out.2.2.size)
  obtain ⟨ft, hft⟩ : ∃ ft, ft = fineT T := ⟨_, rfl⟩
  rw [← hft] at HLI
  have HFT := Lib.hid hft
  clear hft
  go_wp2_with (fail)
  refine Calls.mono HLI.out ?_
  rintro e w2 ⟨he, k2⟩
  subst he
  have HK2 := Lib.hid (H2.out.2.2.trans (k2.mono H2.out.2.2.size))
  have HX2 := Lib.hid ((k2.block _ (lt_of_block H2.out.1)).trans H2.out.1)
  have HY2 := Lib.hid ((k2.block _ (lt_of_block H2.out.2.1)).trans H2.out.2.1)
  clear k2 z0 z1 z2
  have z0 := cell_of HX2.out 0
  have z1 := cell_of HX2.out 1
  have z2 := cell_of HX2.out 2
  simp only [List.getElem?_toArray, List.getElem?_cons_zero, List.getElem?_cons_succ] at z0 z1 z2
  by_cases hbig : ft = false ∨ 60 < ops.length ∨ dv < 0 ∨ (T.ports.length : Int) ≤ dv
  · cases ft with
    | false =>
      clear hbig
      go_wp2_with (fail)
      refine (awake13_calls _).mono ?_
      rintro e w3 ⟨he, k3⟩
      subst he
      have K3 := Lib.hid (HK2.out.trans (k3.mono HK2.out.size))
      clear k3
      go_wp2_with (fail)
      go_ret
      exact ⟨rfl, K3.out⟩
    | true =>
      rcases Nat.lt_or_ge 60 ops.length with hb | hb
      · have hb' : decide ((60 : Int) < (ops.length : Int)) = true := decide_eq_true (by omega)
        clear hbig hb
        go_wp2_with (fail)
        refine (awake13_calls _).mono ?_
        rintro e w3 ⟨he, k3⟩
        subst he
        have K3 := Lib.hid (HK2.out.trans (k3.mono HK2.out.size))
        clear k3
        go_wp2_with (fail)
        go_ret
        exact ⟨rfl, K3.out⟩
      · have hb' : decide ((60 : Int) < (ops.length : Int)) = false := decide_eq_false (by omega)
        rcases Int.lt_or_le dv 0 with hd | hd
        · have hd' : decide (dv < 0) = true := decide_eq_true hd
          clear hbig hb hd
          go_wp2_with (fail)
          refine (awake13_calls _).mono ?_
          rintro e w3 ⟨he, k3⟩
          subst he
          have K3 := Lib.hid (HK2.out.trans (k3.mono HK2.out.size))
          clear k3
          go_wp2_with (fail)
          go_ret
          exact ⟨rfl, K3.out⟩
        · have hd' : decide (dv < 0) = false := decide_eq_false (by omega)
          have he' : decide ((T.ports.length : Int) ≤ dv) = true := decide_eq_true (by rcases hbig with h | h | h | h; cases h; omega; omega; exact h)
          clear hbig hb hd
          go_wp2_with (fail)
          refine (awake13_calls _).mono ?_
          rintro e w3 ⟨he, k3⟩
          subst he
          have K3 := Lib.hid (HK2.out.trans (k3.mono HK2.out.size))
          clear k3
          go_wp2_with (fail)
          go_ret
          exact ⟨rfl, K3.out⟩
  · obtain rfl : ft = true := by cases ft <;> simp_all
    have hbb : ops.length ≤ 60 ∧ 0 ≤ dv ∧ dv < T.ports.length := by
      refine ⟨?_, ?_, ?_⟩ <;> (apply Decidable.byContradiction; intro hn; apply hbig; right)
      · exact Or.inl (by omega)
      · exact Or.inr (Or.inl (by omega))
      · exact Or.inr (Or.inr (by omega))
    clear hbig
    obtain ⟨d, rfl⟩ : ∃ d : Nat, dv = d := ⟨dv.toNat, by omega⟩
    have HBB : Hid (ops.length ≤ 60 ∧ d < T.ports.length) := Lib.hid ⟨hbb.1, by omega⟩
    have hb' : decide ((60 : Int) < (ops.length : Int)) = false := decide_eq_false (by omega)
    have hd' : decide (((d : Nat) : Int) < 0) = false := decide_eq_false (by omega)
    have he' : decide ((T.ports.length : Int) ≤ (d : Int)) = false := decide_eq_false (by omega)
    have hd2' : ¬ T.ports.length ≤ d := by omega
    have hd3' : decide (T.ports.length ≤ d) = false := decide_eq_false hd2'
    have HF := Lib.hid (fine_of HFT.out.symm)
    have HMD := Lib.hid (made13_calls (H0.out.kept HK2.out) HK2.out.size HF.out.light HF.out.check (H1.out.next HK2.out) hbb.1)
    clear hbb
    go_wp2_with (fail)
    refine Calls.mono HMD.out ?_
    rintro e w4 ⟨nb, vt, vr, ts, rs, ls, he, hD, hLs, k4⟩
    obtain ⟨ar, cr, rfl, _, _⟩ := hD.doc.shape
    subst he
    have HOK : Hid (NetOk T.ports (TD.Ls ts) ∧ lenT (TD.Ls ts) ≤ 60) := Lib.hid (by
      rw [hLs]
      exact ⟨madeS_ok _ _, Nat.le_trans (madeS_len _ _) HBB.out.1⟩)
    have hka := (Below.refl w4.heap.size w4).alloc (Nat.le_refl _) (.cells #[.slice ap T.ports.length cp, .slice al T.links.length cl, .slice aa T.aces.length ca, .slice ar ls.length cr] 69)
    have HD5 := Lib.hid (hD.below hka)
    have hk4 := HK2.out.trans (k4.mono HK2.out.size)
    have HK5 := Lib.hid (hk4.trans (hka.mono hk4.size))
    have HX5 := Lib.hid (blk_alloc ((k4.block _ (lt_of_block HX2.out)).trans HX2.out) (.cells #[.slice ap T.ports.length cp, .slice al T.links.length cl, .slice aa T.aces.length ca, .slice ar ls.length cr] 69))
    have HY5 := Lib.hid (blk_alloc ((k4.block _ (lt_of_block HY2.out)).trans HY2.out) (.cells #[.slice ap T.ports.length cp, .slice al T.links.length cl, .slice aa T.aces.length ca, .slice ar ls.length cr] 69))
    clear hD hLs k4 hka hk4 z0 z1 z2
    go_upto_region 6 with (fail)
    generalize w4.alloc (.cells #[.slice ap T.ports.length cp, .slice al T.links.length cl, .slice aa T.aces.length ca, .slice ar ls.length cr] 69) = w5 at *
    have x0 := cell_of HY5.out 0
    have x1 := cell_of HY5.out 1
    have x2 := cell_of HY5.out 2
    have x3 := cell_of HY5.out 3
    have x4 := cell_of HY5.out 4
    simp only [List.getElem?_toArray, List.getElem?_cons_zero, List.getElem?_cons_succ] at x0 x1 x2 x3 x4
    have HTR := Lib.hid (strace_calls HD5.out.net HD5.out.pair (H0.out.kept HK5.out) HK5.out.size HF.out HOK.out.1 (by have := HOK.out.2; omega) d HBB.out.2 hv HHH.out)
    obtain ⟨way, ⟨ek, edv, ep⟩, hway⟩ : ∃ way ed, wayS T ls hv (T.ports.length + 1) [] d = (way, ed) := ⟨_, _, rfl⟩
    obtain ⟨hwo, more, hmo, hhd⟩ := wayS_ok (ls := ls) (h := hv) HF.out.parts.1 (T.ports.length + 1) [] d List.nodup_nil (by simp) ⟨by omega, by have := HBB.out.2; omega⟩ (by simp) (Chain.nil _)
    rw [hway] at hwo hmo
    simp only [List.nil_append] at hmo
    have HWO : Hid (WayOk T ls hv way ⟨ek, edv, ep⟩ ∧ way.head? = some (d : Int)) := Lib.hid ⟨hwo, by rw [hmo]; exact hhd rfl⟩
    unfold TracePost at HTR
    rw [hway] at HTR
    unfold Hv.val at HTR
    simp only at HTR
    have hwne : 0 < way.length := List.length_pos_iff.2 hwo.ne
    have hwl : way.length ≤ 40 := Nat.le_trans hwo.len HF.out.small.1
    have HWY := Lib.hid hway
    clear hway hwo hmo hhd
    go_wp2_with (fail)
    refine Calls.mono HTR.out ?_
    rintro e w6 ⟨vw, he, how, k6⟩
    obtain ⟨gw, cw, rfl⟩ : ∃ gw cw, vw = .slice (some ⟨gw, 0, none⟩) way.length cw := by
      rcases how.2 with ⟨_, h1⟩ | ⟨g', cap', cur, h0, _⟩
      · omega
      · exact ⟨g', cap', h0⟩
    subst he
    have hk6 := HK5.out.trans (k6.mono HK5.out.size)
    have HK7 := Lib.hid (hk6.alloc hk6.size (.cells #[.int .i64 ek, .int .i64 edv, .int .i64 ep] 91))
    have HE7 := Lib.hid (heap_alloc_new w6 (.cells #[.int .i64 ek, .int .i64 edv, .int .i64 ep] 91))
    have HX7 := Lib.hid (blk_alloc ((k6.block _ (lt_of_block HX5.out)).trans HX5.out) (.cells #[.int .i64 ek, .int .i64 edv, .int .i64 ep] 91))
    have HY7 := Lib.hid (blk_alloc ((k6.block _ (lt_of_block HY5.out)).trans HY5.out) (.cells #[.int .i64 ek, .int .i64 edv, .int .i64 ep] 91))
    have HW7 := Lib.hid (own_kept how (Kept.of_alloc (S := []) w6 (.cells #[.int .i64 ek, .int .i64 edv, .int .i64 ep] 91)) (by simp))
    have hd7 := HD5.out.below k6
    have HD7 := Lib.hid (hd7.below ((Below.refl w6.heap.size w6).alloc (Nat.le_refl _) (.cells #[.int .i64 ek, .int .i64 edv, .int .i64 ep] 91)))
    clear hk6 how k6 hd7 x0 x1 x2 x3 x4
    go_upto_region 7 with (fail)
    generalize w6.alloc (.cells #[.int .i64 ek, .int .i64 edv, .int .i64 ep] 91) = w7 at *
    generalize w6.heap.size = eb at *
    have HWC : Hid (∀ X, Below w7.heap.size w7 X → ∀ i (h : i < way.length), X.cell? ⟨gw, i, none⟩ = some (.int .i64 way[i])) := Lib.hid (fun X kX i h => by
      have hr := (own_kept HW7.out (Kept.of_below (S := []) kX) (by simp)).cellAt (i * 1) (by omega)
      rw [Nat.mul_one, List.getElem?_map, List.getElem?_eq_getElem h] at hr
      exact hr)
    have HST : Hid (∀ X, Below w7.heap.size w7 X → ∀ x : Nat, x < T.ports.length → Calls Try.prog 47 #[.pointer (some ⟨nb, 0, none⟩), .int .i64 (x : Int), .agg #[.int .u32 (hv.dst : Int), .int .u32 (hv.src : Int), .int .u8 (hv.proto : Int), .int .u16 (hv.sport : Int), .int .u16 (hv.dport : Int)]] X fun e w' => e = .returned (stepV (stepS T ls hv x)) ∧ Below X.heap.size X w') := Lib.hid (fun X kX x hx => sstep_calls (HD7.out.below kX).net HD7.out.pair (H0.out.kept (HK7.out.trans (kX.mono HK7.out.size))) (HK7.out.trans (kX.mono HK7.out.size)).size HF.out HOK.out.1 (by have := HOK.out.2; omega) x hx hv HHH.out)
    have HBR := Lib.hid (Below.refl w7.heap.size w7)
    have hwz : ((way.length : Int) == 0) = false := beq_eq_false_iff_ne.2 (by omega)
    have HIN : Hid (∀ i (hi : i < way.length), ∃ y : Nat, way[i] = (y : Int) ∧ y < T.ports.length) := Lib.hid (fun i hi => by
      have := HWO.out.1.ind _ (List.getElem_mem hi)
      unfold InD at this
      exact ⟨way[i].toNat, by omega, by omega⟩)
    have HPORT : Hid (∀ (y : Nat) (hy : y < T.ports.length), (stepS T ls hv y).2.2 = true → ∃ np p0 : Nat, T.ports[y] = (np : Int) ∧ np ≤ 8 ∧ p0 < np ∧ ∃ q, peerT T.links y p0 = some ((stepS T ls hv y).1, q)) := Lib.hid (fun y hy hs => by
      obtain ⟨r, hr, hr0, q, hq⟩ := step_link (y : Int) hs
      have hyl : y < ls.length := by rw [← HD7.out.pair.len, HOK.out.1.len]; exact hy
      have hyL : y < (TD.Ls ts).length := by rw [HOK.out.1.len]; exact hy
      rw [Int.toNat_natCast, getElem!_pos ls y hyl] at hr
      have h1 := HOK.out.1.dev y _ (List.getElem?_eq_getElem hyL) r ((HD7.out.pair.get y hyL hyl).perm.mem_iff.1 hr)
      rw [getElem!_pos T.ports y hy] at h1
      have h2 := HF.out.ports y hy
      refine ⟨T.ports[y].toNat, r.out.toNat, by omega, by omega, by omega, q, ?_⟩
      rw [show ((r.out.toNat : Nat) : Int) = r.out by omega]
      exact hq)
    go_wp2_with (fail)
    clear hwz
    go_loopg [15] (way.length - 1) (fun gk vi wr => ∃ i : Nat, i + gk = way.length ∧ 1 ≤ i ∧ vi = .int .i64 (i : Int) ∧ Below w7.heap.size w7 wr)
    case atStart => exact ⟨1, by omega, by omega, rfl, HBR.out⟩
    case round =>
      obtain ⟨i, hgk, hi1, rfl, hK⟩ := hrel
      have HKR := Lib.hid hK
      by_cases hlt : i < way.length
      · obtain ⟨k, rfl⟩ : ∃ k, i = k + 1 := ⟨i - 1, by omega⟩
        have hkl : k < way.length := by omega
        obtain ⟨y, hy, hyn⟩ := HIN.out k hkl
        have hon := HWO.out.1.on k hkl hlt
        rw [hy] at hon
        obtain ⟨np, p0, hnp, hnp8, hp0, q, hq⟩ := HPORT.out y hyn hon.1
        have hc : way[k + 1] = (stepS T ls hv y).1 := by
          have := hon.2
          rw [List.getElem?_eq_getElem hlt] at this
          exact Option.some.inj this
        rw [← hc] at hq
        have hwk := HWC.out wr hK k hkl
        rw [hy] at hwk
        have htp := H0.out.kept (HK7.out.trans (hK.mono HK7.out.size))
        obtain ⟨bp, op, cp2, hep, hpc⟩ := htp.portAt hyn
        cases hep
        rw [hnp] at hpc
        have hxr := (hK.block _ (lt_of_block HX7.out)).trans HX7.out
        have z0 := cell_of hxr 0
        simp only [List.getElem?_toArray, List.getElem?_cons_zero, List.getElem?_cons_succ] at z0
        obtain ⟨cv, hcv⟩ : ∃ cv, cv = way[k + 1] := ⟨_, rfl⟩
        rw [← hcv] at hq
        have HY := Lib.hid hy
        have HQ := Lib.hid hq
        have HCV := Lib.hid hcv
        have HXR := Lib.hid hxr
        have HP0 := Lib.hid hp0
        have hki : (k : Int) < (way.length : Int) := by omega
        have hki1 : (k : Int) + 1 < (way.length : Int) := by omega
        have hk0 : (0 : Int) ≤ (k : Int) := by omega
        have hwr1 : IntKind.i64.wrap ((k : Int) + 1 - 1) = (k : Int) := by rw [IntKind.wrap_i64] <;> omega
        have hwr2 : IntKind.i64.wrap (k : Int) = (k : Int) := by rw [IntKind.wrap_i64] <;> omega
        have hyi : (y : Int) < (T.ports.length : Int) := by omega
        clear hy hon hc hq hcv htp hxr hp0 hnp hK
        go_upto_region 13 with (fail)
        go_region
        clear z0 hwk hpc
        have HKD := Lib.hid HKR.out.drew
        have HXD := Lib.hid (blk_drew HXR.out)
        generalize wr.drew = wd at *
        generalize gk = gko at *
        go_wp2_with (fail)
        go_loopg [86, 16] np (fun gk vpp vf wz => ∃ (p : Nat) (f : Bool), p + gk = np ∧ vpp = .int .i64 (p : Int) ∧ vf = .bool f ∧ (p0 < p → f = true) ∧ Below w7.heap.size w7 wz)
        case atStart => exact ⟨0, false, by omega, rfl, rfl, fun h => by omega, HKD.out⟩
        case round =>
          obtain ⟨p, f, hgk3, rfl, rfl, hpf, hK8⟩ := hrel
          have HPF := Lib.hid hpf
          have HK8 := Lib.hid hK8
          clear hpf
          by_cases hpn : p < np
          · have hpi : (p : Int) < (np : Int) := by omega
            have hx8 := (hK8.block _ (lt_of_block HX7.out)).trans HX7.out
            have hw8 := HWC.out wr hK8 k hkl
            rw [HY.out] at hw8
            have HCELL : Hid (∀ w', Below wr.heap.size wr w' → w'.cell? ⟨W.heap.size, 0, none⟩ = some (.slice (some ⟨bp, op, none⟩) T.ports.length cp) ∧ w'.cell? ⟨W.heap.size, 1, none⟩ = some (.slice al T.links.length cl) ∧ w'.cell? ⟨W.heap.size, 2, none⟩ = some (.slice aa T.aces.length ca) ∧ w'.cell? ⟨gw, k, none⟩ = some (.int .i64 (y : Int))) := Lib.hid (fun X kX => by
              have hx := (kX.block _ (lt_of_block hx8)).trans hx8
              exact ⟨cell_of hx 0, cell_of hx 1, cell_of hx 2, (Kept.of_below (S := []) kX).cell hw8 (by simp)⟩)
            cases ho : peerT T.links (y : Int) (p : Int) with
            | none =>
              have hpp : p0 ≠ p := fun e => by
                have := HQ.out
                rw [e, ho] at this
                cases this
              have HPP := Lib.hid hpp
              clear hpp
              have HCALL : Hid (∀ X, Below wr.heap.size wr X → Calls Try.prog 48 #[.agg #[.slice (some ⟨bp, op, none⟩) T.ports.length cp, .slice al T.links.length cl, .slice aa T.aces.length ca], .int .i64 (y : Int), .int .i64 (p : Int)] X fun e w' => e = .returned (.tuple #[.int .i64 0, .int .i64 0, .bool false]) ∧ Below wr.heap.size wr w') := Lib.hid (fun X kX => by
                have kk := HK7.out.trans ((hK8.trans (kX.mono hK8.size)).mono HK7.out.size)
                refine (rpeer_calls (H0.out.kept kk) kk.size HF.out.small.2.1 (y : Int) (p : Int)).mono ?_
                rintro e w' ⟨he, k⟩
                rw [ho] at he
                exact ⟨he, kX.trans (k.mono kX.size)⟩)
              clear hx8 hw8
              go_upto_region 16 with (fail)
              have hBW := (Below.refl wr.heap.size wr).drew
              have hS := HCELL.out _ hBW
              go_region_held3 (fun w' => w'.cell? ⟨W.heap.size, 0, none⟩ = some (.slice (some ⟨bp, op, none⟩) T.ports.length cp) ∧ w'.cell? ⟨W.heap.size, 1, none⟩ = some (.slice al T.links.length cl) ∧ w'.cell? ⟨W.heap.size, 2, none⟩ = some (.slice aa T.aces.length ca) ∧ w'.cell? ⟨gw, k, none⟩ = some (.int .i64 (y : Int))) (first | assumption) (first | (go_at_call 48; refine Calls.mono (HCALL.out _ (by assumption)) ?_; rintro e w' ⟨rfl, hB'⟩; have hS' := HCELL.out _ hB'))
              have HK9 := Lib.hid (HK8.out.trans (hB'.mono HK8.out.size))
              have hwc := HWC.out w' HK9.out (k + 1) hlt
              rw [← HCV.out] at hwc
              clear hB' hS' hBW hS HCALL
              clear ho
              cases f with
              | true =>
                go_wp2_with (fail)
                go_roundg (gk - 1)
                case measure => omega
                case rel => exact ⟨p + 1, true, by omega, by go_num, rfl, fun _ => rfl, HK9.out⟩
              | false =>
                go_wp2_with (fail)
                go_roundg (gk - 1)
                case measure => omega
                case rel => exact ⟨p + 1, false, by omega, by go_num, rfl, fun h => HPF.out (by have := HPP.out; omega), HK9.out⟩
            | some e2 =>
              obtain ⟨a2, b2⟩ := e2
              have HA2 : Hid (p0 = p → a2 = cv) := Lib.hid (fun e => by
                have := HQ.out
                rw [e, ho] at this
                exact congrArg Prod.fst (Option.some.inj this))
              have HCALL : Hid (∀ X, Below wr.heap.size wr X → Calls Try.prog 48 #[.agg #[.slice (some ⟨bp, op, none⟩) T.ports.length cp, .slice al T.links.length cl, .slice aa T.aces.length ca], .int .i64 (y : Int), .int .i64 (p : Int)] X fun e w' => e = .returned (.tuple #[.int .i64 a2, .int .i64 b2, .bool true]) ∧ Below wr.heap.size wr w') := Lib.hid (fun X kX => by
                have kk := HK7.out.trans ((hK8.trans (kX.mono hK8.size)).mono HK7.out.size)
                refine (rpeer_calls (H0.out.kept kk) kk.size HF.out.small.2.1 (y : Int) (p : Int)).mono ?_
                rintro e w' ⟨he, k⟩
                rw [ho] at he
                exact ⟨he, kX.trans (k.mono kX.size)⟩)
              clear hx8 hw8
              go_upto_region 16 with (fail)
              have hBW := (Below.refl wr.heap.size wr).drew
              have hS := HCELL.out _ hBW
              go_region_held3 (fun w' => w'.cell? ⟨W.heap.size, 0, none⟩ = some (.slice (some ⟨bp, op, none⟩) T.ports.length cp) ∧ w'.cell? ⟨W.heap.size, 1, none⟩ = some (.slice al T.links.length cl) ∧ w'.cell? ⟨W.heap.size, 2, none⟩ = some (.slice aa T.aces.length ca) ∧ w'.cell? ⟨gw, k, none⟩ = some (.int .i64 (y : Int))) (first | assumption) (first | (go_at_call 48; refine Calls.mono (HCALL.out _ (by assumption)) ?_; rintro e w' ⟨rfl, hB'⟩; have hS' := HCELL.out _ hB'))
              have HK9 := Lib.hid (HK8.out.trans (hB'.mono HK8.out.size))
              have hwc := HWC.out w' HK9.out (k + 1) hlt
              rw [← HCV.out] at hwc
              clear hB' hS' hBW hS HCALL
              clear ho
              cases f with
              | true =>
                go_wp2_with (fail)
                go_roundg (gk - 1)
                case measure => omega
                case rel => exact ⟨p + 1, true, by omega, by go_num, rfl, fun _ => rfl, HK9.out⟩
              | false =>
                by_cases ha : a2 = cv
                · subst ha
                  go_wp2_with (fail)
                  go_roundg (gk - 1)
                  case measure => omega
                  case rel => exact ⟨p + 1, true, by omega, by go_num, rfl, fun _ => rfl, HK9.out⟩
                · have ha' : (a2 == cv) = false := beq_eq_false_iff_ne.2 ha
                  have HNA := Lib.hid ha
                  clear ha
                  go_wp2_with (fail)
                  go_roundg (gk - 1)
                  case measure => omega
                  case rel => exact ⟨p + 1, false, by omega, by go_num, rfl, fun h => by rcases Nat.lt_or_ge p0 p with h3 | h3; exact HPF.out h3; exact absurd (HA2.out (by omega)) HNA.out, HK9.out⟩
          · obtain rfl : p = np := by omega
            obtain rfl : f = true := HPF.out HP0.out
            clear hK8
            go_wp2_with (fail)
            go_roundg (gko - 1)
            case measure => omega
            case rel => exact ⟨k + 1 + 1, by omega, by omega, by go_num, HK8.out⟩
      · obtain rfl : i = way.length := by omega
        obtain ⟨n1, hn1⟩ : ∃ n1, way.length = n1 + 1 := ⟨way.length - 1, by omega⟩
        have hn1l : n1 < way.length := by omega
        have hlast : way.getLast? = some way[n1] := by rw [List.getLast?_eq_getElem?, show way.length - 1 = n1 by omega]; exact List.getElem?_eq_getElem hn1l
        have he9 := (hK.block _ (lt_of_block HE7.out)).trans HE7.out
        have HER := Lib.hid he9
        have q0 := cell_of he9 0
        have q1 := cell_of he9 1
        have q2 := cell_of he9 2
        simp only [List.getElem?_toArray, List.getElem?_cons_zero, List.getElem?_cons_succ] at q0 q1 q2
        have HKE := Lib.hid (HK7.out.trans (hK.mono HK7.out.size))
        have HN1 := Lib.hid hn1
        clear he9 hn1 hK hi1
        rcases HWO.out.1.last _ hlast with ⟨_, he, hm⟩ | ⟨hs, he⟩
        · injection he with a1 a2 a3
          subst a1
          subst a3
          rw [← a2] at hm
          obtain ⟨j0, hj0, hj1⟩ := List.mem_iff_getElem.1 hm
          have HJ := Lib.hid hj1
          clear a2 hm hlast hj1
          go_wp2_with (fail)
          generalize gk = gko at *
          go_loopg [122, 21] way.length (fun gk vj vf wz => ∃ (j : Nat) (f : Bool), j + gk = way.length ∧ vj = .int .i64 (j : Int) ∧ vf = .bool f ∧ (j0 < j → f = true) ∧ wz = wr)
          case atStart => exact ⟨0, false, by omega, rfl, rfl, fun h => by omega, rfl⟩
          case round =>
            obtain ⟨j, f, hgk3, rfl, rfl, hpf, rfl⟩ := hrel
            have HPF := Lib.hid hpf
            clear hpf
            by_cases hjl : j < way.length
            · have hwj := HWC.out wr HKR.out j hjl
              have hji : (j : Int) < (way.length : Int) := by omega
              have HWJ : Hid (j0 = j → way[j] = edv) := Lib.hid (fun e => by subst e; exact HJ.out)
              generalize way[j] = xj at *
              cases f with
              | true =>
                go_wp2_with (fail)
                go_roundg (gk - 1)
                case measure => omega
                case rel => exact ⟨j + 1, true, by omega, by go_num, rfl, fun _ => rfl, rfl⟩
              | false =>
                by_cases hx : xj = edv
                · subst hx
                  go_wp2_with (fail)
                  go_roundg (gk - 1)
                  case measure => omega
                  case rel => exact ⟨j + 1, true, by omega, by go_num, rfl, fun _ => rfl, rfl⟩
                · have hx' : (xj == edv) = false := beq_eq_false_iff_ne.2 hx
                  have HNX := Lib.hid hx
                  clear hx
                  go_wp2_with (fail)
                  go_roundg (gk - 1)
                  case measure => omega
                  case rel => exact ⟨j + 1, false, by omega, by go_num, rfl, fun h => by rcases Nat.lt_or_ge j0 j with h3 | h3; exact HPF.out h3; exact absurd (HWJ.out (by omega)) HNX.out, rfl⟩
            · obtain rfl : j = way.length := by omega
              obtain rfl : f = true := HPF.out hj0
              go_wp2_with (fail)
              refine (awake13_calls _).mono ?_
              rintro e w10 ⟨he, k10⟩
              subst he
              have HKF := Lib.hid (HKE.out.trans (k10.mono HKE.out.size))
              have he10 := (k10.block _ (lt_of_block HER.out)).trans HER.out
              have r2 := cell_of he10 2
              simp only [List.getElem?_toArray, List.getElem?_cons_zero, List.getElem?_cons_succ] at r2
              clear k10 he10 q0 q1 q2
              go_wp2_with (fail)
              go_ret
              exact ⟨rfl, HKF.out⟩
        · have hkd := step_kind (T := T) (ls := ls) (h := hv) _ hs
          have hlf := step_left (T := T) (ls := ls) (h := hv) _ hs
          rw [← he] at hkd hlf
          simp only at hkd hlf
          obtain ⟨hk0, hk1⟩ := hkd
          have hwn := HWC.out wr HKR.out n1 hn1l
          rw [← hk1] at hwn hlf
          have hk0' : (ek == 0) = false := beq_eq_false_iff_ne.2 hk0
          have hn1' : (way.length : Int) - 1 = (n1 : Int) := by have := HN1.out; omega
          have hn1i : (n1 : Int) < (way.length : Int) := by omega
          have hn10 : (0 : Int) ≤ (n1 : Int) := by omega
          have hwr : IntKind.i64.wrap ((way.length : Int) - 1) = (n1 : Int) := by rw [IntKind.wrap_i64] <;> omega
          have hwr2 : IntKind.i64.wrap (n1 : Int) = (n1 : Int) := by rw [IntKind.wrap_i64] <;> omega
          clear hs he hk0 hk1 hlast
          by_cases h4 : ek = 4
          · subst h4
            have hpn := hlf rfl
            have hxr := (HKR.out.block _ (lt_of_block HX7.out)).trans HX7.out
            have z0 := cell_of hxr 0
            have z1 := cell_of hxr 1
            have z2 := cell_of hxr 2
            simp only [List.getElem?_toArray, List.getElem?_cons_zero, List.getElem?_cons_succ] at z0 z1 z2
            have hpc := rpeer_calls (H0.out.kept HKE.out) HKE.out.size HF.out.small.2.1 edv ep
            rw [hpn] at hpc
            unfold peerV at hpc
            have HPC := Lib.hid hpc
            have HWN := Lib.hid hwn
            clear hlf hpn hpc hwn
            go_wp2_with (fail)
            refine Calls.mono HPC.out ?_
            rintro e w10 ⟨he, k10⟩
            subst he
            have HKF0 := Lib.hid (HKE.out.trans (k10.mono HKE.out.size))
            have HCELL : Hid (∀ w', Below w10.heap.size w10 w' → w'.cell? ⟨eb, 1, none⟩ = some (.int .i64 edv) ∧ w'.cell? ⟨gw, n1, none⟩ = some (.int .i64 edv)) := Lib.hid (fun X kX => by
              have hb := (kX.block _ (lt_of_block ((k10.block _ (lt_of_block HER.out)).trans HER.out))).trans ((k10.block _ (lt_of_block HER.out)).trans HER.out)
              exact ⟨cell_of hb 1, (Kept.of_below (S := []) kX).cell ((Kept.of_below (S := []) k10).cell HWN.out (by simp)) (by simp)⟩)
            have HAWK : Hid (∀ X, Below w10.heap.size w10 X → Calls Try.prog 44 #[] X fun e w' => e = .returned (.bool true) ∧ Below w10.heap.size w10 w') := Lib.hid (fun X kX => (awake13_calls X).mono (by
              rintro e w' ⟨he, k⟩
              exact ⟨he, kX.trans (k.mono kX.size)⟩))
            clear k10 z0 z1 z2 q0 q1 q2
            go_upto_region 32 with (fail)
            have hBW := (Below.refl w10.heap.size w10).drew
            have hS := HCELL.out _ hBW
            go_region_held3 (fun w' => w'.cell? ⟨eb, 1, none⟩ = some (.int .i64 edv) ∧ w'.cell? ⟨gw, n1, none⟩ = some (.int .i64 edv)) (first | assumption) (first | (go_at_call 44; refine Calls.mono (HAWK.out _ (by assumption)) ?_; rintro e w' ⟨rfl, hB'⟩; have hS' := HCELL.out _ hB'))
            have HKF := Lib.hid (HKF0.out.trans (hB'.mono HKF0.out.size))
            clear hB' hS' hBW hS
            go_wp2_with (fail)
            go_ret
            exact ⟨rfl, HKF.out⟩
          · have h4' : (ek == 4) = false := beq_eq_false_iff_ne.2 h4
            have HWN := Lib.hid hwn
            have HCELL : Hid (∀ w', Below wr.heap.size wr w' → w'.cell? ⟨eb, 1, none⟩ = some (.int .i64 edv) ∧ w'.cell? ⟨gw, n1, none⟩ = some (.int .i64 edv)) := Lib.hid (fun X kX => by
              have hb := (kX.block _ (lt_of_block HER.out)).trans HER.out
              exact ⟨cell_of hb 1, (Kept.of_below (S := []) kX).cell HWN.out (by simp)⟩)
            have HAWK : Hid (∀ X, Below wr.heap.size wr X → Calls Try.prog 44 #[] X fun e w' => e = .returned (.bool true) ∧ Below wr.heap.size wr w') := Lib.hid (fun X kX => (awake13_calls X).mono (by
              rintro e w' ⟨he, k⟩
              exact ⟨he, kX.trans (k.mono kX.size)⟩))
            clear hlf hwn h4
            go_upto_region 33 with (fail)
            clear q0 q1 q2
            have hBW := (Below.refl wr.heap.size wr).drew
            have hS := HCELL.out _ hBW
            go_region_held3 (fun w' => w'.cell? ⟨eb, 1, none⟩ = some (.int .i64 edv) ∧ w'.cell? ⟨gw, n1, none⟩ = some (.int .i64 edv)) (first | assumption) (first | (go_at_call 44; refine Calls.mono (HAWK.out _ (by assumption)) ?_; rintro e w' ⟨rfl, hB'⟩; have hS' := HCELL.out _ hB'))
            have HKF := Lib.hid (HKE.out.trans (hB'.mono HKE.out.size))
            clear hB' hS' hBW hS
            go_wp2_with (fail)
            go_ret
            exact ⟨rfl, HKF.out⟩

theorem hops13_row {W : World} (v0 v1 : Value) (a : Int) (v3 : Value) (h0 : ArgTp W v0) (h1 : ArgOps W v1) (h2 : (Lit.int .i64 a).wf = true) (h3 : ArgHv v3) :
    Calls Try.prog 13 #[v0, v1, .int .i64 a, v3] W fun e w' => e = .returned (.bool true) ∧ Below W.heap.size W w' := by
  obtain ⟨T, vp, vl, va, rfl, h0⟩ := h0
  obtain ⟨ops, h1⟩ := ops_in h1
  obtain ⟨hv, hh, rfl⟩ := h3
  exact hops13_calls h0 h1 a hv hh
end Go.Proofs.Ytiedhjmnjpkcoaa
