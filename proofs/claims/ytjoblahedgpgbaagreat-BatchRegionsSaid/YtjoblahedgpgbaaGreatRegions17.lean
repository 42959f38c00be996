/- The law BatchRegions. -/
import Derived.Test.YtjoblahedgpgbaaGreatRPrefW
import Derived.Test.YtjoblahedgpgbaaGreatRegA
import Derived.Test.YtjoblahedgpgbaaGreatRTraceW
import Derived.Test.YtjoblahedgpgbaaGreatAwake17
import Derived.Test.YtjoblahedgpgbaaGreatJoinP
import Derived.Test.YtjoblahedgpgbaaGreatArgsT
namespace Go.Proofs.YtjoblahedgpgbaaGreat
set_option linter.unusedVariables false
set_option linter.unusedSimpArgs false
open Go.RowKit Go.Maps

theorem ints_shape {w : World} {B n : Nat} {v : Value} {xs : List Value} (h : w.ownsRow B 3 1 v n xs) : ∃ ao cap, v = .slice ao n cap ∧ ∀ i, i < n → ∃ g, ao = some ⟨g, 0, none⟩ := by
  rcases h.2 with ⟨h0, h1⟩ | ⟨g', cap', cur, h0, _⟩
  · exact ⟨none, 0, by rw [h0, h1], fun i hi => by omega⟩
  · exact ⟨_, cap', h0, fun _ _ => ⟨g', rfl⟩⟩
theorem fine_of17 {T : Tp} (h : fineT T = true) : Fine T := by
  unfold fineT at h
  rw [Bool.and_eq_true] at h
  exact ⟨h.1, of_decide_eq_true h.2⟩
theorem tr_eq (a b c : Int) (w : World) : (Op.equalIn 10000 52 (.agg #[.int .i64 a, .int .i64 b, .int .i64 c]) (.agg #[.int .i64 a, .int .i64 b, .int .i64 c])).run Tryz.prog w = .ok true w := by
  obtain ⟨i0, hi, _⟩ := info_parts int_inf2
  have hc : Tryz.prog.cellsOf 3 = 1 := by kernel_rfl
  have n0 := notAggI w
  rw [run_equalIn_array w 9999 _ _ Tryz.underlying52 hi, hc, show List.range 3 = [0, 1, 2] from rfl]
  simp [Op.eqItems, Sem.run_bind, part, n0, eq_int1]
theorem tchL_len {s : Nat} (hs : s ≤ 3) {p : Pf} (hp : p.addr < 2 ^ 32) (hr : rtB p = true) : (tchL s p).length ≤ 8 := by
  unfold tchL
  rw [if_pos hr, runN_length]
  have hll : lastN p.addr p.bits.toNat < 2 ^ 32 := by
    obtain ⟨h0, h1, h2⟩ := (rtB_iff p).1 hr
    have := right_last hp (n := p.bits.toNat) (by omega) h2
    have hz := Nat.two_pow_pos (32 - p.bits.toNat)
    unfold lastN
    omega
  have h1 := ridx_lt (s := s) (by omega) hll
  have h2 : 2 ^ s ≤ 2 ^ 3 := Nat.pow_le_pow_right (by omega) hs
  omega
theorem allTo_at {s : Nat} {ps : List Pf} {i : Nat} (h : (ps.any fun p => tchB s p i) = true) : ∀ c, i < c → (allTo s ps c)[(allTo s ps i).length]? = some i
  | 0, hc => absurd hc (Nat.not_lt_zero _)
  | c + 1, hc => by
    rw [allTo_succ]
    by_cases e : i = c
    · subst e
      rw [if_pos h]
      simp
    · have ih := allTo_at h c (by omega)
      split
      · rw [List.getElem?_append_left (List.getElem?_eq_some_iff.1 ih).1]
        exact ih
      · exact ih
def RowsQ (w7 wq : World) (ps : List Pf) (u v : Value) : Prop := (wq.ownsRow w7.heap.size 48 2 u ps.length (pfCells ps) ∧ wq.ownsRow w7.heap.size 48 2 v ps.length (pfCells ps)) ∧ Below w7.heap.size w7 wq
theorem RowsQ.swap {w7 wq : World} {ps : List Pf} {u v : Value} (h : RowsQ w7 wq ps u v) : RowsQ w7 wq ps v u := ⟨⟨h.1.2, h.1.1⟩, h.2⟩
theorem RowsQ.two {w7 wA wB : World} {ps : List Pf} {u v : Value} (hB : Below w7.heap.size w7 wA) (hu : wA.ownsRow w7.heap.size 48 2 u ps.length (pfCells ps)) (hv : wB.ownsRow wA.heap.size 48 2 v ps.length (pfCells ps)) (k : Below wA.heap.size wA wB) : RowsQ w7 wB ps u v :=
  ⟨⟨own_kept hu (Kept.of_below (S := []) k) (by simp), World.ownsRow.mono hv hB.size⟩, hB.trans (k.mono hB.size)⟩
set_option maxRecDepth 100000 in
set_option maxHeartbeats 16000000 in
theorem regions17_calls {W : World} {vp vl va v1 v2 : Value} {T : Tp} {ops more : List Op} (h0 : TpIn W.heap.size W vp vl va T) (h1 : OpsIn W v1 ops) (h2 : OpsIn W v2 more) (sz : Int) (hv : Hv) (hh : hv.Wf) (dd : Int) :
    Calls Tryz.prog 3 #[.agg #[vp, vl, va], v1, v2, .int .i64 sz, hv.val, .int .i64 dd] W fun e w' => e = .returned (.bool true) ∧ Below W.heap.size W w' := by
  have H0 := Lib.hid h0
  have H1 := Lib.hid h1
  have H2 := Lib.hid h2
  have HHW := Lib.hid hh
  obtain ⟨ap, cp, rfl, _⟩ := h0.ports
  obtain ⟨al, cl, rfl, _⟩ := h0.links
  obtain ⟨aa, ca, rfl, _⟩ := h0.aces
  obtain ⟨ao1, cap1, rfl, _⟩ := h1.val
  obtain ⟨ao2, cap2, rfl, _⟩ := h2.val
  clear h0 h1 h2 hh
  unfold Hv.val
  have two := two_new17 W (.cells #[.slice ap T.ports.length cp, .slice al T.links.length cl, .slice aa T.aces.length ca] 26) (.cells #[.int .u32 (hv.dst : Int), .int .u32 (hv.src : Int), .int .u8 (hv.proto : Int), .int .u16 (hv.sport : Int), .int .u16 (hv.dport : Int)] 31)
  have HX1 := Lib.hid two.1
  have HH1 := Lib.hid two.2.1
  have HK1 := Lib.hid two.2.2
  clear two
  go_enter Tryz.func3, Tryz.ntmps3
  go_upto_region 1 with (fail)
  generalize (W.alloc (.cells #[.slice ap T.ports.length cp, .slice al T.links.length cl, .slice aa T.aces.length ca] 26)).alloc (.cells #[.int .u32 (hv.dst : Int), .int .u32 (hv.src : Int), .int .u8 (hv.proto : Int), .int .u16 (hv.sport : Int), .int .u16 (hv.dport : Int)] 31) = w1 at *
  have z0 := cell_of HX1.out 0
  have z1 := cell_of HX1.out 1
  have z2 := cell_of HX1.out 2
  simp only [List.getElem?_toArray, List.getElem?_cons_zero, List.getElem?_cons_succ] at z0 z1 z2
  have HLI := Lib.hid (light13_calls (H0.out.kept HK1.out) HK1.out.size)
  obtain ⟨ft, hft⟩ : ∃ ft, ft = fineT T := ⟨_, rfl⟩
  rw [← hft] at HLI
  have HFT := Lib.hid hft
  clear hft
  go_wp2_with (fail)
  refine Calls.mono HLI.out ?_
  rintro e w2 ⟨he, k2⟩
  subst he
  have HK2 := Lib.hid (HK1.out.trans (k2.mono HK1.out.size))
  have HX2 := Lib.hid ((k2.block _ (lt_of_block HX1.out)).trans HX1.out)
  have HH2 := Lib.hid ((k2.block _ (lt_of_block HH1.out)).trans HH1.out)
  clear k2 z0 z1 z2
  have z0 := cell_of HX2.out 0
  have z1 := cell_of HX2.out 1
  have z2 := cell_of HX2.out 2
  simp only [List.getElem?_toArray, List.getElem?_cons_zero, List.getElem?_cons_succ] at z0 z1 z2
  cases ft with
  | false =>
    go_wp2_with (fail)
    refine (awake17_calls _).mono ?_
    rintro e w3 ⟨he, kw3⟩
    subst he
    have Kw3 := Lib.hid (HK2.out.trans (kw3.mono HK2.out.size))
    clear kw3
    go_wp2_with (fail)
    go_ret
    exact ⟨rfl, Kw3.out⟩
  | true =>
    rcases Nat.lt_or_ge 60 ops.length with hb | hb
    · have hb' : decide ((60 : Int) < (ops.length : Int)) = true := decide_eq_true (by omega)
      clear hb
      go_wp2_with (fail)
      refine (awake17_calls _).mono ?_
      rintro e w3 ⟨he, kw3⟩
      subst he
      have Kw3 := Lib.hid (HK2.out.trans (kw3.mono HK2.out.size))
      clear kw3
      go_wp2_with (fail)
      go_ret
      exact ⟨rfl, Kw3.out⟩
    have hb' : decide ((60 : Int) < (ops.length : Int)) = false := decide_eq_false (by omega)
    rcases Nat.lt_or_ge 32 more.length with hm | hm
    · have hm' : decide ((32 : Int) < (more.length : Int)) = true := decide_eq_true (by omega)
      clear hb hm
      go_wp2_with (fail)
      refine (awake17_calls _).mono ?_
      rintro e w3 ⟨he, kw3⟩
      subst he
      have Kw3 := Lib.hid (HK2.out.trans (kw3.mono HK2.out.size))
      clear kw3
      go_wp2_with (fail)
      go_ret
      exact ⟨rfl, Kw3.out⟩
    have hm' : decide ((32 : Int) < (more.length : Int)) = false := decide_eq_false (by omega)
    rcases (by omega : dd < 0 ∨ 0 ≤ dd) with hd | hd
    · have hd' : decide (dd < (0 : Int)) = true := decide_eq_true hd
      clear hb hm hd
      go_wp2_with (fail)
      refine (awake17_calls _).mono ?_
      rintro e w3 ⟨he, kw3⟩
      subst he
      have Kw3 := Lib.hid (HK2.out.trans (kw3.mono HK2.out.size))
      clear kw3
      go_wp2_with (fail)
      go_ret
      exact ⟨rfl, Kw3.out⟩
    have hd' : decide (dd < (0 : Int)) = false := decide_eq_false (by omega)
    rcases (by omega : dd < (T.ports.length : Int) ∨ (T.ports.length : Int) ≤ dd) with hp | hp
    rotate_left
    · have hp' : decide ((T.ports.length : Int) ≤ dd) = true := decide_eq_true hp
      clear hb hm hd hp
      go_wp2_with (fail)
      refine (awake17_calls _).mono ?_
      rintro e w3 ⟨he, kw3⟩
      subst he
      have Kw3 := Lib.hid (HK2.out.trans (kw3.mono HK2.out.size))
      clear kw3
      go_wp2_with (fail)
      go_ret
      exact ⟨rfl, Kw3.out⟩
    have hp' : decide ((T.ports.length : Int) ≤ dd) = false := decide_eq_false (by omega)
    have HDI := Lib.hid (And.intro hd hp)
    have HBM := Lib.hid (And.intro hb hm)
    clear hd hp hb hm
    go_wp2_with (fail)
    refine Calls.mono (rgcount_calls _ _) ?_
    rintro e w3 ⟨he, hw⟩
    subst he
    have hw := hw.symm
    subst hw
    by_cases hc : rcount sz = 0
    · have hc' : ((rcount sz : Int) == 0) = true := by rw [hc]; rfl
      clear hc
      go_wp2_with (fail)
      refine (awake17_calls _).mono ?_
      rintro e w3 ⟨he, kw3⟩
      subst he
      have Kw3 := Lib.hid (HK2.out.trans (kw3.mono HK2.out.size))
      clear kw3
      go_wp2_with (fail)
      go_ret
      exact ⟨rfl, Kw3.out⟩
    have hc' : ((rcount sz : Int) == 0) = false := beq_eq_false_iff_ne.2 (by omega)
    obtain ⟨s, rfl, hs⟩ := rcount_ne hc
    have HPOW := Lib.hid (rcount_pow hs)
    have hfine : lightT T = true ∧ checkT T = 0 := by
      have := HFT.out
      unfold fineT at this
      have h2 := this.symm
      rw [Bool.and_eq_true] at h2
      exact ⟨h2.1, of_decide_eq_true h2.2⟩
    have HF := Lib.hid hfine
    have HPL : Hid (0 < T.ports.length ∧ T.ports.length ≤ 40) := Lib.hid (by
      refine ⟨?_, ((lightT_iff T).1 hfine.1).1⟩
      have hc := hfine.2
      unfold checkT at hc
      split at hc
      · cases hc
      · omega)
    clear hfine hc
    have HMD := Lib.hid (made13_calls (H0.out.kept HK2.out) HK2.out.size HF.out.1 HF.out.2 (H1.out.next HK2.out) HBM.out.1)
    go_wp2_with (fail)
    refine Calls.mono HMD.out ?_
    rintro e w4 ⟨nb, vt, vr, ts, rs, ls, he, hD, hLs, k4⟩
    obtain ⟨ar, cr, rfl, _, _⟩ := hD.doc.shape
    subst he
    have HOK : Hid (NetOk T.ports (TD.Ls ts) ∧ lenT (TD.Ls ts) ≤ 60) := Lib.hid (by
      rw [hLs]
      exact ⟨madeS_ok _ _, Nat.le_trans (madeS_len _ _) HBM.out.1⟩)
    have hka := (Below.refl w4.heap.size w4).alloc (Nat.le_refl _) (.cells #[.slice ap T.ports.length cp, .slice al T.links.length cl, .slice aa T.aces.length ca, .slice ar ls.length cr] 38)
    have HD5 := Lib.hid (hD.below hka)
    have hk4 := HK2.out.trans (k4.mono HK2.out.size)
    have HK5 := Lib.hid (hk4.trans (hka.mono hk4.size))
    have HM5 := Lib.hid (heap_alloc_new w4 (.cells #[.slice ap T.ports.length cp, .slice al T.links.length cl, .slice aa T.aces.length ca, .slice ar ls.length cr] 38))
    have HLO5 : Hid (w2.heap.size ≤ w4.heap.size) := Lib.hid k4.size
    have HH5 := Lib.hid (blk_alloc ((k4.block _ (lt_of_block HH2.out)).trans HH2.out) (.cells #[.slice ap T.ports.length cp, .slice al T.links.length cl, .slice aa T.aces.length ca, .slice ar ls.length cr] 38))
    have HOKL : Hid (OkL (TD.Ls ts)) := Lib.hid (fun L hL => by
      obtain ⟨t, ht, rfl⟩ := List.mem_map.1 hL
      exact (hD.net.tab t ht).ok)
    clear hD hLs k4 hka hk4 z0 z1 z2 HMD
    go_upto_region 6 with (fail)
    generalize w4.alloc (.cells #[.slice ap T.ports.length cp, .slice al T.links.length cl, .slice aa T.aces.length ca, .slice ar ls.length cr] 38) = w5 at *
    obtain ⟨Lx, at_, er, hres⟩ : ∃ Lx at_ er, batchS T.ports more (TD.Ls ts) = (Lx, at_, er) := ⟨_, _, _, rfl⟩
    have HRA := Lib.hid (rapply_calls HD5.out.doc HD5.out.pair (H0.out.kept HK5.out) HK5.out.size (Nat.le_trans HLO5.out (Nat.le_of_lt (lt_of_block HM5.out))) HOK.out.1 HPL.out.1 HPL.out.2 (by have := HOK.out.2; omega) (H2.out.next HK5.out))
    unfold RBPost at HRA
    rw [hres] at HRA
    simp only at HRA
    have HRES := Lib.hid hres
    clear hres
    have m0 := cell_of HM5.out 0
    have m1 := cell_of HM5.out 1
    have m2 := cell_of HM5.out 2
    have m3 := cell_of HM5.out 3
    simp only [List.getElem?_toArray, List.getElem?_cons_zero, List.getElem?_cons_succ] at m0 m1 m2 m3
    go_wp2_with (fail)
    refine Calls.mono HRA.out ?_
    rintro e w6 ⟨vy, rs', ls', he, hR6, hp6, hf6, k6⟩
    obtain ⟨ay, cy, rfl, _, _⟩ := hR6.shape
    subst he
    have hka := (Below.refl w6.heap.size w6).alloc (Nat.le_refl _) (.cells #[.slice ap T.ports.length cp, .slice al T.links.length cl, .slice aa T.aces.length ca, .slice ay ls'.length cy] 38)
    have H57 := Lib.hid (k6.trans (hka.mono k6.size))
    have HK7 := Lib.hid (HK5.out.trans (H57.out.mono HK5.out.size))
    have HR7 := Lib.hid (hR6.below hka)
    have HP7 := Lib.hid hp6
    have HY7 := Lib.hid (heap_alloc_new w6 (.cells #[.slice ap T.ports.length cp, .slice al T.links.length cl, .slice aa T.aces.length ca, .slice ay ls'.length cy] 38))
    have HM7 := Lib.hid ((H57.out.block _ (lt_of_block HM5.out)).trans HM5.out)
    have HH7 := Lib.hid ((H57.out.block _ (lt_of_block HH5.out)).trans HH5.out)
    have HD7 := Lib.hid (HD5.out.below H57.out)
    clear hR6 hp6 hf6 k6 hka m0 m1 m2 m3 HRA
    go_upto_region 7 with (fail)
    generalize w6.alloc (.cells #[.slice ap T.ports.length cp, .slice al T.links.length cl, .slice aa T.aces.length ca, .slice ay ls'.length cy] 38) = w7 at *
    by_cases her : er = 0
    rotate_left
    · have hne : (er == 0) = false := beq_eq_false_iff_ne.2 her
      clear her
      go_wp2_with (fail)
      refine (awake17_calls _).mono ?_
      rintro e w3 ⟨he, kw3⟩
      subst he
      have Kw3 := Lib.hid (HK7.out.trans (kw3.mono HK7.out.size))
      clear kw3
      go_wp2_with (fail)
      go_ret
      exact ⟨rfl, Kw3.out⟩
    subst her
    have HAPP : Hid ((appS T.ports more 0 (TD.Ls ts)).2.2 = 0 ∧ (appS T.ports more 0 (TD.Ls ts)).1 = Lx) := Lib.hid (by
      have h1 := HRES.out
      have h2 := batchS_one (ports := T.ports) (l := more) (Ls := TD.Ls ts) (by rw [h1])
      rw [batchS_app h2.1 h2.2] at h1
      rw [h1]
      exact ⟨rfl, rfl⟩)
    have hwf2 : ∀ o ∈ more, o.rule.Wf := H2.out.1
    obtain ⟨hrt, hokx⟩ := doc_right more 0 (TD.Ls ts) hwf2 HOKL.out HAPP.out.1
    obtain ⟨ps, hps⟩ : ∃ ps, ps = docS T.ports (TD.Ls ts) more := ⟨_, rfl⟩
    have hpre : preS (TD.Ls ts) (fun _ => none) more = ps := by
      rw [hps]
      exact pre_doc (TD.Ls ts) HOK.out.1 more 0 (TD.Ls ts) (fun _ => none) HOK.out.1 HD7.out.pair.netI HAPP.out.1 (fun x r h => Or.inr ⟨rfl, h⟩)
    have hpl : ps.length = more.length := by rw [hps, docS_len]
    rw [← hps] at hrt
    have HRT := Lib.hid hrt
    have HPS := Lib.hid (And.intro hps hpl)
    have htl : ts.length ≤ 40 := by
      have h1 := HOK.out.1.len
      have h2 := HPL.out.2
      simp [TD.Ls] at h1
      omega
    have HBP : Hid (∀ X, Below w7.heap.size w7 X → Calls Tryz.prog 20 #[.pointer (some ⟨nb, 0, none⟩), .slice ao2 more.length cap2] X (PfsPost X ps)) := Lib.hid (fun X kX => by
      rw [← hpre]
      exact bprefixes_calls (HD7.out.net.below kX) htl (H2.out.next (HK7.out.trans (kX.mono HK7.out.size))) (by have := HBM.out.2; omega))
    have HRP : Hid (∀ X, Below w7.heap.size w7 X → Calls Tryz.prog 21 #[.agg #[.slice ap T.ports.length cp, .slice al T.links.length cl, .slice aa T.aces.length ca, .slice ar ls.length cr], .slice ao2 more.length cap2] X (PfsPost X ps)) := Lib.hid (fun X kX => by
      rw [hps]
      have kw := HK7.out.trans (kX.mono HK7.out.size)
      exact rprefixes_calls (HD7.out.doc.below kX) HD7.out.pair (H0.out.kept kw) kw.size (Nat.le_trans (Nat.le_trans HLO5.out (Nat.le_of_lt (lt_of_block HM5.out))) (Nat.le_trans H57.out.size kX.size)) HOK.out.1 HPL.out.1 HPL.out.2 (by have := HOK.out.2; omega) (H2.out.next kw) (by have := HBM.out.2; omega))
    have HRG : Hid (∀ X, Below w7.heap.size w7 X → Calls Tryz.prog 23 #[.pointer (some ⟨nb, 0, none⟩), .slice ao2 more.length cap2, .int .i64 (s : Int)] X (IntsPost X (allR s ps))) := Lib.hid (fun X kX => by
      have h := bregions_calls (HD7.out.net.below kX) htl (H2.out.next (HK7.out.trans (kX.mono HK7.out.size))) (by have := HBM.out.2; omega) (by rw [hpre]; exact hrt) (by rw [hpre, hpl]; have := HBM.out.2; omega) s hs
      rw [hpre] at h
      exact h)
    have HOX := Lib.hid hokx
    clear hwf2 hrt hokx hps hpl hpre htl
    go_upto_region 9 with (fail)
    refine (have KEY : ∀ (vA vB : Value) (wq : World), RowsQ w7 wq ps vA vB → (?PP : Value → Value → World → Prop) vA vB wq := ?hkey; ?main)
    case main =>
      have hB0 := (Below.refl w7.heap.size w7).drew
      have m0 := cell_of HM7.out 0
      have m1 := cell_of HM7.out 1
      have m2 := cell_of HM7.out 2
      have m3 := cell_of HM7.out 3
      simp only [List.getElem?_toArray, List.getElem?_cons_zero, List.getElem?_cons_succ] at m0 m1 m2 m3
      go_region_law (first | (go_simp; go_at_call 20; refine Calls.mono (HBP.out wA hB1) ?_; rintro e wB ⟨vA, he, ho, k⟩; subst he; have HQ := Lib.hid (RowsQ.two hB1 HO1.out ho k).swap; clear ho k) | (go_simp; go_at_call 21; refine Calls.mono (HRP.out wA hB1) ?_; rintro e wB ⟨vB, he, ho, k⟩; subst he; have HQ := Lib.hid (RowsQ.two hB1 HO1.out ho k); clear ho k) | (go_simp; go_at_call 20; refine Calls.mono (HBP.out w7.drew hB0) ?_; rintro e wA ⟨vA, he, ho, k⟩; subst he; have hB1 := hB0.trans (k.mono hB0.size); have HO1 := Lib.hid (World.ownsRow.mono ho hB0.size); have n0 := cell_of ((hB1.block _ (lt_of_block HM7.out)).trans HM7.out) 0; have n1 := cell_of ((hB1.block _ (lt_of_block HM7.out)).trans HM7.out) 1; have n2 := cell_of ((hB1.block _ (lt_of_block HM7.out)).trans HM7.out) 2; have n3 := cell_of ((hB1.block _ (lt_of_block HM7.out)).trans HM7.out) 3; simp only [List.getElem?_toArray, List.getElem?_cons_zero, List.getElem?_cons_succ] at n0 n1 n2 n3; clear ho k) | (go_simp; go_at_call 21; refine Calls.mono (HRP.out w7.drew hB0) ?_; rintro e wA ⟨vB, he, ho, k⟩; subst he; have hB1 := hB0.trans (k.mono hB0.size); have HO1 := Lib.hid (World.ownsRow.mono ho hB0.size); have n0 := cell_of ((hB1.block _ (lt_of_block HM7.out)).trans HM7.out) 0; have n1 := cell_of ((hB1.block _ (lt_of_block HM7.out)).trans HM7.out) 1; have n2 := cell_of ((hB1.block _ (lt_of_block HM7.out)).trans HM7.out) 2; have n3 := cell_of ((hB1.block _ (lt_of_block HM7.out)).trans HM7.out) 3; simp only [List.getElem?_toArray, List.getElem?_cons_zero, List.getElem?_cons_succ] at n0 n1 n2 n3; clear ho k))
      all_goals
        go_simp
        exact KEY vA vB wB HQ.out
    case hkey =>
      intro vA vB w9 hq
      obtain ⟨⟨hA, hB⟩, hk9⟩ := hq
      have HA : Hid (PfRow w9 w7.heap.size vA ps) := Lib.hid ⟨HRT.out, hA⟩
      have HB : Hid (PfRow w9 w7.heap.size vB ps) := Lib.hid ⟨HRT.out, hB⟩
      have HK79 := Lib.hid hk9
      have HK9 := Lib.hid (HK7.out.trans (hk9.mono HK7.out.size))
      clear hA hB hk9
      obtain ⟨aA, cA, rfl, hgA⟩ := HA.out.shape
      obtain ⟨aB, cB, rfl, hgB⟩ := HB.out.shape
      have HGA := Lib.hid hgA
      have HGB := Lib.hid hgB
      clear hgA hgB
      obtain ⟨n, hn⟩ : ∃ n, n = rcount (s : Int) := ⟨_, rfl⟩
      have HN : Hid (n = 2 ^ s ∧ n ≤ 8) := Lib.hid (by
        have h1 := HPOW.out
        have h2 : 2 ^ s ≤ 2 ^ 3 := Nat.pow_le_pow_right (by omega) hs
        omega)
      have HNN := Lib.hid hn
      clear hn
      have hmk := make_boolsT n (by have := HN.out.2; omega)
      go_wp2_with (go_at_call 16; refine Calls.mono (rgcount_calls _ _) ?_; rintro e w10 ⟨he, hw⟩; rw [← HNN.out] at he; subst he; have hw := hw.symm; subst hw)
      clear hmk hc'
      have HFL := Lib.hid (bools_made n (by have := HN.out.2; omega) (W := w9) (Nat.le_refl _))
      have HKF := Lib.hid ((Below.refl w9.heap.size w9).alloc (Nat.le_refl _) (falseRow n))
      have HZF : Hid (w9.heap.size < (w9.alloc (falseRow n)).heap.size) := Lib.hid (by simp)
      generalize w9.alloc (falseRow n) = w10 at *
      go_loopg [98] ps.length (fun gk vi wr => ∃ i : Nat, i + gk = ps.length ∧ vi = .int .i64 (i : Int) ∧ wr.ownsRow w9.heap.size 4 1 (.slice (some ⟨w9.heap.size, 0, none⟩) n n) n (flagsW n (marks s (ps.take i))) ∧ Below w9.heap.size w9 wr ∧ w9.heap.size < wr.heap.size)
      case atStart => exact ⟨0, by omega, rfl, HFL.out, HKF.out, HZF.out⟩
      case round =>
        obtain ⟨i, hgk, rfl, how, hK, hz⟩ := hrel
        have HOW := Lib.hid how
        have HKR := Lib.hid hK
        have HZR := Lib.hid hz
        clear how hz
        by_cases hlt : i < ps.length
        · obtain ⟨gA, hg⟩ := HGA.out i hlt
          subst hg
          obtain ⟨gB, hg⟩ := HGB.out i hlt
          subst hg
          have hcc := pfCells_at ps i hlt
          have hrA := own_kept HA.out.2 (Kept.of_below (S := []) hK) (by simp)
          have hrB := own_kept HB.out.2 (Kept.of_below (S := []) hK) (by simp)
          have d0 := (hrA.cellAt (i * 2) (by omega)).trans hcc.1
          have d1 := (hrA.cellAt (i * 2 + 1) (by omega)).trans hcc.2
          have e0 := (hrB.cellAt (i * 2) (by omega)).trans hcc.1
          have e1 := (hrB.cellAt (i * 2 + 1) (by omega)).trans hcc.2
          obtain ⟨hp, hr⟩ := HRT.out _ (List.getElem_mem hlt)
          have HMT := Lib.hid (marks_take (s := s) hlt)
          have HTM : Hid (∀ x ∈ tchL s ps[i], x < n) := Lib.hid (fun x hx => by rw [HN.out.1]; exact tchL_lt hs hp hr hx)
          have hil : (i : Int) < (ps.length : Int) := by omega
          have hpl := HPS.out.2
          have hml := HBM.out.2
          have hw1 : IntKind.i64.wrap ((i : Int) + 1) = ((i + 1 : Nat) : Int) := by rw [IntWalk.i64_in _ (by omega)]; omega
          have HG0 : Hid (0 < gk ∧ i + gk = ps.length) := Lib.hid (by omega)
          clear hK hcc hrA hrB hpl hml hgk
          generalize ps[i] = p at *
          have HTC := Lib.hid (fun X => rgtouched_calls X s hs p hp)
          have HTL := Lib.hid (tchL_len hs hp hr)
          obtain ⟨a, b⟩ := p
          simp only at d0 d1 e0 e1 hp
          clear hp hr
          go_wp2_with (fail)
          go_region
          go_wp2_with (fail)
          refine Calls.mono (HTC.out _) ?_
          rintro e w11 ⟨vo, he, ho, k11⟩
          subst he
          obtain ⟨aL, cL, rfl, hgL⟩ := ints_shape ho
          obtain ⟨L, hL⟩ : ∃ L, L = tchL s ⟨a, b⟩ := ⟨_, rfl⟩
          rw [← hL] at ho hgL HTM HMT
          rw [← hL]
          have hLn : L.length ≤ 8 := by rw [hL]; exact HTL.out
          have hd : wr.drew.heap.size = wr.heap.size := rfl
          have k11 : Below wr.heap.size wr w11 := (Below.refl wr.heap.size wr).drew.trans k11
          have HW11 := Lib.hid (own_kept HOW.out (Kept.of_below (S := []) k11) (by simp))
          have HL11 : Hid (w11.ownsRow wr.heap.size 3 1 (.slice aL L.length cL) L.length (L.map nat64)) := Lib.hid ho
          have HGL := Lib.hid hgL
          have HK11 := Lib.hid (HKR.out.trans (k11.mono HKR.out.size))
          clear d0 d1 e0 e1 HTC ho hgL k11 hL
          generalize wr = wo at *
          generalize gk = go at *
          go_wp2_with (fail)
          go_loopg [117] L.length (fun gk vi wr => ∃ j : Nat, j + gk = L.length ∧ vi = .int .i64 (j : Int) ∧ wr.ownsRow w9.heap.size 4 1 (.slice (some ⟨w9.heap.size, 0, none⟩) n n) n (flagsW n (marks s (ps.take i) ++ (L.take j).map Int.ofNat)) ∧ Below w9.heap.size w9 wr ∧ wr.ownsRow wo.heap.size 3 1 (.slice aL L.length cL) L.length (L.map nat64))
          case atStart => exact ⟨0, by omega, rfl, by simpa using HW11.out, HK11.out, HL11.out⟩
          case round =>
            obtain ⟨j, hgj, rfl, how, hK, hl⟩ := hrel
            have HOJ := Lib.hid how
            have HKJ := Lib.hid hK
            have HLJ := Lib.hid hl
            by_cases hlj : j < L.length
            · obtain ⟨gL, hg⟩ := HGL.out j hlj
              subst hg
              have hx := HTM.out _ (List.getElem_mem hlj)
              have d0 := hl.cellAt (j * 1) (by omega)
              rw [Nat.mul_one, List.getElem?_map, List.getElem?_eq_getElem hlj] at d0
              have HTJ : Hid (L.take (j + 1) = L.take j ++ [L[j]]) := Lib.hid (by rw [List.take_add_one, List.getElem?_eq_getElem hlj]; rfl)
              generalize L[j] = x at *
              replace d0 : wr.cell? ⟨gL, j, none⟩ = some (.int .i64 (x : Int)) := d0
              have f0 := how.cellAt (x * 1) (by omega)
              rw [Nat.mul_one, flagsW_get _ hx] at f0
              have f1 := how.frozenAt x
              have hxi : (x : Int) < (n : Int) := by omega
              have hjl : (j : Int) < (L.length : Int) := by omega
              have hw2 : IntKind.i64.wrap ((j : Int) + 1) = ((j + 1 : Nat) : Int) := by rw [IntWalk.i64_in _ (by omega)]; omega
              have HGJ : Hid (0 < gk ∧ j + gk = L.length) := Lib.hid (by omega)
              clear how hK hl hgj hx
              go_wp2_with (fail)
              go_roundg (gk - 1)
              case measure => have := HGJ.out; omega
              case rel =>
                have hk3 : Kept [w9.heap.size] wr (wr.setCell ⟨w9.heap.size, x, none⟩ (.bool true)) := Kept.of_setCell wr ⟨w9.heap.size, x, none⟩ _
                have hsn3 := (HOJ.out.stored x (.bool true)).1
                rw [flagsW_set, List.append_assoc] at hsn3
                refine ⟨j + 1, by have := HGJ.out; omega, rfl, by rw [HTJ.out, List.map_append]; exact hsn3, HKJ.out.trans (hk3.below HKJ.out.size (by simp)), own_kept HLJ.out hk3 (fun g hg hm => by have := own_pastT HLJ.out g hg; have := List.mem_singleton.1 hm; have := HZR.out; omega)⟩
            · obtain rfl : j = L.length := by omega
              rw [List.take_length] at how
              have HOE := Lib.hid how
              clear how hK hl hgj
              go_wp2_with (fail)
              go_roundg (go - 1)
              case measure => have := HG0.out; omega
              case rel => exact ⟨i + 1, by have := HG0.out; omega, rfl, by rw [HMT.out]; exact HOE.out, HKJ.out, by have := HKJ.out.size; have := own_inN HOE.out (g := w9.heap.size) rfl; omega⟩
        · obtain rfl : i = ps.length := by omega
          rw [List.take_length] at HOW
          clear hK hgk
          have HRGC := HRG.out wr (HK79.out.trans (HKR.out.mono HK79.out.size))
          go_wp2_with (fail)
          refine Calls.mono HRGC ?_
          rintro e w11 ⟨vo, he, ho, k11⟩
          subst he
          obtain ⟨aG, cG, rfl, hgG⟩ := ints_shape ho
          have HGG := Lib.hid hgG
          have HK11 := Lib.hid (HKR.out.trans (k11.mono HKR.out.size))
          have HOB := Lib.hid (own_kept HOW.out (Kept.of_below (S := []) k11) (by simp))
          obtain ⟨m, hm⟩ : ∃ m, m = (allR s ps).length := ⟨_, rfl⟩
          rw [← hm] at ho hgG
          rw [← hm] at HGG ⊢
          have HOG := Lib.hid ho
          have HMG : Hid (m = (allR s ps).length ∧ m ≤ n) := Lib.hid ⟨hm, by
            have h1 := allTo_le s ps (2 ^ s)
            rw [HN.out.1, hm]
            exact h1⟩
          have HPSL := HPS.out.2
          have HN8 := HN.out.2
          have hmn := HMG.out.2
          clear ho hgG k11 hm HRGC HPSL
          go_wp2_with (fail)
          go_loopg [26, 132] n (fun gk va vi wr => ∃ i : Nat, i + gk = n ∧ va = .int .i64 ((allTo s ps i).length : Int) ∧ vi = .int .i64 (i : Int) ∧ wr = w11)
          case atStart => exact ⟨0, by omega, rfl, rfl, rfl⟩
          case round =>
            obtain ⟨i, hgk, rfl, rfl, hw⟩ := hrel
            have hw := hw.symm
            subst hw
            have hle := allTo_le s ps i
            by_cases hlt : i < n
            · have f0 := HOB.out.cellAt (i * 1) (by omega)
              rw [Nat.mul_one, flagsW_get _ hlt] at f0
              have hmk := marks_mem hs HRT.out i
              have hsu := allTo_succ s ps i
              have hw1 : IntKind.i64.wrap ((i : Int) + 1) = ((i + 1 : Nat) : Int) := by rw [IntWalk.i64_in _ (by omega)]; omega
              have hw2 : IntKind.i64.wrap (((allTo s ps i).length : Int) + 1) = (((allTo s ps i).length + 1 : Nat) : Int) := by rw [IntWalk.i64_in _ (by omega)]; omega
              have hin : (i : Int) < (n : Int) := by omega
              have HGK : Hid (0 < gk ∧ i + gk = n) := Lib.hid (by omega)
              by_cases hany : (ps.any fun p => tchB s p i) = true
              · rw [if_pos hany] at hsu
                have hfl : decide ((i : Int) ∈ marks s ps) = true := decide_eq_true (hmk.2 hany)
                rw [hfl] at f0
                have hat := allTo_at hany (2 ^ s) (by have := HN.out.1; omega)
                have hlen : (allTo s ps (i + 1)).length = (allTo s ps i).length + 1 := by rw [hsu, List.length_append]; rfl
                have hlm : (allTo s ps i).length < m := by
                  rw [HMG.out.1]
                  exact (List.getElem?_eq_some_iff.1 hat).1
                obtain ⟨gG, hg⟩ := HGG.out _ hlm
                subst hg
                have d0 := HOG.out.cellAt ((allTo s ps i).length * 1) (by omega)
                rw [Nat.mul_one, List.getElem?_map, show (allR s ps)[(allTo s ps i).length]? = some i from hat] at d0
                replace d0 : w11.cell? ⟨gG, (allTo s ps i).length, none⟩ = some (.int .i64 (i : Int)) := d0
                have HLEN := Lib.hid hlen
                generalize (allTo s ps i).length = q at *
                have hqm : (q : Int) < (m : Int) := by omega
                have hqm2 : decide ((m : Int) ≤ (q : Int)) = false := decide_eq_false (by omega)
                clear hmk hsu hany hfl hat hlen hgk hle hlm
                go_wp2_with (fail)
                go_roundg (gk - 1)
                case measure => have := HGK.out; omega
                case rel => exact ⟨i + 1, by have := HGK.out; omega, by rw [HLEN.out]; go_num, rfl, rfl⟩
              · rw [if_neg hany] at hsu
                have hfl : decide ((i : Int) ∈ marks s ps) = false := decide_eq_false (fun h => hany (hmk.1 h))
                rw [hfl] at f0
                have HLEN := Lib.hid hsu
                clear hmk hsu hany hfl hgk hle hw2
                go_wp2_with (fail)
                go_roundg (gk - 1)
                case measure => have := HGK.out; omega
                case rel => exact ⟨i + 1, by have := HGK.out; omega, by rw [HLEN.out], rfl, rfl⟩
            · obtain rfl : i = n := by omega
              have hlen : (allTo s ps i).length = m := by
                rw [HMG.out.1, HN.out.1]
                rfl
              rw [hlen]
              have hk711 : Below w7.heap.size w7 w11 := HK79.out.trans (HK11.out.mono HK79.out.size)
              have hh := (hk711.block _ (lt_of_block HH7.out)).trans HH7.out
              have HHX := Lib.hid hh
              have HK711 := Lib.hid hk711
              have x0 := cell_of hh 0
              simp only [List.getElem?_toArray, List.getElem?_cons_zero, List.getElem?_cons_succ] at x0
              have hmm : ((m : Int) == (m : Int)) = true := beq_self_eq_true _
              clear hlen hle hk711 hh
              go_wp2_with (fail)
              refine Calls.mono (rgindex_calls _ s hv.dst hs HHW.out.dst) ?_
              rintro e w12 ⟨he, hw⟩
              subst he
              have hw := hw.symm
              subst hw
              obtain ⟨ix, hix⟩ : ∃ ix, ix = ridx s hv.dst := ⟨_, rfl⟩
              rw [← hix]
              have hil : ix < i := by
                rw [HN.out.1, hix]
                exact ridx_lt (by omega) HHW.out.dst
              have f0 := HOB.out.cellAt (ix * 1) (by omega)
              rw [Nat.mul_one, flagsW_get _ hil] at f0
              have hii : (ix : Int) < (i : Int) := by omega
              have HIX := Lib.hid hix
              clear hix x0 hmm
              have HKW := Lib.hid (HK7.out.trans (HK711.out.mono HK7.out.size))
              by_cases hin : (ix : Int) ∈ marks s ps
              · have hfl : decide ((ix : Int) ∈ marks s ps) = true := decide_eq_true hin
                rw [hfl] at f0
                clear hfl hin
                go_wp2_with (fail)
                refine (awake17_calls _).mono ?_
                rintro e w3 ⟨he, kw3⟩
                subst he
                have Kw3 := Lib.hid (HKW.out.trans (kw3.mono HKW.out.size))
                clear kw3
                go_wp2_with (fail)
                go_ret
                exact ⟨rfl, Kw3.out⟩
              · have hfl : decide ((ix : Int) ∈ marks s ps) = false := decide_eq_false hin
                rw [hfl] at f0
                have HUN := Lib.hid (unmarked hs HRT.out (a := hv.dst) (by rw [← HIX.out]; exact hin))
                clear hfl hin
                obtain ⟨d, rfl⟩ : ∃ d : Nat, dd = d := ⟨dd.toNat, by have := HDI.out.1; omega⟩
                have hdn : d < T.ports.length := by have := HDI.out.2; omega
                have HFI := Lib.hid (fine_of17 HFT.out.symm)
                obtain ⟨way, ek, edv, ep, hwy⟩ : ∃ way ek edv ep, wayS T ls hv (T.ports.length + 1) [] d = (way, ⟨ek, edv, ep⟩) := ⟨_, _, _, _, rfl⟩
                have hpx : Pairs Lx ls' := HP7.out (by first | trivial | rfl)
                have hwy2 : wayS T ls' hv (T.ports.length + 1) [] d = (way, ⟨ek, edv, ep⟩) := by
                  rw [← hwy]
                  exact way_same HOK.out.1 HD7.out.pair (by rw [HAPP.out.2]; exact hpx) HAPP.out.1 (by rw [← HPS.out.1]; exact HUN.out) _ _ _
                have hlx : Lx.length = T.ports.length ∧ lenT Lx < 1000000 := by
                  refine ⟨?_, ?_⟩
                  · have := HOK.out.1.app more 0
                    rw [HAPP.out.2] at this
                    exact this.len
                  · have := app_lenT more 0 (TD.Ls ts) (ports := T.ports) (by have := HOK.out.2; omega) HAPP.out.1
                    rw [HAPP.out.2] at this
                    omega
                have hok2 : OkL Lx := by have := HOX.out; rw [HAPP.out.2] at this; exact this
                have HTR1 := Lib.hid (rtrace_calls (HD7.out.doc.below HK711.out) (by rw [← HD7.out.pair.len, HOK.out.1.len]) (fun l hl => ⟨HD7.out.pair.okL HOKL.out l hl, by
                  have h1 := lenT_mem hl
                  have h2 := HOK.out.2
                  rw [HD7.out.pair.lens] at h2
                  omega⟩) (H0.out.kept HKW.out) HKW.out.size HFI.out d hdn hv HHW.out)
                have HTR2 := Lib.hid (fun X (kX : Below w11.heap.size w11 X) => rtrace_calls ((HR7.out.below HK711.out).below kX) (by rw [← hpx.len, hlx.1]) (fun l hl => ⟨hpx.okL hok2 l hl, by
                  have h1 := lenT_mem hl
                  have h2 := hlx.2
                  rw [hpx.lens] at h2
                  omega⟩) (H0.out.kept (HKW.out.trans (kX.mono HKW.out.size))) (Nat.le_trans HKW.out.size kX.size) HFI.out d hdn hv HHW.out)
                unfold RTracePost at HTR1 HTR2
                rw [hwy] at HTR1
                simp only [hwy2] at HTR2
                unfold Hv.val at HTR1 HTR2
                simp only at HTR1
                have HM11 := Lib.hid ((HK711.out.block _ (lt_of_block HM7.out)).trans HM7.out)
                have HY11 := Lib.hid ((HK711.out.block _ (lt_of_block HY7.out)).trans HY7.out)
                clear hwy hwy2 hpx hlx hok2 hdn
                have m0 := cell_of HM11.out 0
                have m1 := cell_of HM11.out 1
                have m2 := cell_of HM11.out 2
                have m3 := cell_of HM11.out 3
                simp only [List.getElem?_toArray, List.getElem?_cons_zero, List.getElem?_cons_succ] at m0 m1 m2 m3
                have x0 := cell_of HHX.out 0
                have x1 := cell_of HHX.out 1
                have x2 := cell_of HHX.out 2
                have x3 := cell_of HHX.out 3
                have x4 := cell_of HHX.out 4
                simp only [List.getElem?_toArray, List.getElem?_cons_zero, List.getElem?_cons_succ] at x0 x1 x2 x3 x4
                go_wp2_with (fail)
                refine Calls.mono HTR1.out ?_
                rintro e w13 ⟨vq, he, hoq, k13⟩
                subst he
                obtain ⟨aq, cq, rfl, _⟩ := ints_shape hoq
                have HK14 := Lib.hid (k13.alloc k13.size (.cells #[.int .i64 ek, .int .i64 edv, .int .i64 ep] 52))
                have HE14 := Lib.hid (heap_alloc_new w13 (.cells #[.int .i64 ek, .int .i64 edv, .int .i64 ep] 52))
                clear hoq k13 m0 m1 m2 m3 x0 x1 x2 x3 x4
                go_upto_region 39 with (fail)
                generalize w13.alloc (.cells #[.int .i64 ek, .int .i64 edv, .int .i64 ep] 52) = w14 at *
                have HY14 := Lib.hid ((HK14.out.block _ (lt_of_block HY11.out)).trans HY11.out)
                have HH14 := Lib.hid ((HK14.out.block _ (lt_of_block HHX.out)).trans HHX.out)
                have m0 := cell_of HY14.out 0
                have m1 := cell_of HY14.out 1
                have m2 := cell_of HY14.out 2
                have m3 := cell_of HY14.out 3
                simp only [List.getElem?_toArray, List.getElem?_cons_zero, List.getElem?_cons_succ] at m0 m1 m2 m3
                have x0 := cell_of HH14.out 0
                have x1 := cell_of HH14.out 1
                have x2 := cell_of HH14.out 2
                have x3 := cell_of HH14.out 3
                have x4 := cell_of HH14.out 4
                simp only [List.getElem?_toArray, List.getElem?_cons_zero, List.getElem?_cons_succ] at x0 x1 x2 x3 x4
                go_wp2_with (fail)
                refine Calls.mono (HTR2.out w14 HK14.out) ?_
                rintro e w15 ⟨vr, he, hor, k15⟩
                subst he
                obtain ⟨ar2, cr2, rfl, _⟩ := ints_shape hor
                have HK16 := Lib.hid (k15.alloc k15.size (.cells #[.int .i64 ek, .int .i64 edv, .int .i64 ep] 52))
                have HE16 := Lib.hid (heap_alloc_new w15 (.cells #[.int .i64 ek, .int .i64 edv, .int .i64 ep] 52))
                clear hor k15 m0 m1 m2 m3 x0 x1 x2 x3 x4
                go_upto_region 40 with (fail)
                generalize w15.alloc (.cells #[.int .i64 ek, .int .i64 edv, .int .i64 ep] 52) = w16 at *
                go_wp2_with (fail)
                refine (awake17_calls _).mono ?_
                rintro e w17 ⟨he, k17⟩
                subst he
                have hk1417 : Below w14.heap.size w14 w17 := HK16.out.trans (k17.mono HK16.out.size)
                have K17 := Lib.hid (HKW.out.trans ((HK14.out.trans (hk1417.mono HK14.out.size)).mono HKW.out.size))
                have HQ17 := Lib.hid ((hk1417.block _ (lt_of_block HE14.out)).trans HE14.out)
                have HB17 := Lib.hid ((k17.block _ (lt_of_block HE16.out)).trans HE16.out)
                have heq := tr_eq ek edv ep
                clear k17 hk1417
                have q0 := cell_of HQ17.out 0
                have q1 := cell_of HQ17.out 1
                have q2 := cell_of HQ17.out 2
                simp only [List.getElem?_toArray, List.getElem?_cons_zero, List.getElem?_cons_succ] at q0 q1 q2
                have b0 := cell_of HB17.out 0
                have b1 := cell_of HB17.out 1
                have b2 := cell_of HB17.out 2
                simp only [List.getElem?_toArray, List.getElem?_cons_zero, List.getElem?_cons_succ] at b0 b1 b2
                go_wp2_with (fail)
                go_ret
                exact ⟨rfl, K17.out⟩
theorem regions17_row {W : World} (v0 v1 v2 : Value) (a : Int) (v4 : Value) (b : Int) (h0 : ArgTp W v0) (h1 : ArgOps W v1) (h2 : ArgOps W v2) (_h3 : (Lit.int .i64 a).wf = true) (h4 : ArgHv v4) (_h5 : (Lit.int .i64 b).wf = true) :
    Calls Tryz.prog 3 #[v0, v1, v2, .int .i64 a, v4, .int .i64 b] W fun e w' => e = .returned (.bool true) ∧ Below W.heap.size W w' := by
  obtain ⟨T, vp, vl, va, rfl, h0⟩ := h0
  obtain ⟨ops, h1⟩ := ops_in h1
  obtain ⟨more, h2⟩ := ops_in h2
  obtain ⟨hv, hh, rfl⟩ := h4
  exact regions17_calls h0 h1 h2 a hv hh b
end Go.Proofs.YtjoblahedgpgbaaGreat
