/- The law StepChanges. -/
import Derived.Test.YtiedhjmnjpkcoaaTraceW
import Derived.Test.YtiedhjmnjpkcoaaArgsT
namespace Go.Proofs.Ytiedhjmnjpkcoaa
set_option linter.unusedVariables false
set_option linter.unusedSimpArgs false
open Go.RowKit

theorem OpsIn.shape {w : World} {v : Value} {ops : List Op} (h : OpsIn w v ops) : ∃ ao cap, v = .slice ao ops.length cap ∧ ∀ i, i < ops.length → ∃ b off, ao = some ⟨b, off, none⟩ ∧ OpsAt w b off ops ∧ b < w.heap.size := h.val

set_option maxRecDepth 100000 in
set_option maxHeartbeats 16000000 in
theorem changes_calls {W : World} {vp vl va v1 v2 : Value} {T : Tp} {ops more : List Op} (h0 : TpIn W.heap.size W vp vl va T) (h1 : OpsIn W v1 ops) (h2 : OpsIn W v2 more) (id : Int) (hid : okI id) :
    Calls Try.prog 14 #[.agg #[vp, vl, va], v1, v2, .int .i64 id] W fun e w' => e = .returned (.bool true) ∧ Below W.heap.size W w' := by
  have H0 := Lib.hid h0
  have H1 := Lib.hid h1
  obtain ⟨ap, cp, rfl, _⟩ := h0.ports
  obtain ⟨al, cl, rfl, _⟩ := h0.links
  obtain ⟨aa, ca, rfl, _⟩ := h0.aces
  obtain ⟨ao1, cap1, rfl, _⟩ := h1.shape
  obtain ⟨hwf2, ao2, cap2, rfl, hop2⟩ := h2
  have HWF2 := Lib.hid hwf2
  have HOP2 := Lib.hid hop2
  clear h0 h1 hwf2 hop2
  have HX := Lib.hid (heap_alloc_new W (.cells #[.slice ap T.ports.length cp, .slice al T.links.length cl, .slice aa T.aces.length ca] 64))
  have HK := Lib.hid ((Below.refl W.heap.size W).alloc (Nat.le_refl _) (.cells #[.slice ap T.ports.length cp, .slice al T.links.length cl, .slice aa T.aces.length ca] 64))
  go_enter Try.func14, Try.ntmps14
  go_upto_region 1 with (fail)
  generalize W.alloc (.cells #[.slice ap T.ports.length cp, .slice al T.links.length cl, .slice aa T.aces.length ca] 64) = w1 at *
  have z0 := cell_of HX.out 0
  have z1 := cell_of HX.out 1
  have z2 := cell_of HX.out 2
  simp only [List.getElem?_toArray, List.getElem?_cons_zero, List.getElem?_cons_succ] at z0 z1 z2
  have HLI := Lib.hid (light5_calls (H0.out.kept HK.out))
  obtain ⟨lt, hlt⟩ : ∃ lt, lt = lightT T := ⟨_, rfl⟩
  rw [← hlt] at HLI
  have HLT := Lib.hid hlt
  clear hlt
  go_wp2_with (fail)
  refine Calls.mono HLI.out ?_
  rintro e w2 ⟨he, k2⟩
  subst he
  have HK2 := Lib.hid (HK.out.trans (k2.mono HK.out.size))
  have HX2 := Lib.hid ((k2.block _ (lt_of_block HX.out)).trans HX.out)
  clear k2 z0 z1 z2
  by_cases hbig : lt = false ∨ 60 < ops.length ∨ 20 < more.length
  · cases lt with
    | false =>
      clear hbig
      go_wp2_with (fail)
      refine (awake13_calls _).mono ?_
      rintro e w3 ⟨he, k3⟩
      subst he
      have K3 := Lib.hid (HK2.out.trans (k3.mono HK2.out.size))
      clear k3
      go_wp2_with (fail)
      go_ret
      exact ⟨rfl, K3.out⟩
    | true =>
      rcases Nat.lt_or_ge 60 ops.length with hb | hb
      · have hb' : decide ((60 : Int) < (ops.length : Int)) = true := decide_eq_true (by omega)
        clear hbig hb
        go_wp2_with (fail)
        refine (awake13_calls _).mono ?_
        rintro e w3 ⟨he, k3⟩
        subst he
        have K3 := Lib.hid (HK2.out.trans (k3.mono HK2.out.size))
        clear k3
        go_wp2_with (fail)
        go_ret
        exact ⟨rfl, K3.out⟩
      · have hb' : decide ((60 : Int) < (ops.length : Int)) = false := decide_eq_false (by omega)
        have hc' : decide ((20 : Int) < (more.length : Int)) = true := decide_eq_true (by rcases hbig with h | h | h; cases h; omega; omega)
        clear hbig hb
        go_wp2_with (fail)
        refine (awake13_calls _).mono ?_
        rintro e w3 ⟨he, k3⟩
        subst he
        have K3 := Lib.hid (HK2.out.trans (k3.mono HK2.out.size))
        clear k3
        go_wp2_with (fail)
        go_ret
        exact ⟨rfl, K3.out⟩
  · obtain rfl : lt = true := by cases lt <;> simp_all
    have hb0 : ops.length ≤ 60 ∧ more.length ≤ 20 := by
      refine ⟨?_, ?_⟩ <;> (rcases Nat.lt_or_ge 60 ops.length with h | h <;> rcases Nat.lt_or_ge 20 more.length with h3 | h3 <;> first | omega | (exfalso; exact hbig (Or.inr (by omega))))
    have hb' : decide ((60 : Int) < (ops.length : Int)) = false := decide_eq_false (by omega)
    have hc' : decide ((20 : Int) < (more.length : Int)) = false := decide_eq_false (by omega)
    have HB0 := Lib.hid hb0
    clear hbig hb0
    have HBB := Lib.hid (And.intro hb' hc')
    have hlT := HLT.out.symm
    obtain ⟨l1, l2, l3⟩ := (lightT_iff T).1 hlT
    have HCK := Lib.hid (rcheck_calls (H0.out.kept HK2.out) HK2.out.size l1 l2 l3)
    have z0 := cell_of HX2.out 0
    have z1 := cell_of HX2.out 1
    have z2 := cell_of HX2.out 2
    simp only [List.getElem?_toArray, List.getElem?_cons_zero, List.getElem?_cons_succ] at z0 z1 z2
    have HLTT := Lib.hid hlT
    clear hlT l1 l2 l3
    obtain ⟨ck, hck⟩ : ∃ ck, ck = checkT T := ⟨_, rfl⟩
    rw [← hck] at HCK
    have HC := Lib.hid hck
    clear hck
    go_wp2_with (fail)
    refine Calls.mono HCK.out ?_
    rintro e w3 ⟨he, k3⟩
    subst he
    have HK3 := Lib.hid (HK2.out.trans (k3.mono HK2.out.size))
    have HX3 := Lib.hid ((k3.block _ (lt_of_block HX2.out)).trans HX2.out)
    clear k3 z0 z1 z2
    have z0 := cell_of HX3.out 0
    have z1 := cell_of HX3.out 1
    have z2 := cell_of HX3.out 2
    simp only [List.getElem?_toArray, List.getElem?_cons_zero, List.getElem?_cons_succ] at z0 z1 z2
    by_cases hc0 : ck = 0
    · subst hc0
      have HMD := Lib.hid (made13_calls (H0.out.kept HK3.out) HK3.out.size HLTT.out HC.out.symm (H1.out.next HK3.out) HB0.out.1)
      go_wp2_with (fail)
      refine Calls.mono HMD.out ?_
      rintro e w4 ⟨nb, vt, vr, ts, rs, ls, he, hD, hLs, k4⟩
      obtain ⟨ar, cr, rfl, _, _⟩ := hD.doc.shape
      subst he
      have HOK : Hid (NetOk T.ports (TD.Ls ts) ∧ lenT (TD.Ls ts) ≤ 60) := Lib.hid (by
        rw [hLs]
        exact ⟨madeS_ok _ _, Nat.le_trans (madeS_len _ _) HB0.out.1⟩)
      have hka := (Below.refl w4.heap.size w4).alloc (Nat.le_refl _) (.cells #[.slice ap T.ports.length cp, .slice al T.links.length cl, .slice aa T.aces.length ca, .slice ar ls.length cr] 69)
      have HM5 := Lib.hid (heap_alloc_new w4 (.cells #[.slice ap T.ports.length cp, .slice al T.links.length cl, .slice aa T.aces.length ca, .slice ar ls.length cr] 69))
      have HD5 := Lib.hid (hD.below hka)
      have hk4 := HK3.out.trans (k4.mono HK3.out.size)
      have HK5 := Lib.hid (hk4.trans (hka.mono hk4.size))
      clear hD hLs k4 hka hk4 z0 z1 z2
      go_upto_region 8 with (fail)
      generalize w4.alloc (.cells #[.slice ap T.ports.length cp, .slice al T.links.length cl, .slice aa T.aces.length ca, .slice ar ls.length cr] 69) = w5 at *
      generalize w4.heap.size = mb at *
      have HLL : Hid (ls.length ≤ 40 ∧ ts.length ≤ 40 ∧ lenT ls ≤ 60 ∧ T.ports.length ≤ 40) := Lib.hid (by
        have h1 := ((lightT_iff T).1 HLTT.out).1
        have h2 := HOK.out.1.len
        have h3 := HD5.out.tlen
        have h4 := HD5.out.pair.lens
        have h5 := HOK.out.2
        simp [TD.Ls] at h2
        omega)
      obtain ⟨bb, hbb⟩ : ∃ bb, bb = hasL ls id := ⟨_, rfl⟩
      have HH1 : Hid (∀ X, Below w5.heap.size w5 X → Calls Try.prog 52 #[.pointer (some ⟨nb, 0, none⟩), .int .i64 id] X fun e w' => e = .returned (.bool bb) ∧ Below w5.heap.size w5 w') := Lib.hid (fun X kX => (nhas_calls (HD5.out.below kX).net HLL.out.2.1 id hid).mono (by
        rintro e w' ⟨he, k⟩
        rw [hasL_S, HD5.out.pair.has, ← hbb] at he
        exact ⟨he, kX.trans (k.mono kX.size)⟩))
      have HH2 : Hid (∀ X, Below w5.heap.size w5 X → Calls Try.prog 53 #[.agg #[.slice ap T.ports.length cp, .slice al T.links.length cl, .slice aa T.aces.length ca, .slice ar ls.length cr], .int .i64 id] X fun e w' => e = .returned (.bool bb) ∧ Below w5.heap.size w5 w') := Lib.hid (fun X kX => (rnhas_calls (HD5.out.below kX).doc HLL.out.1 (by have := HLL.out.2.2.1; omega) id).mono (by
        rintro e w' ⟨he, k⟩
        rw [← hbb] at he
        exact ⟨he, kX.trans (k.mono kX.size)⟩))
      have HCELL : Hid (∀ w', Below w5.heap.size w5 w' → w'.cell? ⟨mb, 0, none⟩ = some (.slice ap T.ports.length cp) ∧ w'.cell? ⟨mb, 1, none⟩ = some (.slice al T.links.length cl) ∧ w'.cell? ⟨mb, 2, none⟩ = some (.slice aa T.aces.length ca) ∧ w'.cell? ⟨mb, 3, none⟩ = some (.slice ar ls.length cr)) := Lib.hid (fun X kX => by
        have hm := (kX.block _ (lt_of_block HM5.out)).trans HM5.out
        exact ⟨cell_of hm 0, cell_of hm 1, cell_of hm 2, cell_of hm 3⟩)
      clear hbb
      have hBW := (Below.refl w5.heap.size w5).drew
      have hS := HCELL.out _ hBW
      go_region_held3 (fun w' => w'.cell? ⟨mb, 0, none⟩ = some (.slice ap T.ports.length cp) ∧ w'.cell? ⟨mb, 1, none⟩ = some (.slice al T.links.length cl) ∧ w'.cell? ⟨mb, 2, none⟩ = some (.slice aa T.aces.length ca) ∧ w'.cell? ⟨mb, 3, none⟩ = some (.slice ar ls.length cr)) (first | assumption)
        (first | (go_at_call 52; refine Calls.mono (HH1.out _ (by assumption)) ?_; rintro e w' ⟨rfl, hB'⟩; have hS' := HCELL.out _ hB') | (go_at_call 53; refine Calls.mono (HH2.out _ (by assumption)) ?_; rintro e w' ⟨rfl, hB'⟩; have hS' := HCELL.out _ hB'))
      have HD6 := Lib.hid (HD5.out.below hB')
      have HM6 := Lib.hid ((hB'.block _ (lt_of_block HM5.out)).trans HM5.out)
      have HK6 := Lib.hid (HK5.out.trans (hB'.mono HK5.out.size))
      clear hB' hS' hBW hS HH1 HH2 HCELL
      generalize w' = w6 at *
      have HCL := Lib.hid (nclone_calls HD6.out.net HLL.out.2.1 (fun t ht => by
        have h1 := lenT_mem (Ls := TD.Ls ts) (List.mem_map_of_mem (f := (·.L)) ht)
        have h2 := HOK.out.2
        omega))
      go_wp2_with (fail)
      refine Calls.mono HCL.out ?_
      rintro e w7 ⟨nb2, vt2, ts2, he, hN2, hL2, k7⟩
      subst he
      have HN2 := Lib.hid hN2
      have HK7 := Lib.hid k7
      have HOK2 : Hid (NetOk T.ports (TD.Ls ts2) ∧ lenT (TD.Ls ts2) ≤ 60) := Lib.hid (by rw [hL2]; exact HOK.out)
      have HKW6 := Lib.hid HK6.out.size
      clear hN2 hL2 k7
      go_wp2_with (fail)
      go_loopg [74] more.length (fun gk vi wr => ∃ (i : Nat) (tx : List TD), i + gk = more.length ∧ vi = .int .i64 (i : Int) ∧ NetAt wr w6.heap.size nb2 (.slice ap T.ports.length cp) (.slice al T.links.length cl) (.slice aa T.aces.length ca) vt2 tx ∧ (NetOk T.ports (TD.Ls tx) ∧ lenT (TD.Ls tx) ≤ 60 + i) ∧ Below w6.heap.size w6 wr)
      case atStart => exact ⟨0, ts2, by omega, rfl, HN2.out, HOK2.out, HK7.out⟩
      case round =>
        obtain ⟨i, tx, hgk, rfl, hN, hOk, hK⟩ := hrel
        have HNR := Lib.hid hN
        have HOR := Lib.hid hOk
        have HKR := Lib.hid hK
        by_cases hlt : i < more.length
        · obtain ⟨b, off, rfl, hat, hb⟩ := HOP2.out i hlt
          have hcx := hat.cells hb (HK6.out.trans (hK.mono HK6.out.size)) i hlt
          have hw := HWF2.out _ (List.getElem_mem hlt)
          generalize more[i] = o at *
          obtain ⟨del, r⟩ := o
          simp only at hcx hw
          have HWR := Lib.hid hw
          have HXC := Lib.hid (heap_alloc_new wr (.cells #[.bool del, .int .i64 r.id, .int .i64 r.dev, .int .u32 (r.addr : Int), .int .i64 r.bits, .int .i64 r.prio, .int .i64 r.out] 47))
          have hka := (Below.refl wr.heap.size wr).alloc (Nat.le_refl _) (.cells #[.bool del, .int .i64 r.id, .int .i64 r.dev, .int .u32 (r.addr : Int), .int .i64 r.bits, .int .i64 r.prio, .int .i64 r.out] 47)
          have HNA := Lib.hid (hN.below hka)
          have HKA := Lib.hid (hK.trans (hka.mono hK.size))
          have hi20 : i < 20 := by have := HB0.out.2; omega
          clear hat hw hN hOk hK hka hb
          go_upto_region 14 with (fail)
          generalize wr.alloc (.cells #[.bool del, .int .i64 r.id, .int .i64 r.dev, .int .u32 (r.addr : Int), .int .i64 r.bits, .int .i64 r.prio, .int .i64 r.out] 47) = wa at *
          clear hcx
          have y0 := cell_of HXC.out 0
          have y1 := cell_of HXC.out 1
          have y2 := cell_of HXC.out 2
          have y3 := cell_of HXC.out 3
          have y4 := cell_of HXC.out 4
          have y5 := cell_of HXC.out 5
          have y6 := cell_of HXC.out 6
          simp only [List.getElem?_toArray, List.getElem?_cons_zero, List.getElem?_cons_succ] at y0 y1 y2 y3 y4 y5 y6
          have HKWA := Lib.hid (HK6.out.trans (HKA.out.mono HK6.out.size))
          have HC1 := Lib.hid (nchange_calls HNA.out (H0.out.kept HKWA.out) HKW6.out HOR.out.1 HLL.out.2.2.2 (by have := HOR.out.2; omega) ⟨del, r⟩ HWR.out)
          unfold Op.val at HC1
          go_wp2_with (fail)
          refine Calls.mono HC1.out ?_
          rintro e w8 ⟨tx', he, hN8, hL8, hT8⟩
          subst he
          have HN8 := Lib.hid hN8
          have HK8 := Lib.hid (HKA.out.trans (hT8.below HKA.out.size (fun x hx => HNA.out.feet_lo x hx)))
          have HO8 : Hid (NetOk T.ports (TD.Ls tx') ∧ lenT (TD.Ls tx') ≤ 60 + (i + 1)) := Lib.hid (by
            rw [hL8]
            have := chg_lenT T.ports (TD.Ls tx) ⟨del, r⟩
            have := HOR.out.2
            exact ⟨HOR.out.1.chg _, by omega⟩)
          clear hN8 hL8 hT8 y0 y1 y2 y3 y4 y5 y6
          go_wp2_with (fail)
          go_roundg (gk - 1)
          case measure => omega
          case rel => exact ⟨i + 1, tx', by omega, by go_num, HN8.out, HO8.out, HK8.out⟩
        · obtain rfl : i = more.length := by omega
          clear hN hOk hK
          have HDR := Lib.hid (HD6.out.below HKR.out)
          have HMR := Lib.hid ((HKR.out.block _ (lt_of_block HM6.out)).trans HM6.out)
          have HKE := Lib.hid (HK6.out.trans (HKR.out.mono HK6.out.size))
          clear HNR
          go_wp2_with (fail)
          refine (awake13_calls _).mono ?_
          rintro e w8 ⟨he, k8⟩
          subst he
          have HD8 := Lib.hid (HDR.out.below k8)
          have HM8 := Lib.hid ((k8.block _ (lt_of_block HMR.out)).trans HMR.out)
          have HK8 := Lib.hid (HKE.out.trans (k8.mono HKE.out.size))
          clear k8
          have m0 := cell_of HM8.out 0
          have m1 := cell_of HM8.out 1
          have m2 := cell_of HM8.out 2
          have m3 := cell_of HM8.out 3
          simp only [List.getElem?_toArray, List.getElem?_cons_zero, List.getElem?_cons_succ] at m0 m1 m2 m3
          have HAL := Lib.hid (alike_calls HD8.out HLL.out.1 (by have := HLL.out.2.2.1; omega))
          go_wp2_with (fail)
          refine Calls.mono HAL.out ?_
          rintro e w9 ⟨he, k9⟩
          subst he
          have HK9 := Lib.hid (HK8.out.trans (k9.mono HK8.out.size))
          clear k9 m0 m1 m2 m3
          go_wp2_with (fail)
          refine (nchg_nil _).mono ?_
          rintro e w10 ⟨he, k10⟩
          subst he
          have HK10 := Lib.hid (HK9.out.trans (k10.mono HK9.out.size))
          clear k10
          go_wp2_with (fail)
          refine (nlen_nil _).mono ?_
          rintro e w11 ⟨he, k11⟩
          subst he
          have HK11 := Lib.hid (HK10.out.trans (k11.mono HK10.out.size))
          clear k11
          go_wp2_with (fail)
          refine (nhas_nil _ 1).mono ?_
          rintro e w12 ⟨he, k12⟩
          subst he
          have HK12 := Lib.hid (HK11.out.trans (k12.mono HK11.out.size))
          clear k12
          go_wp2_with (fail)
          refine (nclone_nil _).mono ?_
          rintro e w13 ⟨he, k13⟩
          subst he
          have HK13 := Lib.hid (HK12.out.trans (k13.mono HK12.out.size))
          clear k13
          go_wp2_with (fail)
          go_ret
          exact ⟨rfl, HK13.out⟩
    · have hne : (ck == 0) = false := beq_eq_false_iff_ne.2 hc0
      have HBD := Lib.hid (nnew_bad (H0.out.kept HK3.out) HK3.out.size HLTT.out (by rw [← HC.out]; exact hc0))
      rw [← HC.out] at HBD
      clear hc0
      go_wp2_with (fail)
      refine Calls.mono HBD.out ?_
      rintro e w4 ⟨he, k4⟩
      subst he
      have HK4 := Lib.hid (HK3.out.trans (k4.mono HK3.out.size))
      clear k4 z0 z1 z2
      go_wp2_with (fail)
      refine (awake13_calls _).mono ?_
      rintro e w5 ⟨he, k5⟩
      subst he
      have K5 := Lib.hid (HK4.out.trans (k5.mono HK4.out.size))
      clear k5
      go_wp2_with (fail)
      go_ret
      exact ⟨rfl, K5.out⟩

theorem okI_of {a : Int} (h : (Lit.int .i64 a).wf = true) : okI a := by
  have := in_of h
  unfold okI
  unfold inI at this
  omega
theorem changes_row {W : World} (v0 v1 v2 : Value) (a : Int) (h0 : ArgTp W v0) (h1 : ArgOps W v1) (h2 : ArgOps W v2) (h3 : (Lit.int .i64 a).wf = true) :
    Calls Try.prog 14 #[v0, v1, v2, .int .i64 a] W fun e w' => e = .returned (.bool true) ∧ Below W.heap.size W w' := by
  obtain ⟨T, vp, vl, va, rfl, h0⟩ := h0
  obtain ⟨ops, h1⟩ := ops_in h1
  obtain ⟨ops2, h2⟩ := ops_in h2
  exact changes_calls h0 h1 h2 a (okI_of h3)
end Go.Proofs.Ytiedhjmnjpkcoaa
