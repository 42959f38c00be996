/- Batches: the walk of the program's Apply. -/
import Derived.Test.YtiedhjmnjpkcoaaBat
namespace Go.Proofs.Ytiedhjmnjpkcoaa
set_option linter.unusedVariables false
set_option linter.unusedSimpArgs false
open Go.RowKit

def set2 (w : World) (b : Nat) (x0 x1 : Value) : World := (w.setCell ⟨b, 0, none⟩ x0).setCell ⟨b, 1, none⟩ x1
theorem kept_set2 (w : World) (b : Nat) (x0 x1 : Value) : Kept [b] w (set2 w b x0 x1) := ((Kept.refl [b] w).setCell _ _ (by simp)).setCell _ _ (by simp)
/-- What the program's Apply leaves. -/
def BPost (T : Tp) (l : List Op) (Ls : List (List Rl)) (w : World) (vp vl va : Value) (e : Ending) (w' : World) : Prop :=
  ∃ v, e = .returned (.tuple #[v, .agg #[.int .i64 (batchS T.ports l Ls).2.1, .int .i64 (batchS T.ports l Ls).2.2]]) ∧ Below w.heap.size w w' ∧ ((batchS T.ports l Ls).2.2 ≠ 0 → v = .pointer none) ∧
    ((batchS T.ports l Ls).2.2 = 0 → ∃ nb vt ts, v = .pointer (some ⟨nb, 0, none⟩) ∧ NetAt w' w.heap.size nb vp vl va vt ts ∧ TD.Ls ts = (batchS T.ports l Ls).1)
theorem BPost.bad {T : Tp} {l : List Op} {Ls Lx : List (List Rl)} {w w' : World} {vp vl va : Value} {at_ er : Int} (h : batchS T.ports l Ls = (Lx, at_, er)) (he : er ≠ 0) (k : Below w.heap.size w w') : BPost T l Ls w vp vl va (.returned (.tuple #[.pointer none, .agg #[.int .i64 at_, .int .i64 er]])) w' := by
  unfold BPost
  rw [h]
  exact ⟨_, rfl, k, fun _ => rfl, fun e => absurd e he⟩

variable {w : World} {B B0 nb : Nat} {vp vl va vt v1 : Value} {ts : List TD} {T : Tp} {l : List Op}
set_option maxRecDepth 100000 in
set_option maxHeartbeats 16000000 in
theorem bapply_calls (h : NetAt w B nb vp vl va vt ts) (hT : TpIn B0 w vp vl va T) (hB0 : B0 ≤ w.heap.size) (hok : NetOk T.ports (TD.Ls ts)) (hp : T.ports.length ≤ 40) (hL : lenT (TD.Ls ts) ≤ 1000) (ho : OpsIn w v1 l) :
    Calls Try.prog 38 #[.pointer (some ⟨nb, 0, none⟩), v1] w fun e w' => BPost T l (TD.Ls ts) w vp vl va e w' := by
  have HN := Lib.hid h
  have HT := Lib.hid hT
  have HOK := Lib.hid (And.intro hok hL)
  obtain ⟨hwf, ao, cap, rfl, hop⟩ := ho
  have HWF := Lib.hid hwf
  have HOP := Lib.hid hop
  have HZ := Lib.hid (heap_alloc_new w (.cells #[.int .i64 0, .int .i64 0] 73))
  have HK := Lib.hid ((Below.refl w.heap.size w).alloc (Nat.le_refl _) (.cells #[.int .i64 0, .int .i64 0] 73))
  have hbz0 : w.heap.size < (w.alloc (.cells #[.int .i64 0, .int .i64 0] 73)).heap.size := by simp
  have HBZ := Lib.hid hbz0
  have HB0 := Lib.hid hB0
  obtain ⟨Ls0, hLs0⟩ : ∃ Ls0, Ls0 = TD.Ls ts := ⟨_, rfl⟩
  rw [← hLs0]
  have HL0 := Lib.hid hLs0
  have htl : ts.length ≤ 40 := by have := hok.len; simp [TD.Ls] at this; omega
  have HTL := Lib.hid htl
  clear h hT hok hL hwf hop hbz0 hB0 hLs0 htl
  go_enter Try.func38, Try.ntmps38
  go_upto_region 1 with (fail)
  generalize w.alloc (.cells #[.int .i64 0, .int .i64 0] 73) = w1 at *
  by_cases h0 : l.length = 0
  · have hres' : batchS T.ports l Ls0 = (Ls0, -1, 1) := by unfold batchS; rw [if_pos h0]
    have h0' : (l.length : Int) = 0 := by omega
    have HKW := Lib.hid HK.out
    have e0 := And.intro (cell_of HZ.out 0) (unfrozen_of HZ.out 0)
    have e1 := And.intro (cell_of HZ.out 1) (unfrozen_of HZ.out 1)
    simp only [List.getElem?_toArray, List.getElem?_cons_zero, List.getElem?_cons_succ] at e0 e1
    clear h0
    go_wp2_with (fail)
    exact bodyPost_ret (v := .tuple #[.pointer none, .agg #[.int .i64 (-1), .int .i64 1]]) (by simp [results, Try.results38, go_sem, e0, e1]) rfl (BPost.bad hres' (by decide) (HKW.out.trans ((kept_set2 w1 w.heap.size (.int .i64 (-1)) (.int .i64 1)).below HKW.out.size (by simp))))
  · have h0' : ((l.length : Int) == 0) = false := beq_eq_false_iff_ne.2 (by omega)
    by_cases h32 : 32 < l.length
    · have hres' : batchS T.ports l Ls0 = (Ls0, -1, 15) := by unfold batchS; rw [if_neg h0, if_pos h32]
      have h1' : decide ((32 : Int) < (l.length : Int)) = true := decide_eq_true (by omega)
      have HKW := Lib.hid HK.out
      have e0 := And.intro (cell_of HZ.out 0) (unfrozen_of HZ.out 0)
      have e1 := And.intro (cell_of HZ.out 1) (unfrozen_of HZ.out 1)
      simp only [List.getElem?_toArray, List.getElem?_cons_zero, List.getElem?_cons_succ] at e0 e1
      clear h0 h32
      go_wp2_with (fail)
      exact bodyPost_ret (v := .tuple #[.pointer none, .agg #[.int .i64 (-1), .int .i64 15]]) (by simp [results, Try.results38, go_sem, e0, e1]) rfl (BPost.bad hres' (by decide) (HKW.out.trans ((kept_set2 w1 w.heap.size (.int .i64 (-1)) (.int .i64 15)).below HKW.out.size (by simp))))
    · have h1' : decide ((32 : Int) < (l.length : Int)) = false := decide_eq_false (by omega)
      have hl32 : l.length ≤ 32 := by omega
      have HRES : Hid (∀ x, appS T.ports l 0 Ls0 = x → batchS T.ports l Ls0 = x) := Lib.hid (fun x hx => by unfold batchS; rw [if_neg h0, if_neg h32, hx])
      clear h0 h32
      have HCL := Lib.hid (nclone_calls (HN.out.below HK.out) HTL.out (fun t ht => by
        have h1 := lenT_mem (Ls := TD.Ls ts) (List.mem_map_of_mem (f := (·.L)) ht)
        have := HOK.out.2
        omega))
      go_wp2_with (fail)
      refine Calls.mono HCL.out ?_
      rintro e w2 ⟨nb2, vt2, ts2, he, hN2, hL2, k2⟩
      subst he
      have HN2 := Lib.hid hN2
      have HK2 := Lib.hid k2
      have HOK2 : Hid (NetOk T.ports (TD.Ls ts2) ∧ lenT (TD.Ls ts2) ≤ 1000) := Lib.hid (by rw [hL2]; exact HOK.out)
      have HL2 : Hid (TD.Ls ts2 = Ls0) := Lib.hid (by rw [hL2, HL0.out])
      clear hN2 hL2 k2 HCL
      have HTP : Hid (∀ X, Below w1.heap.size w1 X → TpIn B0 X vp vl va T ∧ B0 ≤ w1.heap.size) := Lib.hid (fun X kX => ⟨HT.out.kept ((HK.out.trans (kX.mono HK.out.size)).mono HB0.out), Nat.le_trans HB0.out HK.out.size⟩)
      have hbz := HBZ.out
      go_wp2_with (fail)
      go_loopg [28] l.length (fun gk vi wr => ∃ (i : Nat) (tx : List TD), i + gk = l.length ∧ vi = .int .i64 (i : Int) ∧ NetAt wr w1.heap.size nb2 vp vl va vt2 tx ∧ (NetOk T.ports (TD.Ls tx) ∧ lenT (TD.Ls tx) ≤ 1000 + i) ∧ appS T.ports l 0 Ls0 = appS T.ports (l.drop i) i (TD.Ls tx) ∧ Below w1.heap.size w1 wr)
      case atStart => exact ⟨0, ts2, by omega, rfl, HN2.out, HOK2.out, by rw [HL2.out]; rfl, HK2.out⟩
      case round =>
        obtain ⟨i, tx, hgk, rfl, hN, hOk, hr, hK⟩ := hrel
        have HNR := Lib.hid hN
        have HOR := Lib.hid hOk
        have HKR := Lib.hid hK
        by_cases hlt : i < l.length
        · obtain ⟨b, off, rfl, hat, hb⟩ := HOP.out i hlt
          have hcx := hat.cells hb (HK.out.trans (hK.mono HK.out.size)) i hlt
          rw [List.drop_eq_getElem_cons hlt, appS_cons, badO_iff] at hr
          have hw := HWF.out _ (List.getElem_mem hlt)
          generalize l[i] = o at *
          obtain ⟨del, r⟩ := o
          simp only at hcx hw hr
          have HWR := Lib.hid hw
          have HR0 := Lib.hid hr
          have hbz1 := HBZ.out
          cases del with
          | true =>
            have HXC := Lib.hid (heap_alloc_new wr (.cells #[.bool true, .int .i64 r.id, .int .i64 r.dev, .int .u32 (r.addr : Int), .int .i64 r.bits, .int .i64 r.prio, .int .i64 r.out] 47))
            have hka := (Below.refl wr.heap.size wr).alloc (Nat.le_refl _) (.cells #[.bool true, .int .i64 r.id, .int .i64 r.dev, .int .u32 (r.addr : Int), .int .i64 r.bits, .int .i64 r.prio, .int .i64 r.out] 47)
            have HNA := Lib.hid (hN.below hka)
            have HKA := Lib.hid (hK.trans (hka.mono hK.size))
            have HFX : Hid (wr.heap.size ∉ feet tx) := Lib.hid (fun hm => by have := hN.feet_lt _ hm; omega)
            clear hat hw hN hOk hK hka hb hr
            go_upto_region 12 with (fail)
            generalize wr.alloc (.cells #[.bool true, .int .i64 r.id, .int .i64 r.dev, .int .u32 (r.addr : Int), .int .i64 r.bits, .int .i64 r.prio, .int .i64 r.out] 47) = wa at *
            generalize wr.heap.size = xb at *
            clear hcx
            have y0 := cell_of HXC.out 0
            have y1 := cell_of HXC.out 1
            have y2 := cell_of HXC.out 2
            have y3 := cell_of HXC.out 3
            have y4 := cell_of HXC.out 4
            have y5 := cell_of HXC.out 5
            have y6 := cell_of HXC.out 6
            simp only [List.getElem?_toArray, List.getElem?_cons_zero, List.getElem?_cons_succ] at y0 y1 y2 y3 y4 y5 y6
            have hr := HR0.out
            rw [if_neg (by simp)] at hr
            have HC1 := Lib.hid (nchange_calls HNA.out (HTP.out _ HKA.out).1 (HTP.out _ HKA.out).2 HOR.out.1 hp (by have := HOR.out.2; omega) ⟨true, r⟩ HWR.out)
            unfold Op.val at HC1
            simp only at HC1
            go_wp2_with (fail)
            refine Calls.mono HC1.out ?_
            rintro e w5 ⟨tx', he, hN5, hL5, hT5⟩
            have HN5 := Lib.hid hN5
            have HK5 := Lib.hid (HKA.out.trans (hT5.below HKA.out.size (fun x hx => HNA.out.feet_lo x hx)))
            have hx5 := (hT5.kept.block xb (lt_of_block HXC.out) HFX.out).trans HXC.out
            have HOK5 : Hid (NetOk T.ports (TD.Ls tx') ∧ lenT (TD.Ls tx') ≤ 1000 + (i + 1)) := Lib.hid (by
              rw [hL5]
              have := chg_lenT T.ports (TD.Ls tx) ⟨true, r⟩
              have := HOR.out.2
              exact ⟨HOR.out.1.chg _, by omega⟩)
            obtain ⟨Lc, ec, hce⟩ : ∃ Lc ec, chgS T.ports (TD.Ls tx) ⟨true, r⟩ = (Lc, ec) := ⟨_, _, rfl⟩
            rw [hce] at he hL5 hr
            simp only at he hL5 hr
            subst he
            have HL5 := Lib.hid hL5
            clear hN5 hL5 hT5 hce hx5 y0 y1 y2 y3 y4 y5 y6
            by_cases hec : ec = 0
            · subst hec
              rw [if_neg (by simp)] at hr
              have hlt40 : tx'.length ≤ 40 := by
                have := HOK5.out.1.len
                simp [TD.Ls] at this
                omega
              have HLEN := Lib.hid (nlen_calls HN5.out hlt40 (fun t ht => by
                have h1 := lenT_mem (Ls := TD.Ls tx') (List.mem_map_of_mem (f := (·.L)) ht)
                have := HOK5.out.2
                omega))
              rw [lenT_S, HL5.out] at HLEN
              have hlc : lenT Lc ≤ 1000 + (i + 1) := by have := HOK5.out.2; rw [HL5.out] at this; exact this
              have HRX := Lib.hid hr
              clear hr
              go_wp2_with (fail)
              refine Calls.mono HLEN.out ?_
              rintro e w6 ⟨he, k6⟩
              subst he
              have HN6 := Lib.hid (HN5.out.below k6)
              have HK6 := Lib.hid (HK5.out.trans (k6.mono HK5.out.size))
              clear k6
              have hr := HRX.out
              by_cases hbig : 256 < lenT Lc
              · rw [if_pos hbig] at hr
                have hres' := HRES.out _ hr
                have hb' : decide ((256 : Int) < (lenT Lc : Int)) = true := decide_eq_true (by omega)
                have HKW := Lib.hid (HK.out.trans (HK6.out.mono HK.out.size))
                clear hbig hr
                have e0 := And.intro (cell_of ((HK6.out.block _ hbz).trans HZ.out) 0) (unfrozen_of ((HK6.out.block _ hbz).trans HZ.out) 0)
                have e1 := And.intro (cell_of ((HK6.out.block _ hbz).trans HZ.out) 1) (unfrozen_of ((HK6.out.block _ hbz).trans HZ.out) 1)
                simp only [List.getElem?_toArray, List.getElem?_cons_zero, List.getElem?_cons_succ] at e0 e1
                go_wp2_with (fail)
                exact bodyPost_ret (v := .tuple #[.pointer none, .agg #[.int .i64 (i : Int), .int .i64 15]]) (by simp [results, Try.results38, go_sem, e0, e1]) rfl (BPost.bad hres' (by simp) (HKW.out.trans ((kept_set2 w6 w.heap.size (.int .i64 (i : Int)) (.int .i64 15)).below HKW.out.size (by simp))))
              · rw [if_neg hbig] at hr
                have hb' : decide ((256 : Int) < (lenT Lc : Int)) = false := decide_eq_false (by omega)
                have HR6 := Lib.hid hr
                clear hbig hr
                go_wp2_with (fail)
                go_roundg (gk - 1)
                case measure => omega
                case rel => exact ⟨i + 1, tx', by omega, by go_num, HN6.out, HOK5.out, by rw [HL5.out]; exact HR6.out, HK6.out⟩
            · rw [if_pos hec] at hr
              have hres' := HRES.out _ hr
              have hne : (ec == 0) = false := beq_eq_false_iff_ne.2 hec
              have HKW := Lib.hid (HK.out.trans (HK5.out.mono HK.out.size))
              clear hr
              have e0 := And.intro (cell_of ((HK5.out.block _ hbz).trans HZ.out) 0) (unfrozen_of ((HK5.out.block _ hbz).trans HZ.out) 0)
              have e1 := And.intro (cell_of ((HK5.out.block _ hbz).trans HZ.out) 1) (unfrozen_of ((HK5.out.block _ hbz).trans HZ.out) 1)
              simp only [List.getElem?_toArray, List.getElem?_cons_zero, List.getElem?_cons_succ] at e0 e1
              clear hec
              go_wp2_with (fail)
              exact bodyPost_ret (v := .tuple #[.pointer none, .agg #[.int .i64 (i : Int), .int .i64 ec]]) (by simp [results, Try.results38, go_sem, e0, e1]) rfl (BPost.bad hres' (by intro e; rw [e] at hne; simp at hne) (HKW.out.trans ((kept_set2 w5 w.heap.size (.int .i64 (i : Int)) (.int .i64 ec)).below HKW.out.size (by simp))))
          | false =>
            have HXC := Lib.hid (heap_alloc_new wr (.cells #[.bool false, .int .i64 r.id, .int .i64 r.dev, .int .u32 (r.addr : Int), .int .i64 r.bits, .int .i64 r.prio, .int .i64 r.out] 47))
            have hka := (Below.refl wr.heap.size wr).alloc (Nat.le_refl _) (.cells #[.bool false, .int .i64 r.id, .int .i64 r.dev, .int .u32 (r.addr : Int), .int .i64 r.bits, .int .i64 r.prio, .int .i64 r.out] 47)
            have HNA0 := Lib.hid (hN.below hka)
            have HKA0 := Lib.hid (hK.trans (hka.mono hK.size))
            have HFX : Hid (wr.heap.size ∉ feet tx) := Lib.hid (fun hm => by have := hN.feet_lt _ hm; omega)
            clear hat hw hN hOk hK hka hb hr
            go_upto_region 12 with (fail)
            generalize wr.alloc (.cells #[.bool false, .int .i64 r.id, .int .i64 r.dev, .int .u32 (r.addr : Int), .int .i64 r.bits, .int .i64 r.prio, .int .i64 r.out] 47) = wa0 at *
            generalize wr.heap.size = xb at *
            clear hcx
            have y0 := cell_of HXC.out 0
            have y1 := cell_of HXC.out 1
            have y2 := cell_of HXC.out 2
            have y3 := cell_of HXC.out 3
            have y4 := cell_of HXC.out 4
            have y5 := cell_of HXC.out 5
            have y6 := cell_of HXC.out 6
            simp only [List.getElem?_toArray, List.getElem?_cons_zero, List.getElem?_cons_succ] at y0 y1 y2 y3 y4 y5 y6
            have HBD := Lib.hid (bounds_calls wa0 r)
            generalize hbr : boundsR r = br at *
            have HBRV := Lib.hid hbr
            clear hbr
            go_wp2_with (fail)
            refine Calls.mono HBD.out ?_
            rintro e wa ⟨he, ka⟩
            subst he
            have HXCA := Lib.hid ((ka.block _ (lt_of_block HXC.out)).trans HXC.out)
            have HNA := Lib.hid (HNA0.out.below ka)
            have HKA := Lib.hid (HKA0.out.trans (ka.mono HKA0.out.size))
            clear ka y0 y1 y2 y3 y4 y5 y6 HXC HNA0 HKA0
            have HXC := HXCA
            clear HXCA
            have hr := HR0.out
            by_cases hb0 : br = 0
            · subst hb0
              rw [if_neg (by simp)] at hr
              have y0 := cell_of HXC.out 0
              have y1 := cell_of HXC.out 1
              have y2 := cell_of HXC.out 2
              have y3 := cell_of HXC.out 3
              have y4 := cell_of HXC.out 4
              have y5 := cell_of HXC.out 5
              have y6 := cell_of HXC.out 6
              simp only [List.getElem?_toArray, List.getElem?_cons_zero, List.getElem?_cons_succ] at y0 y1 y2 y3 y4 y5 y6
              have HC1 := Lib.hid (nchange_calls HNA.out (HTP.out _ HKA.out).1 (HTP.out _ HKA.out).2 HOR.out.1 hp (by have := HOR.out.2; omega) ⟨false, r⟩ HWR.out)
              unfold Op.val at HC1
              simp only at HC1
              go_wp2_with (fail)
              refine Calls.mono HC1.out ?_
              rintro e w5 ⟨tx', he, hN5, hL5, hT5⟩
              have HN5 := Lib.hid hN5
              have HK5 := Lib.hid (HKA.out.trans (hT5.below HKA.out.size (fun x hx => HNA.out.feet_lo x hx)))
              have hx5 := (hT5.kept.block xb (lt_of_block HXC.out) HFX.out).trans HXC.out
              have HOK5 : Hid (NetOk T.ports (TD.Ls tx') ∧ lenT (TD.Ls tx') ≤ 1000 + (i + 1)) := Lib.hid (by
                rw [hL5]
                have := chg_lenT T.ports (TD.Ls tx) ⟨false, r⟩
                have := HOR.out.2
                exact ⟨HOR.out.1.chg _, by omega⟩)
              obtain ⟨Lc, ec, hce⟩ : ∃ Lc ec, chgS T.ports (TD.Ls tx) ⟨false, r⟩ = (Lc, ec) := ⟨_, _, rfl⟩
              rw [hce] at he hL5 hr
              simp only at he hL5 hr
              subst he
              have HL5 := Lib.hid hL5
              clear hN5 hL5 hT5 hce hx5 y0 y1 y2 y3 y4 y5 y6
              by_cases hec : ec = 0
              · subst hec
                rw [if_neg (by simp)] at hr
                have hlt40 : tx'.length ≤ 40 := by
                  have := HOK5.out.1.len
                  simp [TD.Ls] at this
                  omega
                have HLEN := Lib.hid (nlen_calls HN5.out hlt40 (fun t ht => by
                  have h1 := lenT_mem (Ls := TD.Ls tx') (List.mem_map_of_mem (f := (·.L)) ht)
                  have := HOK5.out.2
                  omega))
                rw [lenT_S, HL5.out] at HLEN
                have hlc : lenT Lc ≤ 1000 + (i + 1) := by have := HOK5.out.2; rw [HL5.out] at this; exact this
                have HRX := Lib.hid hr
                clear hr
                go_wp2_with (fail)
                refine Calls.mono HLEN.out ?_
                rintro e w6 ⟨he, k6⟩
                subst he
                have HN6 := Lib.hid (HN5.out.below k6)
                have HK6 := Lib.hid (HK5.out.trans (k6.mono HK5.out.size))
                clear k6
                have hr := HRX.out
                by_cases hbig : 256 < lenT Lc
                · rw [if_pos hbig] at hr
                  have hres' := HRES.out _ hr
                  have hb' : decide ((256 : Int) < (lenT Lc : Int)) = true := decide_eq_true (by omega)
                  have HKW := Lib.hid (HK.out.trans (HK6.out.mono HK.out.size))
                  clear hbig hr
                  have e0 := And.intro (cell_of ((HK6.out.block _ hbz).trans HZ.out) 0) (unfrozen_of ((HK6.out.block _ hbz).trans HZ.out) 0)
                  have e1 := And.intro (cell_of ((HK6.out.block _ hbz).trans HZ.out) 1) (unfrozen_of ((HK6.out.block _ hbz).trans HZ.out) 1)
                  simp only [List.getElem?_toArray, List.getElem?_cons_zero, List.getElem?_cons_succ] at e0 e1
                  go_wp2_with (fail)
                  exact bodyPost_ret (v := .tuple #[.pointer none, .agg #[.int .i64 (i : Int), .int .i64 15]]) (by simp [results, Try.results38, go_sem, e0, e1]) rfl (BPost.bad hres' (by simp) (HKW.out.trans ((kept_set2 w6 w.heap.size (.int .i64 (i : Int)) (.int .i64 15)).below HKW.out.size (by simp))))
                · rw [if_neg hbig] at hr
                  have hb' : decide ((256 : Int) < (lenT Lc : Int)) = false := decide_eq_false (by omega)
                  have HR6 := Lib.hid hr
                  clear hbig hr
                  go_wp2_with (fail)
                  go_roundg (gk - 1)
                  case measure => omega
                  case rel => exact ⟨i + 1, tx', by omega, by go_num, HN6.out, HOK5.out, by rw [HL5.out]; exact HR6.out, HK6.out⟩
              · rw [if_pos hec] at hr
                have hres' := HRES.out _ hr
                have hne : (ec == 0) = false := beq_eq_false_iff_ne.2 hec
                have HKW := Lib.hid (HK.out.trans (HK5.out.mono HK.out.size))
                clear hr
                have e0 := And.intro (cell_of ((HK5.out.block _ hbz).trans HZ.out) 0) (unfrozen_of ((HK5.out.block _ hbz).trans HZ.out) 0)
                have e1 := And.intro (cell_of ((HK5.out.block _ hbz).trans HZ.out) 1) (unfrozen_of ((HK5.out.block _ hbz).trans HZ.out) 1)
                simp only [List.getElem?_toArray, List.getElem?_cons_zero, List.getElem?_cons_succ] at e0 e1
                clear hec
                go_wp2_with (fail)
                exact bodyPost_ret (v := .tuple #[.pointer none, .agg #[.int .i64 (i : Int), .int .i64 ec]]) (by simp [results, Try.results38, go_sem, e0, e1]) rfl (BPost.bad hres' (by intro e; rw [e] at hne; simp at hne) (HKW.out.trans ((kept_set2 w5 w.heap.size (.int .i64 (i : Int)) (.int .i64 ec)).below HKW.out.size (by simp))))
            · obtain rfl : br = 5 := by
                rw [← HBRV.out] at hb0 ⊢
                unfold boundsR at hb0 ⊢
                split at hb0
                · rename_i h
                  rw [if_pos h]
                · exact absurd rfl hb0
              rw [if_pos (by simp)] at hr
              have hres' := HRES.out _ hr
              have HKW := Lib.hid (HK.out.trans (HKA.out.mono HK.out.size))
              clear hr hb0
              have e0 := And.intro (cell_of ((HKA.out.block _ hbz).trans HZ.out) 0) (unfrozen_of ((HKA.out.block _ hbz).trans HZ.out) 0)
              have e1 := And.intro (cell_of ((HKA.out.block _ hbz).trans HZ.out) 1) (unfrozen_of ((HKA.out.block _ hbz).trans HZ.out) 1)
              simp only [List.getElem?_toArray, List.getElem?_cons_zero, List.getElem?_cons_succ] at e0 e1
              go_wp2_with (fail)
              exact bodyPost_ret (v := .tuple #[.pointer none, .agg #[.int .i64 (i : Int), .int .i64 5]]) (by simp [results, Try.results38, go_sem, e0, e1]) rfl (BPost.bad hres' (by simp) (HKW.out.trans ((kept_set2 wa w.heap.size (.int .i64 (i : Int)) (.int .i64 5)).below HKW.out.size (by simp))))
        · obtain rfl : i = l.length := by omega
          rw [List.drop_eq_nil_of_le (Nat.le_refl _)] at hr
          have hres' := HRES.out _ hr
          unfold appS at hres'
          have HKE := Lib.hid (HK.out.trans (hK.mono HK.out.size))
          have HRE := Lib.hid hres'
          have hzr := (hK.block _ hbz).trans HZ.out
          have e0 := And.intro (cell_of hzr 0) (unfrozen_of hzr 0)
          have e1 := And.intro (cell_of hzr 1) (unfrozen_of hzr 1)
          simp only [List.getElem?_toArray, List.getElem?_cons_zero, List.getElem?_cons_succ] at e0 e1
          clear hN hOk hr hK hres' hzr
          go_wp2_with (fail)
          have hk := kept_set2 wr w.heap.size (.int .i64 (-1)) (.int .i64 0)
          exact bodyPost_ret (v := .tuple #[.pointer (some ⟨nb2, 0, none⟩), .agg #[.int .i64 (-1), .int .i64 0]]) (by simp [results, Try.results38, go_sem, e0, e1]) rfl (by
            unfold BPost
            rw [HRE.out]
            refine ⟨_, rfl, HKE.out.trans (hk.below HKE.out.size (by simp)), fun e => absurd rfl e, fun _ => ⟨nb2, vt2, tx, rfl, ?_, rfl⟩⟩
            have hlo := HNR.out.lo.1
            have h9 := HNR.out.kept hk (fun hm => by have := List.mem_singleton.1 hm; omega) (fun g hg hm => by have := own_past HNR.out.row g hg; have := List.mem_singleton.1 hm; omega) (fun x hx hm => by have := HNR.out.feet_lo x hx; have := List.mem_singleton.1 hm; omega)
            exact h9.low (by omega))
end Go.Proofs.Ytiedhjmnjpkcoaa
