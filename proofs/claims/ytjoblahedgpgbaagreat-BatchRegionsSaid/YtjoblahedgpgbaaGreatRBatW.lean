/- Batches: the walks of bounds and of the program's Apply. · Batches: the walk of the program's Apply. · Batches: the walk of the document's Apply. -/
import Derived.Test.YtjoblahedgpgbaaGreatMadeW
import Derived.Test.YtjoblahedgpgbaaGreatJoinP
namespace Go.Proofs.YtjoblahedgpgbaaGreat
set_option linter.unusedVariables false
set_option linter.unusedSimpArgs false
open Go.RowKit

def boundsR (r : Rl) : Int := if r.id < 0 ∨ 1048576 < r.id ∨ r.prio < 0 ∨ 1000 < r.prio then 5 else 0
set_option maxRecDepth 100000 in
set_option maxHeartbeats 4000000 in
theorem bounds_calls (w : World) (r : Rl) : Calls Tryz.prog 144 #[.agg #[.int .i64 r.id, .int .i64 r.dev, .int .u32 (r.addr : Int), .int .i64 r.bits, .int .i64 r.prio, .int .i64 r.out]] w fun e w' => e = .returned (.int .i64 (boundsR r)) ∧ Below w.heap.size w w' := by
  have HX := Lib.hid (heap_alloc_new w (.cells #[.int .i64 r.id, .int .i64 r.dev, .int .u32 (r.addr : Int), .int .i64 r.bits, .int .i64 r.prio, .int .i64 r.out] 89))
  have HK := Lib.hid ((Below.refl w.heap.size w).alloc (Nat.le_refl _) (.cells #[.int .i64 r.id, .int .i64 r.dev, .int .u32 (r.addr : Int), .int .i64 r.bits, .int .i64 r.prio, .int .i64 r.out] 89))
  obtain ⟨id, dev, ad, bi, pr, ou⟩ := r
  obtain ⟨res, hres⟩ : ∃ res, res = boundsR ⟨id, dev, ad, bi, pr, ou⟩ := ⟨_, rfl⟩
  rw [← hres]
  unfold boundsR at hres
  simp only at *
  go_enter Tryz.func144, Tryz.ntmps144
  go_upto_region 1 with (fail)
  generalize w.alloc (.cells #[.int .i64 id, .int .i64 dev, .int .u32 (ad : Int), .int .i64 bi, .int .i64 pr, .int .i64 ou] 89) = w1 at *
  have y0 := cell_of HX.out 0
  have y4 := cell_of HX.out 4
  simp only [List.getElem?_toArray, List.getElem?_cons_zero, List.getElem?_cons_succ] at y0 y4
  by_cases h1 : id < 0
  · rw [if_pos (Or.inl h1)] at hres
    subst hres
    have h1' : decide (id < 0) = true := decide_eq_true h1
    clear h1
    go_wp2_with (fail)
    go_ret
    exact ⟨rfl, HK.out⟩
  · have h1' : decide (id < 0) = false := decide_eq_false h1
    by_cases h2 : 1048576 < id
    · rw [if_pos (Or.inr (Or.inl h2))] at hres
      subst hres
      have h2' : decide (1048576 < id) = true := decide_eq_true h2
      clear h1 h2
      go_wp2_with (fail)
      go_ret
      exact ⟨rfl, HK.out⟩
    · have h2' : decide (1048576 < id) = false := decide_eq_false h2
      by_cases h3 : pr < 0
      · rw [if_pos (Or.inr (Or.inr (Or.inl h3)))] at hres
        subst hres
        have h3' : decide (pr < 0) = true := decide_eq_true h3
        clear h1 h2 h3
        go_wp2_with (fail)
        go_ret
        exact ⟨rfl, HK.out⟩
      · have h3' : decide (pr < 0) = false := decide_eq_false h3
        by_cases h4 : 1000 < pr
        · rw [if_pos (Or.inr (Or.inr (Or.inr h4)))] at hres
          subst hres
          have h4' : decide (1000 < pr) = true := decide_eq_true h4
          clear h1 h2 h3 h4
          go_wp2_with (fail)
          go_ret
          exact ⟨rfl, HK.out⟩
        · rw [if_neg (by omega)] at hres
          subst hres
          have h4' : decide (1000 < pr) = false := decide_eq_false h4
          clear h1 h2 h3 h4
          go_wp2_with (fail)
          go_ret
          exact ⟨rfl, HK.out⟩
theorem badO_iff (o : Op) : badO o = (!o.del && decide (boundsR o.rule ≠ 0)) := by
  unfold badO boundsR
  cases o.del with
  | true => rfl
  | false =>
    by_cases h : o.rule.id < 0 ∨ 1048576 < o.rule.id ∨ o.rule.prio < 0 ∨ 1000 < o.rule.prio
    · simp [h]
    · simp [h]
end Go.Proofs.YtjoblahedgpgbaaGreat

namespace Go.Proofs.YtjoblahedgpgbaaGreat
set_option linter.unusedVariables false
set_option linter.unusedSimpArgs false
open Go.RowKit

def set2 (w : World) (b : Nat) (x0 x1 : Value) : World := (w.setCell ⟨b, 0, none⟩ x0).setCell ⟨b, 1, none⟩ x1
theorem kept_set2 (w : World) (b : Nat) (x0 x1 : Value) : Kept [b] w (set2 w b x0 x1) := ((Kept.refl [b] w).setCell _ _ (by simp)).setCell _ _ (by simp)
/-- What the program's Apply leaves. -/
def BPost (T : Tp) (l : List Op) (Ls : List (List Rl)) (w : World) (vp vl va : Value) (e : Ending) (w' : World) : Prop :=
  ∃ v, e = .returned (.tuple #[v, .agg #[.int .i64 (batchS T.ports l Ls).2.1, .int .i64 (batchS T.ports l Ls).2.2]]) ∧ Below w.heap.size w w' ∧ ((batchS T.ports l Ls).2.2 ≠ 0 → v = .pointer none) ∧
    ((batchS T.ports l Ls).2.2 = 0 → ∃ nb vt ts, v = .pointer (some ⟨nb, 0, none⟩) ∧ NetAt w' w.heap.size nb vp vl va vt ts ∧ TD.Ls ts = (batchS T.ports l Ls).1)
theorem BPost.bad {T : Tp} {l : List Op} {Ls Lx : List (List Rl)} {w w' : World} {vp vl va : Value} {at_ er : Int} (h : batchS T.ports l Ls = (Lx, at_, er)) (he : er ≠ 0) (k : Below w.heap.size w w') : BPost T l Ls w vp vl va (.returned (.tuple #[.pointer none, .agg #[.int .i64 at_, .int .i64 er]])) w' := by
  unfold BPost
  rw [h]
  exact ⟨_, rfl, k, fun _ => rfl, fun e => absurd e he⟩

variable {w : World} {B B0 nb : Nat} {vp vl va vt v1 : Value} {ts : List TD} {T : Tp} {l : List Op}
set_option maxRecDepth 100000 in
set_option maxHeartbeats 16000000 in
theorem bapply_calls (h : NetAt w B nb vp vl va vt ts) (hT : TpIn B0 w vp vl va T) (hB0 : B0 ≤ w.heap.size) (hok : NetOk T.ports (TD.Ls ts)) (hp : T.ports.length ≤ 40) (hL : lenT (TD.Ls ts) ≤ 1000) (ho : OpsIn w v1 l) :
    Calls Tryz.prog 74 #[.pointer (some ⟨nb, 0, none⟩), v1] w fun e w' => BPost T l (TD.Ls ts) w vp vl va e w' := by
  have HN := Lib.hid h
  have HT := Lib.hid hT
  have HOK := Lib.hid (And.intro hok hL)
  obtain ⟨hwf, ao, cap, rfl, hop⟩ := ho
  have HWF := Lib.hid hwf
  have HOP := Lib.hid hop
  have HZ := Lib.hid (heap_alloc_new w (.cells #[.int .i64 0, .int .i64 0] 93))
  have HK := Lib.hid ((Below.refl w.heap.size w).alloc (Nat.le_refl _) (.cells #[.int .i64 0, .int .i64 0] 93))
  have hbz0 : w.heap.size < (w.alloc (.cells #[.int .i64 0, .int .i64 0] 93)).heap.size := by simp
  have HBZ := Lib.hid hbz0
  have HB0 := Lib.hid hB0
  obtain ⟨Ls0, hLs0⟩ : ∃ Ls0, Ls0 = TD.Ls ts := ⟨_, rfl⟩
  rw [← hLs0]
  have HL0 := Lib.hid hLs0
  have htl : ts.length ≤ 40 := by have := hok.len; simp [TD.Ls] at this; omega
  have HTL := Lib.hid htl
  clear h hT hok hL hwf hop hbz0 hB0 hLs0 htl
  go_enter Tryz.func74, Tryz.ntmps74
  go_upto_region 1 with (fail)
  generalize w.alloc (.cells #[.int .i64 0, .int .i64 0] 93) = w1 at *
  by_cases h0 : l.length = 0
  · have hres' : batchS T.ports l Ls0 = (Ls0, -1, 1) := by unfold batchS; rw [if_pos h0]
    have h0' : (l.length : Int) = 0 := by omega
    have HKW := Lib.hid HK.out
    have e0 := And.intro (cell_of HZ.out 0) (unfrozen_of HZ.out 0)
    have e1 := And.intro (cell_of HZ.out 1) (unfrozen_of HZ.out 1)
    simp only [List.getElem?_toArray, List.getElem?_cons_zero, List.getElem?_cons_succ] at e0 e1
    clear h0
    go_wp2_with (fail)
    exact bodyPost_ret (v := .tuple #[.pointer none, .agg #[.int .i64 (-1), .int .i64 1]]) (by simp [results, Tryz.results74, go_sem, e0, e1]) rfl (BPost.bad hres' (by decide) (HKW.out.trans ((kept_set2 w1 w.heap.size (.int .i64 (-1)) (.int .i64 1)).below HKW.out.size (by simp))))
  · have h0' : ((l.length : Int) == 0) = false := beq_eq_false_iff_ne.2 (by omega)
    by_cases h32 : 32 < l.length
    · have hres' : batchS T.ports l Ls0 = (Ls0, -1, 15) := by unfold batchS; rw [if_neg h0, if_pos h32]
      have h1' : decide ((32 : Int) < (l.length : Int)) = true := decide_eq_true (by omega)
      have HKW := Lib.hid HK.out
      have e0 := And.intro (cell_of HZ.out 0) (unfrozen_of HZ.out 0)
      have e1 := And.intro (cell_of HZ.out 1) (unfrozen_of HZ.out 1)
      simp only [List.getElem?_toArray, List.getElem?_cons_zero, List.getElem?_cons_succ] at e0 e1
      clear h0 h32
      go_wp2_with (fail)
      exact bodyPost_ret (v := .tuple #[.pointer none, .agg #[.int .i64 (-1), .int .i64 15]]) (by simp [results, Tryz.results74, go_sem, e0, e1]) rfl (BPost.bad hres' (by decide) (HKW.out.trans ((kept_set2 w1 w.heap.size (.int .i64 (-1)) (.int .i64 15)).below HKW.out.size (by simp))))
    · have h1' : decide ((32 : Int) < (l.length : Int)) = false := decide_eq_false (by omega)
      have hl32 : l.length ≤ 32 := by omega
      have HRES : Hid (∀ x, appS T.ports l 0 Ls0 = x → batchS T.ports l Ls0 = x) := Lib.hid (fun x hx => by unfold batchS; rw [if_neg h0, if_neg h32, hx])
      clear h0 h32
      have HCL := Lib.hid (nclone_calls (HN.out.below HK.out) HTL.out (fun t ht => by
        have h1 := lenT_mem (Ls := TD.Ls ts) (List.mem_map_of_mem (f := (·.L)) ht)
        have := HOK.out.2
        omega))
      go_wp2_with (fail)
      refine Calls.mono HCL.out ?_
      rintro e w2 ⟨nb2, vt2, ts2, he, hN2, hL2, k2⟩
      subst he
      have HN2 := Lib.hid hN2
      have HK2 := Lib.hid k2
      have HOK2 : Hid (NetOk T.ports (TD.Ls ts2) ∧ lenT (TD.Ls ts2) ≤ 1000) := Lib.hid (by rw [hL2]; exact HOK.out)
      have HL2 : Hid (TD.Ls ts2 = Ls0) := Lib.hid (by rw [hL2, HL0.out])
      clear hN2 hL2 k2 HCL
      have HTP : Hid (∀ X, Below w1.heap.size w1 X → TpIn B0 X vp vl va T ∧ B0 ≤ w1.heap.size) := Lib.hid (fun X kX => ⟨HT.out.kept ((HK.out.trans (kX.mono HK.out.size)).mono HB0.out), Nat.le_trans HB0.out HK.out.size⟩)
      have hbz := HBZ.out
      go_wp2_with (fail)
      go_loopg [28] l.length (fun gk vi wr => ∃ (i : Nat) (tx : List TD), i + gk = l.length ∧ vi = .int .i64 (i : Int) ∧ NetAt wr w1.heap.size nb2 vp vl va vt2 tx ∧ (NetOk T.ports (TD.Ls tx) ∧ lenT (TD.Ls tx) ≤ 1000 + i) ∧ appS T.ports l 0 Ls0 = appS T.ports (l.drop i) i (TD.Ls tx) ∧ Below w1.heap.size w1 wr)
      case atStart => exact ⟨0, ts2, by omega, rfl, HN2.out, HOK2.out, by rw [HL2.out]; rfl, HK2.out⟩
      case round =>
        obtain ⟨i, tx, hgk, rfl, hN, hOk, hr, hK⟩ := hrel
        have HNR := Lib.hid hN
        have HOR := Lib.hid hOk
        have HKR := Lib.hid hK
        by_cases hlt : i < l.length
        · obtain ⟨b, off, rfl, hat, hb⟩ := HOP.out i hlt
          have hcx := hat.cells hb (HK.out.trans (hK.mono HK.out.size)) i hlt
          rw [List.drop_eq_getElem_cons hlt, appS_cons, badO_iff] at hr
          have hw := HWF.out _ (List.getElem_mem hlt)
          generalize l[i] = o at *
          obtain ⟨del, r⟩ := o
          simp only at hcx hw hr
          have HWR := Lib.hid hw
          have HR0 := Lib.hid hr
          have hbz1 := HBZ.out
          cases del with
          | true =>
            have HXC := Lib.hid (heap_alloc_new wr (.cells #[.bool true, .int .i64 r.id, .int .i64 r.dev, .int .u32 (r.addr : Int), .int .i64 r.bits, .int .i64 r.prio, .int .i64 r.out] 91))
            have hka := (Below.refl wr.heap.size wr).alloc (Nat.le_refl _) (.cells #[.bool true, .int .i64 r.id, .int .i64 r.dev, .int .u32 (r.addr : Int), .int .i64 r.bits, .int .i64 r.prio, .int .i64 r.out] 91)
            have HNA := Lib.hid (hN.below hka)
            have HKA := Lib.hid (hK.trans (hka.mono hK.size))
            have HFX : Hid (wr.heap.size ∉ feet tx) := Lib.hid (fun hm => by have := hN.feet_lt _ hm; omega)
            clear hat hw hN hOk hK hka hb hr
            go_upto_region 12 with (fail)
            generalize wr.alloc (.cells #[.bool true, .int .i64 r.id, .int .i64 r.dev, .int .u32 (r.addr : Int), .int .i64 r.bits, .int .i64 r.prio, .int .i64 r.out] 91) = wa at *
            generalize wr.heap.size = xb at *
            clear hcx
            have y0 := cell_of HXC.out 0
            have y1 := cell_of HXC.out 1
            have y2 := cell_of HXC.out 2
            have y3 := cell_of HXC.out 3
            have y4 := cell_of HXC.out 4
            have y5 := cell_of HXC.out 5
            have y6 := cell_of HXC.out 6
            simp only [List.getElem?_toArray, List.getElem?_cons_zero, List.getElem?_cons_succ] at y0 y1 y2 y3 y4 y5 y6
            have hr := HR0.out
            rw [if_neg (by simp)] at hr
            have HC1 := Lib.hid (nchange_calls HNA.out (HTP.out _ HKA.out).1 (HTP.out _ HKA.out).2 HOR.out.1 hp (by have := HOR.out.2; omega) ⟨true, r⟩ HWR.out)
            unfold Op.val at HC1
            simp only at HC1
            go_wp2_with (fail)
            refine Calls.mono HC1.out ?_
            rintro e w5 ⟨tx', he, hN5, hL5, hT5⟩
            have HN5 := Lib.hid hN5
            have HK5 := Lib.hid (HKA.out.trans (hT5.below HKA.out.size (fun x hx => HNA.out.feet_lo x hx)))
            have hx5 := (hT5.kept.block xb (lt_of_block HXC.out) HFX.out).trans HXC.out
            have HOK5 : Hid (NetOk T.ports (TD.Ls tx') ∧ lenT (TD.Ls tx') ≤ 1000 + (i + 1)) := Lib.hid (by
              rw [hL5]
              have := chg_lenT T.ports (TD.Ls tx) ⟨true, r⟩
              have := HOR.out.2
              exact ⟨HOR.out.1.chg _, by omega⟩)
            obtain ⟨Lc, ec, hce⟩ : ∃ Lc ec, chgS T.ports (TD.Ls tx) ⟨true, r⟩ = (Lc, ec) := ⟨_, _, rfl⟩
            rw [hce] at he hL5 hr
            simp only at he hL5 hr
            subst he
            have HL5 := Lib.hid hL5
            clear hN5 hL5 hT5 hce hx5 y0 y1 y2 y3 y4 y5 y6
            by_cases hec : ec = 0
            · subst hec
              rw [if_neg (by simp)] at hr
              have hlt40 : tx'.length ≤ 40 := by
                have := HOK5.out.1.len
                simp [TD.Ls] at this
                omega
              have HLEN := Lib.hid (nlen_calls HN5.out hlt40 (fun t ht => by
                have h1 := lenT_mem (Ls := TD.Ls tx') (List.mem_map_of_mem (f := (·.L)) ht)
                have := HOK5.out.2
                omega))
              rw [lenT_S, HL5.out] at HLEN
              have hlc : lenT Lc ≤ 1000 + (i + 1) := by have := HOK5.out.2; rw [HL5.out] at this; exact this
              have HRX := Lib.hid hr
              clear hr
              go_wp2_with (fail)
              refine Calls.mono HLEN.out ?_
              rintro e w6 ⟨he, k6⟩
              subst he
              have HN6 := Lib.hid (HN5.out.below k6)
              have HK6 := Lib.hid (HK5.out.trans (k6.mono HK5.out.size))
              clear k6
              have hr := HRX.out
              by_cases hbig : 256 < lenT Lc
              · rw [if_pos hbig] at hr
                have hres' := HRES.out _ hr
                have hb' : decide ((256 : Int) < (lenT Lc : Int)) = true := decide_eq_true (by omega)
                have HKW := Lib.hid (HK.out.trans (HK6.out.mono HK.out.size))
                clear hbig hr
                have e0 := And.intro (cell_of ((HK6.out.block _ hbz).trans HZ.out) 0) (unfrozen_of ((HK6.out.block _ hbz).trans HZ.out) 0)
                have e1 := And.intro (cell_of ((HK6.out.block _ hbz).trans HZ.out) 1) (unfrozen_of ((HK6.out.block _ hbz).trans HZ.out) 1)
                simp only [List.getElem?_toArray, List.getElem?_cons_zero, List.getElem?_cons_succ] at e0 e1
                go_wp2_with (fail)
                exact bodyPost_ret (v := .tuple #[.pointer none, .agg #[.int .i64 (i : Int), .int .i64 15]]) (by simp [results, Tryz.results74, go_sem, e0, e1]) rfl (BPost.bad hres' (by simp) (HKW.out.trans ((kept_set2 w6 w.heap.size (.int .i64 (i : Int)) (.int .i64 15)).below HKW.out.size (by simp))))
              · rw [if_neg hbig] at hr
                have hb' : decide ((256 : Int) < (lenT Lc : Int)) = false := decide_eq_false (by omega)
                have HR6 := Lib.hid hr
                clear hbig hr
                go_wp2_with (fail)
                go_roundg (gk - 1)
                case measure => omega
                case rel => exact ⟨i + 1, tx', by omega, by go_num, HN6.out, HOK5.out, by rw [HL5.out]; exact HR6.out, HK6.out⟩
            · rw [if_pos hec] at hr
              have hres' := HRES.out _ hr
              have hne : (ec == 0) = false := beq_eq_false_iff_ne.2 hec
              have HKW := Lib.hid (HK.out.trans (HK5.out.mono HK.out.size))
              clear hr
              have e0 := And.intro (cell_of ((HK5.out.block _ hbz).trans HZ.out) 0) (unfrozen_of ((HK5.out.block _ hbz).trans HZ.out) 0)
              have e1 := And.intro (cell_of ((HK5.out.block _ hbz).trans HZ.out) 1) (unfrozen_of ((HK5.out.block _ hbz).trans HZ.out) 1)
              simp only [List.getElem?_toArray, List.getElem?_cons_zero, List.getElem?_cons_succ] at e0 e1
              clear hec
              go_wp2_with (fail)
              exact bodyPost_ret (v := .tuple #[.pointer none, .agg #[.int .i64 (i : Int), .int .i64 ec]]) (by simp [results, Tryz.results74, go_sem, e0, e1]) rfl (BPost.bad hres' (by intro e; rw [e] at hne; simp at hne) (HKW.out.trans ((kept_set2 w5 w.heap.size (.int .i64 (i : Int)) (.int .i64 ec)).below HKW.out.size (by simp))))
          | false =>
            have HXC := Lib.hid (heap_alloc_new wr (.cells #[.bool false, .int .i64 r.id, .int .i64 r.dev, .int .u32 (r.addr : Int), .int .i64 r.bits, .int .i64 r.prio, .int .i64 r.out] 91))
            have hka := (Below.refl wr.heap.size wr).alloc (Nat.le_refl _) (.cells #[.bool false, .int .i64 r.id, .int .i64 r.dev, .int .u32 (r.addr : Int), .int .i64 r.bits, .int .i64 r.prio, .int .i64 r.out] 91)
            have HNA0 := Lib.hid (hN.below hka)
            have HKA0 := Lib.hid (hK.trans (hka.mono hK.size))
            have HFX : Hid (wr.heap.size ∉ feet tx) := Lib.hid (fun hm => by have := hN.feet_lt _ hm; omega)
            clear hat hw hN hOk hK hka hb hr
            go_upto_region 12 with (fail)
            generalize wr.alloc (.cells #[.bool false, .int .i64 r.id, .int .i64 r.dev, .int .u32 (r.addr : Int), .int .i64 r.bits, .int .i64 r.prio, .int .i64 r.out] 91) = wa0 at *
            generalize wr.heap.size = xb at *
            clear hcx
            have y0 := cell_of HXC.out 0
            have y1 := cell_of HXC.out 1
            have y2 := cell_of HXC.out 2
            have y3 := cell_of HXC.out 3
            have y4 := cell_of HXC.out 4
            have y5 := cell_of HXC.out 5
            have y6 := cell_of HXC.out 6
            simp only [List.getElem?_toArray, List.getElem?_cons_zero, List.getElem?_cons_succ] at y0 y1 y2 y3 y4 y5 y6
            have HBD := Lib.hid (bounds_calls wa0 r)
            generalize hbr : boundsR r = br at *
            have HBRV := Lib.hid hbr
            clear hbr
            go_wp2_with (fail)
            refine Calls.mono HBD.out ?_
            rintro e wa ⟨he, ka⟩
            subst he
            have HXCA := Lib.hid ((ka.block _ (lt_of_block HXC.out)).trans HXC.out)
            have HNA := Lib.hid (HNA0.out.below ka)
            have HKA := Lib.hid (HKA0.out.trans (ka.mono HKA0.out.size))
            clear ka y0 y1 y2 y3 y4 y5 y6 HXC HNA0 HKA0
            have HXC := HXCA
            clear HXCA
            have hr := HR0.out
            by_cases hb0 : br = 0
            · subst hb0
              rw [if_neg (by simp)] at hr
              have y0 := cell_of HXC.out 0
              have y1 := cell_of HXC.out 1
              have y2 := cell_of HXC.out 2
              have y3 := cell_of HXC.out 3
              have y4 := cell_of HXC.out 4
              have y5 := cell_of HXC.out 5
              have y6 := cell_of HXC.out 6
              simp only [List.getElem?_toArray, List.getElem?_cons_zero, List.getElem?_cons_succ] at y0 y1 y2 y3 y4 y5 y6
              have HC1 := Lib.hid (nchange_calls HNA.out (HTP.out _ HKA.out).1 (HTP.out _ HKA.out).2 HOR.out.1 hp (by have := HOR.out.2; omega) ⟨false, r⟩ HWR.out)
              unfold Op.val at HC1
              simp only at HC1
              go_wp2_with (fail)
              refine Calls.mono HC1.out ?_
              rintro e w5 ⟨tx', he, hN5, hL5, hT5⟩
              have HN5 := Lib.hid hN5
              have HK5 := Lib.hid (HKA.out.trans (hT5.below HKA.out.size (fun x hx => HNA.out.feet_lo x hx)))
              have hx5 := (hT5.kept.block xb (lt_of_block HXC.out) HFX.out).trans HXC.out
              have HOK5 : Hid (NetOk T.ports (TD.Ls tx') ∧ lenT (TD.Ls tx') ≤ 1000 + (i + 1)) := Lib.hid (by
                rw [hL5]
                have := chg_lenT T.ports (TD.Ls tx) ⟨false, r⟩
                have := HOR.out.2
                exact ⟨HOR.out.1.chg _, by omega⟩)
              obtain ⟨Lc, ec, hce⟩ : ∃ Lc ec, chgS T.ports (TD.Ls tx) ⟨false, r⟩ = (Lc, ec) := ⟨_, _, rfl⟩
              rw [hce] at he hL5 hr
              simp only at he hL5 hr
              subst he
              have HL5 := Lib.hid hL5
              clear hN5 hL5 hT5 hce hx5 y0 y1 y2 y3 y4 y5 y6
              by_cases hec : ec = 0
              · subst hec
                rw [if_neg (by simp)] at hr
                have hlt40 : tx'.length ≤ 40 := by
                  have := HOK5.out.1.len
                  simp [TD.Ls] at this
                  omega
                have HLEN := Lib.hid (nlen_calls HN5.out hlt40 (fun t ht => by
                  have h1 := lenT_mem (Ls := TD.Ls tx') (List.mem_map_of_mem (f := (·.L)) ht)
                  have := HOK5.out.2
                  omega))
                rw [lenT_S, HL5.out] at HLEN
                have hlc : lenT Lc ≤ 1000 + (i + 1) := by have := HOK5.out.2; rw [HL5.out] at this; exact this
                have HRX := Lib.hid hr
                clear hr
                go_wp2_with (fail)
                refine Calls.mono HLEN.out ?_
                rintro e w6 ⟨he, k6⟩
                subst he
                have HN6 := Lib.hid (HN5.out.below k6)
                have HK6 := Lib.hid (HK5.out.trans (k6.mono HK5.out.size))
                clear k6
                have hr := HRX.out
                by_cases hbig : 256 < lenT Lc
                · rw [if_pos hbig] at hr
                  have hres' := HRES.out _ hr
                  have hb' : decide ((256 : Int) < (lenT Lc : Int)) = true := decide_eq_true (by omega)
                  have HKW := Lib.hid (HK.out.trans (HK6.out.mono HK.out.size))
                  clear hbig hr
                  have e0 := And.intro (cell_of ((HK6.out.block _ hbz).trans HZ.out) 0) (unfrozen_of ((HK6.out.block _ hbz).trans HZ.out) 0)
                  have e1 := And.intro (cell_of ((HK6.out.block _ hbz).trans HZ.out) 1) (unfrozen_of ((HK6.out.block _ hbz).trans HZ.out) 1)
                  simp only [List.getElem?_toArray, List.getElem?_cons_zero, List.getElem?_cons_succ] at e0 e1
                  go_wp2_with (fail)
                  exact bodyPost_ret (v := .tuple #[.pointer none, .agg #[.int .i64 (i : Int), .int .i64 15]]) (by simp [results, Tryz.results74, go_sem, e0, e1]) rfl (BPost.bad hres' (by simp) (HKW.out.trans ((kept_set2 w6 w.heap.size (.int .i64 (i : Int)) (.int .i64 15)).below HKW.out.size (by simp))))
                · rw [if_neg hbig] at hr
                  have hb' : decide ((256 : Int) < (lenT Lc : Int)) = false := decide_eq_false (by omega)
                  have HR6 := Lib.hid hr
                  clear hbig hr
                  go_wp2_with (fail)
                  go_roundg (gk - 1)
                  case measure => omega
                  case rel => exact ⟨i + 1, tx', by omega, by go_num, HN6.out, HOK5.out, by rw [HL5.out]; exact HR6.out, HK6.out⟩
              · rw [if_pos hec] at hr
                have hres' := HRES.out _ hr
                have hne : (ec == 0) = false := beq_eq_false_iff_ne.2 hec
                have HKW := Lib.hid (HK.out.trans (HK5.out.mono HK.out.size))
                clear hr
                have e0 := And.intro (cell_of ((HK5.out.block _ hbz).trans HZ.out) 0) (unfrozen_of ((HK5.out.block _ hbz).trans HZ.out) 0)
                have e1 := And.intro (cell_of ((HK5.out.block _ hbz).trans HZ.out) 1) (unfrozen_of ((HK5.out.block _ hbz).trans HZ.out) 1)
                simp only [List.getElem?_toArray, List.getElem?_cons_zero, List.getElem?_cons_succ] at e0 e1
                clear hec
                go_wp2_with (fail)
                exact bodyPost_ret (v := .tuple #[.pointer none, .agg #[.int .i64 (i : Int), .int .i64 ec]]) (by simp [results, Tryz.results74, go_sem, e0, e1]) rfl (BPost.bad hres' (by intro e; rw [e] at hne; simp at hne) (HKW.out.trans ((kept_set2 w5 w.heap.size (.int .i64 (i : Int)) (.int .i64 ec)).below HKW.out.size (by simp))))
            · obtain rfl : br = 5 := by
                rw [← HBRV.out] at hb0 ⊢
                unfold boundsR at hb0 ⊢
                split at hb0
                · rename_i h
                  rw [if_pos h]
                · exact absurd rfl hb0
              rw [if_pos (by simp)] at hr
              have hres' := HRES.out _ hr
              have HKW := Lib.hid (HK.out.trans (HKA.out.mono HK.out.size))
              clear hr hb0
              have e0 := And.intro (cell_of ((HKA.out.block _ hbz).trans HZ.out) 0) (unfrozen_of ((HKA.out.block _ hbz).trans HZ.out) 0)
              have e1 := And.intro (cell_of ((HKA.out.block _ hbz).trans HZ.out) 1) (unfrozen_of ((HKA.out.block _ hbz).trans HZ.out) 1)
              simp only [List.getElem?_toArray, List.getElem?_cons_zero, List.getElem?_cons_succ] at e0 e1
              go_wp2_with (fail)
              exact bodyPost_ret (v := .tuple #[.pointer none, .agg #[.int .i64 (i : Int), .int .i64 5]]) (by simp [results, Tryz.results74, go_sem, e0, e1]) rfl (BPost.bad hres' (by simp) (HKW.out.trans ((kept_set2 wa w.heap.size (.int .i64 (i : Int)) (.int .i64 5)).below HKW.out.size (by simp))))
        · obtain rfl : i = l.length := by omega
          rw [List.drop_eq_nil_of_le (Nat.le_refl _)] at hr
          have hres' := HRES.out _ hr
          unfold appS at hres'
          have HKE := Lib.hid (HK.out.trans (hK.mono HK.out.size))
          have HRE := Lib.hid hres'
          have hzr := (hK.block _ hbz).trans HZ.out
          have e0 := And.intro (cell_of hzr 0) (unfrozen_of hzr 0)
          have e1 := And.intro (cell_of hzr 1) (unfrozen_of hzr 1)
          simp only [List.getElem?_toArray, List.getElem?_cons_zero, List.getElem?_cons_succ] at e0 e1
          clear hN hOk hr hK hres' hzr
          go_wp2_with (fail)
          have hk := kept_set2 wr w.heap.size (.int .i64 (-1)) (.int .i64 0)
          exact bodyPost_ret (v := .tuple #[.pointer (some ⟨nb2, 0, none⟩), .agg #[.int .i64 (-1), .int .i64 0]]) (by simp [results, Tryz.results74, go_sem, e0, e1]) rfl (by
            unfold BPost
            rw [HRE.out]
            refine ⟨_, rfl, HKE.out.trans (hk.below HKE.out.size (by simp)), fun e => absurd rfl e, fun _ => ⟨nb2, vt2, tx, rfl, ?_, rfl⟩⟩
            have hlo := HNR.out.lo.1
            have h9 := HNR.out.kept hk (fun hm => by have := List.mem_singleton.1 hm; omega) (fun g hg hm => by have := own_pastT HNR.out.row g hg; have := List.mem_singleton.1 hm; omega) (fun x hx hm => by have := HNR.out.feet_lo x hx; have := List.mem_singleton.1 hm; omega)
            exact h9.low (by omega))
end Go.Proofs.YtjoblahedgpgbaaGreat

namespace Go.Proofs.YtjoblahedgpgbaaGreat
set_option linter.unusedVariables false
set_option linter.unusedSimpArgs false
open Go.RowKit

/-- What the document's Apply leaves. -/
def RBPost (T : Tp) (l : List Op) (Ls : List (List Rl)) (B : Nat) (w : World) (vp vl va vr : Value) (rs : List Value) (e : Ending) (w' : World) : Prop :=
  ∃ vr' rs' ls', e = .returned (.tuple #[.agg #[vp, vl, va, vr'], .int .i64 (batchS T.ports l Ls).2.1, .int .i64 (batchS T.ports l Ls).2.2]) ∧ RNetAt w' B vr' rs' ls' ∧ ((batchS T.ports l Ls).2.2 = 0 → Pairs (batchS T.ports l Ls).1 ls') ∧ (∀ x ∈ rfoot vr' rs', x ∈ rfoot vr rs ∨ w.heap.size ≤ x) ∧ Below w.heap.size w w'
theorem RBPost.same {T : Tp} {l : List Op} {Ls Lx : List (List Rl)} {ls : List (List Rl)} {B : Nat} {w W : World} {vp vl va vr : Value} {rs : List Value} {at_ er : Int} (h : batchS T.ports l Ls = (Lx, at_, er)) (he : er ≠ 0) (hd : RNetAt w B vr rs ls) (hlo : ∀ x ∈ rfoot vr rs, x < w.heap.size) (hk : Below w.heap.size w W) :
    RBPost T l Ls B w vp vl va vr rs (.returned (.tuple #[.agg #[vp, vl, va, vr], .int .i64 at_, .int .i64 er])) (set4 W (w.heap.size + 1) vp vl va vr) := by
  have hk4 := kept_set4 W (w.heap.size + 1) vp vl va vr
  unfold RBPost
  rw [h]
  exact ⟨vr, rs, ls, rfl, (hd.below hk).kept hk4 (fun x hx hc => by have := hlo x hx; have := List.mem_singleton.1 hc; omega), fun e => absurd e he, fun x hx => Or.inl hx, hk.trans (hk4.below hk.size (by simp))⟩

/-- A net behind a change. -/
def NX (B b0 : Nat) (w : World) (vn vx : Value) (rs2 : List Value) (Lc : List (List Rl)) (nn : Nat) : Prop := ∃ rs' ls', ls'.length = nn ∧ RNetAt w B vn rs' ls' ∧ Pairs Lc ls' ∧ ∀ x ∈ rfoot vn rs', x ∈ rfoot vx rs2 ∨ b0 ≤ x
/-- It, in a box. -/
def NBox (B : Nat) (wr wa wq : World) (rb : Nat) (vp vl va vn vx : Value) (rs2 : List Value) (Lc : List (List Rl)) (nn : Nat) : Prop := wq.heap[rb]? = some (.cells #[vp, vl, va, vn] 38 (0, 0)) ∧ Below wa.heap.size wa wq ∧ NX B wr.heap.size wq vn vx rs2 Lc nn
theorem NBox.mk_ {B : Nat} {wr wa wq : World} {rb : Nat} {vp vl va vn vx : Value} {rs2 : List Value} {Lc : List (List Rl)} {nn : Nat} (h1 : wq.heap[rb]? = some (.cells #[vp, vl, va, vn] 38 (0, 0))) (h2 : Below wa.heap.size wa wq) (h3 : NX B wr.heap.size wq vn vx rs2 Lc nn) : NBox B wr wa wq rb vp vl va vn vx rs2 Lc nn := ⟨h1, h2, h3⟩
theorem NX.kept {B b0 b1 : Nat} {w w' : World} {S : List Nat} {vn vx : Value} {rs2 : List Value} {Lc : List (List Rl)} {nn : Nat} (h : NX B b0 w vn vx rs2 Lc nn) (k : Kept S w w') (hb : b1 ≤ b0) (hs : ∀ x ∈ S, x ∉ rfoot vx rs2 ∧ x < b0) : NX B b1 w' vn vx rs2 Lc nn := by
  obtain ⟨rs', ls', hn, hd, hp, hf⟩ := h
  refine ⟨rs', ls', hn, hd.kept k (fun x hx hm => ?_), hp, fun x hx => (hf x hx).imp id (fun h => Nat.le_trans hb h)⟩
  rcases hf x hx with h1 | h1
  · exact (hs x hm).1 h1
  · have := (hs x hm).2
    omega
theorem set4_blk {w : World} {b : Nat} {t : TypeId} {x0 x1 x2 x3 : Value} (h : w.heap[b]? = some (.cells #[x0, x1, x2, x3] t (0, 0))) (x y z u : Value) : ((((w.setCell ⟨b, 0, none⟩ x).setCell ⟨b, 1, none⟩ y).setCell ⟨b, 2, none⟩ z).setCell ⟨b, 3, none⟩ u).heap[b]? = some (.cells #[x, y, z, u] t (0, 0)) := set4_block h x y z u
theorem two_new17 (w : World) (a b : Obj) : ((w.alloc a).alloc b).heap[w.heap.size]? = some a ∧ ((w.alloc a).alloc b).heap[w.heap.size + 1]? = some b ∧ Below w.heap.size w ((w.alloc a).alloc b) := by
  have e1 : (w.alloc a).heap.size = w.heap.size + 1 := by simp
  have h2 := heap_alloc_new (w.alloc a) b
  rw [e1] at h2
  exact ⟨blk_alloc (heap_alloc_new w a) b, h2, ((Below.refl w.heap.size w).alloc (Nat.le_refl _) _).alloc (by omega) _⟩
variable {w : World} {B B0 : Nat} {vp vl va vr v1 : Value} {rs : List Value} {ls Ls : List (List Rl)} {T : Tp} {l : List Op}
set_option maxRecDepth 100000 in
set_option maxHeartbeats 16000000 in
theorem rapply_calls (hR : RNetAt w B vr rs ls) (hP : Pairs Ls ls) (hT : TpIn B0 w vp vl va T) (hB0 : B0 ≤ w.heap.size) (hBw : B ≤ w.heap.size) (hok : NetOk T.ports Ls) (hp0 : 0 < T.ports.length) (hp : T.ports.length ≤ 40) (hL : lenT Ls ≤ 1000) (ho : OpsIn w v1 l) :
    Calls Tryz.prog 19 #[.agg #[vp, vl, va, vr], v1] w fun e w' => RBPost T l Ls B w vp vl va vr rs e w' := by
  have HT := Lib.hid hT
  obtain ⟨ap, cp, rfl, _⟩ := hT.ports
  obtain ⟨al, cl, rfl, _⟩ := hT.links
  obtain ⟨aa, ca, rfl, _⟩ := hT.aces
  obtain ⟨ar, cr, rfl, _, _⟩ := hR.shape
  have HDOC := Lib.hid hR
  have HLO : Hid (∀ x ∈ rfoot (.slice ar ls.length cr) rs, x < w.heap.size) := Lib.hid (fun x hx => (hR.lo x hx).2)
  have HPA := Lib.hid hP
  have HOK := Lib.hid (And.intro hok hL)
  have HBS := Lib.hid (And.intro hB0 (And.intro hBw hp0))
  obtain ⟨hwf, ao, cap, rfl, hop⟩ := ho
  have HWF := Lib.hid hwf
  have HOP := Lib.hid hop
  have H2 := Lib.hid (two_new17 w (.cells #[.slice ap T.ports.length cp, .slice al T.links.length cl, .slice aa T.aces.length ca, .slice ar ls.length cr] 38) (.cells #[.slice none 0 0, .slice none 0 0, .slice none 0 0, .slice none 0 0] 38))
  clear hR hP hT hok hL hB0 hBw hp0 hwf hop
  go_enter Tryz.func19, Tryz.ntmps19
  go_upto_region 1 with (fail)
  generalize (w.alloc (.cells #[.slice ap T.ports.length cp, .slice al T.links.length cl, .slice aa T.aces.length ca, .slice ar ls.length cr] 38)).alloc (.cells #[.slice none 0 0, .slice none 0 0, .slice none 0 0, .slice none 0 0] 38) = w1 at *
  have hz0 := lt_of_block H2.out.1
  have hz1 := lt_of_block H2.out.2.1
  have HBR := Lib.hid (Below.refl w1.heap.size w1)
  by_cases h0 : l.length = 0
  · have hres' : batchS T.ports l Ls = (Ls, -1, 1) := by unfold batchS; rw [if_pos h0]
    have h0' : (l.length : Int) = 0 := by omega
    clear h0
    have e0 := And.intro (cell_of ((HBR.out.block _ hz1).trans H2.out.2.1) 0) (unfrozen_of ((HBR.out.block _ hz1).trans H2.out.2.1) 0)
    have e1 := And.intro (cell_of ((HBR.out.block _ hz1).trans H2.out.2.1) 1) (unfrozen_of ((HBR.out.block _ hz1).trans H2.out.2.1) 1)
    have e2 := And.intro (cell_of ((HBR.out.block _ hz1).trans H2.out.2.1) 2) (unfrozen_of ((HBR.out.block _ hz1).trans H2.out.2.1) 2)
    have e3 := And.intro (cell_of ((HBR.out.block _ hz1).trans H2.out.2.1) 3) (unfrozen_of ((HBR.out.block _ hz1).trans H2.out.2.1) 3)
    simp only [List.getElem?_toArray, List.getElem?_cons_zero, List.getElem?_cons_succ] at e0 e1 e2 e3
    have n0 := cell_of ((HBR.out.block _ hz0).trans H2.out.1) 0
    have n1 := cell_of ((HBR.out.block _ hz0).trans H2.out.1) 1
    have n2 := cell_of ((HBR.out.block _ hz0).trans H2.out.1) 2
    have n3 := cell_of ((HBR.out.block _ hz0).trans H2.out.1) 3
    simp only [List.getElem?_toArray, List.getElem?_cons_zero, List.getElem?_cons_succ] at n0 n1 n2 n3
    go_wp2_with (fail)
    exact bodyPost_ret (v := .tuple #[.agg #[.slice ap T.ports.length cp, .slice al T.links.length cl, .slice aa T.aces.length ca, .slice ar ls.length cr], .int .i64 (-1), .int .i64 1]) (by simp [results, Tryz.results19, go_sem, e0, e1, e2, e3]) rfl (RBPost.same hres' (by decide) HDOC.out HLO.out (H2.out.2.2.trans (HBR.out.mono H2.out.2.2.size)))
  · have h0' : ((l.length : Int) == 0) = false := beq_eq_false_iff_ne.2 (by omega)
    by_cases h32 : 32 < l.length
    · have hres' : batchS T.ports l Ls = (Ls, -1, 15) := by unfold batchS; rw [if_neg h0, if_pos h32]
      have h1' : decide ((32 : Int) < (l.length : Int)) = true := decide_eq_true (by omega)
      clear h0 h32
      have e0 := And.intro (cell_of ((HBR.out.block _ hz1).trans H2.out.2.1) 0) (unfrozen_of ((HBR.out.block _ hz1).trans H2.out.2.1) 0)
      have e1 := And.intro (cell_of ((HBR.out.block _ hz1).trans H2.out.2.1) 1) (unfrozen_of ((HBR.out.block _ hz1).trans H2.out.2.1) 1)
      have e2 := And.intro (cell_of ((HBR.out.block _ hz1).trans H2.out.2.1) 2) (unfrozen_of ((HBR.out.block _ hz1).trans H2.out.2.1) 2)
      have e3 := And.intro (cell_of ((HBR.out.block _ hz1).trans H2.out.2.1) 3) (unfrozen_of ((HBR.out.block _ hz1).trans H2.out.2.1) 3)
      simp only [List.getElem?_toArray, List.getElem?_cons_zero, List.getElem?_cons_succ] at e0 e1 e2 e3
      have n0 := cell_of ((HBR.out.block _ hz0).trans H2.out.1) 0
      have n1 := cell_of ((HBR.out.block _ hz0).trans H2.out.1) 1
      have n2 := cell_of ((HBR.out.block _ hz0).trans H2.out.1) 2
      have n3 := cell_of ((HBR.out.block _ hz0).trans H2.out.1) 3
      simp only [List.getElem?_toArray, List.getElem?_cons_zero, List.getElem?_cons_succ] at n0 n1 n2 n3
      go_wp2_with (fail)
      exact bodyPost_ret (v := .tuple #[.agg #[.slice ap T.ports.length cp, .slice al T.links.length cl, .slice aa T.aces.length ca, .slice ar ls.length cr], .int .i64 (-1), .int .i64 15]) (by simp [results, Tryz.results19, go_sem, e0, e1, e2, e3]) rfl (RBPost.same hres' (by decide) HDOC.out HLO.out (H2.out.2.2.trans (HBR.out.mono H2.out.2.2.size)))
    · have h1' : decide ((32 : Int) < (l.length : Int)) = false := decide_eq_false (by omega)
      have hl32 : l.length ≤ 32 := by omega
      have HRES : Hid (∀ x, appS T.ports l 0 Ls = x → batchS T.ports l Ls = x) := Lib.hid (fun x hx => by unfold batchS; rw [if_neg h0, if_neg h32, hx])
      clear h0 h32
      have HM := Lib.hid (heap_alloc_new w1 (.cells #[.slice ap T.ports.length cp, .slice al T.links.length cl, .slice aa T.aces.length ca, .slice ar ls.length cr] 38))
      have hkm := (Below.refl w1.heap.size w1).alloc (Nat.le_refl _) (.cells #[.slice ap T.ports.length cp, .slice al T.links.length cl, .slice aa T.aces.length ca, .slice ar ls.length cr] 38)
      have HKM := Lib.hid hkm
      have HDM := Lib.hid ((HDOC.out.below H2.out.2.2).below hkm)
      have n0 := cell_of H2.out.1 0
      have n1 := cell_of H2.out.1 1
      have n2 := cell_of H2.out.1 2
      have n3 := cell_of H2.out.1 3
      simp only [List.getElem?_toArray, List.getElem?_cons_zero, List.getElem?_cons_succ] at n0 n1 n2 n3
      have HWM : Hid (w.heap.size + 1 < w1.heap.size) := Lib.hid hz1
      clear hkm
      go_wp2_with (fail)
      clear n0 n1 n2 n3
      generalize w1.alloc (.cells #[.slice ap T.ports.length cp, .slice al T.links.length cl, .slice aa T.aces.length ca, .slice ar ls.length cr] 38) = w2 at *
      generalize hMM : w1.heap.size = M at *
      go_loopg [8] l.length (fun gk vi wr => ∃ (i : Nat) (ax : Option Addr) (nx cx : Nat) (rs2 : List Value) (ls2 Lx : List (List Rl)), i + gk = l.length ∧ vi = .int .i64 (i : Int) ∧ wr.heap[M]? = some (.cells #[.slice ap T.ports.length cp, .slice al T.links.length cl, .slice aa T.aces.length ca, .slice ax nx cx] 38 (0, 0)) ∧ RNetAt wr B (.slice ax nx cx) rs2 ls2 ∧ Pairs Lx ls2 ∧ (NetOk T.ports Lx ∧ lenT Lx ≤ 1000 + i) ∧ appS T.ports l 0 Ls = appS T.ports (l.drop i) i Lx ∧ (∀ x ∈ rfoot (.slice ax nx cx) rs2, x ∈ rfoot (.slice ar ls.length cr) rs ∨ M < x) ∧ Below M w1 wr)
      case atStart => exact ⟨0, _, _, _, rs, ls, Ls, by omega, rfl, HM.out, HDM.out, HPA.out, HOK.out, rfl, fun x hx => Or.inl hx, HKM.out⟩
      case round =>
        obtain ⟨i, ax, nx, cx, rs2, ls2, Lx, hgk, rfl, hm, hd, hpx, hox, hr, hf, hK⟩ := hrel
        have hkw : Below w.heap.size w wr := H2.out.2.2.trans (hK.mono (by have := H2.out.2.2.size; have := HWM.out; omega))
        have HMR := Lib.hid hm
        have HDR := Lib.hid hd
        have HPX := Lib.hid hpx
        have HOX := Lib.hid hox
        have HFR := Lib.hid hf
        have HKR := Lib.hid hkw
        have HK1 := Lib.hid hK
        clear hm hd hpx hox hf hK
        by_cases hlt : i < l.length
        · obtain ⟨b, off, rfl, hat, hb⟩ := HOP.out i hlt
          have HAT := Lib.hid (fun X (kX : Below w.heap.size w X) => hat.cells hb kX i hlt)
          rw [List.drop_eq_getElem_cons hlt, appS_cons, badO_iff] at hr
          have hw := HWF.out _ (List.getElem_mem hlt)
          generalize l[i] = o at *
          obtain ⟨del, r⟩ := o
          simp only at HAT hw hr
          have HWR := Lib.hid hw
          have HR0 := Lib.hid hr
          have hii : (i : Int) < (l.length : Int) := by omega
          have hi32 : i < 32 := by omega
          have hcx := HAT.out wr hkw
          have hka := (Below.refl wr.heap.size wr).alloc (Nat.le_refl _) (.cells #[.int .i64 r.id, .int .i64 r.dev, .int .u32 (r.addr : Int), .int .i64 r.bits, .int .i64 r.prio, .int .i64 r.out] 89)
          have HXR := Lib.hid (heap_alloc_new wr (.cells #[.int .i64 r.id, .int .i64 r.dev, .int .u32 (r.addr : Int), .int .i64 r.bits, .int .i64 r.prio, .int .i64 r.out] 89))
          have HKA0 := Lib.hid (hkw.trans (hka.mono hkw.size))
          have HDA := Lib.hid (HDR.out.below hka)
          have HMA := Lib.hid ((hka.block _ (lt_of_block HMR.out)).trans HMR.out)
          have HKA1 := Lib.hid (HK1.out.trans (hka.mono (by have := HK1.out.size; have := hMM; omega)))
          have HSZ := Lib.hid hka.size
          clear hat hw hr hb hkw hka
          cases del with
          | true =>
            go_upto_region 10 with (fail)
            clear hcx
            generalize wr.alloc (.cells #[.int .i64 r.id, .int .i64 r.dev, .int .u32 (r.addr : Int), .int .i64 r.bits, .int .i64 r.prio, .int .i64 r.out] 89) = wa at *
            have hca := HAT.out wa HKA0.out
            have c0 := hca.1
            clear hca
            have hr := HR0.out
            rw [if_neg (by simp)] at hr
            go_upto_region 12 with (fail)
            clear c0
            obtain ⟨Lc, ec, hce⟩ : ∃ Lc ec, chgS T.ports Lx ⟨true, r⟩ = (Lc, ec) := ⟨_, _, rfl⟩
            rw [hce] at hr
            simp only at hr
            have HLC : Hid (NetOk T.ports Lc ∧ lenT Lc ≤ 1000 + (i + 1)) := Lib.hid (by
              have h1 := HOX.out.1.chg ⟨true, r⟩
              have h2 := chg_lenT T.ports Lx ⟨true, r⟩
              rw [hce] at h1 h2
              simp only at h1 h2
              have := HOX.out.2
              exact ⟨h1, by omega⟩)
            have HCH : Hid (∀ X, Below wa.heap.size wa X → Calls Tryz.prog 38 #[.agg #[.slice ap T.ports.length cp, .slice al T.links.length cl, .slice aa T.aces.length ca, .slice ax nx cx], .agg #[.bool true, .int .i64 r.id, .int .i64 r.dev, .int .u32 (r.addr : Int), .int .i64 r.bits, .int .i64 r.prio, .int .i64 r.out]] X fun e w' => ∃ an nn cn, e = .returned (.tuple #[.agg #[.slice ap T.ports.length cp, .slice al T.links.length cl, .slice aa T.aces.length ca, .slice an nn cn], .int .i64 ec]) ∧ NX B X.heap.size w' (.slice an nn cn) (.slice ax nx cx) rs2 Lc nn ∧ Below X.heap.size X w') := Lib.hid (fun X kX => by
              have kw := HKA0.out.trans (kX.mono HKA0.out.size)
              refine (rnchange_calls (HDA.out.below kX) HPX.out (HT.out.kept (kw.mono HBS.out.1)) (Nat.le_trans HBS.out.1 kw.size) (Nat.le_trans HBS.out.2.1 kw.size) HOX.out.1 HBS.out.2.2 hp (by have := HOX.out.2; omega) ⟨true, r⟩ HWR.out).mono ?_
              rintro e w' ⟨vr', rs', ls', he, hd', hp', hf', hk'⟩
              obtain ⟨an, cn, rfl, _, _⟩ := hd'.shape
              rw [hce] at he hp'
              exact ⟨an, ls'.length, cn, he, ⟨rs', ls', rfl, hd', hp', fun x hx => hf' x hx⟩, hk'⟩)
            have HCHH := HCH
            have HRC := Lib.hid hr
            clear hr hce
            have hBW := (Below.refl wa.heap.size wa).drew
            have hBZ0 := (Below.refl wa.heap.size wa).alloc (Nat.le_refl _) (.cells #[.slice none 0 0, .slice none 0 0, .slice none 0 0, .slice none 0 0] 38)
            have hBZ : Below wa.heap.size wa (wa.alloc (.cells #[.slice none 0 0, .slice none 0 0, .slice none 0 0, .slice none 0 0] 38)).drew := hBZ0.drew
            have hca := HAT.out wa HKA0.out
            have hcb := HAT.out _ (HKA0.out.trans (hBZ0.mono HKA0.out.size))
            have hmz := (hBZ0.block _ (lt_of_block HMA.out)).trans HMA.out
            have m0 := cell_of HMA.out 0
            have m1 := cell_of HMA.out 1
            have m2 := cell_of HMA.out 2
            have m3 := cell_of HMA.out 3
            simp only [List.getElem?_toArray, List.getElem?_cons_zero, List.getElem?_cons_succ] at m0 m1 m2 m3
            have u0 := cell_of hmz 0
            have u1 := cell_of hmz 1
            have u2 := cell_of hmz 2
            have u3 := cell_of hmz 3
            simp only [List.getElem?_toArray, List.getElem?_cons_zero, List.getElem?_cons_succ] at u0 u1 u2 u3
            have HZN := Lib.hid (heap_alloc_new wa (.cells #[.slice none 0 0, .slice none 0 0, .slice none 0 0, .slice none 0 0] 38))
            have hltz : wa.heap.size < (wa.alloc (.cells #[.slice none 0 0, .slice none 0 0, .slice none 0 0, .slice none 0 0] 38)).drew.heap.size := lt_of_block HZN.out
            clear hBZ0 hmz
            refine (have KEY : ∀ (rb : Nat) (an : Option Addr) (nn cn : Nat) (wq : World), NBox B wr wa wq rb (.slice ap T.ports.length cp) (.slice al T.links.length cl) (.slice aa T.aces.length ca) (.slice an nn cn) (.slice ax nx cx) rs2 Lc nn → (?PPtrue : Nat → Option Addr → Nat → Nat → World → Prop) rb an nn cn wq := ?hkeytrue; ?maintrue)
            case maintrue =>
              go_region_law (first | (go_simp; go_at_call 38; with_reducible refine Calls.mono (HCH.out wa.drew hBW) ?_; rintro e w5z ⟨an, nn, cn, he, hnx, hB5⟩; subst he; have hz := heap_alloc_new w5z (.cells #[.slice none 0 0, .slice none 0 0, .slice none 0 0, .slice none 0 0] 38); have b0 := And.intro (cell_of hz 0) (unfrozen_of hz 0); have b1 := And.intro (cell_of hz 1) (unfrozen_of hz 1); have b2 := And.intro (cell_of hz 2) (unfrozen_of hz 2); have b3 := And.intro (cell_of hz 3) (unfrozen_of hz 3); simp only [List.getElem?_toArray, List.getElem?_cons_zero, List.getElem?_cons_succ] at b0 b1 b2 b3; have hb6 := hBW.trans (hB5.mono hBW.size); have HRB := Lib.hid (NBox.mk_ (heap_alloc_new w5z (.cells #[.slice ap T.ports.length cp, .slice al T.links.length cl, .slice aa T.aces.length ca, .slice an nn cn] 38)) (hb6.alloc hb6.size (.cells #[.slice ap T.ports.length cp, .slice al T.links.length cl, .slice aa T.aces.length ca, .slice an nn cn] 38)) (hnx.kept (b1 := wr.heap.size) (Kept.of_alloc (S := []) w5z (.cells #[.slice ap T.ports.length cp, .slice al T.links.length cl, .slice aa T.aces.length ca, .slice an nn cn] 38)) (Nat.le_trans HSZ.out hBW.size) (by simp))); clear hB5 hz hb6 hnx) | (go_simp; go_at_call 38; refine Calls.mono (HCH.out _ hBZ) ?_; rintro e w5z ⟨an, nn, cn, he, hnx, hB5⟩; subst he; have hz : w5z.heap[wa.heap.size]? = some (.cells #[.slice none 0 0, .slice none 0 0, .slice none 0 0, .slice none 0 0] 38 (0, 0)) := (hB5.block wa.heap.size (lt_of_block HZN.out)).trans HZN.out; have b0 := And.intro (cell_of hz 0) (unfrozen_of hz 0); have b1 := And.intro (cell_of hz 1) (unfrozen_of hz 1); have b2 := And.intro (cell_of hz 2) (unfrozen_of hz 2); have b3 := And.intro (cell_of hz 3) (unfrozen_of hz 3); simp only [List.getElem?_toArray, List.getElem?_cons_zero, List.getElem?_cons_succ] at b0 b1 b2 b3; have hb6 := hBZ.trans (hB5.mono hBZ.size); have hk4 := kept_set4 w5z wa.heap.size (.slice ap T.ports.length cp) (.slice al T.links.length cl) (.slice aa T.aces.length ca) (.slice an nn cn); unfold set4 at hk4; have HRB := Lib.hid (NBox.mk_ (set4_blk hz (.slice ap T.ports.length cp) (.slice al T.links.length cl) (.slice aa T.aces.length ca) (.slice an nn cn)) (hb6.trans (hk4.below hb6.size (by simp))) (hnx.kept (b1 := wr.heap.size) hk4 (Nat.le_trans HSZ.out hBZ.size) (fun x hx => by rw [List.mem_singleton.1 hx]; exact ⟨fun hm => by have := (HDA.out.lo _ hm).2; omega, hltz⟩))); clear hB5 hz hb6 hnx hk4))
              all_goals
                go_simp
                first
                  | (have hrb : NBox B wr wa (w5z.alloc (.cells #[.slice ap T.ports.length cp, .slice al T.links.length cl, .slice aa T.aces.length ca, .slice an nn cn] 38)) w5z.heap.size (.slice ap T.ports.length cp) (.slice al T.links.length cl) (.slice aa T.aces.length ca) (.slice an nn cn) (.slice ax nx cx) rs2 Lc nn := by with_reducible exact HRB.out
                     clear HRB
                     revert hrb
                     generalize w5z.alloc (.cells #[.slice ap T.ports.length cp, .slice al T.links.length cl, .slice aa T.aces.length ca, .slice an nn cn] 38) = wq
                     generalize w5z.heap.size = rb
                     intro hrb
                     exact KEY rb an nn cn wq hrb)
                  | (have hrb : NBox B wr wa ((((w5z.setCell ⟨wa.heap.size, 0, none⟩ (.slice ap T.ports.length cp)).setCell ⟨wa.heap.size, 1, none⟩ (.slice al T.links.length cl)).setCell ⟨wa.heap.size, 2, none⟩ (.slice aa T.aces.length ca)).setCell ⟨wa.heap.size, 3, none⟩ (.slice an nn cn)) wa.heap.size (.slice ap T.ports.length cp) (.slice al T.links.length cl) (.slice aa T.aces.length ca) (.slice an nn cn) (.slice ax nx cx) rs2 Lc nn := by with_reducible exact HRB.out
                     clear HRB
                     revert hrb
                     generalize ((((w5z.setCell ⟨wa.heap.size, 0, none⟩ (.slice ap T.ports.length cp)).setCell ⟨wa.heap.size, 1, none⟩ (.slice al T.links.length cl)).setCell ⟨wa.heap.size, 2, none⟩ (.slice aa T.aces.length ca)).setCell ⟨wa.heap.size, 3, none⟩ (.slice an nn cn)) = wq
                     generalize wa.heap.size = rb
                     intro hrb
                     exact KEY rb an nn cn wq hrb)
            case hkeytrue =>
              intro rb an nn cn wq hq
              obtain ⟨hqb, hqk, rs', ls', rfl, hd', hp', hf'⟩ := hq
              have HQB := Lib.hid hqb
              have HKQ := Lib.hid (HKA1.out.trans (hqk.mono (by have := HKA1.out.size; have := hMM; omega)))
              have HMQ := Lib.hid ((hqk.block _ (lt_of_block HMA.out)).trans HMA.out)
              have HDN := Lib.hid hd'
              have HPN := Lib.hid hp'
              have HFN : Hid (∀ x ∈ rfoot (.slice an ls'.length cn) rs', x ∈ rfoot (.slice ar ls.length cr) rs ∨ M < x) := Lib.hid (fun x hx => by
                rcases hf' x hx with h1 | h1
                · exact HFR.out x h1
                · have := lt_of_block HMR.out
                  exact Or.inr (by omega))
              have hl40 : ls'.length ≤ 40 := by
                have h1 := hp'.len
                have h2 := HLC.out.1.len
                omega
              have HLN := Lib.hid (rnlen_calls (vp := .slice ap T.ports.length cp) (vl := .slice al T.links.length cl) (va := .slice aa T.aces.length ca) hd' hl40 (by have h1 := hp'.lens; have := HLC.out.2; omega))
              rw [← hp'.lens] at HLN
              clear hqb hqk hd' hp' hf' hl40 hBW hBZ hltz m0 m1 m2 m3 u0 u1 u2 u3 hca hcb
              have hr := HRC.out
              by_cases hec : ec = 0
              · subst hec
                rw [if_neg (by simp)] at hr
                have HRX := Lib.hid hr
                clear hr
                have r0 := cell_of HQB.out 0
                have r1 := cell_of HQB.out 1
                have r2 := cell_of HQB.out 2
                have r3 := cell_of HQB.out 3
                simp only [List.getElem?_toArray, List.getElem?_cons_zero, List.getElem?_cons_succ] at r0 r1 r2 r3
                go_wp2_with (fail)
                refine Calls.mono HLN.out ?_
                rintro e w7 ⟨he, k7⟩
                subst he
                have HM7 := Lib.hid ((k7.block _ (lt_of_block HMQ.out)).trans HMQ.out)
                have HK7 := Lib.hid (HKQ.out.trans (k7.mono (by have := HKQ.out.size; have := hMM; omega)))
                have hb7 := (k7.block _ (lt_of_block HQB.out)).trans HQB.out
                have HD7 := Lib.hid (HDN.out.below k7)
                have hlc := HLC.out.2
                clear r0 r1 r2 r3 k7
                have hr := HRX.out
                by_cases hbig : 256 < lenT Lc
                · rw [if_pos hbig] at hr
                  have hres' := HRES.out _ hr
                  have hb' : decide ((256 : Int) < (lenT Lc : Int)) = true := decide_eq_true (by omega)
                  clear hbig hr hb7
                  have e0 := And.intro (cell_of ((HK7.out.block _ hz1).trans H2.out.2.1) 0) (unfrozen_of ((HK7.out.block _ hz1).trans H2.out.2.1) 0)
                  have e1 := And.intro (cell_of ((HK7.out.block _ hz1).trans H2.out.2.1) 1) (unfrozen_of ((HK7.out.block _ hz1).trans H2.out.2.1) 1)
                  have e2 := And.intro (cell_of ((HK7.out.block _ hz1).trans H2.out.2.1) 2) (unfrozen_of ((HK7.out.block _ hz1).trans H2.out.2.1) 2)
                  have e3 := And.intro (cell_of ((HK7.out.block _ hz1).trans H2.out.2.1) 3) (unfrozen_of ((HK7.out.block _ hz1).trans H2.out.2.1) 3)
                  simp only [List.getElem?_toArray, List.getElem?_cons_zero, List.getElem?_cons_succ] at e0 e1 e2 e3
                  have n0 := cell_of ((HK7.out.block _ hz0).trans H2.out.1) 0
                  have n1 := cell_of ((HK7.out.block _ hz0).trans H2.out.1) 1
                  have n2 := cell_of ((HK7.out.block _ hz0).trans H2.out.1) 2
                  have n3 := cell_of ((HK7.out.block _ hz0).trans H2.out.1) 3
                  simp only [List.getElem?_toArray, List.getElem?_cons_zero, List.getElem?_cons_succ] at n0 n1 n2 n3
                  go_wp2_with (fail)
                  exact bodyPost_ret (v := .tuple #[.agg #[.slice ap T.ports.length cp, .slice al T.links.length cl, .slice aa T.aces.length ca, .slice ar ls.length cr], .int .i64 (i : Int), .int .i64 15]) (by simp [results, Tryz.results19, go_sem, e0, e1, e2, e3]) rfl (RBPost.same hres' (by decide) HDOC.out HLO.out (H2.out.2.2.trans (HK7.out.mono (by have := HWM.out; omega))))
                · rw [if_neg hbig] at hr
                  have hb' : decide ((256 : Int) < (lenT Lc : Int)) = false := decide_eq_false (by omega)
                  have HR7 := Lib.hid hr
                  clear hbig hr
                  have r0 := cell_of hb7 0
                  have r1 := cell_of hb7 1
                  have r2 := cell_of hb7 2
                  have r3 := cell_of hb7 3
                  simp only [List.getElem?_toArray, List.getElem?_cons_zero, List.getElem?_cons_succ] at r0 r1 r2 r3
                  have m0 := And.intro (cell_of HM7.out 0) (unfrozen_of HM7.out 0)
                  have m1 := And.intro (cell_of HM7.out 1) (unfrozen_of HM7.out 1)
                  have m2 := And.intro (cell_of HM7.out 2) (unfrozen_of HM7.out 2)
                  have m3 := And.intro (cell_of HM7.out 3) (unfrozen_of HM7.out 3)
                  simp only [List.getElem?_toArray, List.getElem?_cons_zero, List.getElem?_cons_succ] at m0 m1 m2 m3
                  clear hb7
                  go_wp2_with (fail)
                  have hk7 := kept_set4 w7 M (.slice ap T.ports.length cp) (.slice al T.links.length cl) (.slice aa T.aces.length ca) (.slice an ls'.length cn)
                  go_roundg (gk - 1)
                  case measure => omega
                  case rel =>
                    refine ⟨i + 1, an, ls'.length, cn, rs', ls', Lc, by omega, by go_num, set4_block HM7.out _ _ _ _, HD7.out.kept hk7 (fun x hx hm => ?_), HPN.out, HLC.out, HR7.out, HFN.out, HK7.out.trans (hk7.below (by have := HK7.out.size; have := hMM; omega) (by simp))⟩
                    · have h1 := List.mem_singleton.1 hm
                      rcases HFN.out x hx with h2 | h2
                      · have := HLO.out x h2
                        have := HWM.out
                        omega
                      · omega
              · rw [if_pos hec] at hr
                have hres' := HRES.out _ hr
                have hne : (ec == 0) = false := beq_eq_false_iff_ne.2 hec
                clear hr
                clear hec
                have e0 := And.intro (cell_of ((HKQ.out.block _ hz1).trans H2.out.2.1) 0) (unfrozen_of ((HKQ.out.block _ hz1).trans H2.out.2.1) 0)
                have e1 := And.intro (cell_of ((HKQ.out.block _ hz1).trans H2.out.2.1) 1) (unfrozen_of ((HKQ.out.block _ hz1).trans H2.out.2.1) 1)
                have e2 := And.intro (cell_of ((HKQ.out.block _ hz1).trans H2.out.2.1) 2) (unfrozen_of ((HKQ.out.block _ hz1).trans H2.out.2.1) 2)
                have e3 := And.intro (cell_of ((HKQ.out.block _ hz1).trans H2.out.2.1) 3) (unfrozen_of ((HKQ.out.block _ hz1).trans H2.out.2.1) 3)
                simp only [List.getElem?_toArray, List.getElem?_cons_zero, List.getElem?_cons_succ] at e0 e1 e2 e3
                have n0 := cell_of ((HKQ.out.block _ hz0).trans H2.out.1) 0
                have n1 := cell_of ((HKQ.out.block _ hz0).trans H2.out.1) 1
                have n2 := cell_of ((HKQ.out.block _ hz0).trans H2.out.1) 2
                have n3 := cell_of ((HKQ.out.block _ hz0).trans H2.out.1) 3
                simp only [List.getElem?_toArray, List.getElem?_cons_zero, List.getElem?_cons_succ] at n0 n1 n2 n3
                go_wp2_with (fail)
                exact bodyPost_ret (v := .tuple #[.agg #[.slice ap T.ports.length cp, .slice al T.links.length cl, .slice aa T.aces.length ca, .slice ar ls.length cr], .int .i64 (i : Int), .int .i64 ec]) (by simp [results, Tryz.results19, go_sem, e0, e1, e2, e3]) rfl (RBPost.same hres' (by intro e; rw [e] at hne; simp at hne) HDOC.out HLO.out (H2.out.2.2.trans (HKQ.out.mono (by have := HWM.out; omega))))
          | false =>
            go_upto_region 10 with (fail)
            clear hcx
            generalize wr.alloc (.cells #[.int .i64 r.id, .int .i64 r.dev, .int .u32 (r.addr : Int), .int .i64 r.bits, .int .i64 r.prio, .int .i64 r.out] 89) = wa at *
            have hca := HAT.out wa HKA0.out
            have c0 := hca.1
            clear hca
            have y0 := cell_of HXR.out 0
            have y1 := cell_of HXR.out 1
            have y2 := cell_of HXR.out 2
            have y3 := cell_of HXR.out 3
            have y4 := cell_of HXR.out 4
            have y5 := cell_of HXR.out 5
            simp only [List.getElem?_toArray, List.getElem?_cons_zero, List.getElem?_cons_succ] at y0 y1 y2 y3 y4 y5
            have hr := HR0.out
            by_cases h1 : r.id < 0
            · have h1' : decide (r.id < 0) = true := decide_eq_true h1
              rw [if_pos (by simp [boundsR, h1])] at hr
              have hres' := HRES.out _ hr
              clear hr h1
              have e0 := And.intro (cell_of ((HKA1.out.block _ hz1).trans H2.out.2.1) 0) (unfrozen_of ((HKA1.out.block _ hz1).trans H2.out.2.1) 0)
              have e1 := And.intro (cell_of ((HKA1.out.block _ hz1).trans H2.out.2.1) 1) (unfrozen_of ((HKA1.out.block _ hz1).trans H2.out.2.1) 1)
              have e2 := And.intro (cell_of ((HKA1.out.block _ hz1).trans H2.out.2.1) 2) (unfrozen_of ((HKA1.out.block _ hz1).trans H2.out.2.1) 2)
              have e3 := And.intro (cell_of ((HKA1.out.block _ hz1).trans H2.out.2.1) 3) (unfrozen_of ((HKA1.out.block _ hz1).trans H2.out.2.1) 3)
              simp only [List.getElem?_toArray, List.getElem?_cons_zero, List.getElem?_cons_succ] at e0 e1 e2 e3
              have n0 := cell_of ((HKA1.out.block _ hz0).trans H2.out.1) 0
              have n1 := cell_of ((HKA1.out.block _ hz0).trans H2.out.1) 1
              have n2 := cell_of ((HKA1.out.block _ hz0).trans H2.out.1) 2
              have n3 := cell_of ((HKA1.out.block _ hz0).trans H2.out.1) 3
              simp only [List.getElem?_toArray, List.getElem?_cons_zero, List.getElem?_cons_succ] at n0 n1 n2 n3
              go_wp2_with (fail)
              exact bodyPost_ret (v := .tuple #[.agg #[.slice ap T.ports.length cp, .slice al T.links.length cl, .slice aa T.aces.length ca, .slice ar ls.length cr], .int .i64 (i : Int), .int .i64 5]) (by simp [results, Tryz.results19, go_sem, e0, e1, e2, e3]) rfl (RBPost.same hres' (by decide) HDOC.out HLO.out (H2.out.2.2.trans (HKA1.out.mono (by have := HWM.out; omega))))
            · have h1' : decide (r.id < 0) = false := decide_eq_false h1
              by_cases h2 : 1048576 < r.id
              · have h2' : decide (1048576 < r.id) = true := decide_eq_true h2
                rw [if_pos (by simp [boundsR, h2])] at hr
                have hres' := HRES.out _ hr
                clear hr h1 h2
                have e0 := And.intro (cell_of ((HKA1.out.block _ hz1).trans H2.out.2.1) 0) (unfrozen_of ((HKA1.out.block _ hz1).trans H2.out.2.1) 0)
                have e1 := And.intro (cell_of ((HKA1.out.block _ hz1).trans H2.out.2.1) 1) (unfrozen_of ((HKA1.out.block _ hz1).trans H2.out.2.1) 1)
                have e2 := And.intro (cell_of ((HKA1.out.block _ hz1).trans H2.out.2.1) 2) (unfrozen_of ((HKA1.out.block _ hz1).trans H2.out.2.1) 2)
                have e3 := And.intro (cell_of ((HKA1.out.block _ hz1).trans H2.out.2.1) 3) (unfrozen_of ((HKA1.out.block _ hz1).trans H2.out.2.1) 3)
                simp only [List.getElem?_toArray, List.getElem?_cons_zero, List.getElem?_cons_succ] at e0 e1 e2 e3
                have n0 := cell_of ((HKA1.out.block _ hz0).trans H2.out.1) 0
                have n1 := cell_of ((HKA1.out.block _ hz0).trans H2.out.1) 1
                have n2 := cell_of ((HKA1.out.block _ hz0).trans H2.out.1) 2
                have n3 := cell_of ((HKA1.out.block _ hz0).trans H2.out.1) 3
                simp only [List.getElem?_toArray, List.getElem?_cons_zero, List.getElem?_cons_succ] at n0 n1 n2 n3
                go_wp2_with (fail)
                exact bodyPost_ret (v := .tuple #[.agg #[.slice ap T.ports.length cp, .slice al T.links.length cl, .slice aa T.aces.length ca, .slice ar ls.length cr], .int .i64 (i : Int), .int .i64 5]) (by simp [results, Tryz.results19, go_sem, e0, e1, e2, e3]) rfl (RBPost.same hres' (by decide) HDOC.out HLO.out (H2.out.2.2.trans (HKA1.out.mono (by have := HWM.out; omega))))
              · have h2' : decide (1048576 < r.id) = false := decide_eq_false h2
                by_cases h3 : r.prio < 0
                · have h3' : decide (r.prio < 0) = true := decide_eq_true h3
                  rw [if_pos (by simp [boundsR, h3])] at hr
                  have hres' := HRES.out _ hr
                  clear hr h1 h2 h3
                  have e0 := And.intro (cell_of ((HKA1.out.block _ hz1).trans H2.out.2.1) 0) (unfrozen_of ((HKA1.out.block _ hz1).trans H2.out.2.1) 0)
                  have e1 := And.intro (cell_of ((HKA1.out.block _ hz1).trans H2.out.2.1) 1) (unfrozen_of ((HKA1.out.block _ hz1).trans H2.out.2.1) 1)
                  have e2 := And.intro (cell_of ((HKA1.out.block _ hz1).trans H2.out.2.1) 2) (unfrozen_of ((HKA1.out.block _ hz1).trans H2.out.2.1) 2)
                  have e3 := And.intro (cell_of ((HKA1.out.block _ hz1).trans H2.out.2.1) 3) (unfrozen_of ((HKA1.out.block _ hz1).trans H2.out.2.1) 3)
                  simp only [List.getElem?_toArray, List.getElem?_cons_zero, List.getElem?_cons_succ] at e0 e1 e2 e3
                  have n0 := cell_of ((HKA1.out.block _ hz0).trans H2.out.1) 0
                  have n1 := cell_of ((HKA1.out.block _ hz0).trans H2.out.1) 1
                  have n2 := cell_of ((HKA1.out.block _ hz0).trans H2.out.1) 2
                  have n3 := cell_of ((HKA1.out.block _ hz0).trans H2.out.1) 3
                  simp only [List.getElem?_toArray, List.getElem?_cons_zero, List.getElem?_cons_succ] at n0 n1 n2 n3
                  go_wp2_with (fail)
                  exact bodyPost_ret (v := .tuple #[.agg #[.slice ap T.ports.length cp, .slice al T.links.length cl, .slice aa T.aces.length ca, .slice ar ls.length cr], .int .i64 (i : Int), .int .i64 5]) (by simp [results, Tryz.results19, go_sem, e0, e1, e2, e3]) rfl (RBPost.same hres' (by decide) HDOC.out HLO.out (H2.out.2.2.trans (HKA1.out.mono (by have := HWM.out; omega))))
                · have h3' : decide (r.prio < 0) = false := decide_eq_false h3
                  by_cases h4 : 1000 < r.prio
                  · have h4' : decide (1000 < r.prio) = true := decide_eq_true h4
                    rw [if_pos (by simp [boundsR, h4])] at hr
                    have hres' := HRES.out _ hr
                    clear hr h1 h2 h3 h4
                    have e0 := And.intro (cell_of ((HKA1.out.block _ hz1).trans H2.out.2.1) 0) (unfrozen_of ((HKA1.out.block _ hz1).trans H2.out.2.1) 0)
                    have e1 := And.intro (cell_of ((HKA1.out.block _ hz1).trans H2.out.2.1) 1) (unfrozen_of ((HKA1.out.block _ hz1).trans H2.out.2.1) 1)
                    have e2 := And.intro (cell_of ((HKA1.out.block _ hz1).trans H2.out.2.1) 2) (unfrozen_of ((HKA1.out.block _ hz1).trans H2.out.2.1) 2)
                    have e3 := And.intro (cell_of ((HKA1.out.block _ hz1).trans H2.out.2.1) 3) (unfrozen_of ((HKA1.out.block _ hz1).trans H2.out.2.1) 3)
                    simp only [List.getElem?_toArray, List.getElem?_cons_zero, List.getElem?_cons_succ] at e0 e1 e2 e3
                    have n0 := cell_of ((HKA1.out.block _ hz0).trans H2.out.1) 0
                    have n1 := cell_of ((HKA1.out.block _ hz0).trans H2.out.1) 1
                    have n2 := cell_of ((HKA1.out.block _ hz0).trans H2.out.1) 2
                    have n3 := cell_of ((HKA1.out.block _ hz0).trans H2.out.1) 3
                    simp only [List.getElem?_toArray, List.getElem?_cons_zero, List.getElem?_cons_succ] at n0 n1 n2 n3
                    go_wp2_with (fail)
                    exact bodyPost_ret (v := .tuple #[.agg #[.slice ap T.ports.length cp, .slice al T.links.length cl, .slice aa T.aces.length ca, .slice ar ls.length cr], .int .i64 (i : Int), .int .i64 5]) (by simp [results, Tryz.results19, go_sem, e0, e1, e2, e3]) rfl (RBPost.same hres' (by decide) HDOC.out HLO.out (H2.out.2.2.trans (HKA1.out.mono (by have := HWM.out; omega))))
                  · have h4' : decide (1000 < r.prio) = false := decide_eq_false h4
                    rw [if_neg (by simp [boundsR, h1, h2, h3, h4])] at hr
                    clear h1 h2 h3 h4
                    go_upto_region 12 with (fail)
                    clear c0 y0 y1 y2 y3 y4 y5 h1' h2' h3' h4'
                    obtain ⟨Lc, ec, hce⟩ : ∃ Lc ec, chgS T.ports Lx ⟨false, r⟩ = (Lc, ec) := ⟨_, _, rfl⟩
                    rw [hce] at hr
                    simp only at hr
                    have HLC : Hid (NetOk T.ports Lc ∧ lenT Lc ≤ 1000 + (i + 1)) := Lib.hid (by
                      have h1 := HOX.out.1.chg ⟨false, r⟩
                      have h2 := chg_lenT T.ports Lx ⟨false, r⟩
                      rw [hce] at h1 h2
                      simp only at h1 h2
                      have := HOX.out.2
                      exact ⟨h1, by omega⟩)
                    have HCH : Hid (∀ X, Below wa.heap.size wa X → Calls Tryz.prog 38 #[.agg #[.slice ap T.ports.length cp, .slice al T.links.length cl, .slice aa T.aces.length ca, .slice ax nx cx], .agg #[.bool false, .int .i64 r.id, .int .i64 r.dev, .int .u32 (r.addr : Int), .int .i64 r.bits, .int .i64 r.prio, .int .i64 r.out]] X fun e w' => ∃ an nn cn, e = .returned (.tuple #[.agg #[.slice ap T.ports.length cp, .slice al T.links.length cl, .slice aa T.aces.length ca, .slice an nn cn], .int .i64 ec]) ∧ NX B X.heap.size w' (.slice an nn cn) (.slice ax nx cx) rs2 Lc nn ∧ Below X.heap.size X w') := Lib.hid (fun X kX => by
                      have kw := HKA0.out.trans (kX.mono HKA0.out.size)
                      refine (rnchange_calls (HDA.out.below kX) HPX.out (HT.out.kept (kw.mono HBS.out.1)) (Nat.le_trans HBS.out.1 kw.size) (Nat.le_trans HBS.out.2.1 kw.size) HOX.out.1 HBS.out.2.2 hp (by have := HOX.out.2; omega) ⟨false, r⟩ HWR.out).mono ?_
                      rintro e w' ⟨vr', rs', ls', he, hd', hp', hf', hk'⟩
                      obtain ⟨an, cn, rfl, _, _⟩ := hd'.shape
                      rw [hce] at he hp'
                      exact ⟨an, ls'.length, cn, he, ⟨rs', ls', rfl, hd', hp', fun x hx => hf' x hx⟩, hk'⟩)
                    have HCHH := HCH
                    have HRC := Lib.hid hr
                    clear hr hce
                    have hBW := (Below.refl wa.heap.size wa).drew
                    have hBZ0 := (Below.refl wa.heap.size wa).alloc (Nat.le_refl _) (.cells #[.slice none 0 0, .slice none 0 0, .slice none 0 0, .slice none 0 0] 38)
                    have hBZ : Below wa.heap.size wa (wa.alloc (.cells #[.slice none 0 0, .slice none 0 0, .slice none 0 0, .slice none 0 0] 38)).drew := hBZ0.drew
                    have hca := HAT.out wa HKA0.out
                    have hcb := HAT.out _ (HKA0.out.trans (hBZ0.mono HKA0.out.size))
                    have hmz := (hBZ0.block _ (lt_of_block HMA.out)).trans HMA.out
                    have m0 := cell_of HMA.out 0
                    have m1 := cell_of HMA.out 1
                    have m2 := cell_of HMA.out 2
                    have m3 := cell_of HMA.out 3
                    simp only [List.getElem?_toArray, List.getElem?_cons_zero, List.getElem?_cons_succ] at m0 m1 m2 m3
                    have u0 := cell_of hmz 0
                    have u1 := cell_of hmz 1
                    have u2 := cell_of hmz 2
                    have u3 := cell_of hmz 3
                    simp only [List.getElem?_toArray, List.getElem?_cons_zero, List.getElem?_cons_succ] at u0 u1 u2 u3
                    have HZN := Lib.hid (heap_alloc_new wa (.cells #[.slice none 0 0, .slice none 0 0, .slice none 0 0, .slice none 0 0] 38))
                    have hltz : wa.heap.size < (wa.alloc (.cells #[.slice none 0 0, .slice none 0 0, .slice none 0 0, .slice none 0 0] 38)).drew.heap.size := lt_of_block HZN.out
                    clear hBZ0 hmz
                    refine (have KEY : ∀ (rb : Nat) (an : Option Addr) (nn cn : Nat) (wq : World), NBox B wr wa wq rb (.slice ap T.ports.length cp) (.slice al T.links.length cl) (.slice aa T.aces.length ca) (.slice an nn cn) (.slice ax nx cx) rs2 Lc nn → (?PPfalse : Nat → Option Addr → Nat → Nat → World → Prop) rb an nn cn wq := ?hkeyfalse; ?mainfalse)
                    case mainfalse =>
                      go_region_law (first | (go_simp; go_at_call 38; with_reducible refine Calls.mono (HCH.out wa.drew hBW) ?_; rintro e w5z ⟨an, nn, cn, he, hnx, hB5⟩; subst he; have hz := heap_alloc_new w5z (.cells #[.slice none 0 0, .slice none 0 0, .slice none 0 0, .slice none 0 0] 38); have b0 := And.intro (cell_of hz 0) (unfrozen_of hz 0); have b1 := And.intro (cell_of hz 1) (unfrozen_of hz 1); have b2 := And.intro (cell_of hz 2) (unfrozen_of hz 2); have b3 := And.intro (cell_of hz 3) (unfrozen_of hz 3); simp only [List.getElem?_toArray, List.getElem?_cons_zero, List.getElem?_cons_succ] at b0 b1 b2 b3; have hb6 := hBW.trans (hB5.mono hBW.size); have HRB := Lib.hid (NBox.mk_ (heap_alloc_new w5z (.cells #[.slice ap T.ports.length cp, .slice al T.links.length cl, .slice aa T.aces.length ca, .slice an nn cn] 38)) (hb6.alloc hb6.size (.cells #[.slice ap T.ports.length cp, .slice al T.links.length cl, .slice aa T.aces.length ca, .slice an nn cn] 38)) (hnx.kept (b1 := wr.heap.size) (Kept.of_alloc (S := []) w5z (.cells #[.slice ap T.ports.length cp, .slice al T.links.length cl, .slice aa T.aces.length ca, .slice an nn cn] 38)) (Nat.le_trans HSZ.out hBW.size) (by simp))); clear hB5 hz hb6 hnx) | (go_simp; go_at_call 38; refine Calls.mono (HCH.out _ hBZ) ?_; rintro e w5z ⟨an, nn, cn, he, hnx, hB5⟩; subst he; have hz : w5z.heap[wa.heap.size]? = some (.cells #[.slice none 0 0, .slice none 0 0, .slice none 0 0, .slice none 0 0] 38 (0, 0)) := (hB5.block wa.heap.size (lt_of_block HZN.out)).trans HZN.out; have b0 := And.intro (cell_of hz 0) (unfrozen_of hz 0); have b1 := And.intro (cell_of hz 1) (unfrozen_of hz 1); have b2 := And.intro (cell_of hz 2) (unfrozen_of hz 2); have b3 := And.intro (cell_of hz 3) (unfrozen_of hz 3); simp only [List.getElem?_toArray, List.getElem?_cons_zero, List.getElem?_cons_succ] at b0 b1 b2 b3; have hb6 := hBZ.trans (hB5.mono hBZ.size); have hk4 := kept_set4 w5z wa.heap.size (.slice ap T.ports.length cp) (.slice al T.links.length cl) (.slice aa T.aces.length ca) (.slice an nn cn); unfold set4 at hk4; have HRB := Lib.hid (NBox.mk_ (set4_blk hz (.slice ap T.ports.length cp) (.slice al T.links.length cl) (.slice aa T.aces.length ca) (.slice an nn cn)) (hb6.trans (hk4.below hb6.size (by simp))) (hnx.kept (b1 := wr.heap.size) hk4 (Nat.le_trans HSZ.out hBZ.size) (fun x hx => by rw [List.mem_singleton.1 hx]; exact ⟨fun hm => by have := (HDA.out.lo _ hm).2; omega, hltz⟩))); clear hB5 hz hb6 hnx hk4))
                      all_goals
                        go_simp
                        first
                          | (have hrb : NBox B wr wa (w5z.alloc (.cells #[.slice ap T.ports.length cp, .slice al T.links.length cl, .slice aa T.aces.length ca, .slice an nn cn] 38)) w5z.heap.size (.slice ap T.ports.length cp) (.slice al T.links.length cl) (.slice aa T.aces.length ca) (.slice an nn cn) (.slice ax nx cx) rs2 Lc nn := by with_reducible exact HRB.out
                             clear HRB
                             revert hrb
                             generalize w5z.alloc (.cells #[.slice ap T.ports.length cp, .slice al T.links.length cl, .slice aa T.aces.length ca, .slice an nn cn] 38) = wq
                             generalize w5z.heap.size = rb
                             intro hrb
                             exact KEY rb an nn cn wq hrb)
                          | (have hrb : NBox B wr wa ((((w5z.setCell ⟨wa.heap.size, 0, none⟩ (.slice ap T.ports.length cp)).setCell ⟨wa.heap.size, 1, none⟩ (.slice al T.links.length cl)).setCell ⟨wa.heap.size, 2, none⟩ (.slice aa T.aces.length ca)).setCell ⟨wa.heap.size, 3, none⟩ (.slice an nn cn)) wa.heap.size (.slice ap T.ports.length cp) (.slice al T.links.length cl) (.slice aa T.aces.length ca) (.slice an nn cn) (.slice ax nx cx) rs2 Lc nn := by with_reducible exact HRB.out
                             clear HRB
                             revert hrb
                             generalize ((((w5z.setCell ⟨wa.heap.size, 0, none⟩ (.slice ap T.ports.length cp)).setCell ⟨wa.heap.size, 1, none⟩ (.slice al T.links.length cl)).setCell ⟨wa.heap.size, 2, none⟩ (.slice aa T.aces.length ca)).setCell ⟨wa.heap.size, 3, none⟩ (.slice an nn cn)) = wq
                             generalize wa.heap.size = rb
                             intro hrb
                             exact KEY rb an nn cn wq hrb)
                    case hkeyfalse =>
                      intro rb an nn cn wq hq
                      obtain ⟨hqb, hqk, rs', ls', rfl, hd', hp', hf'⟩ := hq
                      have HQB := Lib.hid hqb
                      have HKQ := Lib.hid (HKA1.out.trans (hqk.mono (by have := HKA1.out.size; have := hMM; omega)))
                      have HMQ := Lib.hid ((hqk.block _ (lt_of_block HMA.out)).trans HMA.out)
                      have HDN := Lib.hid hd'
                      have HPN := Lib.hid hp'
                      have HFN : Hid (∀ x ∈ rfoot (.slice an ls'.length cn) rs', x ∈ rfoot (.slice ar ls.length cr) rs ∨ M < x) := Lib.hid (fun x hx => by
                        rcases hf' x hx with h1 | h1
                        · exact HFR.out x h1
                        · have := lt_of_block HMR.out
                          exact Or.inr (by omega))
                      have hl40 : ls'.length ≤ 40 := by
                        have h1 := hp'.len
                        have h2 := HLC.out.1.len
                        omega
                      have HLN := Lib.hid (rnlen_calls (vp := .slice ap T.ports.length cp) (vl := .slice al T.links.length cl) (va := .slice aa T.aces.length ca) hd' hl40 (by have h1 := hp'.lens; have := HLC.out.2; omega))
                      rw [← hp'.lens] at HLN
                      clear hqb hqk hd' hp' hf' hl40 hBW hBZ hltz m0 m1 m2 m3 u0 u1 u2 u3 hca hcb
                      have hr := HRC.out
                      by_cases hec : ec = 0
                      · subst hec
                        rw [if_neg (by simp)] at hr
                        have HRX := Lib.hid hr
                        clear hr
                        have r0 := cell_of HQB.out 0
                        have r1 := cell_of HQB.out 1
                        have r2 := cell_of HQB.out 2
                        have r3 := cell_of HQB.out 3
                        simp only [List.getElem?_toArray, List.getElem?_cons_zero, List.getElem?_cons_succ] at r0 r1 r2 r3
                        go_wp2_with (fail)
                        refine Calls.mono HLN.out ?_
                        rintro e w7 ⟨he, k7⟩
                        subst he
                        have HM7 := Lib.hid ((k7.block _ (lt_of_block HMQ.out)).trans HMQ.out)
                        have HK7 := Lib.hid (HKQ.out.trans (k7.mono (by have := HKQ.out.size; have := hMM; omega)))
                        have hb7 := (k7.block _ (lt_of_block HQB.out)).trans HQB.out
                        have HD7 := Lib.hid (HDN.out.below k7)
                        have hlc := HLC.out.2
                        clear r0 r1 r2 r3 k7
                        have hr := HRX.out
                        by_cases hbig : 256 < lenT Lc
                        · rw [if_pos hbig] at hr
                          have hres' := HRES.out _ hr
                          have hb' : decide ((256 : Int) < (lenT Lc : Int)) = true := decide_eq_true (by omega)
                          clear hbig hr hb7
                          have e0 := And.intro (cell_of ((HK7.out.block _ hz1).trans H2.out.2.1) 0) (unfrozen_of ((HK7.out.block _ hz1).trans H2.out.2.1) 0)
                          have e1 := And.intro (cell_of ((HK7.out.block _ hz1).trans H2.out.2.1) 1) (unfrozen_of ((HK7.out.block _ hz1).trans H2.out.2.1) 1)
                          have e2 := And.intro (cell_of ((HK7.out.block _ hz1).trans H2.out.2.1) 2) (unfrozen_of ((HK7.out.block _ hz1).trans H2.out.2.1) 2)
                          have e3 := And.intro (cell_of ((HK7.out.block _ hz1).trans H2.out.2.1) 3) (unfrozen_of ((HK7.out.block _ hz1).trans H2.out.2.1) 3)
                          simp only [List.getElem?_toArray, List.getElem?_cons_zero, List.getElem?_cons_succ] at e0 e1 e2 e3
                          have n0 := cell_of ((HK7.out.block _ hz0).trans H2.out.1) 0
                          have n1 := cell_of ((HK7.out.block _ hz0).trans H2.out.1) 1
                          have n2 := cell_of ((HK7.out.block _ hz0).trans H2.out.1) 2
                          have n3 := cell_of ((HK7.out.block _ hz0).trans H2.out.1) 3
                          simp only [List.getElem?_toArray, List.getElem?_cons_zero, List.getElem?_cons_succ] at n0 n1 n2 n3
                          go_wp2_with (fail)
                          exact bodyPost_ret (v := .tuple #[.agg #[.slice ap T.ports.length cp, .slice al T.links.length cl, .slice aa T.aces.length ca, .slice ar ls.length cr], .int .i64 (i : Int), .int .i64 15]) (by simp [results, Tryz.results19, go_sem, e0, e1, e2, e3]) rfl (RBPost.same hres' (by decide) HDOC.out HLO.out (H2.out.2.2.trans (HK7.out.mono (by have := HWM.out; omega))))
                        · rw [if_neg hbig] at hr
                          have hb' : decide ((256 : Int) < (lenT Lc : Int)) = false := decide_eq_false (by omega)
                          have HR7 := Lib.hid hr
                          clear hbig hr
                          have r0 := cell_of hb7 0
                          have r1 := cell_of hb7 1
                          have r2 := cell_of hb7 2
                          have r3 := cell_of hb7 3
                          simp only [List.getElem?_toArray, List.getElem?_cons_zero, List.getElem?_cons_succ] at r0 r1 r2 r3
                          have m0 := And.intro (cell_of HM7.out 0) (unfrozen_of HM7.out 0)
                          have m1 := And.intro (cell_of HM7.out 1) (unfrozen_of HM7.out 1)
                          have m2 := And.intro (cell_of HM7.out 2) (unfrozen_of HM7.out 2)
                          have m3 := And.intro (cell_of HM7.out 3) (unfrozen_of HM7.out 3)
                          simp only [List.getElem?_toArray, List.getElem?_cons_zero, List.getElem?_cons_succ] at m0 m1 m2 m3
                          clear hb7
                          go_wp2_with (fail)
                          have hk7 := kept_set4 w7 M (.slice ap T.ports.length cp) (.slice al T.links.length cl) (.slice aa T.aces.length ca) (.slice an ls'.length cn)
                          go_roundg (gk - 1)
                          case measure => omega
                          case rel =>
                            refine ⟨i + 1, an, ls'.length, cn, rs', ls', Lc, by omega, by go_num, set4_block HM7.out _ _ _ _, HD7.out.kept hk7 (fun x hx hm => ?_), HPN.out, HLC.out, HR7.out, HFN.out, HK7.out.trans (hk7.below (by have := HK7.out.size; have := hMM; omega) (by simp))⟩
                            · have h1 := List.mem_singleton.1 hm
                              rcases HFN.out x hx with h2 | h2
                              · have := HLO.out x h2
                                have := HWM.out
                                omega
                              · omega
                      · rw [if_pos hec] at hr
                        have hres' := HRES.out _ hr
                        have hne : (ec == 0) = false := beq_eq_false_iff_ne.2 hec
                        clear hr
                        clear hec
                        have e0 := And.intro (cell_of ((HKQ.out.block _ hz1).trans H2.out.2.1) 0) (unfrozen_of ((HKQ.out.block _ hz1).trans H2.out.2.1) 0)
                        have e1 := And.intro (cell_of ((HKQ.out.block _ hz1).trans H2.out.2.1) 1) (unfrozen_of ((HKQ.out.block _ hz1).trans H2.out.2.1) 1)
                        have e2 := And.intro (cell_of ((HKQ.out.block _ hz1).trans H2.out.2.1) 2) (unfrozen_of ((HKQ.out.block _ hz1).trans H2.out.2.1) 2)
                        have e3 := And.intro (cell_of ((HKQ.out.block _ hz1).trans H2.out.2.1) 3) (unfrozen_of ((HKQ.out.block _ hz1).trans H2.out.2.1) 3)
                        simp only [List.getElem?_toArray, List.getElem?_cons_zero, List.getElem?_cons_succ] at e0 e1 e2 e3
                        have n0 := cell_of ((HKQ.out.block _ hz0).trans H2.out.1) 0
                        have n1 := cell_of ((HKQ.out.block _ hz0).trans H2.out.1) 1
                        have n2 := cell_of ((HKQ.out.block _ hz0).trans H2.out.1) 2
                        have n3 := cell_of ((HKQ.out.block _ hz0).trans H2.out.1) 3
                        simp only [List.getElem?_toArray, List.getElem?_cons_zero, List.getElem?_cons_succ] at n0 n1 n2 n3
                        go_wp2_with (fail)
                        exact bodyPost_ret (v := .tuple #[.agg #[.slice ap T.ports.length cp, .slice al T.links.length cl, .slice aa T.aces.length ca, .slice ar ls.length cr], .int .i64 (i : Int), .int .i64 ec]) (by simp [results, Tryz.results19, go_sem, e0, e1, e2, e3]) rfl (RBPost.same hres' (by intro e; rw [e] at hne; simp at hne) HDOC.out HLO.out (H2.out.2.2.trans (HKQ.out.mono (by have := HWM.out; omega))))
        · obtain rfl : i = l.length := by omega
          rw [List.drop_eq_nil_of_le (Nat.le_refl _)] at hr
          have hres' := HRES.out _ hr
          unfold appS at hres'
          have HRE := Lib.hid hres'
          have n0 := cell_of HMR.out 0
          have n1 := cell_of HMR.out 1
          have n2 := cell_of HMR.out 2
          have n3 := cell_of HMR.out 3
          simp only [List.getElem?_toArray, List.getElem?_cons_zero, List.getElem?_cons_succ] at n0 n1 n2 n3
          have e0 := And.intro (cell_of ((HK1.out.block _ (by have := HWM.out; have := hMM; omega)).trans H2.out.2.1) 0) (unfrozen_of ((HK1.out.block _ (by have := HWM.out; have := hMM; omega)).trans H2.out.2.1) 0)
          have e1 := And.intro (cell_of ((HK1.out.block _ (by have := HWM.out; have := hMM; omega)).trans H2.out.2.1) 1) (unfrozen_of ((HK1.out.block _ (by have := HWM.out; have := hMM; omega)).trans H2.out.2.1) 1)
          have e2 := And.intro (cell_of ((HK1.out.block _ (by have := HWM.out; have := hMM; omega)).trans H2.out.2.1) 2) (unfrozen_of ((HK1.out.block _ (by have := HWM.out; have := hMM; omega)).trans H2.out.2.1) 2)
          have e3 := And.intro (cell_of ((HK1.out.block _ (by have := HWM.out; have := hMM; omega)).trans H2.out.2.1) 3) (unfrozen_of ((HK1.out.block _ (by have := HWM.out; have := hMM; omega)).trans H2.out.2.1) 3)
          simp only [List.getElem?_toArray, List.getElem?_cons_zero, List.getElem?_cons_succ] at e0 e1 e2 e3
          clear hr hres'
          go_wp2_with (fail)
          have hk4 := kept_set4 wr (w.heap.size + 1) (.slice ap T.ports.length cp) (.slice al T.links.length cl) (.slice aa T.aces.length ca) (.slice ax nx cx)
          exact bodyPost_ret (v := .tuple #[.agg #[.slice ap T.ports.length cp, .slice al T.links.length cl, .slice aa T.aces.length ca, .slice ax nx cx], .int .i64 (-1), .int .i64 0]) (by simp [results, Tryz.results19, go_sem, e0, e1, e2, e3]) rfl (by
            unfold RBPost
            rw [HRE.out]
            refine ⟨_, rs2, ls2, rfl, HDR.out.kept hk4 (fun x hx hc => ?_), fun _ => HPX.out, fun x hx => ?_, HKR.out.trans (hk4.below HKR.out.size (by simp))⟩
            · have h1 := List.mem_singleton.1 hc
              have := HWM.out
              rcases HFR.out x hx with h2 | h2
              · have := HLO.out x h2
                omega
              · have := hMM
                omega
            · rcases HFR.out x hx with h2 | h2
              · exact Or.inl h2
              · have := HWM.out
                have := hMM
                exact Or.inr (by omega))
end Go.Proofs.YtjoblahedgpgbaaGreat
