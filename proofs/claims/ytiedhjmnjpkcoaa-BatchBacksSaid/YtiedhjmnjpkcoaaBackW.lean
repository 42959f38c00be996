/- The walk of the program's Back. -/
import Derived.Test.YtiedhjmnjpkcoaaBackP
import Derived.Test.YtiedhjmnjpkcoaaAppOps
import Derived.Test.YtiedhjmnjpkcoaaBatW
namespace Go.Proofs.Ytiedhjmnjpkcoaa
set_option linter.unusedVariables false
set_option linter.unusedSimpArgs false
open Go.RowKit

def BackPost (T : Tp) (l : List Op) (Ls : List (List Rl)) (w : World) (e : Ending) (w' : World) : Prop := ∃ vb, e = .returned vb ∧ w'.ownsRow w.heap.size 47 7 vb (backS T.ports l Ls).length (opCells (backS T.ports l Ls)) ∧ Below w.heap.size w w'
theorem back_nil (w : World) (v : Value) : Calls Try.prog 42 #[.pointer none, v] w fun e w' => e = .returned (.slice none 0 0) ∧ Below w.heap.size w w' := by
  have HK := Lib.hid (Below.refl w.heap.size w)
  go_enter Try.func42, Try.ntmps42
  go_wp2_with (fail)
  go_ret
  exact ⟨rfl, HK.out⟩
theorem prefixes_nil (w : World) (v : Value) : Calls Try.prog 43 #[.pointer none, v] w fun e w' => e = .returned (.slice none 0 0) ∧ Below w.heap.size w w' := by
  have HK := Lib.hid (Below.refl w.heap.size w)
  go_enter Try.func43, Try.ntmps43
  go_wp2_with (fail)
  go_ret
  exact ⟨rfl, HK.out⟩

/-- The undo's box turned: seven cells. -/
def set7 (w : World) (b : Nat) (x0 x1 x2 x3 x4 x5 x6 : Value) : World := ((((((w.setCell ⟨b, 0, none⟩ x0).setCell ⟨b, 1, none⟩ x1).setCell ⟨b, 2, none⟩ x2).setCell ⟨b, 3, none⟩ x3).setCell ⟨b, 4, none⟩ x4).setCell ⟨b, 5, none⟩ x5).setCell ⟨b, 6, none⟩ x6
theorem kept_set7 (w : World) (b : Nat) (x0 x1 x2 x3 x4 x5 x6 : Value) : Kept [b] w (set7 w b x0 x1 x2 x3 x4 x5 x6) := (((((((Kept.refl [b] w).setCell _ _ (by simp)).setCell _ _ (by simp)).setCell _ _ (by simp)).setCell _ _ (by simp)).setCell _ _ (by simp)).setCell _ _ (by simp)).setCell _ _ (by simp)
set_option maxHeartbeats 4000000 in
theorem set7_block {w : World} {b : Nat} {t : TypeId} {y0 y1 y2 y3 y4 y5 y6 : Value} (h : w.heap[b]? = some (.cells #[y0, y1, y2, y3, y4, y5, y6] t (0, 0))) (x0 x1 x2 x3 x4 x5 x6 : Value) : (set7 w b x0 x1 x2 x3 x4 x5 x6).heap[b]? = some (.cells #[x0, x1, x2, x3, x4, x5, x6] t (0, 0)) := by
  unfold set7
  exact set_block (set_block (set_block (set_block (set_block (set_block (set_block h 0 _) 1 _) 2 _) 3 _) 4 _) 5 _) 6 _

variable {w : World} {B B0 nb : Nat} {vp vl va vt v1 : Value} {ts : List TD} {T : Tp} {l : List Op}
set_option maxRecDepth 100000 in
set_option maxHeartbeats 16000000 in
theorem back_calls (h : NetAt w B nb vp vl va vt ts) (hT : TpIn B0 w vp vl va T) (hB0 : B0 ≤ w.heap.size) (hok : NetOk T.ports (TD.Ls ts)) (hp : T.ports.length ≤ 40) (hL : lenT (TD.Ls ts) ≤ 1000) (hws : WfS (TD.Ls ts)) (ho : OpsIn w v1 l) (hl : l.length ≤ 100) :
    Calls Try.prog 42 #[.pointer (some ⟨nb, 0, none⟩), v1] w fun e w' => BackPost T l (TD.Ls ts) w e w' := by
  have HN := Lib.hid h
  have HT := Lib.hid hT
  have HOK := Lib.hid (And.intro hok hL)
  have HWS := Lib.hid hws
  obtain ⟨hwf, ao, cap, rfl, hop⟩ := ho
  have HWF := Lib.hid hwf
  have HOP := Lib.hid hop
  have htl : ts.length ≤ 40 := by have := hok.len; simp [TD.Ls] at this; omega
  have HCL := Lib.hid (nclone_calls h htl (fun t ht => by
    have h1 := lenT_mem (Ls := TD.Ls ts) (List.mem_map_of_mem (f := (·.L)) ht)
    omega))
  clear h hT hok hL hwf hop hws
  go_enter Try.func42, Try.ntmps42
  go_wp2_with (fail)
  refine Calls.mono HCL.out ?_
  rintro e w2 ⟨nb2, vt2, ts2, he, hN2, hL2, k2⟩
  subst he
  have HN2 := Lib.hid hN2
  have HL2 := Lib.hid hL2
  have HK2 := Lib.hid k2
  clear hN2 hL2 k2 HCL
  go_wp2_with (fail)
  go_loopg [5, 20] l.length (fun gk vo vi wr => ∃ (i : Nat) (tx : List TD), i + gk = l.length ∧ vi = .int .i64 (i : Int) ∧ NetAt wr w.heap.size nb2 vp vl va vt2 tx ∧ TD.Ls tx = foldS T.ports (TD.Ls ts) (l.take i) ∧ wr.ownsRow w.heap.size 47 7 vo (backS T.ports (l.take i) (TD.Ls ts)).length (opCells (backS T.ports (l.take i) (TD.Ls ts))) ∧ (∀ g, vo.ownBlock = some g → g ∉ feet tx) ∧ Below w.heap.size w wr)
  case atStart => exact ⟨0, ts2, by omega, rfl, HN2.out, HL2.out, by have h9 := World.ownsRow_nil w2 w.heap.size 47 7; simpa [backS, opCells] using h9, fun g hg => by simp [Value.ownBlock] at hg, HK2.out⟩
  case round =>
    obtain ⟨i, tx, hgk, rfl, hN, hLx, how, hfo, hK⟩ := hrel
    have HNR := Lib.hid hN
    have HLX := Lib.hid hLx
    have HOWR := Lib.hid how
    have HFO := Lib.hid hfo
    have HKR := Lib.hid hK
    by_cases hlt : i < l.length
    · obtain ⟨b, off, rfl, hat, hb⟩ := HOP.out i hlt
      have hcx := hat.cells hb hK i hlt
      have HTK : Hid (l.take (i + 1) = l.take i ++ [l[i]]) := Lib.hid (by rw [List.take_add_one, List.getElem?_eq_getElem hlt]; rfl)
      have hw := HWF.out _ (List.getElem_mem hlt)
      generalize l[i] = o at *
      obtain ⟨del, r⟩ := o
      simp only at hcx hw
      have HWR := Lib.hid hw
      have HXA := Lib.hid (heap_alloc_new wr (.cells #[.bool del, .int .i64 r.id, .int .i64 r.dev, .int .u32 (r.addr : Int), .int .i64 r.bits, .int .i64 r.prio, .int .i64 r.out] 47))
      have hka := (Below.refl wr.heap.size wr).alloc (Nat.le_refl _) (.cells #[.bool del, .int .i64 r.id, .int .i64 r.dev, .int .u32 (r.addr : Int), .int .i64 r.bits, .int .i64 r.prio, .int .i64 r.out] 47)
      have HNA := Lib.hid (hN.below hka)
      have HOWA := Lib.hid (own_kept how (Kept.of_below (S := []) hka) (by simp))
      have HKA := Lib.hid (hK.trans (hka.mono hK.size))
      clear hat hw hN hLx how hfo hK hka hb
      go_upto_region 8 with (fail)
      generalize wr.alloc (.cells #[.bool del, .int .i64 r.id, .int .i64 r.dev, .int .u32 (r.addr : Int), .int .i64 r.bits, .int .i64 r.prio, .int .i64 r.out] 47) = wa at *
      generalize wr.heap.size = xb at *
      clear hcx
      have x1 := cell_of HXA.out 1
      simp only [List.getElem?_toArray, List.getElem?_cons_zero, List.getElem?_cons_succ] at x1
      have HUB0 := Lib.hid (heap_alloc_new wa (.cells #[.bool true, .int .i64 r.id, .int .i64 0, .int .u32 0, .int .i64 0, .int .i64 0, .int .i64 0] 47))
      have hkb := (Below.refl wa.heap.size wa).alloc (Nat.le_refl _) (.cells #[.bool true, .int .i64 r.id, .int .i64 0, .int .u32 0, .int .i64 0, .int .i64 0, .int .i64 0] 47)
      have HNB := Lib.hid (HNA.out.below hkb)
      have HOWB := Lib.hid (own_kept HOWA.out (Kept.of_below (S := []) hkb) (by simp))
      have HKB := Lib.hid (HKA.out.trans (hkb.mono HKA.out.size))
      have HXB := Lib.hid ((hkb.block _ (lt_of_block HXA.out)).trans HXA.out)
      have HFREE : Hid (nb2 ≠ wa.heap.size ∧ (∀ g, vt2.ownBlock = some g → g ≠ wa.heap.size) ∧ wa.heap.size ∉ feet tx ∧ (∀ g, u5.ownBlock = some g → g ≠ wa.heap.size) ∧ xb ≠ wa.heap.size) := Lib.hid ⟨fun e => by have := lt_of_block HNA.out.head; omega, fun g hg e => by have := own_inN HNA.out.row hg; omega, fun hm => by have := HNA.out.feet_lt _ hm; omega, fun g hg e => by have := own_inN HOWA.out hg; omega, fun e => by have := lt_of_block HXA.out; omega⟩
      clear hkb
      go_upto_region 9 with (fail)
      generalize wa.alloc (.cells #[.bool true, .int .i64 r.id, .int .i64 0, .int .u32 0, .int .i64 0, .int .i64 0, .int .i64 0] 47) = wb at *
      have HLOU : Hid (w.heap.size ≤ wa.heap.size) := Lib.hid HKA.out.size
      generalize wa.heap.size = ub at *
      clear x1
      have HFU : Hid (ub ∉ feet tx) := Lib.hid HFREE.out.2.2.1
      have y0 := cell_of HXB.out 0
      simp only [List.getElem?_toArray, List.getElem?_cons_zero, List.getElem?_cons_succ] at y0
      cases del with
      | false =>
        clear y0
        have y0 := cell_of HXB.out 0
        simp only [List.getElem?_toArray, List.getElem?_cons_zero, List.getElem?_cons_succ] at y0
        obtain ⟨ur, hur⟩ : ∃ ur : Rl, ur = ⟨r.id, 0, 0, 0, 0, 0⟩ := ⟨_, rfl⟩
        have HUT : Hid (wb.heap[ub]? = some (.cells #[.bool true, .int .i64 ur.id, .int .i64 ur.dev, .int .u32 (ur.addr : Int), .int .i64 ur.bits, .int .i64 ur.prio, .int .i64 ur.out] 47 (0, 0))) := Lib.hid (by rw [hur]; exact HUB0.out)
        have HUN : Hid (undoS (foldS T.ports (TD.Ls ts) (l.take i)) ⟨false, r⟩ = ⟨true, ur⟩) := Lib.hid (by rw [hur]; exact undoS_add rfl)
        have HXT := HXB
        have HNT := HNB
        have HOWT := HOWB
        have HKT := HKB
        clear hur HXB HNB HOWB HKB
        go_upto_region 17 with (fail)
        clear y0
        have HC1 := Lib.hid (nchange_calls HNT.out (HT.out.kept (HKT.out.mono hB0)) hB0 (by rw [HLX.out]; exact foldS_ok HOK.out.1 _) hp (by rw [HLX.out]; have h9 := foldS_len (ports := T.ports) (l.take i) (TD.Ls ts); have := HOK.out.2; rw [List.length_take] at h9; omega) ⟨false, r⟩ HWR.out)
        unfold Op.val at HC1
        simp only at HC1
        have y0 := cell_of HXT.out 0
        have y1 := cell_of HXT.out 1
        have y2 := cell_of HXT.out 2
        have y3 := cell_of HXT.out 3
        have y4 := cell_of HXT.out 4
        have y5 := cell_of HXT.out 5
        have y6 := cell_of HXT.out 6
        simp only [List.getElem?_toArray, List.getElem?_cons_zero, List.getElem?_cons_succ] at y0 y1 y2 y3 y4 y5 y6
        go_wp2_with (fail)
        refine Calls.mono HC1.out ?_
        rintro e w5 ⟨tx', he, hN5, hL5, hT5⟩
        have HN5 := Lib.hid hN5
        have HT5 := Lib.hid hT5
        have HK5 := Lib.hid (HKT.out.trans (hT5.below HKT.out.size (fun x hx => HNT.out.feet_lo x hx)))
        have hu5 := (hT5.kept.block ub (lt_of_block HUT.out) HFU.out).trans HUT.out
        have HOW5 := Lib.hid (own_kept HOWT.out hT5.kept HFO.out)
        have HFO5 : Hid (∀ g, u5.ownBlock = some g → g ∉ feet tx') := Lib.hid (fun g hg hm => by
          rcases HT5.out.feet g hm with h1 | h1
          · exact HFO.out g hg h1
          · have := own_inN HOWT.out hg
            omega)
        rw [HLX.out] at he hL5
        have HL5 : Hid (TD.Ls tx' = foldS T.ports (TD.Ls ts) (l.take (i + 1))) := Lib.hid (by rw [hL5, HTK.out, foldS_snoc])
        have hbs := backS_snoc (ports := T.ports) ⟨false, r⟩ (l.take i) (TD.Ls ts)
        rw [← HTK.out, HUN.out] at hbs
        obtain ⟨ec, hec⟩ : ∃ ec, ec = (chgS T.ports (foldS T.ports (TD.Ls ts) (l.take i)) ⟨false, r⟩).2 := ⟨_, rfl⟩
        rw [← hec] at he hbs
        subst he
        clear hN5 hL5 hT5 hec y0 y1 y2 y3 y4 y5 y6 HC1
        by_cases hz : ec = 0
        · subst hz
          rw [if_pos rfl] at hbs
          have HBS := Lib.hid hbs
          have HU5 := Lib.hid hu5
          have u0 := cell_of hu5 0
          have u1 := cell_of hu5 1
          have u2 := cell_of hu5 2
          have u3 := cell_of hu5 3
          have u4 := cell_of hu5 4
          have u5 := cell_of hu5 5
          have u6 := cell_of hu5 6
          simp only [List.getElem?_toArray, List.getElem?_cons_zero, List.getElem?_cons_succ] at u0 u1 u2 u3 u4 u5 u6
          clear hbs hu5
          have HLIT := Lib.hid (World.ownsRow_lit (base := w.heap.size) (e := 47) (size := 7) w5 #[.bool true, .int .i64 ur.id, .int .i64 ur.dev, .int .u32 (ur.addr : Int), .int .i64 ur.bits, .int .i64 ur.prio, .int .i64 ur.out] 1 HK5.out.size (by unfold maxLen; omega) rfl)
          have HSRC := Lib.hid (own_ops (back_wf (ports := T.ports) (l.take i) (TD.Ls ts) HWS.out (fun o ho => HWF.out o (List.mem_of_mem_take ho))) (own_kept HOW5.out ((Kept.refl [] w5).alloc (.cells #[.bool true, .int .i64 ur.id, .int .i64 ur.dev, .int .u32 (ur.addr : Int), .int .i64 ur.bits, .int .i64 ur.prio, .int .i64 ur.out] 47)) (by simp)))
          have hbl : (backS T.ports (l.take i) (TD.Ls ts)).length ≤ l.length := Nat.le_trans (backS_len _ _) (by rw [List.length_take]; omega)
          have HKA := Lib.hid (HK5.out.alloc HK5.out.size (.cells #[.bool true, .int .i64 ur.id, .int .i64 ur.dev, .int .u32 (ur.addr : Int), .int .i64 ur.bits, .int .i64 ur.prio, .int .i64 ur.out] 47))
          go_wp2_with (at_builtin; refine wpList_app_ops (l := [⟨true, ur⟩]) (l2 := backS T.ports (l.take i) (TD.Ls ts)) ?_ (.tmp 57) (.tmp 58) ?_ HLIT.out HSRC.out ?_ HKA.out.size ?_ ?_ ?_; (· rfl); (· rfl); (· simp only [List.length_singleton]; omega); (· rfl); (· rfl); intro x1 w7 how1 hgr1 hat1; have HOW7 := Lib.hid how1; have HGR := Lib.hid hgr1; have HAT := Lib.hid hat1; clear how1 hgr1 hat1)
          have hB7 : Below w5.heap.size w5 w7 := ((Below.refl w5.heap.size w5).alloc (Nat.le_refl _) (.cells #[.bool true, .int .i64 ur.id, .int .i64 ur.dev, .int .u32 (ur.addr : Int), .int .i64 ur.bits, .int .i64 ur.prio, .int .i64 ur.out] 47)).trans (below_grew (B := w5.heap.size) HGR.out (Below.size ((Below.refl w5.heap.size w5).alloc (Nat.le_refl _) (.cells #[.bool true, .int .i64 ur.id, .int .i64 ur.dev, .int .u32 (ur.addr : Int), .int .i64 ur.bits, .int .i64 ur.prio, .int .i64 ur.out] 47))) (fun k e => by cases e; exact Nat.le_refl _))
          have hg7 : ∀ g, x1.ownBlock = some g → w5.heap.size ≤ g := fun g hg => by
            rcases HAT.out with h | h <;> rw [h] at hg <;> cases hg
            · exact Nat.le_refl _
            · simp
          go_roundg (gk - 1)
          case measure => omega
          case rel => exact ⟨i + 1, tx', by omega, by go_num, HN5.out.below hB7, HL5.out, by rw [HBS.out]; exact HOW7.out, fun g hg hm => by have := hg7 g hg; have := HN5.out.feet_lt g hm; omega, HK5.out.trans (hB7.mono HK5.out.size)⟩
        · rw [if_neg hz] at hbs
          have HBS := Lib.hid hbs
          have hne : (ec == 0) = false := beq_eq_false_iff_ne.2 hz
          clear hbs
          go_wp2_with (fail)
          go_roundg (gk - 1)
          case measure => omega
          case rel => exact ⟨i + 1, tx', by omega, by go_num, HN5.out, HL5.out, by rw [HBS.out]; exact HOW5.out, HFO5.out, HK5.out⟩
      | true =>
        clear y0
        have y0 := cell_of HXB.out 0
        simp only [List.getElem?_toArray, List.getElem?_cons_zero, List.getElem?_cons_succ] at y0
        obtain ⟨aot, cpt, rfl, haot⟩ := HNB.out.shape
        have HAOT := Lib.hid haot
        have c3 := cell_of HNB.out.head 3
        simp only [List.getElem?_toArray, List.getElem?_cons_zero, List.getElem?_cons_succ] at c3
        have htx : tx.length ≤ 40 := by
          have h1 := congrArg List.length HLX.out
          have h2 := (foldS_ok HOK.out.1 (l.take i)).len
          simp [TD.Ls] at h1 h2
          omega
        have HTX := Lib.hid htx
        clear haot
        go_wp2_with (fail)
        clear c3 y0
        generalize wr = wo at *
        generalize gk = go at *
        have HGO := Lib.hid hgk
        go_loopg [36] tx.length (fun gk vi wr => ∃ j : Nat, j + gk = tx.length ∧ vi = .int .i64 (j : Int) ∧ (∃ ud ur, uOp (getS ((TD.Ls tx).take j) r.id) r.id = ⟨ud, ur⟩ ∧ wr.heap[ub]? = some (.cells #[.bool ud, .int .i64 ur.id, .int .i64 ur.dev, .int .u32 (ur.addr : Int), .int .i64 ur.bits, .int .i64 ur.prio, .int .i64 ur.out] 47 (0, 0))) ∧ Kept [ub] wb wr)
        case atStart => exact ⟨0, by omega, rfl, ⟨true, ⟨r.id, 0, 0, 0, 0, 0⟩, rfl, HUB0.out⟩, Kept.refl _ _⟩
        case round =>
          obtain ⟨j, hgj, rfl, ⟨ud, ur, hun, hub⟩, hK⟩ := hrel
          have HGJ := Lib.hid hgj
          have HKJ := Lib.hid hK
          have HUJ := Lib.hid hub
          have HUNJ := Lib.hid hun
          have HNJ := Lib.hid (HNB.out.kept hK (by simpa using HFREE.out.1) (fun g hg => by simpa using HFREE.out.2.1 g hg) (fun x hx hm => by rw [List.mem_singleton.1 hm] at hx; exact HFREE.out.2.2.1 hx))
          have HXJ := Lib.hid ((hK.block xb (lt_of_block HXB.out) (by simpa using HFREE.out.2.2.2.2)).trans HXB.out)
          clear hun hub hK
          by_cases hlj : j < tx.length
          · obtain ⟨gt, rfl⟩ := HAOT.out j hlj
            obtain ⟨g2, cap2, he, e0⟩ := HNJ.out.at hlj
            cases he
            have hget := tget_calls (HNJ.out.tab _ (List.getElem_mem hlj)) r.id (by have := HWR.out.2.1; exact this)
            have HTJ : Hid ((TD.Ls tx).take (j + 1) = (TD.Ls tx).take j ++ [tx[j].L]) := Lib.hid (by
              have hjl : j < (TD.Ls tx).length := by simpa [TD.Ls] using hlj
              rw [List.take_add_one, List.getElem?_eq_getElem hjl]
              simp [TD.Ls])
            have hji : (j : Int) < (tx.length : Int) := by omega
            have hj1 : IntKind.i64.wrap ((j : Int) + 1) = (j : Int) + 1 := IntWalk.i64_in _ (by have := HTX.out; omega)
            generalize tx[j] = t at *
            obtain ⟨s, hs⟩ : ∃ s, s = (findR t.L r.id).getD noRule := ⟨_, rfl⟩
            obtain ⟨b, hb⟩ : ∃ b, b = (findR t.L r.id).isSome := ⟨_, rfl⟩
            rw [← hs, ← hb] at hget
            have HG := Lib.hid hget
            have HB := Lib.hid hb
            have HS := Lib.hid hs
            clear hs hb hget
            have x1 := cell_of HXJ.out 1
            simp only [List.getElem?_toArray, List.getElem?_cons_zero, List.getElem?_cons_succ] at x1
            go_wp2_with (fail)
            refine Calls.mono HG.out ?_
            rintro e wg ⟨he, kg⟩
            have he : e = .returned (.tuple #[.agg #[.int .i64 s.id, .int .i64 s.dev, .int .u32 (s.addr : Int), .int .i64 s.bits, .int .i64 s.prio, .int .i64 s.out], .bool b]) := he
            subst he
            have HRB := Lib.hid (heap_alloc_new wg (.cells #[.int .i64 s.id, .int .i64 s.dev, .int .u32 (s.addr : Int), .int .i64 s.bits, .int .i64 s.prio, .int .i64 s.out] 26))
            have hka := (Below.refl wg.heap.size wg).alloc (Nat.le_refl _) (.cells #[.int .i64 s.id, .int .i64 s.dev, .int .u32 (s.addr : Int), .int .i64 s.bits, .int .i64 s.prio, .int .i64 s.out] 26)
            have hkg := kg.trans (hka.mono kg.size)
            have HUG := Lib.hid ((hkg.block _ (lt_of_block HUJ.out)).trans HUJ.out)
            have HKG := Lib.hid (HKJ.out.trans (Kept.of_below (S := [ub]) hkg) (fun x hx => Or.inl hx))
            clear kg hka hkg x1 e0
            go_upto_region 14 with (fail)
            generalize wg.alloc (.cells #[.int .i64 s.id, .int .i64 s.dev, .int .u32 (s.addr : Int), .int .i64 s.bits, .int .i64 s.prio, .int .i64 s.out] 26) = wh at *
            cases b with
            | true =>
              have r0 := cell_of HRB.out 0
              have r1 := cell_of HRB.out 1
              have r2 := cell_of HRB.out 2
              have r3 := cell_of HRB.out 3
              have r4 := cell_of HRB.out 4
              have r5 := cell_of HRB.out 5
              simp only [List.getElem?_toArray, List.getElem?_cons_zero, List.getElem?_cons_succ] at r0 r1 r2 r3 r4 r5
              have u0 := And.intro (cell_of HUG.out 0) (unfrozen_of HUG.out 0)
              have u1 := And.intro (cell_of HUG.out 1) (unfrozen_of HUG.out 1)
              have u2 := And.intro (cell_of HUG.out 2) (unfrozen_of HUG.out 2)
              have u3 := And.intro (cell_of HUG.out 3) (unfrozen_of HUG.out 3)
              have u4 := And.intro (cell_of HUG.out 4) (unfrozen_of HUG.out 4)
              have u5 := And.intro (cell_of HUG.out 5) (unfrozen_of HUG.out 5)
              have u6 := And.intro (cell_of HUG.out 6) (unfrozen_of HUG.out 6)
              simp only [List.getElem?_toArray, List.getElem?_cons_zero, List.getElem?_cons_succ] at u0 u1 u2 u3 u4 u5 u6
              go_wp2_with (fail)
              have hk7 := kept_set7 wh ub (.bool false) (.int .i64 s.id) (.int .i64 s.dev) (.int .u32 (s.addr : Int)) (.int .i64 s.bits) (.int .i64 s.prio) (.int .i64 s.out)
              go_roundg (gk - 1)
              case measure => omega
              case rel =>
                refine ⟨j + 1, by omega, by go_num, ⟨false, s, ?_, set7_block HUG.out _ _ _ _ _ _ _⟩, HKG.out.trans hk7 (fun x hx => Or.inl hx)⟩
                rw [HTJ.out, getS_snoc]
                have h1 := HB.out
                have h2 := HS.out
                cases hf : findR t.L r.id with
                | none => rw [hf] at h1; cases h1
                | some q => rw [hf] at h2; cases h2; rfl
            | false =>
              go_wp2_with (fail)
              go_roundg (gk - 1)
              case measure => omega
              case rel =>
                refine ⟨j + 1, by omega, by go_num, ⟨ud, ur, ?_, HUG.out⟩, HKG.out⟩
                rw [HTJ.out, getS_snoc]
                have h1 := HB.out
                cases hf : findR t.L r.id with
                | none => exact HUNJ.out
                | some q => rw [hf] at h1; cases h1
          · obtain rfl : j = tx.length := by omega
            have HUT := HUJ
            have HUN : Hid (undoS (foldS T.ports (TD.Ls ts) (l.take i)) ⟨true, r⟩ = ⟨ud, ur⟩) := Lib.hid (by
              rw [← HLX.out, undoS_del rfl]
              have h1 := HUNJ.out
              rwa [List.take_of_length_le (by simp [TD.Ls])] at h1)
            have HXT := HXJ
            have HNT := HNJ
            have HOWT := Lib.hid (own_kept HOWB.out HKJ.out (fun g hg => by simpa using HFREE.out.2.2.2.1 g hg))
            have HKT := Lib.hid (HKB.out.trans (HKJ.out.below HKB.out.size (fun x hx => by rw [List.mem_singleton.1 hx]; exact HLOU.out)))
            go_upto_region 17 with (fail)
            have HC1 := Lib.hid (nchange_calls HNT.out (HT.out.kept (HKT.out.mono hB0)) hB0 (by rw [HLX.out]; exact foldS_ok HOK.out.1 _) hp (by rw [HLX.out]; have h9 := foldS_len (ports := T.ports) (l.take i) (TD.Ls ts); have := HOK.out.2; rw [List.length_take] at h9; omega) ⟨true, r⟩ HWR.out)
            unfold Op.val at HC1
            simp only at HC1
            have y0 := cell_of HXT.out 0
            have y1 := cell_of HXT.out 1
            have y2 := cell_of HXT.out 2
            have y3 := cell_of HXT.out 3
            have y4 := cell_of HXT.out 4
            have y5 := cell_of HXT.out 5
            have y6 := cell_of HXT.out 6
            simp only [List.getElem?_toArray, List.getElem?_cons_zero, List.getElem?_cons_succ] at y0 y1 y2 y3 y4 y5 y6
            go_wp2_with (fail)
            refine Calls.mono HC1.out ?_
            rintro e w5 ⟨tx', he, hN5, hL5, hT5⟩
            have HN5 := Lib.hid hN5
            have HT5 := Lib.hid hT5
            have HK5 := Lib.hid (HKT.out.trans (hT5.below HKT.out.size (fun x hx => HNT.out.feet_lo x hx)))
            have hu5 := (hT5.kept.block ub (lt_of_block HUT.out) HFU.out).trans HUT.out
            have HOW5 := Lib.hid (own_kept HOWT.out hT5.kept HFO.out)
            have HFO5 : Hid (∀ g, u5.ownBlock = some g → g ∉ feet tx') := Lib.hid (fun g hg hm => by
              rcases HT5.out.feet g hm with h1 | h1
              · exact HFO.out g hg h1
              · have := own_inN HOWT.out hg
                omega)
            rw [HLX.out] at he hL5
            have HL5 : Hid (TD.Ls tx' = foldS T.ports (TD.Ls ts) (l.take (i + 1))) := Lib.hid (by rw [hL5, HTK.out, foldS_snoc])
            have hbs := backS_snoc (ports := T.ports) ⟨true, r⟩ (l.take i) (TD.Ls ts)
            rw [← HTK.out, HUN.out] at hbs
            obtain ⟨ec, hec⟩ : ∃ ec, ec = (chgS T.ports (foldS T.ports (TD.Ls ts) (l.take i)) ⟨true, r⟩).2 := ⟨_, rfl⟩
            rw [← hec] at he hbs
            subst he
            clear hN5 hL5 hT5 hec y0 y1 y2 y3 y4 y5 y6 HC1
            by_cases hz : ec = 0
            · subst hz
              rw [if_pos rfl] at hbs
              have HBS := Lib.hid hbs
              have HU5 := Lib.hid hu5
              have u0 := cell_of hu5 0
              have u1 := cell_of hu5 1
              have u2 := cell_of hu5 2
              have u3 := cell_of hu5 3
              have u4 := cell_of hu5 4
              have u5 := cell_of hu5 5
              have u6 := cell_of hu5 6
              simp only [List.getElem?_toArray, List.getElem?_cons_zero, List.getElem?_cons_succ] at u0 u1 u2 u3 u4 u5 u6
              clear hbs hu5
              have HLIT := Lib.hid (World.ownsRow_lit (base := w.heap.size) (e := 47) (size := 7) w5 #[.bool ud, .int .i64 ur.id, .int .i64 ur.dev, .int .u32 (ur.addr : Int), .int .i64 ur.bits, .int .i64 ur.prio, .int .i64 ur.out] 1 HK5.out.size (by unfold maxLen; omega) rfl)
              have HSRC := Lib.hid (own_ops (back_wf (ports := T.ports) (l.take i) (TD.Ls ts) HWS.out (fun o ho => HWF.out o (List.mem_of_mem_take ho))) (own_kept HOW5.out ((Kept.refl [] w5).alloc (.cells #[.bool ud, .int .i64 ur.id, .int .i64 ur.dev, .int .u32 (ur.addr : Int), .int .i64 ur.bits, .int .i64 ur.prio, .int .i64 ur.out] 47)) (by simp)))
              have hbl : (backS T.ports (l.take i) (TD.Ls ts)).length ≤ l.length := Nat.le_trans (backS_len _ _) (by rw [List.length_take]; omega)
              have HKA := Lib.hid (HK5.out.alloc HK5.out.size (.cells #[.bool ud, .int .i64 ur.id, .int .i64 ur.dev, .int .u32 (ur.addr : Int), .int .i64 ur.bits, .int .i64 ur.prio, .int .i64 ur.out] 47))
              go_wp2_with (at_builtin; refine wpList_app_ops (l := [⟨ud, ur⟩]) (l2 := backS T.ports (l.take i) (TD.Ls ts)) ?_ (.tmp 57) (.tmp 58) ?_ HLIT.out HSRC.out ?_ HKA.out.size ?_ ?_ ?_; (· rfl); (· rfl); (· simp only [List.length_singleton]; omega); (· rfl); (· rfl); intro x1 w7 how1 hgr1 hat1; have HOW7 := Lib.hid how1; have HGR := Lib.hid hgr1; have HAT := Lib.hid hat1; clear how1 hgr1 hat1)
              have hB7 : Below w5.heap.size w5 w7 := ((Below.refl w5.heap.size w5).alloc (Nat.le_refl _) (.cells #[.bool ud, .int .i64 ur.id, .int .i64 ur.dev, .int .u32 (ur.addr : Int), .int .i64 ur.bits, .int .i64 ur.prio, .int .i64 ur.out] 47)).trans (below_grew (B := w5.heap.size) HGR.out (Below.size ((Below.refl w5.heap.size w5).alloc (Nat.le_refl _) (.cells #[.bool ud, .int .i64 ur.id, .int .i64 ur.dev, .int .u32 (ur.addr : Int), .int .i64 ur.bits, .int .i64 ur.prio, .int .i64 ur.out] 47))) (fun k e => by cases e; exact Nat.le_refl _))
              have hg7 : ∀ g, x1.ownBlock = some g → w5.heap.size ≤ g := fun g hg => by
                rcases HAT.out with h | h <;> rw [h] at hg <;> cases hg
                · exact Nat.le_refl _
                · simp
              go_roundg (go - 1)
              case measure => omega
              case rel => exact ⟨i + 1, tx', by have := HGO.out; omega, by go_num, HN5.out.below hB7, HL5.out, by rw [HBS.out]; exact HOW7.out, fun g hg hm => by have := hg7 g hg; have := HN5.out.feet_lt g hm; omega, HK5.out.trans (hB7.mono HK5.out.size)⟩
            · rw [if_neg hz] at hbs
              have HBS := Lib.hid hbs
              have hne : (ec == 0) = false := beq_eq_false_iff_ne.2 hz
              clear hbs
              go_wp2_with (fail)
              go_roundg (go - 1)
              case measure => omega
              case rel => exact ⟨i + 1, tx', by have := HGO.out; omega, by go_num, HN5.out, HL5.out, by rw [HBS.out]; exact HOW5.out, HFO5.out, HK5.out⟩
    · obtain rfl : i = l.length := by omega
      rw [List.take_length] at how
      have HRET := Lib.hid how
      clear hN hLx how hfo hK
      go_wp2_with (fail)
      exact bodyPost_ret (v := u5) (by simp [results, Try.results42, go_sem]) rfl ⟨u5, rfl, HRET.out, HKR.out⟩
end Go.Proofs.Ytiedhjmnjpkcoaa
