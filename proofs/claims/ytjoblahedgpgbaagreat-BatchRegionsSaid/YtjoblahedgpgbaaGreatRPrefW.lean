/- The walks of batch's Prefixes and Regions. · The walks of the document's Dst and Prefixes. · The walk of the document's Prefixes. · What the law of the regions needs, plainly. -/
import Derived.Test.YtjoblahedgpgbaaGreatRegA
import Derived.Test.YtjoblahedgpgbaaGreatBRegP
import Derived.Test.YtjoblahedgpgbaaGreatRBatW
import Derived.Test.YtjoblahedgpgbaaGreatMap
namespace Go.Proofs.YtjoblahedgpgbaaGreat
set_option linter.unusedVariables false
set_option linter.unusedSimpArgs false
open Go.RowKit Go.Maps

theorem pf_info : (Tryz.prog.info? 48).map (fun i => (i.zero, i.size, i.bytes)) = some (some (.agg #[.int .u32 0, .int .i64 0]), 2, 16) := by kernel_rfl
def PfsPost (w : World) (ps : List Pf) (e : Ending) (w' : World) : Prop := ∃ vo, e = .returned vo ∧ w'.ownsRow w.heap.size 48 2 vo ps.length (pfCells ps) ∧ Below w.heap.size w w'
theorem filterMap_len {α β : Type} (f : α → Option β) (l : List α) : (l.filterMap f).length ≤ l.length := List.length_filterMap_le f l
theorem preS_len (Ls : List (List Rl)) : ∀ (l : List Op) (come : Int → Option Pf), (preS Ls come l).length ≤ l.length * (Ls.length + 1)
  | [], _ => by simp [preS]
  | o :: l, come => by
    rw [List.length_cons, Nat.add_mul, Nat.one_mul]
    unfold preS
    split
    · have := preS_len Ls l (upd come o.rule.id o.rule.dst)
      rw [List.length_cons]
      omega
    · split
      · have := preS_len Ls l come
        rw [List.length_cons]
        omega
      · have := preS_len Ls l come
        have h2 := filterMap_len (fun L => (findR L o.rule.id).map Rl.dst) Ls
        rw [List.length_append]
        omega
def noPfV : Value := .agg #[.int .u32 0, .int .i64 0]
theorem pf_zero (w : World) : (zeroValue 48).run Tryz.prog w = .ok noPfV w := Tryz.zeroValue48 w
theorem pfmap_look {w w' : World} {mb n : Nat} {f : Int → Option Pf} (h : IsMapOf Tryz.prog 3 i64 Pf.val w mb n f) (hb : w'.heap[mb]? = w.heap[mb]?) {id : Int} (hid : okI id) :
    (Instr.lookup 169 (.map (some mb)) (.int .i64 id) true).run Tryz.prog w' = .ok (.tuple #[((f id).getD noPf).val, .bool (f id).isSome]) w' := by
  have := (h.of_block hb).look idKeyed i64_inj Tryz.underlying169 (pf_zero _) id (i64_key hid) true
  cases hf : f id with
  | none => rw [hf] at this; exact this
  | some r => rw [hf] at this; exact this
theorem own_old {w : World} {base : Nat} {e : TypeId} {size : Nat} {v : Value} {n : Nat} {xs : List Value} (h : w.ownsRow base e size v n xs) : ∀ g, v.ownBlock = some g → g < w.heap.size := fun g hg => own_inN h hg
variable {w : World} {B nb : Nat} {vp vl va vt v1 : Value} {ts : List TD} {l : List Op}
set_option maxRecDepth 100000 in
set_option maxHeartbeats 16000000 in
theorem bprefixes_calls (h : NetAt w B nb vp vl va vt ts) (htl : ts.length ≤ 40) (ho : OpsIn w v1 l) (hl : l.length ≤ 100) :
    Calls Tryz.prog 20 #[.pointer (some ⟨nb, 0, none⟩), v1] w (PfsPost w (preS (TD.Ls ts) (fun _ => none) l)) := by
  obtain ⟨i0, hi, hz0, hz1, hz2⟩ := info_parts pf_info
  have HN := Lib.hid h
  obtain ⟨hwf, ao, cap, rfl, hop⟩ := ho
  have HWF := Lib.hid hwf
  have HOP := Lib.hid hop
  have hk0 : Below w.heap.size w (w.alloc (.map #[] 0)) := (Below.refl _ _).alloc (Nat.le_refl _) _
  have HK0 := Lib.hid hk0
  have HM0 := Lib.hid (IsMapOf.made w Tryz.prog 3 i64 Pf.val)
  have hLn : (TD.Ls ts).length = ts.length := by simp [TD.Ls]
  have hplen := preS_len (TD.Ls ts) l (fun _ => none)
  rw [hLn] at hplen
  have hplen : (preS (TD.Ls ts) (fun _ => none) l).length ≤ 4100 := Nat.le_trans hplen (Nat.le_trans (Nat.mul_le_mul_right _ hl) (by omega))
  have HPL := Lib.hid hplen
  clear h hwf hop hk0 hLn hplen
  obtain ⟨R, hR⟩ : ∃ R, R = preS (TD.Ls ts) (fun _ => none) l := ⟨_, rfl⟩
  rw [← hR] at HPL ⊢
  have HR0 := Lib.hid hR
  clear hR
  have hmm := @run_makeMap Tryz.prog
  have hbz : w.heap.size < (w.alloc (.map #[] 0)).heap.size := by simp
  have HBZ := Lib.hid hbz
  clear hbz
  go_enter Tryz.func20, Tryz.ntmps20
  go_wp2_with (fail)
  generalize w.alloc (.map #[] 0) = w1 at *
  clear hmm
  go_loopg [5, 20] l.length (fun gk vo vi wr => ∃ (i n : Nat) (ps : List Pf) (come : Int → Option Pf), i + gk = l.length ∧ vi = .int .i64 (i : Int) ∧ R = ps ++ preS (TD.Ls ts) come (l.drop i) ∧ wr.ownsRow (w.heap.size + 1) 48 2 vo ps.length (pfCells ps) ∧ IsMapOf Tryz.prog 3 i64 Pf.val wr w.heap.size n come ∧ Below w.heap.size w wr ∧ w.heap.size < wr.heap.size)
  case atStart => exact ⟨0, 0, [], fun _ => none, by omega, rfl, by rw [HR0.out]; rfl, World.ownsRow_nil _ _ _ _, HM0.out, HK0.out, HBZ.out⟩
  case round =>
    obtain ⟨i, n, ps, come, hgk, rfl, hR, how, hM, hK, hz⟩ := hrel
    have HRR := Lib.hid hR
    have HOW := Lib.hid how
    have HM := Lib.hid hM
    have HKR := Lib.hid hK
    have HZ := Lib.hid hz
    have HGK := Lib.hid hgk
    have hpsl : ps.length ≤ 4100 := by have h1 := HPL.out; rw [hR, List.length_append] at h1; omega
    clear hR how hM hz
    by_cases hlt : i < l.length
    · obtain ⟨b, off, rfl, hat, hb⟩ := HOP.out i hlt
      have hcx := hat.cells hb hK i hlt
      have hR := HRR.out
      rw [List.drop_eq_getElem_cons hlt] at hR
      unfold preS at hR
      have hw := HWF.out _ (List.getElem_mem hlt)
      have hi1 : IntKind.i64.wrap ((i : Int) + 1) = ((i + 1 : Nat) : Int) := by rw [IntWalk.i64_in _ (by omega)]; omega
      have HG0 : Hid (0 < gk) := Lib.hid (by omega)
      generalize l[i] = o at *
      obtain ⟨del, r⟩ := o
      simp only at hcx hw hR
      have HWR := Lib.hid hw
      have HXC := Lib.hid (heap_alloc_new wr (.cells #[.bool del, .int .i64 r.id, .int .i64 r.dev, .int .u32 (r.addr : Int), .int .i64 r.bits, .int .i64 r.prio, .int .i64 r.out] 91))
      have hka := (Below.refl wr.heap.size wr).alloc (Nat.le_refl _) (.cells #[.bool del, .int .i64 r.id, .int .i64 r.dev, .int .u32 (r.addr : Int), .int .i64 r.bits, .int .i64 r.prio, .int .i64 r.out] 91)
      have HKA := Lib.hid hka
      have hza : wr.heap.size < (wr.alloc (.cells #[.bool del, .int .i64 r.id, .int .i64 r.dev, .int .u32 (r.addr : Int), .int .i64 r.bits, .int .i64 r.prio, .int .i64 r.out] 91)).heap.size := by simp
      have HZA := Lib.hid hza
      clear hat hw hK hka hb hgk hza
      go_upto_region 8 with (fail)
      generalize wr.alloc (.cells #[.bool del, .int .i64 r.id, .int .i64 r.dev, .int .u32 (r.addr : Int), .int .i64 r.bits, .int .i64 r.prio, .int .i64 r.out] 91) = wa at *
      clear hcx
      have HWA := Lib.hid (own_kept HOW.out (Kept.of_below (S := []) HKA.out) (by simp))
      have HMA := Lib.hid (HM.out.of_block (HKA.out.block _ HZ.out))
      have HKW := Lib.hid (HKR.out.trans (HKA.out.mono HKR.out.size))
      have HZW : Hid (w.heap.size + 1 < wa.heap.size) := Lib.hid (by have := HZ.out; have := HZA.out; omega)
      have y0 := cell_of HXC.out 0
      have y1 := cell_of HXC.out 1
      have y2 := cell_of HXC.out 2
      have y3 := cell_of HXC.out 3
      have y4 := cell_of HXC.out 4
      have y5 := cell_of HXC.out 5
      have y6 := cell_of HXC.out 6
      simp only [List.getElem?_toArray, List.getElem?_cons_zero, List.getElem?_cons_succ] at y0 y1 y2 y3 y4 y5 y6
      cases del with
      | false =>
        rw [if_pos rfl] at hR
        have HRN := Lib.hid hR
        clear hR
        go_wp2_with (first | (at_builtin; go_must (refine wpList_append_lies _ rfl (.tmp 27) (.tmp 31) 43 rfl (w.heap.size + 1) 48 i0 _ 2 16 Tryz.underlying43 hi hz0 hz1 hz2 rfl (by decide) _ ps.length (pfCells ps) rfl ?_ ⟨wa.heap.size, 0, none⟩ 1 1 [.int .u32 (r.addr : Int), .int .i64 r.bits] rfl rfl ?_ ?_ (by omega) ?_ ?_ ?_ _ rfl ?_); (· exact own_kept HWA.out ((Kept.refl [] _).alloc _) (by simp)); (· exact news_atT (by simp)); (· simp [Value.oneCell']); (· unfold maxLen; omega); (· omega); (· have := HZW.out; simp; omega); intro g9 cap9 w9 how9 hgr9 hat9 hlt9; have HOW9 := Lib.hid how9; have HGR9 := Lib.hid hgr9; clear how9 hgr9 hat9 hlt9; have HM9 := Lib.hid (HMA.out.of_block ((HGR9.out.block w.heap.size (by have := HZW.out; simp; omega) (fun e => by have := own_pastT HWA.out _ e.symm; omega)).trans (Below.heap_alloc wa _ _ (by have := HZW.out; omega)))); have HX9 := Lib.hid ((HGR9.out.block wr.heap.size (by have := lt_of_block HXC.out; simp; omega) (fun e => by have := own_old HOW.out _ e.symm; omega)).trans (blk_alloc HXC.out _)); clear y0 y1 y2 y3 y4 y5 y6; have y1 := cell_of HX9.out 1; have y3 := cell_of HX9.out 3; have y4 := cell_of HX9.out 4; simp only [List.getElem?_toArray, List.getElem?_cons_zero, List.getElem?_cons_succ] at y1 y3 y4) | (at_mapUpdate; refine wpList_put _ rfl _ _ _ 169 48 rfl idKeyed i64_inj Tryz.underlying169 HM9.out r.id r.dst (i64_key HWR.out.2.1) rfl rfl rfl ?_; intro w10 M10 hg10; have HM10 := Lib.hid M10; have HG10 := Lib.hid hg10; clear M10 hg10))
        go_roundg (gk - 1)
        case measure => have := HG0.out; omega
        case rel =>
          have hk9 := Kept.grown_rowT (S := []) ((Kept.of_below (S := []) HKW.out).alloc (.cells #[.int .u32 (r.addr : Int), .int .i64 r.bits] 48)) HGR9.out (fun g hg => Or.inr (by have := own_pastT HWA.out g hg; omega))
          have hk10 := Kept.grown_rowT (S := []) hk9 HG10.out (fun g hg => Or.inr (by cases hg; exact Nat.le_refl _))
          refine ⟨i + 1, _, ps ++ [r.dst], _, by have := HGK.out; have := HG0.out; omega, rfl, by rw [HRN.out, List.append_assoc]; rfl, ?_, HM10.out, hk10.below (Nat.le_refl _) (by simp), by have h1 := HZW.out; have h2 := HGR9.out.size; have h3 := HG10.out.size; simp at h2; omega⟩
          have h9 := own_kept HOW9.out (Kept.of_grown HG10.out) (fun g hg hm => by have := own_pastT HOW9.out g hg; rw [List.mem_singleton.1 hm] at this; omega)
          rw [pfCells_snoc, List.length_append]
          exact h9
      | true =>
        rw [if_neg (by decide)] at hR
        obtain ⟨p, hp⟩ : ∃ p, p = (come r.id).getD noPf := ⟨_, rfl⟩
        obtain ⟨bq, hbq⟩ : ∃ bq, bq = (come r.id).isSome := ⟨_, rfl⟩
        have hlk2 : (Instr.lookup 169 (.map (some w.heap.size)) (.int .i64 r.id) true).run Tryz.prog wa = .ok (.tuple #[.agg #[.int .u32 (p.addr : Int), .int .i64 p.bits], .bool bq]) wa := by
          have h := pfmap_look (w' := wa) HMA.out rfl (id := r.id) HWR.out.2.1
          rw [← hp, ← hbq] at h
          exact h
        have HPB := Lib.hid (heap_alloc_new wa (.cells #[.int .u32 (p.addr : Int), .int .i64 p.bits] 48))
        have HKP := Lib.hid ((Below.refl wa.heap.size wa).alloc (Nat.le_refl _) (.cells #[.int .u32 (p.addr : Int), .int .i64 p.bits] 48))
        have HRN := Lib.hid hR
        have HPP := Lib.hid (And.intro hp hbq)
        clear hR hp hbq
        go_upto_region 12 with (fail)
        generalize wa.alloc (.cells #[.int .u32 (p.addr : Int), .int .i64 p.bits] 48) = wb at *
        clear hlk2 y0 y1 y2 y3 y4 y5 y6
        have HWB := Lib.hid (own_kept HWA.out (Kept.of_below (S := []) HKP.out) (by simp))
        have HMB := Lib.hid (HMA.out.of_block (HKP.out.block _ (by have := HZW.out; omega)))
        have HKB := Lib.hid (HKW.out.trans (HKP.out.mono HKW.out.size))
        have HZB : Hid (w.heap.size + 1 < wb.heap.size) := Lib.hid (by have := HZW.out; have := HKP.out.size; omega)
        have HXB := Lib.hid ((HKP.out.block _ (lt_of_block HXC.out)).trans HXC.out)
        cases bq with
        | true =>
          have p0 := cell_of HPB.out 0
          have p1 := cell_of HPB.out 1
          simp only [List.getElem?_toArray, List.getElem?_cons_zero, List.getElem?_cons_succ] at p0 p1
          go_wp2_with (at_builtin; go_must (refine wpList_append_lies _ rfl (.tmp 49) (.tmp 51) 43 rfl (w.heap.size + 1) 48 i0 _ 2 16 Tryz.underlying43 hi hz0 hz1 hz2 rfl (by decide) _ ps.length (pfCells ps) rfl ?_ ⟨wb.heap.size, 0, none⟩ 1 1 [.int .u32 (p.addr : Int), .int .i64 p.bits] rfl rfl ?_ ?_ (by omega) ?_ ?_ ?_ _ rfl ?_); (· exact own_kept HWB.out ((Kept.refl [] _).alloc _) (by simp)); (· exact news_atT (by simp)); (· simp [Value.oneCell']); (· unfold maxLen; omega); (· omega); (· have := HZB.out; simp; omega); intro g9 cap9 w9 how9 hgr9 hat9 hlt9; have HOW9 := Lib.hid how9; have HGR9 := Lib.hid hgr9; clear how9 hgr9 hat9 hlt9)
          go_roundg (gk - 1)
          case measure => have := HG0.out; omega
          case rel =>
            have hcome : come r.id = some p := by
              have h1 := HPP.out.1
              have h2 := HPP.out.2
              cases hq : come r.id with
              | none => rw [hq] at h2; cases h2
              | some q => rw [hq] at h1; exact congrArg some h1.symm
            have hrn := HRN.out
            rw [hcome] at hrn
            have hk9 := Kept.grown_rowT (S := []) ((Kept.of_below (S := []) HKB.out).alloc (.cells #[.int .u32 (p.addr : Int), .int .i64 p.bits] 48)) HGR9.out (fun g hg => Or.inr (by have := own_pastT HWB.out g hg; omega))
            refine ⟨i + 1, n, ps ++ [p], come, by have := HGK.out; have := HG0.out; omega, rfl, by rw [hrn, List.append_assoc]; rfl, ?_, HMB.out.of_block ((HGR9.out.block w.heap.size (by have := HZB.out; simp; omega) (fun e => by have := own_pastT HWB.out _ e.symm; omega)).trans (Below.heap_alloc wb _ _ (by have := HZB.out; omega))), hk9.below (Nat.le_refl _) (by simp), by have h1 := HZB.out; have h2 := HGR9.out.size; simp at h2; omega⟩
            rw [pfCells_snoc, List.length_append]
            exact HOW9.out
        | false =>
          have hcome : come r.id = none := by
            have h2 := HPP.out.2
            cases hq : come r.id with
            | none => rfl
            | some q => rw [hq] at h2; cases h2
          have hrn := HRN.out
          rw [hcome] at hrn
          have HRF := Lib.hid hrn
          have HNB := Lib.hid (HN.out.below HKB.out)
          obtain ⟨aot, cpt, rfl, haot⟩ := HNB.out.shape
          have HAOT := Lib.hid haot
          have c1 := cell_of HNB.out.head 3
          simp only [List.getElem?_toArray, List.getElem?_cons_zero, List.getElem?_cons_succ] at c1
          have htlx := htl
          have hps2 : Hid (∀ j, (ps ++ ((TD.Ls ts).take j).filterMap fun L => (findR L r.id).map Rl.dst).length ≤ 4200) := Lib.hid (fun j => by
            have h1 := filterMap_len (fun L => (findR L r.id).map Rl.dst) ((TD.Ls ts).take j)
            rw [List.length_take] at h1
            have h2 : (TD.Ls ts).length = ts.length := by simp [TD.Ls]
            rw [List.length_append]
            omega)
          clear hcome hrn haot
          go_wp2_with (fail)
          clear c1
          generalize u5 = vo at *
          generalize wr = wo at *
          generalize gk = go at *
          go_loopg [5, 58] ts.length (fun gk v5 vj wr => ∃ (j : Nat) (qs : List Pf), j + gk = ts.length ∧ vj = .int .i64 (j : Int) ∧ qs = ps ++ ((TD.Ls ts).take j).filterMap (fun L => (findR L r.id).map Rl.dst) ∧ wr.ownsRow (w.heap.size + 1) 48 2 v5 qs.length (pfCells qs) ∧ Below w.heap.size w wr ∧ wr.heap[w.heap.size]? = wb.heap[w.heap.size]? ∧ wr.heap[wo.heap.size]? = wb.heap[wo.heap.size]? ∧ wb.heap.size ≤ wr.heap.size ∧ ∀ g, v5.ownBlock = some g → g ≠ wo.heap.size)
          case atStart => exact ⟨0, ps, by omega, rfl, by simp, HWB.out, HKB.out, rfl, rfl, Nat.le_refl _, fun g hg => by have := own_old HOW.out g hg; omega⟩
          case round =>
            obtain ⟨j, qs, hgj, rfl, hqs, howj, hKJ, hmj, hxj, hzj, hfj⟩ := hrel
            have HFJ := Lib.hid hfj
            clear hfj
            have HGJ := Lib.hid hgj
            have HQS := Lib.hid hqs
            have HWJ := Lib.hid howj
            have HKJ := Lib.hid hKJ
            have HMJ := Lib.hid hmj
            have HXJ := Lib.hid hxj
            have HZJ := Lib.hid hzj
            have hql : qs.length ≤ 4200 := by rw [hqs]; exact hps2.out j
            have HNJ := Lib.hid (HN.out.below hKJ)
            clear hqs howj hmj hxj hzj
            by_cases hlj : j < ts.length
            · obtain ⟨gt, rfl⟩ := HAOT.out j hlj
              obtain ⟨g2, cap2, he, e0⟩ := HNJ.out.at hlj
              cases he
              have hget := tget_calls (HNJ.out.tab _ (List.getElem_mem hlj)) r.id HWR.out.2.1
              have HTJ : Hid (((TD.Ls ts).take (j + 1)).filterMap (fun L => (findR L r.id).map Rl.dst) = ((TD.Ls ts).take j).filterMap (fun L => (findR L r.id).map Rl.dst) ++ (match findR ts[j].L r.id with
                | none => []
                | some s => [s.dst])) := Lib.hid (by
                have hjl : j < (TD.Ls ts).length := by simpa [TD.Ls] using hlj
                rw [List.take_add_one, List.getElem?_eq_getElem hjl, Option.toList_some, List.filterMap_append, List.filterMap_cons, List.filterMap_nil]
                have e1 : (TD.Ls ts)[j] = ts[j].L := by simp [TD.Ls]
                rw [e1]
                cases findR ts[j].L r.id <;> rfl)
              have hj1 : IntKind.i64.wrap ((j : Int) + 1) = ((j + 1 : Nat) : Int) := by rw [IntWalk.i64_in _ (by omega)]; omega
              have HJ0 : Hid (0 < gk) := Lib.hid (by omega)
              have hxq := (HXJ.out).trans HXB.out
              have q1 := cell_of hxq 1
              simp only [List.getElem?_toArray, List.getElem?_cons_zero, List.getElem?_cons_succ] at q1
              clear hgj hxq
              generalize ts[j] = t at *
              obtain ⟨s, hs⟩ : ∃ s, s = (findR t.L r.id).getD noRule := ⟨_, rfl⟩
              obtain ⟨b2, hb2⟩ : ∃ b2, b2 = (findR t.L r.id).isSome := ⟨_, rfl⟩
              rw [← hs, ← hb2] at hget
              have HG := Lib.hid hget
              have HSB := Lib.hid (And.intro hs hb2)
              clear hs hb2 hget
              go_wp2_with (fail)
              refine Calls.mono HG.out ?_
              rintro e wg ⟨he, kg⟩
              have he : e = .returned (.tuple #[.agg #[.int .i64 s.id, .int .i64 s.dev, .int .u32 (s.addr : Int), .int .i64 s.bits, .int .i64 s.prio, .int .i64 s.out], .bool b2]) := he
              subst he
              have HRB := Lib.hid (heap_alloc_new wg (.cells #[.int .i64 s.id, .int .i64 s.dev, .int .u32 (s.addr : Int), .int .i64 s.bits, .int .i64 s.prio, .int .i64 s.out] 89))
              have hka := (Below.refl wg.heap.size wg).alloc (Nat.le_refl _) (.cells #[.int .i64 s.id, .int .i64 s.dev, .int .u32 (s.addr : Int), .int .i64 s.bits, .int .i64 s.prio, .int .i64 s.out] 89)
              have hkg := kg.trans (hka.mono kg.size)
              have HKG := Lib.hid hkg
              have HWG := Lib.hid (own_kept HWJ.out (Kept.of_below (S := []) hkg) (by simp))
              have HZG : Hid (w.heap.size + 1 < (wg.alloc (.cells #[.int .i64 s.id, .int .i64 s.dev, .int .u32 (s.addr : Int), .int .i64 s.bits, .int .i64 s.prio, .int .i64 s.out] 89)).heap.size ∧ wo.heap.size < (wg.alloc (.cells #[.int .i64 s.id, .int .i64 s.dev, .int .u32 (s.addr : Int), .int .i64 s.bits, .int .i64 s.prio, .int .i64 s.out] 89)).heap.size) := Lib.hid (by
                have h1 := HZB.out
                have h2 := HZJ.out
                have h3 := hkg.size
                have h4 := lt_of_block HXB.out
                constructor <;> omega)
              clear kg hka hkg q1 e0
              go_upto_region 18 with (fail)
              generalize wg.alloc (.cells #[.int .i64 s.id, .int .i64 s.dev, .int .u32 (s.addr : Int), .int .i64 s.bits, .int .i64 s.prio, .int .i64 s.out] 89) = wh at *
              cases b2 with
              | true =>
                have r2 := cell_of HRB.out 2
                have r3 := cell_of HRB.out 3
                simp only [List.getElem?_toArray, List.getElem?_cons_zero, List.getElem?_cons_succ] at r2 r3
                go_wp2_with (at_builtin; go_must (refine wpList_append_lies _ rfl (.tmp 71) (.tmp 74) 43 rfl (w.heap.size + 1) 48 i0 _ 2 16 Tryz.underlying43 hi hz0 hz1 hz2 rfl (by decide) _ qs.length (pfCells qs) rfl ?_ ⟨wh.heap.size, 0, none⟩ 1 1 [.int .u32 (s.addr : Int), .int .i64 s.bits] rfl rfl ?_ ?_ (by omega) ?_ ?_ ?_ _ rfl ?_); (· exact own_kept HWG.out ((Kept.refl [] _).alloc _) (by simp)); (· exact news_atT (by simp)); (· simp [Value.oneCell']); (· unfold maxLen; omega); (· omega); (· have := HZG.out; simp; omega); intro g9 cap9 w9 how9 hgr9 hat9 hlt9; have HOW9 := Lib.hid how9; have HGR9 := Lib.hid hgr9; have HAT9 := Lib.hid hat9; clear how9 hgr9 hat9 hlt9)
                go_roundg (gk - 1)
                case measure => have := HJ0.out; omega
                case rel =>
                  have hfind : findR t.L r.id = some s := by
                    obtain ⟨h1, h2⟩ := HSB.out
                    cases hq : findR t.L r.id with
                    | none => rw [hq] at h2; cases h2
                    | some q => rw [hq] at h1; exact congrArg some h1.symm
                  have htj := HTJ.out
                  rw [hfind] at htj
                  have hkw := HKJ.out.trans (HKG.out.mono HKJ.out.size)
                  have hk9 := Kept.grown_rowT (S := []) ((Kept.of_below (S := []) hkw).alloc (.cells #[.int .u32 (s.addr : Int), .int .i64 s.bits] 48)) HGR9.out (fun g hg => Or.inr (by have := own_pastT HWG.out g hg; omega))
                  have hkeep : ∀ x, x < wr.heap.size → u5.ownBlock ≠ some x → w9.heap[x]? = wr.heap[x]? := fun x hx hne => by
                    have h1 := HKG.out.size
                    exact (HGR9.out.block x (by simp; omega) (fun e => hne e.symm)).trans ((Below.heap_alloc wh _ _ (by omega)).trans (HKG.out.block x hx))
                  have hzz := HZG.out
                  have hz9 := HGR9.out.size
                  simp at hz9
                  refine ⟨j + 1, qs ++ [s.dst], by have := HGJ.out; have := HJ0.out; omega, rfl, by rw [htj, HQS.out, List.append_assoc], ?_, hk9.below (Nat.le_refl _) (by simp), (hkeep _ (by have := HZJ.out; have := HZB.out; omega) (fun e => by have := own_pastT HWJ.out _ e; omega)).trans HMJ.out, (hkeep _ (by have := HZJ.out; have := lt_of_block HXB.out; omega) (fun e => HFJ.out _ e rfl)).trans HXJ.out, by have := HZJ.out; have := HKG.out.size; omega, fun g hg => ?_⟩
                  · rw [pfCells_snoc, List.length_append]
                    exact HOW9.out
                  · have hg : some g9 = some g := hg
                    obtain rfl := Option.some.inj hg
                    rcases HAT9.out with h | h
                    · exact HFJ.out _ h
                    · simp at h
                      omega
              | false =>
                go_wp2_with (fail)
                go_roundg (gk - 1)
                case measure => have := HJ0.out; omega
                case rel =>
                  have hfind : findR t.L r.id = none := by
                    obtain ⟨h1, h2⟩ := HSB.out
                    cases hq : findR t.L r.id with
                    | none => rfl
                    | some q => rw [hq] at h2; cases h2
                  have htj := HTJ.out
                  rw [hfind] at htj
                  exact ⟨j + 1, qs, by have := HGJ.out; have := HJ0.out; omega, rfl, by rw [htj, HQS.out, List.append_nil], HWG.out, HKJ.out.trans (HKG.out.mono HKJ.out.size), (HKG.out.block _ (by have := HZJ.out; have := HZB.out; omega)).trans HMJ.out, (HKG.out.block _ (by have := HZJ.out; have := lt_of_block HXB.out; omega)).trans HXJ.out, by have := HZJ.out; have := HKG.out.size; omega, HFJ.out⟩
            · obtain rfl : j = ts.length := by omega
              have hqs := HQS.out
              rw [show (TD.Ls ts).take ts.length = TD.Ls ts by rw [List.take_of_length_le (by simp [TD.Ls])]] at hqs
              have HQF := Lib.hid hqs
              clear hqs hgj
              go_wp2_with (fail)
              go_roundg (go - 1)
              case measure => have := HG0.out; omega
              case rel => exact ⟨i + 1, n, qs, come, by have := HGK.out; have := HG0.out; omega, rfl, by rw [HRF.out, HQF.out, List.append_assoc], HWJ.out, HMB.out.of_block HMJ.out, HKJ.out, by have := HZJ.out; have := HZB.out; omega⟩
    · obtain rfl : i = l.length := by omega
      have hR := HRR.out
      rw [List.drop_length, show preS (TD.Ls ts) come [] = [] from rfl, List.append_nil] at hR
      have HFIN : Hid (PfsPost w R (.returned u5) wr) := Lib.hid ⟨u5, rfl, by rw [hR]; exact World.ownsRow.mono HOW.out (by omega), HKR.out⟩
      clear hR hgk hK
      go_wp2_with (fail)
      exact bodyPost_ret (v := u5) (by simp [results, Tryz.results20, go_sem]) rfl HFIN.out
set_option maxRecDepth 100000 in
theorem bregions_calls (h : NetAt w B nb vp vl va vt ts) (htl : ts.length ≤ 40) (ho : OpsIn w v1 l) (hl : l.length ≤ 100) (hr : ∀ p ∈ preS (TD.Ls ts) (fun _ => none) l, p.addr < 2 ^ 32 ∧ rtB p = true) (hn : (preS (TD.Ls ts) (fun _ => none) l).length ≤ 1000) (s : Nat) (hs : s ≤ 3) :
    Calls Tryz.prog 23 #[.pointer (some ⟨nb, 0, none⟩), v1, .int .i64 (s : Int)] w (IntsPost w (allR s (preS (TD.Ls ts) (fun _ => none) l))) := by
  have HP := Lib.hid (bprefixes_calls h htl ho hl)
  have HRR := Lib.hid (And.intro hr hn)
  clear h ho hl hr hn
  generalize preS (TD.Ls ts) (fun _ => none) l = ps at *
  go_enter Tryz.func23, Tryz.ntmps23
  go_wp2_with (fail)
  refine Calls.mono HP.out ?_
  rintro e w2 ⟨vo, he, how, k2⟩
  subst he
  have HK := Lib.hid k2
  have HA := Lib.hid (prall_calls (B := w.heap.size) ⟨HRR.out.1, how⟩ HRR.out.2 s hs)
  clear how k2
  go_wp2_with (fail)
  refine Calls.mono HA.out ?_
  rintro e w3 ⟨v3, he, how, k3⟩
  subst he
  have HFIN : Hid (IntsPost w (allR s ps) (.returned v3) w3) := Lib.hid ⟨v3, rfl, World.ownsRow.mono how HK.out.size, HK.out.trans (k3.mono HK.out.size)⟩
  clear how k3
  go_wp2_with (fail)
  exact bodyPost_ret (v := v3) (by simp [results, Tryz.results23, go_sem]) rfl HFIN.out
end Go.Proofs.YtjoblahedgpgbaaGreat

namespace Go.Proofs.YtjoblahedgpgbaaGreat
set_option linter.unusedVariables false
set_option linter.unusedSimpArgs false
open Go.RowKit

theorem findR_at {l : List Rl} {j : Nat} {x : Rl} {id : Int} (hj : j < l.length) (he : l[j] = x) (hN : findR (l.take j) id = none) (hx : x.id = id) : findR l id = some x := by
  have e : l = l.take j ++ x :: l.drop (j + 1) := by rw [← he, ← List.drop_eq_getElem_cons hj, List.take_append_drop]
  rw [e]
  unfold findR at *
  rw [List.find?_append, hN, Option.none_or, List.find?_cons, decide_eq_true hx]
theorem findL_at {ls : List (List Rl)} {i : Nat} {l : List Rl} {x : Rl} {id : Int} (hi : i < ls.length) (he : ls[i] = l) (hN : findL (ls.take i) id = none) (hx : findR l id = some x) : findL ls id = some x := by
  have e : ls = ls.take i ++ l :: ls.drop (i + 1) := by rw [← he, ← List.drop_eq_getElem_cons hi, List.take_append_drop]
  rw [e]
  unfold findL at *
  rw [List.findSome?_append, hN, Option.none_or, List.findSome?_cons, hx]
theorem findR_snoc {l : List Rl} {j : Nat} {x : Rl} {id : Int} (hj : j < l.length) (he : l[j] = x) (hN : findR (l.take j) id = none) (hx : x.id ≠ id) : findR (l.take (j + 1)) id = none := by
  rw [List.take_add_one, List.getElem?_eq_getElem hj, he]
  unfold findR at *
  rw [List.find?_append, hN, Option.none_or]
  simp [hx]
theorem findL_snoc {ls : List (List Rl)} {i : Nat} {l : List Rl} {id : Int} (hi : i < ls.length) (he : ls[i] = l) (hN : findL (ls.take i) id = none) (hx : findR l id = none) : findL (ls.take (i + 1)) id = none := by
  rw [List.take_add_one, List.getElem?_eq_getElem hi, he]
  unfold findL at *
  rw [List.findSome?_append, hN, Option.none_or]
  simp [hx]
variable {w : World} {B : Nat} {vp vl va vr : Value} {rs : List Value} {ls : List (List Rl)}
def DstPost (w : World) (ls : List (List Rl)) (id : Int) (e : Ending) (w' : World) : Prop := e = .returned (.tuple #[.agg #[.int .u32 ((((findL ls id).map Rl.dst).getD noPf).addr : Int), .int .i64 (((findL ls id).map Rl.dst).getD noPf).bits], .bool (findL ls id).isSome]) ∧ Below w.heap.size w w'
set_option maxRecDepth 100000 in
set_option maxHeartbeats 4000000 in
theorem rdst_calls (h : RNetAt w B vr rs ls) (hl : ls.length ≤ 40) (hL : lenT ls < 100000) (id : Int) : Calls Tryz.prog 78 #[.agg #[vp, vl, va, vr], .int .i64 id] w (DstPost w ls id) := by
  have hk1 := (Below.refl w.heap.size w).alloc (Nat.le_refl _) (.cells #[vp, vl, va, vr] 38)
  have HX0 := heap_alloc_new w (.cells #[vp, vl, va, vr] 38)
  obtain ⟨ao, cap, rfl, _, hao⟩ := h.shape
  have HLT := Lib.hid (fun l (hm : l ∈ ls) => Nat.lt_of_le_of_lt (lenT_mem hm) hL)
  have two := two_new17 w (.cells #[vp, vl, va, .slice ao ls.length cap] 38) (.cells #[.int .u32 0, .int .i64 0] 48)
  have H := Lib.hid (h.below two.2.2)
  have HX := Lib.hid two.1
  have HP := Lib.hid two.2.1
  have HK := Lib.hid two.2.2
  clear h hao hk1 HX0 two
  go_enter Tryz.func78, Tryz.ntmps78
  go_upto_region 1 with (fail)
  generalize (w.alloc (.cells #[vp, vl, va, .slice ao ls.length cap] 38)).alloc (.cells #[.int .u32 0, .int .i64 0] 48) = w1 at *
  have c3 := cell_of HX.out 3
  simp only [List.getElem?_toArray, List.getElem?_cons_zero, List.getElem?_cons_succ] at c3
  go_wp2_with (fail)
  go_loopg [6] ls.length (fun gk vi wr => ∃ i : Nat, i + gk = ls.length ∧ vi = .int .i64 (i : Int) ∧ findL (ls.take i) id = none ∧ wr = w1)
  case atStart => exact ⟨0, by omega, rfl, rfl, rfl⟩
  case round =>
    obtain ⟨i, hgk, rfl, hN, rfl⟩ := hrel
    have HN := Lib.hid hN
    clear hN
    by_cases hlt : i < ls.length
    · obtain ⟨g, capz, aoz, cz, he, e0, _, hO, haz⟩ := H.out.rowAt hlt
      cases he
      have hi1 : IntKind.i64.wrap ((i : Int) + 1) = ((i + 1 : Nat) : Int) := by rw [IntWalk.i64_in _ (by omega)]; omega
      have HSN := Lib.hid (fun (hx : findR ls[i] id = none) => findL_snoc hlt rfl HN.out hx)
      have HAT := Lib.hid (fun x (hx : findR ls[i] id = some x) => findL_at hlt rfl HN.out hx)
      have hb := HLT.out _ (List.getElem_mem hlt)
      have HO := Lib.hid hO
      have HAZ := Lib.hid haz
      have HG0 : Hid (0 < gk ∧ i + gk = ls.length) := Lib.hid (by omega)
      generalize ls[i] = l at *
      have hii : (i : Int) < (ls.length : Int) := by omega
      clear hO haz hgk
      go_wp2_with (fail)
      generalize gk = gko at *
      go_loopg [7] l.length (fun gk vj w8 => ∃ j : Nat, j + gk = l.length ∧ vj = .int .i64 (j : Int) ∧ findR (l.take j) id = none ∧ w8 = wr)
      case atStart => exact ⟨0, by omega, rfl, rfl, rfl⟩
      case round =>
        obtain ⟨j, hgk2, rfl, hN2, rfl⟩ := hrel
        have HN2 := Lib.hid hN2
        clear hN2
        by_cases hlj : j < l.length
        · obtain ⟨g2, rfl⟩ := HAZ.out j hlj
          have d0 := (HO.out.cellAt (j * 6) (by omega)).trans (rlCells_at l j hlj 0 (by omega))
          have d2 := (HO.out.cellAt (j * 6 + 2) (by omega)).trans (rlCells_at l j hlj 2 (by omega))
          have d3 := (HO.out.cellAt (j * 6 + 3) (by omega)).trans (rlCells_at l j hlj 3 (by omega))
          simp [Rl.cells] at d0 d2 d3
          have HTJ := Lib.hid (fun (hx : l[j].id ≠ id) => findR_snoc hlj rfl HN2.out hx)
          have HMJ := Lib.hid (fun (hx : l[j].id = id) => findR_at hlj rfl HN2.out hx)
          have hj1 : IntKind.i64.wrap ((j : Int) + 1) = ((j + 1 : Nat) : Int) := by rw [IntWalk.i64_in _ (by omega)]; omega
          have HJ0 : Hid (0 < gk ∧ j + gk = l.length) := Lib.hid (by omega)
          generalize l[j] = x at *
          have hjj : (j : Int) < (l.length : Int) := by omega
          clear hgk2
          by_cases hx : x.id = id
          · have hf := HAT.out x (HMJ.out hx)
            have HRES : Hid (∀ w', Below w.heap.size w w' → DstPost w ls id (.returned (.tuple #[.agg #[.int .u32 (x.addr : Int), .int .i64 x.bits], .bool true])) w') := Lib.hid (fun w' k => by
              unfold DstPost
              rw [hf]
              exact ⟨rfl, k⟩)
            subst hx
            clear hf
            have p0 := And.intro (cell_of HP.out 0) (unfrozen_of HP.out 0)
            have p1 := And.intro (cell_of HP.out 1) (unfrozen_of HP.out 1)
            simp only [List.getElem?_toArray, List.getElem?_cons_zero, List.getElem?_cons_succ] at p0 p1
            go_wp2_with (fail)
            exact bodyPost_ret (v := .tuple #[.agg #[.int .u32 (x.addr : Int), .int .i64 x.bits], .bool true]) (by simp [results, Tryz.results78, go_sem, p0, p1]) rfl (HRES.out _ ((HK.out.setCell (by simp) _).setCell (by simp) _))
          · have hx2 : (x.id == id) = false := beq_eq_false_iff_ne.2 hx
            have HX2 := Lib.hid hx
            clear hx
            go_wp2_with (fail)
            go_roundg (gk - 1)
            case measure => have := HJ0.out; omega
            case rel => exact ⟨j + 1, by have := HJ0.out; omega, rfl, HTJ.out HX2.out, rfl⟩
        · obtain rfl : j = l.length := by omega
          have hn2 := HN2.out
          rw [List.take_length] at hn2
          have HL2 := Lib.hid (HSN.out hn2)
          clear hn2 hgk2
          go_wp2_with (fail)
          go_roundg (gko - 1)
          case measure => have := HG0.out; omega
          case rel => exact ⟨i + 1, by have := HG0.out; omega, rfl, HL2.out, rfl⟩
    · obtain rfl : i = ls.length := by omega
      have hn := HN.out
      rw [List.take_length] at hn
      have HRES : Hid (∀ w', Below w.heap.size w w' → DstPost w ls id (.returned (.tuple #[.agg #[.int .u32 0, .int .i64 0], .bool false])) w') := Lib.hid (fun w' k => by
        unfold DstPost
        rw [hn]
        exact ⟨rfl, k⟩)
      have p0 := And.intro (cell_of HP.out 0) (unfrozen_of HP.out 0)
      have p1 := And.intro (cell_of HP.out 1) (unfrozen_of HP.out 1)
      simp only [List.getElem?_toArray, List.getElem?_cons_zero, List.getElem?_cons_succ] at p0 p1
      clear hn hgk
      go_wp2_with (fail)
      exact bodyPost_ret (v := .tuple #[.agg #[.int .u32 0, .int .i64 0], .bool false]) (by simp [results, Tryz.results78, go_sem, p0, p1]) rfl (HRES.out _ ((HK.out.setCell (by simp) _).setCell (by simp) _))
end Go.Proofs.YtjoblahedgpgbaaGreat

namespace Go.Proofs.YtjoblahedgpgbaaGreat
set_option linter.unusedVariables false
set_option linter.unusedSimpArgs false
open Go.RowKit

variable {ports : List Int}
theorem docS_len : ∀ (l : List Op) (Ls : List (List Rl)), (docS ports Ls l).length = l.length
  | [], _ => rfl
  | o :: l, Ls => by unfold docS; rw [List.length_cons, docS_len l, List.length_cons]
theorem Pairs.findL : ∀ {Ls ls : List (List Rl)}, Pairs Ls ls → ∀ id, findL Ls id = findL ls id
  | [], [], _, _ => rfl
  | L :: Ls, l :: ls, h, id => by
    have h1 := h.1.find id
    have h2 := Pairs.findL h.2 id
    unfold Go.Proofs.YtjoblahedgpgbaaGreat.findL at *
    rw [List.findSome?_cons, List.findSome?_cons, h1, h2]
  | [], _ :: _, h, _ => h.elim
  | _ :: _, [], h, _ => h.elim
theorem RNetAt.grown {wa w9 : World} {o : Obj} {row : Option Nat} {B : Nat} {vr : Value} {rs : List Value} {ls : List (List Rl)} (h : RNetAt wa B vr rs ls) (hg : (wa.alloc o).grownBy w9 row) (hne : ∀ x ∈ rfoot vr rs, row ≠ some x) : RNetAt w9 B vr rs ls :=
  h.kept (S := row.toList) (Kept.grown_rowT ((Kept.refl _ wa).alloc o) hg (fun k hk => Or.inl (by rw [hk]; simp))) (fun x hx hm => hne x hx (by cases row with
    | none => cases hm
    | some k => rw [Option.toList_some, List.mem_singleton] at hm; rw [hm]))
variable {w : World} {B B0 : Nat} {vp vl va vr v1 : Value} {rs : List Value} {ls Ls : List (List Rl)} {T : Tp} {l : List Op}
set_option maxRecDepth 100000 in
set_option maxHeartbeats 16000000 in
theorem rprefixes_calls (hR : RNetAt w B vr rs ls) (hP : Pairs Ls ls) (hT : TpIn B0 w vp vl va T) (hB0 : B0 ≤ w.heap.size) (hBw : B ≤ w.heap.size) (hok : NetOk T.ports Ls) (hp0 : 0 < T.ports.length) (hp : T.ports.length ≤ 40) (hL : lenT Ls ≤ 1000) (ho : OpsIn w v1 l) (hl : l.length ≤ 100) :
    Calls Tryz.prog 21 #[.agg #[vp, vl, va, vr], v1] w (PfsPost w (docS T.ports Ls l)) := by
  obtain ⟨i0, hi, hz0, hz1, hz2⟩ := info_parts pf_info
  obtain ⟨ap, cp, rfl, _⟩ := hT.ports
  obtain ⟨al, cl, rfl, _⟩ := hT.links
  obtain ⟨aa, ca, rfl, _⟩ := hT.aces
  obtain ⟨ar, cr, rfl, _, _⟩ := hR.shape
  obtain ⟨hwf, ao, cap, rfl, hop⟩ := ho
  have HWF := Lib.hid hwf
  have HOP := Lib.hid hop
  have HT := Lib.hid hT
  have HBS : Hid (B0 ≤ w.heap.size ∧ B ≤ w.heap.size ∧ 0 < T.ports.length) := Lib.hid ⟨hB0, hBw, hp0⟩
  have HX0 := Lib.hid (heap_alloc_new w (.cells #[.slice ap T.ports.length cp, .slice al T.links.length cl, .slice aa T.aces.length ca, .slice ar ls.length cr] 38))
  have hk := (Below.refl w.heap.size w).alloc (Nat.le_refl _) (.cells #[.slice ap T.ports.length cp, .slice al T.links.length cl, .slice aa T.aces.length ca, .slice ar ls.length cr] 38)
  have HK0 := Lib.hid hk
  have HR0 := Lib.hid (hR.below hk)
  have HLO := Lib.hid (fun x hx => (hR.lo x hx).2)
  have HP0 := Lib.hid hP
  have HOK := Lib.hid (And.intro hok hL)
  have hbz : w.heap.size < (w.alloc (.cells #[.slice ap T.ports.length cp, .slice al T.links.length cl, .slice aa T.aces.length ca, .slice ar ls.length cr] 38)).heap.size := by simp
  have HBZ := Lib.hid hbz
  obtain ⟨R, hRR⟩ : ∃ R, R = docS T.ports Ls l := ⟨_, rfl⟩
  have HPL : Hid (R.length ≤ 100) := Lib.hid (by rw [hRR, docS_len]; exact hl)
  rw [← hRR]
  have HRR := Lib.hid hRR
  clear hR hP hT hB0 hBw hok hp0 hL hwf hop hk hbz hRR
  go_enter Tryz.func21, Tryz.ntmps21
  go_upto_region 1 with (fail)
  generalize w.alloc (.cells #[.slice ap T.ports.length cp, .slice al T.links.length cl, .slice aa T.aces.length ca, .slice ar ls.length cr] 38) = w1 at *
  go_wp2_with (fail)
  go_loopg [5, 6] l.length (fun gk vo vi wr => ∃ (i : Nat) (ps : List Pf) (Lx lx : List (List Rl)) (ax : Option Addr) (cx : Nat) (rx : List Value), i + gk = l.length ∧ vi = .int .i64 (i : Int) ∧ R = ps ++ docS T.ports Lx (l.drop i) ∧ (NetOk T.ports Lx ∧ lenT Lx ≤ 1000 + i) ∧ wr.ownsRow (w.heap.size + 1) 48 2 vo ps.length (pfCells ps) ∧
    wr.heap[w.heap.size]? = some (.cells #[.slice ap T.ports.length cp, .slice al T.links.length cl, .slice aa T.aces.length ca, .slice ax lx.length cx] 38 (0, 0)) ∧ RNetAt wr B (.slice ax lx.length cx) rx lx ∧ Pairs Lx lx ∧ (∀ x ∈ rfoot (.slice ax lx.length cx) rx, x ≠ w.heap.size ∧ vo.ownBlock ≠ some x) ∧ Below w.heap.size w wr)
  case atStart => exact ⟨0, [], Ls, ls, ar, cr, rs, by omega, rfl, by rw [HRR.out]; rfl, HOK.out, World.ownsRow_nil _ _ _ _, HX0.out, HR0.out, HP0.out, fun x hx => ⟨fun e => by have := HLO.out x hx; omega, fun e => by cases e⟩, HK0.out⟩
  case round =>
    obtain ⟨i, ps, Lx, lx, ax, cx, rx, hgk, rfl, hRx, hOx, how, hXx, hNx, hPx, hFx, hK⟩ := hrel
    have HRX := Lib.hid hRx
    have HOX := Lib.hid hOx
    have HOW := Lib.hid how
    have HXX := Lib.hid hXx
    have HNX := Lib.hid hNx
    have HPX := Lib.hid hPx
    have HFX := Lib.hid hFx
    have HKR := Lib.hid hK
    have HGK := Lib.hid hgk
    have hpsl : ps.length ≤ 100 := by have h1 := HPL.out; rw [hRx, List.length_append] at h1; omega
    clear hRx hOx how hXx hNx hPx hFx
    by_cases hlt : i < l.length
    · obtain ⟨b, off, rfl, hat, hb⟩ := HOP.out i hlt
      have hcx := hat.cells hb hK i hlt
      have HCX : Hid (∀ X, Below w.heap.size w X → X.cell? ⟨b, off + i * 7, none⟩ = some (.bool l[i].del) ∧ X.cell? ⟨b, off + i * 7 + 1, none⟩ = some (.int .i64 l[i].rule.id) ∧ X.cell? ⟨b, off + i * 7 + 2, none⟩ = some (.int .i64 l[i].rule.dev) ∧ X.cell? ⟨b, off + i * 7 + 3, none⟩ = some (.int .u32 (l[i].rule.addr : Int)) ∧ X.cell? ⟨b, off + i * 7 + 4, none⟩ = some (.int .i64 l[i].rule.bits) ∧ X.cell? ⟨b, off + i * 7 + 5, none⟩ = some (.int .i64 l[i].rule.prio) ∧ X.cell? ⟨b, off + i * 7 + 6, none⟩ = some (.int .i64 l[i].rule.out)) := Lib.hid (fun X kX => hat.cells hb kX i hlt)
      have hR := HRX.out
      rw [List.drop_eq_getElem_cons hlt] at hR
      unfold docS at hR
      have hw := HWF.out _ (List.getElem_mem hlt)
      have hi1 : IntKind.i64.wrap ((i : Int) + 1) = ((i + 1 : Nat) : Int) := by rw [IntWalk.i64_in _ (by omega)]; omega
      have hii : (i : Int) < (l.length : Int) := by omega
      have HG0 : Hid (0 < gk) := Lib.hid (by omega)
      generalize l[i] = o at *
      obtain ⟨del, r⟩ := o
      simp only at hcx hw hR HCX
      have HWR := Lib.hid hw
      have HPB := Lib.hid (heap_alloc_new wr (.cells #[.int .u32 (r.addr : Int), .int .i64 r.bits] 48))
      have hka := (Below.refl wr.heap.size wr).alloc (Nat.le_refl _) (.cells #[.int .u32 (r.addr : Int), .int .i64 r.bits] 48)
      have HKA := Lib.hid (hK.trans (hka.mono hK.size))
      have HKA0 := Lib.hid hka
      have HWA := Lib.hid (own_kept HOW.out (Kept.of_below (S := []) hka) (by simp))
      have HXA := Lib.hid ((hka.block _ (lt_of_block HXX.out)).trans HXX.out)
      have HNA := Lib.hid (HNX.out.below hka)
      have hza : wr.heap.size < (wr.alloc (.cells #[.int .u32 (r.addr : Int), .int .i64 r.bits] 48)).heap.size := by simp
      have HZA := Lib.hid hza
      have HZR := Lib.hid (lt_of_block HXX.out)
      clear hat hw hK hka hgk hza hb
      go_upto_region 6 with (fail)
      generalize wr.alloc (.cells #[.int .u32 (r.addr : Int), .int .i64 r.bits] 48) = wa at *
      clear hcx
      obtain ⟨y0, y1, y2, y3, y4, y5, y6⟩ := HCX.out wa HKA.out
      cases del with
      | false =>
        rw [if_pos rfl] at hR
        have HRN := Lib.hid hR
        clear hR
        have p0 := cell_of HPB.out 0
        have p1 := cell_of HPB.out 1
        simp only [List.getElem?_toArray, List.getElem?_cons_zero, List.getElem?_cons_succ] at p0 p1
        go_wp2_with (at_builtin; go_must (refine wpList_append_lies _ rfl (.tmp 36) (.tmp 38) 43 rfl (w.heap.size + 1) 48 i0 _ 2 16 Tryz.underlying43 hi hz0 hz1 hz2 rfl (by decide) _ ps.length (pfCells ps) rfl ?_ ⟨wa.heap.size, 0, none⟩ 1 1 [.int .u32 (r.addr : Int), .int .i64 r.bits] rfl rfl ?_ ?_ (by omega) ?_ ?_ ?_ _ rfl ?_); (· exact own_kept HWA.out ((Kept.refl [] _).alloc _) (by simp)); (· exact news_atT (by simp)); (· simp [Value.oneCell']); (· unfold maxLen; omega); (· omega); (· have := HZA.out; have := HZR.out; simp; omega); intro g9 cap9 w9 how9 hgr9 hat9 hlt9; have HOW9 := Lib.hid how9; have HK9 := Lib.hid ((Kept.grown_rowT (S := []) ((Kept.of_below (S := []) HKA.out).alloc (.cells #[.int .u32 (r.addr : Int), .int .i64 r.bits] 48)) hgr9 (fun g hg => Or.inr (by have := own_pastT HWA.out g hg; omega))).below (Nat.le_refl _) (by simp)); have HX9 := Lib.hid ((hgr9.block w.heap.size (by have := HZA.out; have := HZR.out; simp; omega) (fun e => by have := own_pastT HWA.out _ e.symm; omega)).trans (blk_alloc HXA.out _)); have HGR9 := Lib.hid hgr9; have HAT9 := Lib.hid hat9; clear how9 hgr9 hat9 hlt9 y0 y1 y2 y3 y4 y5 y6; obtain ⟨y0, y1, y2, y3, y4, y5, y6⟩ := HCX.out w9 HK9.out; have m0 := cell_of HX9.out 0; have m1 := cell_of HX9.out 1; have m2 := cell_of HX9.out 2; have m3 := cell_of HX9.out 3; simp only [List.getElem?_toArray, List.getElem?_cons_zero, List.getElem?_cons_succ] at m0 m1 m2 m3)
        have HN9 := Lib.hid (HNA.out.grown HGR9.out (fun x hx => (HFX.out x hx).2))
        have HF9 : Hid (∀ x ∈ rfoot (.slice ax lx.length cx) rx, x < w9.heap.size ∧ x ≠ g9 ∧ x ≠ w.heap.size) := Lib.hid (fun x hx => ⟨(HN9.out.lo x hx).2, fun e => by
          rcases HAT9.out with h | h
          · exact (HFX.out x hx).2 (by rw [e]; exact h)
          · have := (HNX.out.lo x hx).2
            have := HKA0.out.size
            simp at h
            omega, (HFX.out x hx).1⟩)
        have HCH : Hid (∀ X, Below w9.heap.size w9 X → Calls Tryz.prog 38 #[.agg #[.slice ap T.ports.length cp, .slice al T.links.length cl, .slice aa T.aces.length ca, .slice ax lx.length cx], .agg #[.bool false, .int .i64 r.id, .int .i64 r.dev, .int .u32 (r.addr : Int), .int .i64 r.bits, .int .i64 r.prio, .int .i64 r.out]] X fun e w' => ∃ an nn cn, e = .returned (.tuple #[.agg #[.slice ap T.ports.length cp, .slice al T.links.length cl, .slice aa T.aces.length ca, .slice an nn cn], .int .i64 (chgS T.ports Lx ⟨false, r⟩).2]) ∧ NX B X.heap.size w' (.slice an nn cn) (.slice ax lx.length cx) rx (chgS T.ports Lx ⟨false, r⟩).1 nn ∧ Below X.heap.size X w') := Lib.hid (fun X kX => by
          have kw := HK9.out.trans (kX.mono HK9.out.size)
          refine (rnchange_calls (HN9.out.below kX) HPX.out (HT.out.kept (kw.mono HBS.out.1)) (Nat.le_trans HBS.out.1 kw.size) (Nat.le_trans HBS.out.2.1 kw.size) HOX.out.1 HBS.out.2.2 hp (by have := HOX.out.2; have := HGK.out; omega) ⟨false, r⟩ HWR.out).mono ?_
          rintro e w' ⟨vr', rs', ls', he, hd', hp', hf', hk'⟩
          obtain ⟨an, cn, rfl, _, _⟩ := hd'.shape
          exact ⟨an, ls'.length, cn, he, ⟨rs', ls', rfl, hd', hp', fun x hx => hf' x hx⟩, hk'⟩)
        have hBW := (Below.refl w9.heap.size w9).drew
        generalize hee : (chgS T.ports Lx ⟨false, r⟩).2 = ee at HCH
        clear hee
        go_region_with (refine Calls.mono (HCH.out w9.drew hBW) ?_; rintro e w5z ⟨an, nn, cn, he, hnx, hB5⟩; subst he; have HXZ := Lib.hid ((hB5.block w.heap.size (lt_of_block HX9.out)).trans HX9.out); have HNZ := Lib.hid hnx; have HBZ := Lib.hid hB5; have b0 := And.intro (cell_of HXZ.out 0) (unfrozen_of HXZ.out 0); have b1 := And.intro (cell_of HXZ.out 1) (unfrozen_of HXZ.out 1); have b2 := And.intro (cell_of HXZ.out 2) (unfrozen_of HXZ.out 2); have b3 := And.intro (cell_of HXZ.out 3) (unfrozen_of HXZ.out 3); simp only [List.getElem?_toArray, List.getElem?_cons_zero, List.getElem?_cons_succ] at b0 b1 b2 b3; clear hB5 hnx)
        all_goals
          go_wp2_with (fail)
          have hk4 := kept_set4 w5z w.heap.size (.slice ap T.ports.length cp) (.slice al T.links.length cl) (.slice aa T.aces.length ca) (.slice an nn cn)
          have hz5 : w9.heap.size ≤ w5z.heap.size := HBZ.out.size
          have hg9 : g9 < w9.heap.size := own_inN HOW9.out rfl
          have hk9w : Below w.heap.size w w5z := HK9.out.drew.trans (HBZ.out.mono HK9.out.size)
          obtain ⟨rs', ls', hnn, hd', hp', hf'⟩ := HNZ.out
          subst hnn
          go_roundg (gk - 1)
          case measure => have := HG0.out; omega
          case rel =>
            have hll := chg_lenT T.ports Lx ⟨false, r⟩
            have hgb : w.heap.size + 1 ≤ g9 := own_pastT HOW9.out _ rfl
            refine ⟨i + 1, ps ++ [r.dst], (chgS T.ports Lx ⟨false, r⟩).1, ls', an, cn, rs', by have := HGK.out; have := HG0.out; omega, by go_num, by rw [HRN.out, List.append_assoc]; rfl, ⟨HOX.out.1.chg _, by have := HOX.out.2; omega⟩, ?_, set4_block HXZ.out _ _ _ _, hd'.kept hk4 (fun x hx hm => ?_), hp', fun x hx => ⟨fun e => ?_, fun e => ?_⟩, hk9w.trans (hk4.below hk9w.size (by simp))⟩
            · have h9 := own_kept (own_kept HOW9.out (Kept.of_below (S := []) (hBW.trans HBZ.out)) (by simp)) hk4 (fun g hg hm => by have := own_pastT HOW9.out g hg; rw [List.mem_singleton.1 hm] at this; omega)
              rw [pfCells_snoc, List.length_append]
              exact h9
            all_goals
              have hlt9 : w.heap.size < w9.heap.size := lt_of_block HX9.out
              have hdz : w9.drew.heap.size = w9.heap.size := rfl
            · have := List.mem_singleton.1 hm
              rcases hf' x hx with h2 | h2
              · exact (HF9.out x h2).2.2 this
              · omega
            · rcases hf' x hx with h2 | h2
              · exact (HF9.out x h2).2.2 e
              · omega
            · have e : g9 = x := Option.some.inj e
              rcases hf' x hx with h2 | h2
              · exact (HF9.out x h2).2.1 e.symm
              · omega
      | true =>
        rw [if_neg (by decide), HPX.out.findL] at hR
        obtain ⟨q, hq⟩ : ∃ q, q = ((findL lx r.id).map Rl.dst).getD noPf := ⟨_, rfl⟩
        rw [← hq] at hR
        have HRN := Lib.hid hR
        have HDS : Hid (∀ X, Below wa.heap.size wa X → Calls Tryz.prog 78 #[.agg #[.slice ap T.ports.length cp, .slice al T.links.length cl, .slice aa T.aces.length ca, .slice ax lx.length cx], .int .i64 r.id] X fun e w' => ∃ bq, e = .returned (.tuple #[.agg #[.int .u32 (q.addr : Int), .int .i64 q.bits], .bool bq]) ∧ Below X.heap.size X w') := Lib.hid (fun X kX => by
          have h1 : lx.length = T.ports.length := by rw [← HPX.out.len, HOX.out.1.len]
          refine (rdst_calls (HNA.out.below kX) (by omega) (by rw [← HPX.out.lens]; have := HOX.out.2; have := HGK.out; omega) r.id).mono ?_
          rintro e w' ⟨he, hk⟩
          exact ⟨_, by rw [hq]; exact he, hk⟩)
        clear hR hq
        have hBA := (Below.refl wa.heap.size wa).drew
        go_upto_region 7 with (fail)
        have m0 := cell_of HXA.out 0
        have m1 := cell_of HXA.out 1
        have m2 := cell_of HXA.out 2
        have m3 := cell_of HXA.out 3
        simp only [List.getElem?_toArray, List.getElem?_cons_zero, List.getElem?_cons_succ] at m0 m1 m2 m3
        go_region_with (refine Calls.mono (HDS.out wa.drew hBA) ?_; rintro e wd ⟨bq, he, hBD⟩; subst he; have HPD := Lib.hid ((hBD.block wr.heap.size (lt_of_block HPB.out)).trans HPB.out); have HBD := Lib.hid hBD; have p0 := And.intro (cell_of HPD.out 0) (unfrozen_of HPD.out 0); have p1 := And.intro (cell_of HPD.out 1) (unfrozen_of HPD.out 1); simp only [List.getElem?_toArray, List.getElem?_cons_zero, List.getElem?_cons_succ] at p0 p1; clear hBD)
        all_goals
          go_upto_region 8 with (fail)
          have hk2 : Kept [wr.heap.size] wd ((wd.setCell ⟨wr.heap.size, 0, none⟩ (.int .u32 (q.addr : Int))).setCell ⟨wr.heap.size, 1, none⟩ (.int .i64 q.bits)) := ((Kept.refl _ _).setCell _ _ (by simp)).setCell _ _ (by simp)
          have hPB : ((wd.setCell ⟨wr.heap.size, 0, none⟩ (.int .u32 (q.addr : Int))).setCell ⟨wr.heap.size, 1, none⟩ (.int .i64 q.bits)).heap[wr.heap.size]? = some (.cells #[.int .u32 (q.addr : Int), .int .i64 q.bits] 48 (0, 0)) := set_block (set_block HPD.out 0 _) 1 _
          have hkd : Below wr.heap.size wr wd := HKA0.out.trans ((hBA.trans HBD.out).mono HKA0.out.size)
          have hlr : w.heap.size < wr.heap.size := HZR.out
          have HKB0 := Lib.hid (hkd.trans (hk2.below hkd.size (by simp)))
          have HNB := Lib.hid ((HNX.out.below hkd).kept hk2 (fun x hx hm => by have := (HNX.out.lo x hx).2; have := List.mem_singleton.1 hm; omega))
          have HWB := Lib.hid (own_kept (own_kept HOW.out (Kept.of_below (S := []) hkd) (by simp)) hk2 (fun g hg hm => by have := own_inN HOW.out hg; have := List.mem_singleton.1 hm; omega))
          have HXB := Lib.hid ((HKB0.out.block _ HZR.out).trans HXX.out)
          have HKB := Lib.hid (HKR.out.trans (HKB0.out.mono HKR.out.size))
          have HZB : Hid (w.heap.size + 1 < ((wd.setCell ⟨wr.heap.size, 0, none⟩ (.int .u32 (q.addr : Int))).setCell ⟨wr.heap.size, 1, none⟩ (.int .i64 q.bits)).heap.size) := Lib.hid (by have h1 := HZR.out; have h2 := lt_of_block hPB; omega)
          have HPB2 := Lib.hid hPB
          clear p0 p1 m0 m1 m2 m3 y0 y1 y2 y3 y4 y5 y6 hPB hk2 hkd
          generalize ((wd.setCell ⟨wr.heap.size, 0, none⟩ (.int .u32 (q.addr : Int))).setCell ⟨wr.heap.size, 1, none⟩ (.int .i64 q.bits)) = wb at *
          have p0 := cell_of HPB2.out 0
          have p1 := cell_of HPB2.out 1
          simp only [List.getElem?_toArray, List.getElem?_cons_zero, List.getElem?_cons_succ] at p0 p1
          go_wp2_with (at_builtin; go_must (refine wpList_append_lies _ rfl (.tmp 36) (.tmp 38) 43 rfl (w.heap.size + 1) 48 i0 _ 2 16 Tryz.underlying43 hi hz0 hz1 hz2 rfl (by decide) _ ps.length (pfCells ps) rfl ?_ ⟨wb.heap.size, 0, none⟩ 1 1 [.int .u32 (q.addr : Int), .int .i64 q.bits] rfl rfl ?_ ?_ (by omega) ?_ ?_ ?_ _ rfl ?_); (· exact own_kept HWB.out ((Kept.refl [] _).alloc _) (by simp)); (· exact news_atT (by simp)); (· simp [Value.oneCell']); (· unfold maxLen; omega); (· omega); (· have := HZB.out; simp; omega); intro g9 cap9 w9 how9 hgr9 hat9 hlt9; have HOW9 := Lib.hid how9; have HK9 := Lib.hid ((Kept.grown_rowT (S := []) ((Kept.of_below (S := []) HKB.out).alloc (.cells #[.int .u32 (q.addr : Int), .int .i64 q.bits] 48)) hgr9 (fun g hg => Or.inr (by have := own_pastT HWB.out g hg; omega))).below (Nat.le_refl _) (by simp)); have HX9 := Lib.hid ((hgr9.block w.heap.size (by have := HZB.out; simp; omega) (fun e => by have := own_pastT HWB.out _ e.symm; omega)).trans (blk_alloc HXB.out _)); have HGR9 := Lib.hid hgr9; have HAT9 := Lib.hid hat9; clear how9 hgr9 hat9 hlt9 p0 p1; obtain ⟨y0, y1, y2, y3, y4, y5, y6⟩ := HCX.out w9 HK9.out; have m0 := cell_of HX9.out 0; have m1 := cell_of HX9.out 1; have m2 := cell_of HX9.out 2; have m3 := cell_of HX9.out 3; simp only [List.getElem?_toArray, List.getElem?_cons_zero, List.getElem?_cons_succ] at m0 m1 m2 m3)
          have HN9 := Lib.hid (HNB.out.grown HGR9.out (fun x hx => (HFX.out x hx).2))
          have HF9 : Hid (∀ x ∈ rfoot (.slice ax lx.length cx) rx, x < w9.heap.size ∧ x ≠ g9 ∧ x ≠ w.heap.size) := Lib.hid (fun x hx => ⟨(HN9.out.lo x hx).2, fun e => by
            rcases HAT9.out with h | h
            · exact (HFX.out x hx).2 (by rw [e]; exact h)
            · have := (HNX.out.lo x hx).2
              have := HKB0.out.size
              simp at h
              omega, (HFX.out x hx).1⟩)
          have HCH : Hid (∀ X, Below w9.heap.size w9 X → Calls Tryz.prog 38 #[.agg #[.slice ap T.ports.length cp, .slice al T.links.length cl, .slice aa T.aces.length ca, .slice ax lx.length cx], .agg #[.bool true, .int .i64 r.id, .int .i64 r.dev, .int .u32 (r.addr : Int), .int .i64 r.bits, .int .i64 r.prio, .int .i64 r.out]] X fun e w' => ∃ an nn cn, e = .returned (.tuple #[.agg #[.slice ap T.ports.length cp, .slice al T.links.length cl, .slice aa T.aces.length ca, .slice an nn cn], .int .i64 (chgS T.ports Lx ⟨true, r⟩).2]) ∧ NX B X.heap.size w' (.slice an nn cn) (.slice ax lx.length cx) rx (chgS T.ports Lx ⟨true, r⟩).1 nn ∧ Below X.heap.size X w') := Lib.hid (fun X kX => by
            have kw := HK9.out.trans (kX.mono HK9.out.size)
            refine (rnchange_calls (HN9.out.below kX) HPX.out (HT.out.kept (kw.mono HBS.out.1)) (Nat.le_trans HBS.out.1 kw.size) (Nat.le_trans HBS.out.2.1 kw.size) HOX.out.1 HBS.out.2.2 hp (by have := HOX.out.2; have := HGK.out; omega) ⟨true, r⟩ HWR.out).mono ?_
            rintro e w' ⟨vr', rs', ls', he, hd', hp', hf', hk'⟩
            obtain ⟨an, cn, rfl, _, _⟩ := hd'.shape
            exact ⟨an, ls'.length, cn, he, ⟨rs', ls', rfl, hd', hp', fun x hx => hf' x hx⟩, hk'⟩)
          have hBW := (Below.refl w9.heap.size w9).drew
          generalize hee : (chgS T.ports Lx ⟨true, r⟩).2 = ee at HCH
          clear hee
          go_region_with (refine Calls.mono (HCH.out w9.drew hBW) ?_; rintro e w5z ⟨an, nn, cn, he, hnx, hB5⟩; subst he; have HXZ := Lib.hid ((hB5.block w.heap.size (lt_of_block HX9.out)).trans HX9.out); have HNZ := Lib.hid hnx; have HBZ := Lib.hid hB5; have b0 := And.intro (cell_of HXZ.out 0) (unfrozen_of HXZ.out 0); have b1 := And.intro (cell_of HXZ.out 1) (unfrozen_of HXZ.out 1); have b2 := And.intro (cell_of HXZ.out 2) (unfrozen_of HXZ.out 2); have b3 := And.intro (cell_of HXZ.out 3) (unfrozen_of HXZ.out 3); simp only [List.getElem?_toArray, List.getElem?_cons_zero, List.getElem?_cons_succ] at b0 b1 b2 b3; clear hB5 hnx)
          all_goals
            go_wp2_with (fail)
            have hk4 := kept_set4 w5z w.heap.size (.slice ap T.ports.length cp) (.slice al T.links.length cl) (.slice aa T.aces.length ca) (.slice an nn cn)
            have hz5 : w9.heap.size ≤ w5z.heap.size := HBZ.out.size
            have hg9 : g9 < w9.heap.size := own_inN HOW9.out rfl
            have hk9w : Below w.heap.size w w5z := HK9.out.drew.trans (HBZ.out.mono HK9.out.size)
            obtain ⟨rs', ls', hnn, hd', hp', hf'⟩ := HNZ.out
            subst hnn
            go_roundg (gk - 1)
            case measure => have := HG0.out; omega
            case rel =>
              have hll := chg_lenT T.ports Lx ⟨true, r⟩
              have hgb : w.heap.size + 1 ≤ g9 := own_pastT HOW9.out _ rfl
              refine ⟨i + 1, ps ++ [q], (chgS T.ports Lx ⟨true, r⟩).1, ls', an, cn, rs', by have := HGK.out; have := HG0.out; omega, by go_num, by rw [HRN.out, List.append_assoc]; rfl, ⟨HOX.out.1.chg _, by have := HOX.out.2; omega⟩, ?_, set4_block HXZ.out _ _ _ _, hd'.kept hk4 (fun x hx hm => ?_), hp', fun x hx => ⟨fun e => ?_, fun e => ?_⟩, hk9w.trans (hk4.below hk9w.size (by simp))⟩
              · have h9 := own_kept (own_kept HOW9.out (Kept.of_below (S := []) (hBW.trans HBZ.out)) (by simp)) hk4 (fun g hg hm => by have := own_pastT HOW9.out g hg; rw [List.mem_singleton.1 hm] at this; omega)
                rw [pfCells_snoc, List.length_append]
                exact h9
              all_goals
                have hlt9 : w.heap.size < w9.heap.size := lt_of_block HX9.out
                have hdz : w9.drew.heap.size = w9.heap.size := rfl
              · have := List.mem_singleton.1 hm
                rcases hf' x hx with h2 | h2
                · exact (HF9.out x h2).2.2 this
                · omega
              · rcases hf' x hx with h2 | h2
                · exact (HF9.out x h2).2.2 e
                · omega
              · have e : g9 = x := Option.some.inj e
                rcases hf' x hx with h2 | h2
                · exact (HF9.out x h2).2.1 e.symm
                · omega
    · obtain rfl : i = l.length := by omega
      have hR := HRX.out
      rw [List.drop_length, show docS T.ports Lx [] = [] from rfl, List.append_nil] at hR
      have HFIN : Hid (PfsPost w R (.returned u5) wr) := Lib.hid ⟨u5, rfl, by rw [hR]; exact World.ownsRow.mono HOW.out (by omega), HKR.out⟩
      clear hR hgk hK
      go_wp2_with (fail)
      exact bodyPost_ret (v := u5) (by simp [results, Tryz.results21, go_sem]) rfl HFIN.out
end Go.Proofs.YtjoblahedgpgbaaGreat

namespace Go.Proofs.YtjoblahedgpgbaaGreat
set_option linter.unusedVariables false
set_option linter.unusedSimpArgs false
open Go.RowKit

def OkL (Ls : List (List Rl)) : Prop := ∀ L ∈ Ls, ∀ r ∈ L, r.Ok
variable {ports : List Int}
theorem OkL.set {Ls : List (List Rl)} (h : OkL Ls) {d : Nat} {L : List Rl} (hL : ∀ r ∈ L, r.Ok) : OkL (Ls.set d L) := fun M hM => by
  rcases List.mem_or_eq_of_mem_set hM with h1 | rfl
  · exact h M h1
  · exact hL
theorem OkL.chg {Ls : List (List Rl)} (h : OkL Ls) (o : Op) (ho : o.rule.Wf) : OkL (chgS ports Ls o).1 := by
  unfold chgS
  split
  · rcases delS_cases Ls o.rule.id with ⟨_, e⟩ | ⟨d, hd, _, e⟩
    · rw [e]
      exact h
    · rw [e]
      exact h.set fun r hr => h _ (List.getElem_mem hd) r (List.mem_filter.1 hr).1
  · rcases insS_cases ports Ls o.rule with ⟨e, _⟩ | ⟨d, _, hd, _, _, _, hr, e⟩
    · rw [e]
      exact h
    · rw [e]
      refine h.set fun r hm => ?_
      rcases List.mem_cons.1 hm with rfl | hm
      · exact ⟨ho.1, hr, ho.2.1⟩
      · exact h _ (List.getElem_mem hd) r hm
/-- All that a batch that may be touches is right; its net stays right. -/
theorem doc_right : ∀ (l : List Op) (i : Nat) (Ls : List (List Rl)), (∀ o ∈ l, o.rule.Wf) → OkL Ls → (appS ports l i Ls).2.2 = 0 → (∀ p ∈ docS ports Ls l, p.addr < 2 ^ 32 ∧ rtB p = true) ∧ OkL (appS ports l i Ls).1
  | [], _, _, _, h, _ => ⟨fun p hp => (by cases hp), h⟩
  | o :: os, i, Ls, hw, h, ha => by
    obtain ⟨e1, e2, e3⟩ := app_ok_cons ha
    obtain ⟨i1, i2⟩ := doc_right os (i + 1) _ (fun x hx => hw x (List.mem_cons_of_mem _ hx)) (h.chg (ports := ports) o (hw o List.mem_cons_self)) e2
    rw [e3]
    refine ⟨fun p hp => ?_, i2⟩
    unfold docS at hp
    rcases List.mem_cons.1 hp with rfl | hp
    · have hO := hw o List.mem_cons_self
      unfold chgS at e1
      cases hd : o.del with
      | false =>
        rw [hd, if_neg (by decide)] at e1
        rcases insS_cases ports Ls o.rule with ⟨_, e⟩ | ⟨d, _, _, _, _, _, hr, _⟩
        · exact absurd e1 e
        · rw [if_pos rfl]
          exact ⟨hO.1, hr⟩
      | true =>
        rw [hd, if_pos rfl] at e1
        rw [if_neg (by decide)]
        rcases delS_cases Ls o.rule.id with ⟨_, e⟩ | ⟨d, hdl, hs, e⟩
        · rw [e] at e1
          cases e1
        · cases hf : findL Ls o.rule.id with
          | none =>
            have := List.findSome?_eq_none_iff.1 hf _ (List.getElem_mem hdl)
            rw [this] at hs
            cases hs
          | some r =>
            obtain ⟨d', hd', hr⟩ := findL_some hf
            have := h _ (List.getElem_mem hd') r (find_id hr).1
            exact ⟨this.1, this.2.1⟩
    · exact i1 p hp
theorem Pairs.okL : ∀ {Ls ls : List (List Rl)}, Pairs Ls ls → OkL Ls → OkL ls
  | [], [], _, _ => fun L h => by cases h
  | L :: Ls, l :: ls, h, hk => fun M hM => by
    rcases List.mem_cons.1 hM with rfl | hM
    · exact fun r hr => hk L List.mem_cons_self r (h.1.perm.mem_iff.1 hr)
    · exact Pairs.okL h.2 (fun L hL => hk L (List.mem_cons_of_mem _ hL)) M hM
  | [], _ :: _, h, _ => h.elim
  | _ :: _, [], h, _ => h.elim
/-- The marked regions are those that a prefix touches. -/
theorem tchL_mem {s : Nat} (hs : s ≤ 3) {p : Pf} (hp : p.addr < 2 ^ 32) (hr : rtB p = true) (i : Nat) : i ∈ tchL s p ↔ tchB s p i = true := by
  rw [tch_iff (by omega) hp hr]
  unfold tchL runN
  rw [if_pos hr, List.mem_map]
  constructor
  · rintro ⟨k, hk, rfl⟩
    rw [List.mem_range] at hk
    omega
  · intro h
    exact ⟨i - ridx s p.addr, List.mem_range.2 (by omega), by omega⟩
theorem tchL_lt {s : Nat} (hs : s ≤ 3) {p : Pf} (hp : p.addr < 2 ^ 32) (hr : rtB p = true) {i : Nat} (h : i ∈ tchL s p) : i < 2 ^ s := by
  have h1 := ((tch_iff (by omega) hp hr i).1 ((tchL_mem hs hp hr i).1 h)).2
  have hll : lastN p.addr p.bits.toNat < 2 ^ 32 := by
    obtain ⟨h0, h1, h2⟩ := (rtB_iff p).1 hr
    have := right_last hp (n := p.bits.toNat) (by omega) h2
    have hz := Nat.two_pow_pos (32 - p.bits.toNat)
    unfold lastN
    omega
  exact Nat.lt_of_le_of_lt h1 (ridx_lt (by omega) hll)
/-- All marks of some prefixes. -/
def marks (s : Nat) (ps : List Pf) : List Int := (ps.flatMap (tchL s)).map Int.ofNat
theorem marks_mem {s : Nat} (hs : s ≤ 3) {ps : List Pf} (hp : ∀ p ∈ ps, p.addr < 2 ^ 32 ∧ rtB p = true) (i : Nat) : (i : Int) ∈ marks s ps ↔ (ps.any fun p => tchB s p i) = true := by
  unfold marks
  rw [List.mem_map, List.any_eq_true]
  constructor
  · rintro ⟨k, hk, e⟩
    obtain rfl : k = i := Int.ofNat.inj e
    obtain ⟨p, hpp, hk⟩ := List.mem_flatMap.1 hk
    exact ⟨p, hpp, (tchL_mem hs (hp p hpp).1 (hp p hpp).2 k).1 hk⟩
  · rintro ⟨p, hpp, h⟩
    exact ⟨i, List.mem_flatMap.2 ⟨p, hpp, (tchL_mem hs (hp p hpp).1 (hp p hpp).2 i).2 h⟩, rfl⟩
theorem marks_take {s : Nat} {ps : List Pf} {k : Nat} (h : k < ps.length) : marks s (ps.take (k + 1)) = marks s (ps.take k) ++ (tchL s ps[k]).map Int.ofNat := by
  unfold marks
  rw [List.take_add_one, List.getElem?_eq_getElem h, Option.toList_some, List.flatMap_append, List.map_append, List.flatMap_cons, List.flatMap_nil, List.append_nil]
/-- What is not marked has no address of a prefix. -/
theorem unmarked {s : Nat} (hs : s ≤ 3) {ps : List Pf} (hp : ∀ p ∈ ps, p.addr < 2 ^ 32 ∧ rtB p = true) {a : Nat} (h : ((ridx s a : Nat) : Int) ∉ marks s ps) : ∀ p ∈ ps, hasN p.addr p.bits.toNat a = false := by
  intro p hpp
  cases e : hasN p.addr p.bits.toNat a with
  | false => rfl
  | true =>
    refine absurd ((marks_mem hs hp _).2 (List.any_eq_true.2 ⟨p, hpp, ?_⟩)) h
    exact tch_of_has (by omega) (hp p hpp).1 (hp p hpp).2 e
end Go.Proofs.YtjoblahedgpgbaaGreat
