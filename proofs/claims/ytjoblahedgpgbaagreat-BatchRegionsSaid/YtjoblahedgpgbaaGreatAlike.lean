/- The law's Alike, at a net and the document's of one mind. -/
import Derived.Test.YtjoblahedgpgbaaGreatRChg
import Derived.Test.YtjoblahedgpgbaaGreatTabL
import Derived.Test.YtjoblahedgpgbaaGreatTabSame
namespace Go.Proofs.YtjoblahedgpgbaaGreat
set_option linter.unusedVariables false
set_option linter.unusedSimpArgs false
open Go.RowKit
variable {w : World} {B nb : Nat} {vp vl va vt vr : Value} {ts : List TD} {rs : List Value} {ls : List (List Rl)}

set_option maxRecDepth 100000 in
set_option maxHeartbeats 8000000 in
theorem alike_calls (h : DuoAt w B nb vp vl va vt vr ts rs ls) (hl : ls.length ≤ 40) (hL : lenT ls < 100000) : Calls Tryz.prog 75 #[.pointer (some ⟨nb, 0, none⟩), .agg #[vp, vl, va, vr]] w fun e w' => e = .returned (.bool true) ∧ Below w.heap.size w w' := by
  have htl := h.tlen
  have hkx := (Below.refl w.heap.size w).alloc (Nat.le_refl _) (.cells #[vp, vl, va, vr] 38)
  have H := Lib.hid (h.below hkx)
  have HX := Lib.hid (heap_alloc_new w (.cells #[vp, vl, va, vr] 38))
  have HK := Lib.hid hkx
  have HTT : Hid (∀ t ∈ ts, t.L.length < 100000) := Lib.hid (fun t ht => by
    have h1 := lenT_mem (Ls := TD.Ls ts) (List.mem_map_of_mem (f := (·.L)) ht)
    rw [h.pair.lens] at h1
    exact Nat.lt_of_le_of_lt h1 hL)
  have HLS : Hid (lenS ts = lenT ls) := Lib.hid (by rw [lenT_S, h.pair.lens])
  have HLL := Lib.hid hL
  have HTL2 : Hid (∀ l ∈ ls, l.length < 100000) := Lib.hid (fun l hm => Nat.lt_of_le_of_lt (lenT_mem hm) HLL.out)
  obtain ⟨at0, capt, rfl, hat⟩ := h.net.shape
  obtain ⟨ar0, capr, rfl, _, har⟩ := h.doc.shape
  rw [htl] at H hat
  have HAT := Lib.hid hat
  have HTL := Lib.hid htl
  clear h hkx hat har hL htl
  go_enter Tryz.func75, Tryz.ntmps75
  go_upto_region 1 with (fail)
  generalize w.alloc (.cells #[vp, vl, va, .slice ar0 ls.length capr] 38) = w1 at *
  have HCELL : Hid (∀ W, Below w1.heap.size w1 W → W.cell? ⟨nb, 3, none⟩ = some (.slice at0 ls.length capt) ∧ W.cell? ⟨w.heap.size, 0, none⟩ = some vp ∧ W.cell? ⟨w.heap.size, 1, none⟩ = some vl ∧ W.cell? ⟨w.heap.size, 2, none⟩ = some va ∧ W.cell? ⟨w.heap.size, 3, none⟩ = some (.slice ar0 ls.length capr)) := Lib.hid (fun W kW => by
    have hx := (kW.block _ (lt_of_block HX.out)).trans HX.out
    exact ⟨cell_of (H.out.below kW).net.head 3, cell_of hx 0, cell_of hx 1, cell_of hx 2, cell_of hx 3⟩)
  have HL1 : Hid (∀ W, Below w1.heap.size w1 W → Calls Tryz.prog 145 #[.pointer (some ⟨nb, 0, none⟩)] W fun e w' => e = .returned (.int .i64 (lenT ls : Int)) ∧ Below w1.heap.size w1 w') := Lib.hid (fun W kW => (nlen_calls (H.out.below kW).net (by rw [HTL.out]; exact hl) HTT.out).mono (by
    rintro e w' ⟨he, k⟩
    exact ⟨by rw [he, HLS.out], kW.trans (k.mono kW.size)⟩))
  have HL2 : Hid (∀ W, Below w1.heap.size w1 W → Calls Tryz.prog 76 #[.agg #[vp, vl, va, .slice ar0 ls.length capr]] W fun e w' => e = .returned (.int .i64 (lenT ls : Int)) ∧ Below w1.heap.size w1 w') := Lib.hid (fun W kW => (rnlen_calls (H.out.below kW).doc hl HLL.out).mono (by
    rintro e w' ⟨he, k⟩
    exact ⟨he, kW.trans (k.mono kW.size)⟩))
  have hBW := (Below.refl w1.heap.size w1).drew
  have hS := HCELL.out _ hBW
  generalize hlt : lenT ls = lt at *
  clear hlt
  go_region_held3 (fun w' => w'.cell? ⟨nb, 3, none⟩ = some (.slice at0 ls.length capt) ∧ w'.cell? ⟨w.heap.size, 0, none⟩ = some vp ∧ w'.cell? ⟨w.heap.size, 1, none⟩ = some vl ∧ w'.cell? ⟨w.heap.size, 2, none⟩ = some va ∧ w'.cell? ⟨w.heap.size, 3, none⟩ = some (.slice ar0 ls.length capr)) (first | assumption)
    (first | (go_at_call 145; refine Calls.mono (HL1.out _ (by assumption)) ?_; rintro e w' ⟨rfl, hB'⟩; have hS' := HCELL.out _ hB') | (go_at_call 76; refine Calls.mono (HL2.out _ (by assumption)) ?_; rintro e w' ⟨rfl, hB'⟩; have hS' := HCELL.out _ hB'))
  have HW := Lib.hid (H.out.below hB')
  have HKW := Lib.hid (HK.out.trans (hB'.mono HK.out.size))
  have HXW := Lib.hid ((hB'.block _ (lt_of_block HX.out)).trans HX.out)
  clear hB' hS' hBW hS HL1 HL2 HCELL
  have c3 := cell_of HW.out.net.head 3
  simp only [List.getElem?_toArray, List.getElem?_cons_zero, List.getElem?_cons_succ] at c3
  go_wp2_with (fail)
  clear c3
  generalize w' = wb at *
  go_loopg [32] ls.length (fun gk vi wr => ∃ i : Nat, i + gk = ls.length ∧ vi = .int .i64 (i : Int) ∧ Below wb.heap.size wb wr)
  case atStart => exact ⟨0, by omega, rfl, Below.refl _ _⟩
  case round =>
    obtain ⟨i, hgk, rfl, hK⟩ := hrel
    have HKR := Lib.hid hK
    by_cases hlt : i < ls.length
    · obtain ⟨g, rfl⟩ := HAT.out i hlt
      have hd := HW.out.below hK
      have hlt2 : i < ts.length := by rw [HTL.out]; exact hlt
      obtain ⟨g3, cap3, he0, e0⟩ := hd.net.at hlt2
      have he : (Value.slice (some ⟨g, 0, none⟩) ls.length capt) = .slice (some ⟨g3, 0, none⟩) ls.length cap3 := by rw [he0, HTL.out]
      clear he0
      cases he
      obtain ⟨g2, capz, aoz, cz, he, f0, hrsi, hO, haz⟩ := hd.doc.rowAt hlt
      cases he
      have hp := hd.pair.get i (by rw [hd.pair.len]; exact hlt) hlt
      have hLi : (TD.Ls ts)[i]'(by rw [hd.pair.len]; exact hlt) = ts[i].L := by simp [TD.Ls]
      rw [hLi] at hp
      have HTAB := Lib.hid (hd.net.tab _ (List.getElem_mem hlt2))
      have HTLEN := Lib.hid (HTT.out _ (List.getElem_mem hlt2))
      have HLLEN := Lib.hid (HTL2.out _ (List.getElem_mem hlt))
      have hx := (hK.block _ (lt_of_block HXW.out)).trans HXW.out
      have HPR := Lib.hid hp
      have HO := Lib.hid hO
      generalize hti : ts[i] = t at *
      generalize hli : ls[i] = l at *
      have hii : (i : Int) < (ls.length : Int) := by omega
      have HCELL : Hid (∀ W, Below wr.heap.size wr W → W.cell? ⟨w.heap.size, 3, none⟩ = some (.slice (some ⟨g2, 0, none⟩) ls.length capr) ∧ W.cell? ⟨g2, i, none⟩ = some (.slice aoz l.length cz)) := Lib.hid (fun W kW => ⟨cell_of ((kW.block _ (lt_of_block hx)).trans hx) 3, (Kept.of_below (S := []) kW).cell f0 (by simp)⟩)
      have HRUL : Hid (∀ W, Below wr.heap.size wr W → Calls Tryz.prog 147 #[.pointer (some ⟨t.p, 0, none⟩)] W fun e w' => ∃ v, e = .returned v ∧ w'.ownsRow wr.heap.size 89 6 v l.length (rlCells l) ∧ Below wr.heap.size wr w') := Lib.hid (fun W kW => (trulesL_calls (HTAB.out.kept (Kept.of_below (S := []) kW) (by simp) (by simp)) HPR.out HTLEN.out).mono (by
        rintro e w' ⟨v, he, ho, k⟩
        exact ⟨v, he, ho.mono kW.size, kW.trans (k.mono kW.size)⟩))
      have HSAME : Hid (∀ W v, W.ownsRow wr.heap.size 89 6 v l.length (rlCells l) → Below wr.heap.size wr W → Calls Tryz.prog 146 #[v, .slice aoz l.length cz] W fun e w' => e = .returned (.bool true) ∧ Below wr.heap.size wr w') := Lib.hid (fun W v hv kW => (same_calls hv (own_kept HO.out (Kept.of_below (S := []) kW) (by simp)) (by have := HLLEN.out; omega)).mono (by
        rintro e w' ⟨he, k⟩
        exact ⟨he, kW.trans ((k.below (Nat.le_refl _) (by simp)).mono kW.size)⟩))
      clear hd hp hLi hx hti hli hO haz hrsi hK f0
      go_upto_region 6 with (fail)
      clear e0
      have hBW := (Below.refl wr.heap.size wr).drew
      have hS := HCELL.out _ hBW
      go_region_held3 (fun w' => w'.cell? ⟨w.heap.size, 3, none⟩ = some (.slice (some ⟨g2, 0, none⟩) ls.length capr) ∧ w'.cell? ⟨g2, i, none⟩ = some (.slice aoz l.length cz)) (first | assumption)
        (first | (go_at_call 147; refine Calls.mono (HRUL.out _ (by assumption)) ?_; rintro e w' ⟨vz, rfl, hov, hB'⟩; have hS' := HCELL.out _ hB') | (go_at_call 146; refine Calls.mono (HSAME.out _ _ (by assumption) (by assumption)) ?_; rintro e w' ⟨rfl, hB'⟩; have hS' := HCELL.out _ hB'))
      all_goals
        have HKE := Lib.hid (HKR.out.trans (hB'.mono HKR.out.size))
        clear hB' hS' hBW hS
        go_wp2_with (fail)
        go_roundg (gk - 1)
        case measure => omega
        case rel => exact ⟨i + 1, by omega, by go_num, HKE.out⟩
    · obtain rfl : i = ls.length := by omega
      have HKE := Lib.hid (HKW.out.trans (hK.mono HKW.out.size))
      clear hK
      go_wp2_with (fail)
      go_ret
      exact ⟨rfl, HKE.out⟩
end Go.Proofs.YtjoblahedgpgbaaGreat
