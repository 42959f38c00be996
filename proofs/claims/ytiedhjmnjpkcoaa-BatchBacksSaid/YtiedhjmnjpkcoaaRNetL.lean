/- The document's nets: a new one. · The document's nets: how many rules; whether there is one. -/
import Derived.Test.YtiedhjmnjpkcoaaRNet
namespace Go.Proofs.Ytiedhjmnjpkcoaa
set_option linter.unusedVariables false
set_option linter.unusedSimpArgs false
open Go.RowKit
variable {w : World} {B : Nat} {vp vl va : Value} {T : Tp}

theorem rowr_info : (Try.prog.info? 33).map (fun i => (i.zero, i.size, i.bytes)) = some (some (.slice none 0 0), 1, 24) := by kernel_rfl
theorem made_nils (n : Nat) : madeCells #[.slice none 0 0] n = (List.replicate n (.slice none 0 0)).toArray := by
  apply Array.toList_inj.1
  rw [toList_madeCells_one]
def nilRows (n : Nat) : Obj := .cells (List.replicate n (.slice none 0 0)).toArray 33
theorem make_rows (n : Nat) (hn : n ≤ 1000) (W : World) : (Instr.makeSlice 67 (.int .i64 (n : Int)) (.int .i64 (n : Int))).run Try.prog W = .ok (.slice (some ⟨W.heap.size, 0, none⟩) n n) (W.alloc (nilRows n)) := by
  obtain ⟨i0, hi, hz0, hz1, hz2⟩ := info_parts rowr_info
  have := run_make (P := Try.prog) W 67 33 i0 _ Try.underlying67 hi hz0 .i64 .i64 n n (by omega) (Int.le_refl _) (by rw [hz2]; omega) (by omega)
  rw [this, hz1]
  simp only [Int.toNat_natCast, Nat.mul_one, Value.cells, made_nils]
  rfl
theorem rows_made (n : Nat) (hn : n ≤ 1000) {W : World} {base : Nat} (hb : base ≤ W.heap.size) : RNetAt (W.alloc (nilRows n)) base (.slice (some ⟨W.heap.size, 0, none⟩) n n) (List.replicate n (.slice none 0 0)) (List.replicate n []) := by
  refine ⟨by simp, ?_, fun i h1 h2 => ?_⟩
  · have := World.ownsRow_lit (base := base) (e := 33) (size := 1) W (List.replicate n (Value.slice none 0 0)).toArray n hb (by unfold maxLen; omega) (by simp)
    simpa [nilRows] using this
  · simp only [List.getElem_replicate, List.length_nil]
    exact World.ownsRow_nil _ _ _ _

def netZ : Obj := .cells #[.slice none 0 0, .slice none 0 0, .slice none 0 0, .slice none 0 0] 69
set_option maxRecDepth 100000 in
set_option maxHeartbeats 4000000 in
theorem rnew_calls (h : TpIn B w vp vl va T) (hB : B ≤ w.heap.size) (hl : T.ports.length ≤ 40) : Calls Try.prog 69 #[.agg #[vp, vl, va]] w fun e w' => ∃ vr, e = .returned (.agg #[vp, vl, va, vr]) ∧ RNetAt w' w.heap.size vr (List.replicate T.ports.length (.slice none 0 0)) (List.replicate T.ports.length []) ∧ Below w.heap.size w w' := by
  have H := Lib.hid h
  obtain ⟨ap, cp, rfl, _⟩ := h.ports
  obtain ⟨al, cl, rfl, _⟩ := h.links
  obtain ⟨aa, ca, rfl, _⟩ := h.aces
  clear h
  have hmk := make_rows T.ports.length (by omega)
  have HX : Hid (((w.alloc (.cells #[.slice ap T.ports.length cp, .slice al T.links.length cl, .slice aa T.aces.length ca] 64)).alloc netZ).heap[w.heap.size]? = some (.cells #[.slice ap T.ports.length cp, .slice al T.links.length cl, .slice aa T.aces.length ca] 64 (0, 0))) := Lib.hid (blk_alloc (heap_alloc_new w _) _)
  have HY : Hid (((w.alloc (.cells #[.slice ap T.ports.length cp, .slice al T.links.length cl, .slice aa T.aces.length ca] 64)).alloc netZ).heap[w.heap.size + 1]? = some (.cells #[.slice none 0 0, .slice none 0 0, .slice none 0 0, .slice none 0 0] 69 (0, 0))) := Lib.hid (by
    have := heap_alloc_new (w.alloc (.cells #[.slice ap T.ports.length cp, .slice al T.links.length cl, .slice aa T.aces.length ca] 64)) netZ
    rwa [show (w.alloc (.cells #[.slice ap T.ports.length cp, .slice al T.links.length cl, .slice aa T.aces.length ca] 64)).heap.size = w.heap.size + 1 by simp] at this)
  have HK : Hid (Below w.heap.size w ((w.alloc (.cells #[.slice ap T.ports.length cp, .slice al T.links.length cl, .slice aa T.aces.length ca] 64)).alloc netZ)) := Lib.hid (((Below.refl w.heap.size w).alloc (Nat.le_refl _) _).alloc (by simp) _)
  unfold netZ at *
  go_enter Try.func69, Try.ntmps69
  go_upto_region 1 with (fail)
  generalize (w.alloc (.cells #[.slice ap T.ports.length cp, .slice al T.links.length cl, .slice aa T.aces.length ca] 64)).alloc (.cells #[.slice none 0 0, .slice none 0 0, .slice none 0 0, .slice none 0 0] 69) = w1 at *
  have z0 := cell_of HX.out 0
  have z1 := cell_of HX.out 1
  have z2 := cell_of HX.out 2
  have x0 := And.intro (cell_of HY.out 0) (unfrozen_of HY.out 0)
  have x1 := And.intro (cell_of HY.out 1) (unfrozen_of HY.out 1)
  have x2 := And.intro (cell_of HY.out 2) (unfrozen_of HY.out 2)
  have x3 := And.intro (cell_of HY.out 3) (unfrozen_of HY.out 3)
  have bX := blk_alloc HX.out (nilRows T.ports.length)
  have bY := blk_alloc HY.out (nilRows T.ports.length)
  have q0 := cell_of bX 0
  have q1 := cell_of bX 1
  have q2 := cell_of bX 2
  have y0 := And.intro (cell_of bY 0) (unfrozen_of bY 0)
  have y1 := And.intro (cell_of bY 1) (unfrozen_of bY 1)
  have y2 := And.intro (cell_of bY 2) (unfrozen_of bY 2)
  have y3 := And.intro (cell_of bY 3) (unfrozen_of bY 3)
  simp only [List.getElem?_toArray, List.getElem?_cons_zero, List.getElem?_cons_succ] at z0 z1 z2 x0 x1 x2 x3 q0 q1 q2 y0 y1 y2 y3
  clear bX bY
  have HR := Lib.hid (rows_made T.ports.length (by omega) (W := w1) HK.out.size)
  have HK2 := Lib.hid (HK.out.alloc HK.out.size (nilRows T.ports.length))
  have HY2 := Lib.hid (blk_alloc HY.out (nilRows T.ports.length))
  generalize hrw : w1.alloc (nilRows T.ports.length) = w2 at *
  generalize hzz : w.heap.size = bb at *
  go_region
  have HZ := Lib.hid hzz
  have hw1 := lt_of_block HY.out
  have hw2 := HK2.out.size
  have HW : Hid (bb + 1 < w1.heap.size ∧ bb ≤ w2.heap.size) := Lib.hid ⟨hw1, by have := hzz; omega⟩
  clear hw1 hw2 hzz
  all_goals
    go_wp2_with (fail)
    simp [bodyPost, results, Try.results69, go_sem, y0, y1, y2, y3]
    have hk : Kept [bb + 1] w2 (((((w2.setCell ⟨bb + 1, 0, none⟩ (.slice ap T.ports.length cp)).setCell ⟨bb + 1, 1, none⟩ (.slice al T.links.length cl)).setCell ⟨bb + 1, 2, none⟩ (.slice aa T.aces.length ca)).setCell ⟨bb + 1, 3, none⟩ (.slice (some ⟨w1.heap.size, 0, none⟩) T.ports.length T.ports.length)).drew) := (((((Kept.refl [bb + 1] w2).setCell _ _ (by simp)).setCell _ _ (by simp)).setCell _ _ (by simp)).setCell _ _ (by simp)).drew
    rw [HZ.out]
    refine ⟨HR.out.kept hk (fun x hx hc => ?_), (HZ.out ▸ HK2.out : Below bb w w2).trans (hk.below HW.out.2 (by simp))⟩
    rw [List.mem_singleton.1 hc] at hx
    rcases mem_rfoot.1 hx with h1 | ⟨v, hv, h1⟩
    · have : w1.heap.size = bb + 1 := Option.some.inj h1
      have := HW.out.1
      omega
    · rw [List.eq_of_mem_replicate hv] at h1
      cases h1
end Go.Proofs.Ytiedhjmnjpkcoaa

namespace Go.Proofs.Ytiedhjmnjpkcoaa
open Go.RowKit
variable {w : World} {B : Nat} {vp vl va vr : Value} {rs : List Value} {ls : List (List Rl)}

theorem own_form {w : World} {b : Nat} {v : Value} {l : List Rl} (h : w.ownsRow b 26 6 v l.length (rlCells l)) : ∃ ao cap, v = .slice ao l.length cap ∧ l.length ≤ cap ∧ ∀ i, i < l.length → ∃ g, ao = some ⟨g, 0, none⟩ := by
  rcases h.2 with ⟨h0, h1⟩ | ⟨g', cap', cur, h0, _, _, h3, _⟩
  · exact ⟨none, 0, by rw [h0, h1], by omega, fun i hi => by omega⟩
  · exact ⟨_, cap', h0, h3, fun i _ => ⟨g', rfl⟩⟩
/-- The cell of a row in the row of rows. -/
theorem RNetAt.rowAt (h : RNetAt w B vr rs ls) {i : Nat} (hi : i < ls.length) : ∃ g cap ao c, vr = .slice (some ⟨g, 0, none⟩) ls.length cap ∧ w.cell? ⟨g, i, none⟩ = some (.slice ao ls[i].length c) ∧ rs[i]? = some (.slice ao ls[i].length c) ∧ w.ownsRow B 26 6 (.slice ao ls[i].length c) ls[i].length (rlCells ls[i]) ∧ ∀ j, j < ls[i].length → ∃ g2, ao = some ⟨g2, 0, none⟩ := by
  have hi' : i < rs.length := h.len ▸ hi
  obtain ⟨g, cap, hv, hc⟩ := h.at hi
  have ho := h.each i hi' hi
  obtain ⟨ao, c, he, _, ha⟩ := own_form ho
  rw [he] at hc ho
  exact ⟨g, cap, ao, c, hv, hc, by rw [List.getElem?_eq_getElem hi', he], ho, ha⟩
theorem lenT_snoc (ls : List (List Rl)) (l : List Rl) : lenT (ls ++ [l]) = lenT ls + l.length := by simp [lenT]
theorem lenT_take (ls : List (List Rl)) (i : Nat) : lenT (ls.take i) ≤ lenT ls := by
  have e : lenT ls = lenT (ls.take i) + lenT (ls.drop i) := by
    rw [lenT, lenT, lenT, ← List.sum_append, ← List.map_append, List.take_append_drop]
  omega

set_option maxRecDepth 100000 in
set_option maxHeartbeats 4000000 in
theorem rnlen_calls (h : RNetAt w B vr rs ls) (hl : ls.length ≤ 40) (hL : lenT ls < 100000) : Calls Try.prog 72 #[.agg #[vp, vl, va, vr]] w fun e w' => e = .returned (.int .i64 (lenT ls : Int)) ∧ Below w.heap.size w w' := by
  have H := Lib.hid (h.below ((Below.refl w.heap.size w).alloc (Nat.le_refl _) (.cells #[vp, vl, va, vr] 69)))
  have HX := Lib.hid (heap_alloc_new w (.cells #[vp, vl, va, vr] 69))
  have HK := Lib.hid ((Below.refl w.heap.size w).alloc (Nat.le_refl _) (.cells #[vp, vl, va, vr] 69))
  obtain ⟨ao, cap, rfl, _, hao⟩ := h.shape
  have HAO := Lib.hid hao
  have HLT := Lib.hid (fun i => Nat.lt_of_le_of_lt (lenT_take ls i) hL)
  clear h hao
  go_enter Try.func72, Try.ntmps72
  go_upto_region 1 with (fail)
  generalize w.alloc (.cells #[vp, vl, va, .slice ao ls.length cap] 69) = w1 at *
  have c3 := cell_of HX.out 3
  simp only [List.getElem?_toArray, List.getElem?_cons_zero, List.getElem?_cons_succ] at c3
  go_wp2_with (fail)
  go_loopg [3, 4] ls.length (fun gk vs vi wr => ∃ i : Nat, i + gk = ls.length ∧ vi = .int .i64 (i : Int) ∧ vs = .int .i64 (lenT (ls.take i) : Int) ∧ wr = w1)
  case atStart => exact ⟨0, by omega, rfl, rfl, rfl⟩
  case round =>
    obtain ⟨i, hgk, rfl, rfl, rfl⟩ := hrel
    by_cases hlt : i < ls.length
    · obtain ⟨g, capz, aoz, cz, he, e0, _, _, _⟩ := H.out.rowAt hlt
      cases he
      have HTK : Hid (ls.take (i + 1) = ls.take i ++ [ls[i]]) := Lib.hid (by rw [List.take_add_one, List.getElem?_eq_getElem hlt]; rfl)
      have hb := HLT.out (i + 1)
      rw [HTK.out, lenT_snoc] at hb
      generalize ls[i] = l at *
      generalize hs : lenT (ls.take i) = s at *
      have HS := Lib.hid hs
      have hii : (i : Int) < (ls.length : Int) := by omega
      clear hs
      go_wp2_with (fail)
      go_roundg (gk - 1)
      case measure => omega
      case rel => exact ⟨i + 1, by omega, by go_num, by rw [HTK.out, lenT_snoc, HS.out]; simp, rfl⟩
    · obtain rfl : i = ls.length := by omega
      rw [List.take_length]
      go_wp2_with (fail)
      go_ret
      exact ⟨rfl, HK.out⟩

set_option maxRecDepth 100000 in
set_option maxHeartbeats 4000000 in
theorem rnhas_calls (h : RNetAt w B vr rs ls) (hl : ls.length ≤ 40) (hL : lenT ls < 100000) (id : Int) : Calls Try.prog 53 #[.agg #[vp, vl, va, vr], .int .i64 id] w fun e w' => e = .returned (.bool (hasL ls id)) ∧ Below w.heap.size w w' := by
  have H := Lib.hid (h.below ((Below.refl w.heap.size w).alloc (Nat.le_refl _) (.cells #[vp, vl, va, vr] 69)))
  have HX := Lib.hid (heap_alloc_new w (.cells #[vp, vl, va, vr] 69))
  have HK := Lib.hid ((Below.refl w.heap.size w).alloc (Nat.le_refl _) (.cells #[vp, vl, va, vr] 69))
  obtain ⟨ao, cap, rfl, _, hao⟩ := h.shape
  have HLT := Lib.hid (fun l (hm : l ∈ ls) => Nat.lt_of_le_of_lt (lenT_mem hm) hL)
  obtain ⟨r, hr⟩ : ∃ r, r = hasL ls id := ⟨_, rfl⟩
  rw [← hr]
  have HR := Lib.hid hr
  clear h hao hr
  go_enter Try.func53, Try.ntmps53
  go_upto_region 1 with (fail)
  generalize w.alloc (.cells #[vp, vl, va, .slice ao ls.length cap] 69) = w1 at *
  have c3 := cell_of HX.out 3
  simp only [List.getElem?_toArray, List.getElem?_cons_zero, List.getElem?_cons_succ] at c3
  go_wp2_with (fail)
  go_loopg [5] ls.length (fun gk vi wr => ∃ i : Nat, i + gk = ls.length ∧ vi = .int .i64 (i : Int) ∧ hasL (ls.take i) id = false ∧ wr = w1)
  case atStart => exact ⟨0, by omega, rfl, rfl, rfl⟩
  case round =>
    obtain ⟨i, hgk, rfl, hN, rfl⟩ := hrel
    have HN := Lib.hid hN
    clear hN
    by_cases hlt : i < ls.length
    · obtain ⟨g, capz, aoz, cz, he, e0, _, hO, haz⟩ := H.out.rowAt hlt
      cases he
      have HTK : Hid (ls.take (i + 1) = ls.take i ++ [ls[i]]) := Lib.hid (by rw [List.take_add_one, List.getElem?_eq_getElem hlt]; rfl)
      have HME : Hid (ls[i] ∈ ls) := Lib.hid (List.getElem_mem hlt)
      have hb := HLT.out _ (List.getElem_mem hlt)
      have HO := Lib.hid hO
      have HAZ := Lib.hid haz
      generalize ls[i] = l at *
      have hii : (i : Int) < (ls.length : Int) := by omega
      clear hO haz
      go_wp2_with (fail)
      generalize gk = gko at *
      go_loopg [6] l.length (fun gk vj w8 => ∃ j : Nat, j + gk = l.length ∧ vj = .int .i64 (j : Int) ∧ (∀ r ∈ l.take j, r.id ≠ id) ∧ w8 = wr)
      case atStart => exact ⟨0, by omega, rfl, by simp, rfl⟩
      case round =>
        obtain ⟨j, hgk2, rfl, hN2, rfl⟩ := hrel
        have HN2 := Lib.hid hN2
        clear hN2
        by_cases hlj : j < l.length
        · obtain ⟨g2, rfl⟩ := HAZ.out j hlj
          have d0 := (HO.out.cellAt (j * 6) (by omega)).trans (rlCells_at l j hlj 0 (by omega))
          simp [Rl.cells] at d0
          have HTJ : Hid (l.take (j + 1) = l.take j ++ [l[j]]) := Lib.hid (by rw [List.take_add_one, List.getElem?_eq_getElem hlj]; rfl)
          have HMJ : Hid (l[j] ∈ l) := Lib.hid (List.getElem_mem hlj)
          generalize l[j] = x at *
          have hjj : (j : Int) < (l.length : Int) := by omega
          by_cases hx : x.id = id
          · obtain rfl : r = true := by
              rw [HR.out]
              exact hasL_iff.2 ⟨l, HME.out, x, HMJ.out, hx⟩
            subst hx
            go_wp2_with (fail)
            go_ret
            exact ⟨rfl, HK.out⟩
          · have hx2 : (x.id == id) = false := beq_eq_false_iff_ne.2 hx
            have HX2 := Lib.hid hx
            clear hx
            go_wp2_with (fail)
            go_roundg (gk - 1)
            case measure => omega
            case rel =>
              refine ⟨j + 1, by omega, by go_num, fun y hy => ?_, rfl⟩
              rw [HTJ.out] at hy
              rcases List.mem_append.1 hy with hy | hy
              · exact HN2.out y hy
              · rw [List.mem_singleton.1 hy]
                exact HX2.out
        · obtain rfl : j = l.length := by omega
          go_wp2_with (fail)
          go_roundg (gko - 1)
          case measure => omega
          case rel =>
            refine ⟨i + 1, by omega, by go_num, ?_, rfl⟩
            rw [HTK.out]
            have h1 := HN.out
            have h2 := HN2.out
            rw [List.take_length] at h2
            unfold hasL at *
            rw [List.any_append, h1]
            have h3 : (findR l id).isSome = false := by
              cases e : (findR l id).isSome with
              | false => rfl
              | true =>
                obtain ⟨y, hy, hi⟩ := findR_isSome.1 e
                exact absurd hi (h2 y hy)
            simp [h3]
    · obtain rfl : i = ls.length := by omega
      obtain rfl : r = false := by
        rw [HR.out]
        have := HN.out
        rwa [List.take_length] at this
      go_wp2_with (fail)
      go_ret
      exact ⟨rfl, HK.out⟩
end Go.Proofs.Ytiedhjmnjpkcoaa
