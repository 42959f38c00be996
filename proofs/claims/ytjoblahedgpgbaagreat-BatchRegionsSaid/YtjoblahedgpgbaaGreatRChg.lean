/- The document's nets: a new one. · The document's nets: how many rules; whether there is one. · The document's Change of a net: what it lays in memory. · The document's Change of a net: a rule that goes. · The document's Change of a net: a rule that comes. · Nets: a change of either kind. · The document's Change of a net, of either kind. -/
import Derived.Test.YtjoblahedgpgbaaGreatRNet
import Derived.Test.YtjoblahedgpgbaaGreatPlay
import Derived.Deep.AppendLies
import Derived.Deep.Onto
import Derived.Test.YtjoblahedgpgbaaGreatTopG
namespace Go.Proofs.YtjoblahedgpgbaaGreat
set_option linter.unusedVariables false
set_option linter.unusedSimpArgs false
open Go.RowKit
variable {w : World} {B : Nat} {vp vl va : Value} {T : Tp}

theorem rowr_info : (Tryz.prog.info? 183).map (fun i => (i.zero, i.size, i.bytes)) = some (some (.slice none 0 0), 1, 24) := by kernel_rfl
theorem made_nils (n : Nat) : madeCells #[.slice none 0 0] n = (List.replicate n (.slice none 0 0)).toArray := by
  apply Array.toList_inj.1
  rw [toList_madeCells_one]
def nilRows (n : Nat) : Obj := .cells (List.replicate n (.slice none 0 0)).toArray 183
theorem make_rows (n : Nat) (hn : n ≤ 1000) (W : World) : (Instr.makeSlice 36 (.int .i64 (n : Int)) (.int .i64 (n : Int))).run Tryz.prog W = .ok (.slice (some ⟨W.heap.size, 0, none⟩) n n) (W.alloc (nilRows n)) := by
  obtain ⟨i0, hi, hz0, hz1, hz2⟩ := info_parts rowr_info
  have := run_make (P := Tryz.prog) W 36 183 i0 _ Tryz.underlying36 hi hz0 .i64 .i64 n n (by omega) (Int.le_refl _) (by rw [hz2]; omega) (by omega)
  rw [this, hz1]
  simp only [Int.toNat_natCast, Nat.mul_one, Value.cells, made_nils]
  rfl
theorem rows_made (n : Nat) (hn : n ≤ 1000) {W : World} {base : Nat} (hb : base ≤ W.heap.size) : RNetAt (W.alloc (nilRows n)) base (.slice (some ⟨W.heap.size, 0, none⟩) n n) (List.replicate n (.slice none 0 0)) (List.replicate n []) := by
  refine ⟨by simp, ?_, fun i h1 h2 => ?_⟩
  · have := World.ownsRow_lit (base := base) (e := 183) (size := 1) W (List.replicate n (Value.slice none 0 0)).toArray n hb (by unfold maxLen; omega) (by simp)
    simpa [nilRows] using this
  · simp only [List.getElem_replicate, List.length_nil]
    exact World.ownsRow_nil _ _ _ _

def netZ : Obj := .cells #[.slice none 0 0, .slice none 0 0, .slice none 0 0, .slice none 0 0] 38
set_option maxRecDepth 100000 in
set_option maxHeartbeats 4000000 in
theorem rnew_calls (h : TpIn B w vp vl va T) (hB : B ≤ w.heap.size) (hl : T.ports.length ≤ 40) : Calls Tryz.prog 36 #[.agg #[vp, vl, va]] w fun e w' => ∃ vr, e = .returned (.agg #[vp, vl, va, vr]) ∧ RNetAt w' w.heap.size vr (List.replicate T.ports.length (.slice none 0 0)) (List.replicate T.ports.length []) ∧ Below w.heap.size w w' := by
  have H := Lib.hid h
  obtain ⟨ap, cp, rfl, _⟩ := h.ports
  obtain ⟨al, cl, rfl, _⟩ := h.links
  obtain ⟨aa, ca, rfl, _⟩ := h.aces
  clear h
  have hmk := make_rows T.ports.length (by omega)
  have HX : Hid (((w.alloc (.cells #[.slice ap T.ports.length cp, .slice al T.links.length cl, .slice aa T.aces.length ca] 26)).alloc netZ).heap[w.heap.size]? = some (.cells #[.slice ap T.ports.length cp, .slice al T.links.length cl, .slice aa T.aces.length ca] 26 (0, 0))) := Lib.hid (blk_alloc (heap_alloc_new w _) _)
  have HY : Hid (((w.alloc (.cells #[.slice ap T.ports.length cp, .slice al T.links.length cl, .slice aa T.aces.length ca] 26)).alloc netZ).heap[w.heap.size + 1]? = some (.cells #[.slice none 0 0, .slice none 0 0, .slice none 0 0, .slice none 0 0] 38 (0, 0))) := Lib.hid (by
    have := heap_alloc_new (w.alloc (.cells #[.slice ap T.ports.length cp, .slice al T.links.length cl, .slice aa T.aces.length ca] 26)) netZ
    rwa [show (w.alloc (.cells #[.slice ap T.ports.length cp, .slice al T.links.length cl, .slice aa T.aces.length ca] 26)).heap.size = w.heap.size + 1 by simp] at this)
  have HK : Hid (Below w.heap.size w ((w.alloc (.cells #[.slice ap T.ports.length cp, .slice al T.links.length cl, .slice aa T.aces.length ca] 26)).alloc netZ)) := Lib.hid (((Below.refl w.heap.size w).alloc (Nat.le_refl _) _).alloc (by simp) _)
  unfold netZ at *
  go_enter Tryz.func36, Tryz.ntmps36
  go_upto_region 1 with (fail)
  generalize (w.alloc (.cells #[.slice ap T.ports.length cp, .slice al T.links.length cl, .slice aa T.aces.length ca] 26)).alloc (.cells #[.slice none 0 0, .slice none 0 0, .slice none 0 0, .slice none 0 0] 38) = w1 at *
  have z0 := cell_of HX.out 0
  have z1 := cell_of HX.out 1
  have z2 := cell_of HX.out 2
  have x0 := And.intro (cell_of HY.out 0) (unfrozen_of HY.out 0)
  have x1 := And.intro (cell_of HY.out 1) (unfrozen_of HY.out 1)
  have x2 := And.intro (cell_of HY.out 2) (unfrozen_of HY.out 2)
  have x3 := And.intro (cell_of HY.out 3) (unfrozen_of HY.out 3)
  have bX := blk_alloc HX.out (nilRows T.ports.length)
  have bY := blk_alloc HY.out (nilRows T.ports.length)
  have q0 := cell_of bX 0
  have q1 := cell_of bX 1
  have q2 := cell_of bX 2
  have y0 := And.intro (cell_of bY 0) (unfrozen_of bY 0)
  have y1 := And.intro (cell_of bY 1) (unfrozen_of bY 1)
  have y2 := And.intro (cell_of bY 2) (unfrozen_of bY 2)
  have y3 := And.intro (cell_of bY 3) (unfrozen_of bY 3)
  simp only [List.getElem?_toArray, List.getElem?_cons_zero, List.getElem?_cons_succ] at z0 z1 z2 x0 x1 x2 x3 q0 q1 q2 y0 y1 y2 y3
  clear bX bY
  have HR := Lib.hid (rows_made T.ports.length (by omega) (W := w1) HK.out.size)
  have HK2 := Lib.hid (HK.out.alloc HK.out.size (nilRows T.ports.length))
  have HY2 := Lib.hid (blk_alloc HY.out (nilRows T.ports.length))
  generalize hrw : w1.alloc (nilRows T.ports.length) = w2 at *
  generalize hzz : w.heap.size = bb at *
  go_region
  have HZ := Lib.hid hzz
  have hw1 := lt_of_block HY.out
  have hw2 := HK2.out.size
  have HW : Hid (bb + 1 < w1.heap.size ∧ bb ≤ w2.heap.size) := Lib.hid ⟨hw1, by have := hzz; omega⟩
  clear hw1 hw2 hzz
  all_goals
    go_wp2_with (fail)
    simp [bodyPost, results, Tryz.results36, go_sem, y0, y1, y2, y3]
    have hk : Kept [bb + 1] w2 (((((w2.setCell ⟨bb + 1, 0, none⟩ (.slice ap T.ports.length cp)).setCell ⟨bb + 1, 1, none⟩ (.slice al T.links.length cl)).setCell ⟨bb + 1, 2, none⟩ (.slice aa T.aces.length ca)).setCell ⟨bb + 1, 3, none⟩ (.slice (some ⟨w1.heap.size, 0, none⟩) T.ports.length T.ports.length)).drew) := (((((Kept.refl [bb + 1] w2).setCell _ _ (by simp)).setCell _ _ (by simp)).setCell _ _ (by simp)).setCell _ _ (by simp)).drew
    rw [HZ.out]
    refine ⟨HR.out.kept hk (fun x hx hc => ?_), (HZ.out ▸ HK2.out : Below bb w w2).trans (hk.below HW.out.2 (by simp))⟩
    rw [List.mem_singleton.1 hc] at hx
    rcases mem_rfoot.1 hx with h1 | ⟨v, hv, h1⟩
    · have : w1.heap.size = bb + 1 := Option.some.inj h1
      have := HW.out.1
      omega
    · rw [List.eq_of_mem_replicate hv] at h1
      cases h1
end Go.Proofs.YtjoblahedgpgbaaGreat

namespace Go.Proofs.YtjoblahedgpgbaaGreat
open Go.RowKit
variable {w : World} {B : Nat} {vp vl va vr : Value} {rs : List Value} {ls : List (List Rl)}

theorem own_form {w : World} {b : Nat} {v : Value} {l : List Rl} (h : w.ownsRow b 89 6 v l.length (rlCells l)) : ∃ ao cap, v = .slice ao l.length cap ∧ l.length ≤ cap ∧ ∀ i, i < l.length → ∃ g, ao = some ⟨g, 0, none⟩ := by
  rcases h.2 with ⟨h0, h1⟩ | ⟨g', cap', cur, h0, _, _, h3, _⟩
  · exact ⟨none, 0, by rw [h0, h1], by omega, fun i hi => by omega⟩
  · exact ⟨_, cap', h0, h3, fun i _ => ⟨g', rfl⟩⟩
/-- The cell of a row in the row of rows. -/
theorem RNetAt.rowAt (h : RNetAt w B vr rs ls) {i : Nat} (hi : i < ls.length) : ∃ g cap ao c, vr = .slice (some ⟨g, 0, none⟩) ls.length cap ∧ w.cell? ⟨g, i, none⟩ = some (.slice ao ls[i].length c) ∧ rs[i]? = some (.slice ao ls[i].length c) ∧ w.ownsRow B 89 6 (.slice ao ls[i].length c) ls[i].length (rlCells ls[i]) ∧ ∀ j, j < ls[i].length → ∃ g2, ao = some ⟨g2, 0, none⟩ := by
  have hi' : i < rs.length := h.len ▸ hi
  obtain ⟨g, cap, hv, hc⟩ := h.at hi
  have ho := h.each i hi' hi
  obtain ⟨ao, c, he, _, ha⟩ := own_form ho
  rw [he] at hc ho
  exact ⟨g, cap, ao, c, hv, hc, by rw [List.getElem?_eq_getElem hi', he], ho, ha⟩
theorem lenT_snoc (ls : List (List Rl)) (l : List Rl) : lenT (ls ++ [l]) = lenT ls + l.length := by simp [lenT]
theorem lenT_take (ls : List (List Rl)) (i : Nat) : lenT (ls.take i) ≤ lenT ls := by
  have e : lenT ls = lenT (ls.take i) + lenT (ls.drop i) := by
    rw [lenT, lenT, lenT, ← List.sum_append, ← List.map_append, List.take_append_drop]
  omega

set_option maxRecDepth 100000 in
set_option maxHeartbeats 4000000 in
theorem rnlen_calls (h : RNetAt w B vr rs ls) (hl : ls.length ≤ 40) (hL : lenT ls < 100000) : Calls Tryz.prog 76 #[.agg #[vp, vl, va, vr]] w fun e w' => e = .returned (.int .i64 (lenT ls : Int)) ∧ Below w.heap.size w w' := by
  have H := Lib.hid (h.below ((Below.refl w.heap.size w).alloc (Nat.le_refl _) (.cells #[vp, vl, va, vr] 38)))
  have HX := Lib.hid (heap_alloc_new w (.cells #[vp, vl, va, vr] 38))
  have HK := Lib.hid ((Below.refl w.heap.size w).alloc (Nat.le_refl _) (.cells #[vp, vl, va, vr] 38))
  obtain ⟨ao, cap, rfl, _, hao⟩ := h.shape
  have HAO := Lib.hid hao
  have HLT := Lib.hid (fun i => Nat.lt_of_le_of_lt (lenT_take ls i) hL)
  clear h hao
  go_enter Tryz.func76, Tryz.ntmps76
  go_upto_region 1 with (fail)
  generalize w.alloc (.cells #[vp, vl, va, .slice ao ls.length cap] 38) = w1 at *
  have c3 := cell_of HX.out 3
  simp only [List.getElem?_toArray, List.getElem?_cons_zero, List.getElem?_cons_succ] at c3
  go_wp2_with (fail)
  go_loopg [3, 4] ls.length (fun gk vs vi wr => ∃ i : Nat, i + gk = ls.length ∧ vi = .int .i64 (i : Int) ∧ vs = .int .i64 (lenT (ls.take i) : Int) ∧ wr = w1)
  case atStart => exact ⟨0, by omega, rfl, rfl, rfl⟩
  case round =>
    obtain ⟨i, hgk, rfl, rfl, rfl⟩ := hrel
    by_cases hlt : i < ls.length
    · obtain ⟨g, capz, aoz, cz, he, e0, _, _, _⟩ := H.out.rowAt hlt
      cases he
      have HTK : Hid (ls.take (i + 1) = ls.take i ++ [ls[i]]) := Lib.hid (by rw [List.take_add_one, List.getElem?_eq_getElem hlt]; rfl)
      have hb := HLT.out (i + 1)
      rw [HTK.out, lenT_snoc] at hb
      generalize ls[i] = l at *
      generalize hs : lenT (ls.take i) = s at *
      have HS := Lib.hid hs
      have hii : (i : Int) < (ls.length : Int) := by omega
      clear hs
      go_wp2_with (fail)
      go_roundg (gk - 1)
      case measure => omega
      case rel => exact ⟨i + 1, by omega, by go_num, by rw [HTK.out, lenT_snoc, HS.out]; simp, rfl⟩
    · obtain rfl : i = ls.length := by omega
      rw [List.take_length]
      go_wp2_with (fail)
      go_ret
      exact ⟨rfl, HK.out⟩

set_option maxRecDepth 100000 in
set_option maxHeartbeats 4000000 in
theorem rnhas_calls (h : RNetAt w B vr rs ls) (hl : ls.length ≤ 40) (hL : lenT ls < 100000) (id : Int) : Calls Tryz.prog 108 #[.agg #[vp, vl, va, vr], .int .i64 id] w fun e w' => e = .returned (.bool (hasL ls id)) ∧ Below w.heap.size w w' := by
  have H := Lib.hid (h.below ((Below.refl w.heap.size w).alloc (Nat.le_refl _) (.cells #[vp, vl, va, vr] 38)))
  have HX := Lib.hid (heap_alloc_new w (.cells #[vp, vl, va, vr] 38))
  have HK := Lib.hid ((Below.refl w.heap.size w).alloc (Nat.le_refl _) (.cells #[vp, vl, va, vr] 38))
  obtain ⟨ao, cap, rfl, _, hao⟩ := h.shape
  have HLT := Lib.hid (fun l (hm : l ∈ ls) => Nat.lt_of_le_of_lt (lenT_mem hm) hL)
  obtain ⟨r, hr⟩ : ∃ r, r = hasL ls id := ⟨_, rfl⟩
  rw [← hr]
  have HR := Lib.hid hr
  clear h hao hr
  go_enter Tryz.func108, Tryz.ntmps108
  go_upto_region 1 with (fail)
  generalize w.alloc (.cells #[vp, vl, va, .slice ao ls.length cap] 38) = w1 at *
  have c3 := cell_of HX.out 3
  simp only [List.getElem?_toArray, List.getElem?_cons_zero, List.getElem?_cons_succ] at c3
  go_wp2_with (fail)
  go_loopg [5] ls.length (fun gk vi wr => ∃ i : Nat, i + gk = ls.length ∧ vi = .int .i64 (i : Int) ∧ hasL (ls.take i) id = false ∧ wr = w1)
  case atStart => exact ⟨0, by omega, rfl, rfl, rfl⟩
  case round =>
    obtain ⟨i, hgk, rfl, hN, rfl⟩ := hrel
    have HN := Lib.hid hN
    clear hN
    by_cases hlt : i < ls.length
    · obtain ⟨g, capz, aoz, cz, he, e0, _, hO, haz⟩ := H.out.rowAt hlt
      cases he
      have HTK : Hid (ls.take (i + 1) = ls.take i ++ [ls[i]]) := Lib.hid (by rw [List.take_add_one, List.getElem?_eq_getElem hlt]; rfl)
      have HME : Hid (ls[i] ∈ ls) := Lib.hid (List.getElem_mem hlt)
      have hb := HLT.out _ (List.getElem_mem hlt)
      have HO := Lib.hid hO
      have HAZ := Lib.hid haz
      generalize ls[i] = l at *
      have hii : (i : Int) < (ls.length : Int) := by omega
      clear hO haz
      go_wp2_with (fail)
      generalize gk = gko at *
      go_loopg [6] l.length (fun gk vj w8 => ∃ j : Nat, j + gk = l.length ∧ vj = .int .i64 (j : Int) ∧ (∀ r ∈ l.take j, r.id ≠ id) ∧ w8 = wr)
      case atStart => exact ⟨0, by omega, rfl, by simp, rfl⟩
      case round =>
        obtain ⟨j, hgk2, rfl, hN2, rfl⟩ := hrel
        have HN2 := Lib.hid hN2
        clear hN2
        by_cases hlj : j < l.length
        · obtain ⟨g2, rfl⟩ := HAZ.out j hlj
          have d0 := (HO.out.cellAt (j * 6) (by omega)).trans (rlCells_at l j hlj 0 (by omega))
          simp [Rl.cells] at d0
          have HTJ : Hid (l.take (j + 1) = l.take j ++ [l[j]]) := Lib.hid (by rw [List.take_add_one, List.getElem?_eq_getElem hlj]; rfl)
          have HMJ : Hid (l[j] ∈ l) := Lib.hid (List.getElem_mem hlj)
          generalize l[j] = x at *
          have hjj : (j : Int) < (l.length : Int) := by omega
          by_cases hx : x.id = id
          · obtain rfl : r = true := by
              rw [HR.out]
              exact hasL_iff.2 ⟨l, HME.out, x, HMJ.out, hx⟩
            subst hx
            go_wp2_with (fail)
            go_ret
            exact ⟨rfl, HK.out⟩
          · have hx2 : (x.id == id) = false := beq_eq_false_iff_ne.2 hx
            have HX2 := Lib.hid hx
            clear hx
            go_wp2_with (fail)
            go_roundg (gk - 1)
            case measure => omega
            case rel =>
              refine ⟨j + 1, by omega, by go_num, fun y hy => ?_, rfl⟩
              rw [HTJ.out] at hy
              rcases List.mem_append.1 hy with hy | hy
              · exact HN2.out y hy
              · rw [List.mem_singleton.1 hy]
                exact HX2.out
        · obtain rfl : j = l.length := by omega
          go_wp2_with (fail)
          go_roundg (gko - 1)
          case measure => omega
          case rel =>
            refine ⟨i + 1, by omega, by go_num, ?_, rfl⟩
            rw [HTK.out]
            have h1 := HN.out
            have h2 := HN2.out
            rw [List.take_length] at h2
            unfold hasL at *
            rw [List.any_append, h1]
            have h3 : (findR l id).isSome = false := by
              cases e : (findR l id).isSome with
              | false => rfl
              | true =>
                obtain ⟨y, hy, hi⟩ := findR_isSome.1 e
                exact absurd hi (h2 y hy)
            simp [h3]
    · obtain rfl : i = ls.length := by omega
      obtain rfl : r = false := by
        rw [HR.out]
        have := HN.out
        rwa [List.take_length] at this
      go_wp2_with (fail)
      go_ret
      exact ⟨rfl, HK.out⟩
end Go.Proofs.YtjoblahedgpgbaaGreat

namespace Go.Proofs.YtjoblahedgpgbaaGreat
open Go.RowKit

theorem four_new (w : World) (a b c d : Obj) : ((((w.alloc a).alloc b).alloc c).alloc d).heap[w.heap.size]? = some a ∧ ((((w.alloc a).alloc b).alloc c).alloc d).heap[w.heap.size + 1]? = some b ∧ ((((w.alloc a).alloc b).alloc c).alloc d).heap[w.heap.size + 1 + 1]? = some c ∧ ((((w.alloc a).alloc b).alloc c).alloc d).heap[w.heap.size + 1 + 1 + 1]? = some d ∧ Below w.heap.size w ((((w.alloc a).alloc b).alloc c).alloc d) := by
  have e1 : (w.alloc a).heap.size = w.heap.size + 1 := by simp
  have e2 : ((w.alloc a).alloc b).heap.size = w.heap.size + 1 + 1 := by simp
  have e3 : (((w.alloc a).alloc b).alloc c).heap.size = w.heap.size + 1 + 1 + 1 := by simp
  have h1 := heap_alloc_new w a
  have h2 := heap_alloc_new (w.alloc a) b
  have h3 := heap_alloc_new ((w.alloc a).alloc b) c
  have h4 := heap_alloc_new (((w.alloc a).alloc b).alloc c) d
  rw [e1] at h2
  rw [e2] at h3
  rw [e3] at h4
  exact ⟨blk_alloc (blk_alloc (blk_alloc h1 b) c) d, blk_alloc (blk_alloc h2 c) d, blk_alloc h3 d, h4, ((((Below.refl w.heap.size w).alloc (Nat.le_refl _) _).alloc (by omega) _).alloc (by omega) _).alloc (by omega) _⟩

/-- The boxes of a call of the document's Change. -/
structure CA (w0 w : World) (del : Bool) (r : Rl) (vp vl va vr vo : Value) : Prop where
  n : w.heap[w0.heap.size]? = some (.cells #[vp, vl, va, vr] 38 (0, 0))
  c : w.heap[w0.heap.size + 1]? = some (.cells #[.bool del, .int .i64 r.id, .int .i64 r.dev, .int .u32 (r.addr : Int), .int .i64 r.bits, .int .i64 r.prio, .int .i64 r.out] 91 (0, 0))
  z : w.heap[w0.heap.size + 1 + 1]? = some (.cells #[.slice none 0 0, .slice none 0 0, .slice none 0 0, .slice none 0 0] 38 (0, 0))
  o : w.heap[w0.heap.size + 1 + 1 + 1]? = some (.cells #[vp, vl, va, vo] 38 (0, 0))
  kept : Below w0.heap.size w0 w
variable {w0 w w' : World} {del : Bool} {r : Rl} {vp vl va vr vo : Value}
theorem CA.step (h : CA w0 w del r vp vl va vr vo) {S : List Nat} (k : Kept S w w') (hs : ∀ x ∈ S, w0.heap.size + 3 < x) : CA w0 w' del r vp vl va vr vo := by
  have f : ∀ x, x ≤ w0.heap.size + 3 → x ∉ S := fun x hx hm => by have := hs x hm; omega
  exact ⟨(k.block _ (lt_of_block h.n) (f _ (by omega))).trans h.n, (k.block _ (lt_of_block h.c) (f _ (by omega))).trans h.c, (k.block _ (lt_of_block h.z) (f _ (by omega))).trans h.z, (k.block _ (lt_of_block h.o) (f _ (by omega))).trans h.o, h.kept.trans (k.below h.kept.size (fun x hx => by have := hs x hx; omega))⟩
theorem CA.next (h : CA w0 w del r vp vl va vr vo) (k : Below w.heap.size w w') : CA w0 w' del r vp vl va vr vo := h.step (Kept.of_below (S := []) k) (by simp)
theorem CA.start {w1 w9 : World} {r : Rl} (h : w1.heap[w0.heap.size]? = some (.cells #[vp, vl, va, vr] 38 (0, 0)) ∧ w1.heap[w0.heap.size + 1]? = some (.cells #[.bool del, .int .i64 r.id, .int .i64 r.dev, .int .u32 (r.addr : Int), .int .i64 r.bits, .int .i64 r.prio, .int .i64 r.out] 91 (0, 0)) ∧ w1.heap[w0.heap.size + 1 + 1]? = some (.cells #[.slice none 0 0, .slice none 0 0, .slice none 0 0, .slice none 0 0] 38 (0, 0)) ∧ w1.heap[w0.heap.size + 1 + 1 + 1]? = some (.cells #[vp, vl, va, .slice none 0 0] 38 (0, 0)) ∧ Below w0.heap.size w0 w1)
    (hg : w1.grownBy w9 none) : CA w0 (w9.setCell ⟨w0.heap.size + 1 + 1 + 1, 3, none⟩ vo) del r vp vl va vr vo := by
  obtain ⟨a, b, c, d, k⟩ := h
  have hk : Kept [] w1 w9 := Kept.of_grown_none hg
  have f : ∀ x o, w1.heap[x]? = some o → w9.heap[x]? = some o := fun x o ho => (hk.block x (lt_of_block ho) (by simp)).trans ho
  have hlt := lt_of_block d
  exact ⟨blk_setCell (f _ _ a) (show w0.heap.size ≠ w0.heap.size + 1 + 1 + 1 by omega) vo, blk_setCell (f _ _ b) (show w0.heap.size + 1 ≠ w0.heap.size + 1 + 1 + 1 by omega) vo, blk_setCell (f _ _ c) (show w0.heap.size + 1 + 1 ≠ w0.heap.size + 1 + 1 + 1 by omega) vo, set_block (f _ _ d) 3 vo, k.trans ((hk.below k.size (by simp)).trans ((Kept.of_setCell w9 ⟨w0.heap.size + 3, 3, none⟩ vo).below (by have := hk.size; omega) (by first | (simp; done) | (simp; omega))))⟩
def set4 (w : World) (b : Nat) (x y z u : Value) : World := (((w.setCell ⟨b, 0, none⟩ x).setCell ⟨b, 1, none⟩ y).setCell ⟨b, 2, none⟩ z).setCell ⟨b, 3, none⟩ u
theorem kept_set4 (w : World) (b : Nat) (x y z u : Value) : Kept [b] w (set4 w b x y z u) := ((((Kept.refl [b] w).setCell _ _ (by simp)).setCell _ _ (by simp)).setCell _ _ (by simp)).setCell _ _ (by simp)

variable {B b : Nat} {rs : List Value} {ls : List (List Rl)}
theorem RNetAt.out_put (hd : RNetAt w B vr rs ls) (hb : B ≤ b) {i : Nat} {v' : Value} {l' : List Rl} (ho : w.ownsRow b 183 1 vo ls.length (rs.set i v')) (hv : w.ownsRow B 89 6 v' l'.length (rlCells l')) : RNetAt w B vo (rs.set i v') (ls.set i l') := by
  refine ⟨by simp [hd.len], ?_, fun j h1 h2 => ?_⟩
  · rw [List.length_set, hd.len]
    exact ho.mono hb
  · by_cases e : i = j
    · subst e
      simp only [List.getElem_set_self]
      exact hv
    · simp only [List.getElem_set_ne e]
      exact hd.each j (by simpa using h1) (by simpa using h2)
theorem rfoot_put {i : Nat} {v' : Value} {x : Nat} (h : x ∈ rfoot vo (rs.set i v')) : vo.ownBlock = some x ∨ v'.ownBlock = some x ∨ x ∈ rfoot vr rs := by
  rcases mem_rfoot.1 h with h1 | ⟨v, hv, h1⟩
  · exact Or.inl h1
  · rcases List.mem_or_eq_of_mem_set hv with h2 | h2
    · exact Or.inr (Or.inr (mem_rfoot.2 (Or.inr ⟨v, h2, h1⟩)))
    · exact Or.inr (Or.inl (h2 ▸ h1))
/-- A row that is a row of the net, or new. -/
theorem row_or {v v' : Value} {l l' : List Rl} {W : World} (hv : W.ownsRow B 89 6 v l.length (rlCells l)) (hb : B ≤ b) (h : W.ownsRow b 89 6 v' l'.length (rlCells l') ∨ (v' = v ∧ l' = l)) : W.ownsRow B 89 6 v' l'.length (rlCells l') := by
  rcases h with h | ⟨rfl, rfl⟩
  · exact h.mono hb
  · exact hv
end Go.Proofs.YtjoblahedgpgbaaGreat

namespace Go.Proofs.YtjoblahedgpgbaaGreat
open Go.RowKit
variable {w : World} {B : Nat} {ap al aa : Option Addr} {np cp nl cl na ca : Nat} {vr : Value} {rs : List Value} {ls : List (List Rl)}
set_option maxRecDepth 100000 in
set_option maxHeartbeats 8000000 in
theorem rchg_del (h : RNetAt w B vr rs ls) (hBw : B ≤ w.heap.size) (h0 : 0 < ls.length) (hl : ls.length ≤ 40) (hL : lenT ls < 100000) (hnd : ∀ l ∈ ls, (l.map (·.id)).Nodup) (rid rdev : Int) (rad : Nat) (rbi rpr rou : Int) :
    Calls Tryz.prog 38 #[.agg #[.slice ap np cp, .slice al nl cl, .slice aa na ca, vr], .agg #[.bool true, .int .i64 rid, .int .i64 rdev, .int .u32 (rad : Int), .int .i64 rbi, .int .i64 rpr, .int .i64 rou]] w fun e w' =>
      ∃ vr' rs', e = .returned (.tuple #[.agg #[.slice ap np cp, .slice al nl cl, .slice aa na ca, vr'], .int .i64 (delS ls rid).2]) ∧ RNetAt w' B vr' rs' (delS ls rid).1 ∧ (∀ x ∈ rfoot vr' rs', x ∈ rfoot vr rs ∨ w.heap.size ≤ x) ∧ Below w.heap.size w w' := by
  have HLT := Lib.hid (fun l (hm : l ∈ ls) => Nat.lt_of_le_of_lt (lenT_mem hm) hL)
  have HND := Lib.hid hnd
  clear hnd hL
  obtain ⟨res, hres⟩ : ∃ res, res = delS ls rid := ⟨_, rfl⟩
  rw [← hres]
  have HRES := Lib.hid hres
  clear hres
  obtain ⟨i0, hi, hz0, hz1, hz2⟩ := info_parts rowr_info
  have HD := Lib.hid h
  have HLO : Hid (∀ x ∈ rfoot vr rs, B ≤ x ∧ x < w.heap.size) := Lib.hid h.lo
  obtain ⟨g, cap, rfl, hat0⟩ := h.at h0
  clear hat0
  have hNEW := four_new w (.cells #[.slice ap np cp, .slice al nl cl, .slice aa na ca, .slice (some ⟨g, 0, none⟩) ls.length cap] 38) (.cells #[.bool true, .int .i64 rid, .int .i64 rdev, .int .u32 (rad : Int), .int .i64 rbi, .int .i64 rpr, .int .i64 rou] 91) (.cells #[.slice none 0 0, .slice none 0 0, .slice none 0 0, .slice none 0 0] 38) (.cells #[.slice ap np cp, .slice al nl cl, .slice aa na ca, .slice none 0 0] 38)
  have hrone : ∀ u ∈ rs, u.oneCell' = true := fun u hu => by
    obtain ⟨i, hi, rfl⟩ := List.mem_iff_getElem.1 hu
    obtain ⟨ao, c, he, _⟩ := own_form (h.each i hi (h.len ▸ hi))
    rw [he]
    rfl
  have hlen := h.len
  have HBW := Lib.hid hBw
  clear h hBw
  have HW0 := Lib.hid hNEW
  have HK4 := Lib.hid hNEW.2.2.2.2
  have hdoc4 := HD.out.below HK4.out
  have HROW : Hid (∀ j u, rs[j]? = some u → ((((w.alloc (.cells #[.slice ap np cp, .slice al nl cl, .slice aa na ca, .slice (some ⟨g, 0, none⟩) ls.length cap] 38)).alloc (.cells #[.bool true, .int .i64 rid, .int .i64 rdev, .int .u32 (rad : Int), .int .i64 rbi, .int .i64 rpr, .int .i64 rou] 91)).alloc (.cells #[.slice none 0 0, .slice none 0 0, .slice none 0 0, .slice none 0 0] 38)).alloc (.cells #[.slice ap np cp, .slice al nl cl, .slice aa na ca, .slice none 0 0] 38)).cell? ((⟨g, 0, none⟩ : Addr).add j) = some u) := Lib.hid (by
    intro j u hu
    have hj : j < rs.length := (List.getElem?_eq_some_iff.1 hu).1
    have hr4 := hdoc4.row
    rw [hlen] at hr4
    have hr := hr4.cellAt (j * 1) (by omega)
    rw [add_noneO, Nat.zero_add]
    rw [Nat.mul_one] at hr
    exact hr.trans hu)
  clear hNEW hdoc4
  go_enter Tryz.func38, Tryz.ntmps38
  go_upto_region 2 with (fail)
  generalize (((w.alloc (.cells #[.slice ap np cp, .slice al nl cl, .slice aa na ca, .slice (some ⟨g, 0, none⟩) ls.length cap] 38)).alloc (.cells #[.bool true, .int .i64 rid, .int .i64 rdev, .int .u32 (rad : Int), .int .i64 rbi, .int .i64 rpr, .int .i64 rou] 91)).alloc (.cells #[.slice none 0 0, .slice none 0 0, .slice none 0 0, .slice none 0 0] 38)).alloc (.cells #[.slice ap np cp, .slice al nl cl, .slice aa na ca, .slice none 0 0] 38) = w1 at *
  obtain ⟨hA, hB, hC, hD, _⟩ := HW0.out
  have a0 := cell_of hA 0
  have a1 := cell_of hA 1
  have a2 := cell_of hA 2
  have a3 := cell_of hA 3
  have d3 := cell_of hD 3
  simp only [List.getElem?_toArray, List.getElem?_cons_zero, List.getElem?_cons_succ] at a0 a1 a2 a3 d3
  clear hA hB hC hD
  go_upto_region 3 with (at_builtin; go_must (refine wpList_append_lies _ rfl (.tmp 17) (.tmp 19) 36 rfl w.heap.size 183 i0 _ 1 24 Tryz.underlying36 hi hz0 hz1 hz2 rfl (by decide) (.slice none 0 0) 0 [] rfl (World.ownsRow_nil _ _ _ _) ⟨g, 0, none⟩ ls.length cap rs rfl (by omega) HROW.out hrone h0 ?_ ?_ ?_ _ rfl ?_); (· unfold maxLen; omega); (· omega); (· exact HK4.out.size); intro g9 cap9 w9 how9 hgr9 hat9 hlt9; have HOW9 := Lib.hid how9; have HGR9 := Lib.hid hgr9; have HAT9 := Lib.hid hat9; have hd9 := (hgr9.block (w.heap.size + 1 + 1 + 1) (lt_of_block HW0.out.2.2.2.1) (by simp [Value.ownBlock])).trans HW0.out.2.2.2.1; have e3 := And.intro (cell_of hd9 3) (unfrozen_of hd9 3); simp only [List.getElem?_toArray, List.getElem?_cons_zero, List.getElem?_cons_succ] at e3; clear how9 hgr9 hat9 hlt9 hd9)
  have hown9 := HOW9.out
  simp only [Nat.zero_add, List.nil_append] at hown9
  have hg9 : g9 = w1.heap.size := by
    rcases HAT9.out with e | e
    · simp [Value.ownBlock] at e
    · exact e
  have HCA : Hid (CA w (w9.setCell ⟨w.heap.size + 1 + 1 + 1, 3, none⟩ (.slice (some ⟨g9, 0, none⟩) ls.length cap9)) true ⟨rid, rdev, rad, rbi, rpr, rou⟩ (.slice ap np cp) (.slice al nl cl) (.slice aa na ca) (.slice (some ⟨g, 0, none⟩) ls.length cap) (.slice (some ⟨g9, 0, none⟩) ls.length cap9)) := Lib.hid (CA.start HW0.out HGR9.out)
  have hkd : Kept [w.heap.size + 1 + 1 + 1] w9 (w9.setCell ⟨w.heap.size + 1 + 1 + 1, 3, none⟩ (.slice (some ⟨g9, 0, none⟩) ls.length cap9)) := Kept.of_setCell w9 ⟨w.heap.size + 1 + 1 + 1, 3, none⟩ _
  have hzz := lt_of_block HW0.out.2.2.2.1
  have HOUT := Lib.hid (own_kept hown9 hkd (fun k hk hm => by
    have : g9 = k := Option.some.inj hk
    rw [List.mem_singleton.1 hm] at this
    omega))
  have HG9 : Hid (w.heap.size + 1 + 1 + 1 < g9) := Lib.hid (by omega)
  have HDOC := Lib.hid (HD.out.below HCA.out.kept)
  clear hown9 hg9 hkd hzz a0 a1 a2 a3 d3
  generalize w9.setCell ⟨w.heap.size + 1 + 1 + 1, 3, none⟩ (.slice (some ⟨g9, 0, none⟩) ls.length cap9) = w2 at *
  clear HOW9 HGR9 HAT9 HROW HW0 HK4
  have q0 := cell_of HCA.out.c 0
  have n3 := cell_of HCA.out.n 3
  simp only [List.getElem?_toArray, List.getElem?_cons_zero, List.getElem?_cons_succ] at q0 n3
  go_wp2_with (fail)
  go_loopg [7] ls.length (fun gk vi wr => ∃ i : Nat, i + gk = ls.length ∧ vi = .int .i64 (i : Int) ∧ CA w wr true ⟨rid, rdev, rad, rbi, rpr, rou⟩ (.slice ap np cp) (.slice al nl cl) (.slice aa na ca) (.slice (some ⟨g, 0, none⟩) ls.length cap) (.slice (some ⟨g9, 0, none⟩) ls.length cap9) ∧ RNetAt wr B (.slice (some ⟨g, 0, none⟩) ls.length cap) rs ls ∧ wr.ownsRow w.heap.size 183 1 (.slice (some ⟨g9, 0, none⟩) ls.length cap9) ls.length rs ∧ res = (ls.take i ++ (delS (ls.drop i) rid).1, (delS (ls.drop i) rid).2))
  case atStart => exact ⟨0, by omega, rfl, HCA.out, HDOC.out, HOUT.out, by simpa using HRES.out⟩
  case round =>
    obtain ⟨i, hgk, rfl, hca, hdoc, hout, hr⟩ := hrel
    have HCR := Lib.hid hca
    have HDR := Lib.hid hdoc
    have HOR := Lib.hid hout
    have HR := Lib.hid hr
    clear hr hout q0 n3
    have n3 := cell_of hca.n 3
    simp only [List.getElem?_toArray, List.getElem?_cons_zero, List.getElem?_cons_succ] at n3
    by_cases hlt : i < ls.length
    · obtain ⟨gg, capz, aoz, cz, he, e0, hrsi, hO, haz⟩ := hdoc.rowAt hlt
      cases he
      have HDRP : Hid (ls.drop i = ls[i] :: ls.drop (i + 1)) := Lib.hid (List.drop_eq_getElem_cons hlt)
      have HTK : Hid (ls.take (i + 1) = ls.take i ++ [ls[i]]) := Lib.hid (by rw [List.take_add_one, List.getElem?_eq_getElem hlt]; rfl)
      have HSET : Hid (∀ l', ls.set i l' = ls.take i ++ l' :: ls.drop (i + 1)) := Lib.hid (fun l' => by rw [List.set_eq_take_append_cons_drop, if_pos hlt])
      obtain ⟨l2, e2, hdr⟩ : ∃ l2 e2, dropT ls[i] rid = (l2, e2) := ⟨_, _, rfl⟩
      have HCALL : Hid (∀ W, Below wr.heap.size wr W → Calls Tryz.prog 107 #[.slice aoz ls[i].length cz, .int .i64 rid] W fun e w' => ∃ v', e = .returned (.tuple #[v', .int .i64 e2]) ∧ w'.ownsRow B 89 6 v' l2.length (rlCells l2) ∧ (∀ x, v'.ownBlock = some x → x ∈ rfoot (.slice (some ⟨g, 0, none⟩) ls.length cap) rs ∨ wr.heap.size ≤ x) ∧ Below wr.heap.size wr w') := Lib.hid (fun W kW => (rdrop_calls (own_kept hO (Kept.of_below (S := []) kW) (by simp)) (HLT.out _ (List.getElem_mem hlt)) (HND.out _ (List.getElem_mem hlt)) rid).mono (by
        rintro e w' ⟨v', he, hro, hk⟩
        rw [hdr] at he hro
        have hks := hca.kept.size
        refine ⟨v', he, row_or (own_kept hO (Kept.of_below (S := []) (kW.trans (hk.mono kW.size))) (by simp)) (Nat.le_trans (Nat.le_trans HBW.out hks) kW.size) hro, fun x hx => ?_, kW.trans (hk.mono kW.size)⟩
        rcases hro with h1 | ⟨h1, _⟩
        · have := (own_ge h1 hx).1
          have := kW.size
          exact Or.inr (by omega)
        · exact Or.inl (mem_rfoot.2 (Or.inr ⟨_, List.mem_of_getElem? hrsi, h1 ▸ hx⟩))))
      generalize hls : ls[i] = l at *
      have hii : (i : Int) < (ls.length : Int) := by omega
      have HCELL : Hid (∀ W, Below wr.heap.size wr W → W.cell? ⟨w.heap.size, 3, none⟩ = some (.slice (some ⟨g, 0, none⟩) ls.length cap) ∧ W.cell? ⟨w.heap.size + 1, 1, none⟩ = some (.int .i64 rid) ∧ W.cell? ⟨g, i, none⟩ = some (.slice aoz l.length cz)) := Lib.hid (fun W kW => ⟨cell_of (HCR.out.next kW).n 3, cell_of (HCR.out.next kW).c 1, (Kept.of_below (S := []) kW).cell e0 (by simp)⟩)
      have HRI := Lib.hid hrsi
      have HLS := Lib.hid hls
      have HDT := Lib.hid hdr
      clear hca hdoc hO haz hrsi hls hdr e0
      go_upto_region 7 with (fail)
      clear n3
      have hBW := (Below.refl wr.heap.size wr).drew
      have hS := HCELL.out _ hBW
      go_region_held3 (fun w' => w'.cell? ⟨w.heap.size, 3, none⟩ = some (.slice (some ⟨g, 0, none⟩) ls.length cap) ∧ w'.cell? ⟨w.heap.size + 1, 1, none⟩ = some (.int .i64 rid) ∧ w'.cell? ⟨g, i, none⟩ = some (.slice aoz l.length cz)) (first | assumption) (first | (go_at_call 107; refine Calls.mono (HCALL.out _ (by assumption)) ?_; rintro e w' ⟨v', rfl, hv', hx', hB'⟩; have hS' := HCELL.out _ hB'; have HV := Lib.hid hv'; have HX := Lib.hid hx'; clear hv' hx'))
      have HCW := Lib.hid (HCR.out.next hB')
      have HDW := Lib.hid (HDR.out.below hB')
      have HOW := Lib.hid (own_kept HOR.out (Kept.of_below (S := []) hB') (by simp))
      have HGW : Hid (g9 < wr.heap.size ∧ w.heap.size ≤ wr.heap.size) := Lib.hid ⟨own_inN HOR.out rfl, HCR.out.kept.size⟩
      have hr := HR.out
      rw [HDRP.out] at hr
      unfold delS at hr
      have hd2 := HDT.out
      clear hB' hS' hBW hS
      cases hf : (findR l rid).isSome with
      | true =>
        rw [if_pos hf, HDT.out] at hr
        unfold dropT at hd2
        rw [if_pos hf] at hd2
        injection hd2 with hd3 hd4
        subst hd4
        have HRR := Lib.hid hr
        obtain ⟨ao2, c2, rfl, _⟩ := own_form HV.out
        have o3 := cell_of HCW.out.o 3
        have r1 := HOW.out.cellAt (i * 1) (by omega)
        have r2 := HOW.out.frozenAt i
        rw [Nat.mul_one] at r1
        have hir : i < rs.length := by omega
        rw [List.getElem?_eq_getElem hir] at r1
        simp only [List.getElem?_toArray, List.getElem?_cons_zero, List.getElem?_cons_succ] at o3
        clear hf hd3 hr
        go_upto_region 10 with (fail)
        have hk8 : Kept [g9] w' (w'.setCell ⟨g9, i, none⟩ (.slice ao2 l2.length c2)) := Kept.of_setCell w' ⟨g9, i, none⟩ _
        have HC8 := Lib.hid (HCW.out.step hk8 (fun x hx => (List.mem_singleton.1 hx).symm ▸ HG9.out))
        have HO8 := Lib.hid (HOW.out.stored i (.slice ao2 l2.length c2)).1
        have HD8 := Lib.hid (HDW.out.kept hk8 (fun x hx hc => by have := (HLO.out x hx).2; have := HG9.out; have := List.mem_singleton.1 hc; omega))
        have HV8 := Lib.hid (own_kept HV.out hk8 (fun x hx hc => by
          have e := List.mem_singleton.1 hc
          subst e
          have := HG9.out
          have := HGW.out
          rcases HX.out x hx with h1 | h1
          · have := (HLO.out x h1).2
            omega
          · omega))
        clear hk8 r1 r2 o3
        generalize w'.setCell ⟨g9, i, none⟩ (.slice ao2 l2.length c2) = w8 at *
        have o0 := cell_of HC8.out.o 0
        have o1 := cell_of HC8.out.o 1
        have o2 := cell_of HC8.out.o 2
        have o3 := cell_of HC8.out.o 3
        have z0 := And.intro (cell_of HC8.out.z 0) (unfrozen_of HC8.out.z 0)
        have z1 := And.intro (cell_of HC8.out.z 1) (unfrozen_of HC8.out.z 1)
        have z2 := And.intro (cell_of HC8.out.z 2) (unfrozen_of HC8.out.z 2)
        have z3 := And.intro (cell_of HC8.out.z 3) (unfrozen_of HC8.out.z 3)
        simp only [List.getElem?_toArray, List.getElem?_cons_zero, List.getElem?_cons_succ] at o0 o1 o2 o3 z0 z1 z2 z3
        go_wp2_with (fail)
        have hk := kept_set4 w8 (w.heap.size + 1 + 1) (.slice ap np cp) (.slice al nl cl) (.slice aa na ca) (.slice (some ⟨g9, 0, none⟩) ls.length cap9)
        exact bodyPost_ret (v := .tuple #[.agg #[.slice ap np cp, .slice al nl cl, .slice aa na ca, .slice (some ⟨g9, 0, none⟩) ls.length cap9], .int .i64 0]) (by simp [results, Tryz.results38, go_sem, z0, z1, z2, z3]) rfl ⟨.slice (some ⟨g9, 0, none⟩) ls.length cap9, by rw [HRR.out], rs.set i (.slice ao2 l2.length c2), by
          rw [HRR.out]
          simp only
          rw [← HSET.out]
          refine (HD8.out.kept hk fun x hx hc => ?_).out_put (b := w.heap.size) HBW.out (own_kept HO8.out hk fun x hx hc => ?_) (own_kept HV8.out hk fun x hx hc => ?_)
          · have := (HLO.out x hx).2
            have := List.mem_singleton.1 hc
            omega
          · have : g9 = x := Option.some.inj hx
            have := HG9.out
            have := List.mem_singleton.1 hc
            omega
          · have := List.mem_singleton.1 hc
            have := HGW.out
            have := HG9.out
            rcases HX.out x hx with h1 | h1
            · have := (HLO.out x h1).2
              omega
            · omega, fun x hx => by
          rcases rfoot_put (vr := .slice (some ⟨g, 0, none⟩) ls.length cap) hx with h1 | h1 | h1
          · have : g9 = x := Option.some.inj h1
            have := HG9.out
            exact Or.inr (by omega)
          · rcases HX.out x h1 with h2 | h2
            · exact Or.inl h2
            · have := HGW.out
              exact Or.inr (by omega)
          · exact Or.inl h1, HC8.out.kept.trans (hk.below HC8.out.kept.size (fun x hx => by rw [List.mem_singleton.1 hx]; omega))⟩
      | false =>
        rw [if_neg (by simp [hf])] at hr
        unfold dropT at hd2
        rw [if_neg (by simp [hf])] at hd2
        injection hd2 with hd3 hd4
        subst hd4
        have HRR := Lib.hid hr
        clear hf hd3 hr
        go_wp2_with (fail)
        go_roundg (gk - 1)
        case measure => omega
        case rel => exact ⟨i + 1, by omega, by go_num, HCW.out, HDW.out, HOW.out, by rw [HRR.out, HTK.out]; simp only [List.append_assoc, List.cons_append, List.nil_append]⟩
    · obtain rfl : i = ls.length := by omega
      have hr := HR.out
      rw [List.drop_eq_nil_of_le (Nat.le_refl _), List.take_length] at hr
      simp only [delS, List.append_nil] at hr
      have HRR := Lib.hid hr
      have HGW := Lib.hid hca.kept.size
      clear hr hca hdoc n3
      have n0 := cell_of HCR.out.n 0
      have n1 := cell_of HCR.out.n 1
      have n2 := cell_of HCR.out.n 2
      have n3 := cell_of HCR.out.n 3
      have z0 := And.intro (cell_of HCR.out.z 0) (unfrozen_of HCR.out.z 0)
      have z1 := And.intro (cell_of HCR.out.z 1) (unfrozen_of HCR.out.z 1)
      have z2 := And.intro (cell_of HCR.out.z 2) (unfrozen_of HCR.out.z 2)
      have z3 := And.intro (cell_of HCR.out.z 3) (unfrozen_of HCR.out.z 3)
      simp only [List.getElem?_toArray, List.getElem?_cons_zero, List.getElem?_cons_succ] at n0 n1 n2 n3 z0 z1 z2 z3
      go_wp2_with (fail)
      have hk := kept_set4 wr (w.heap.size + 1 + 1) (.slice ap np cp) (.slice al nl cl) (.slice aa na ca) (.slice (some ⟨g, 0, none⟩) ls.length cap)
      exact bodyPost_ret (v := .tuple #[.agg #[.slice ap np cp, .slice al nl cl, .slice aa na ca, .slice (some ⟨g, 0, none⟩) ls.length cap], .int .i64 3]) (by simp [results, Tryz.results38, go_sem, z0, z1, z2, z3]) rfl ⟨.slice (some ⟨g, 0, none⟩) ls.length cap, rs, by rw [HRR.out], by
        rw [HRR.out]
        exact HDR.out.kept hk fun x hx hc => (by
          have := (HLO.out x hx).2
          have := List.mem_singleton.1 hc
          omega), fun x hx => Or.inl hx, HCR.out.kept.trans (hk.below HCR.out.kept.size (fun x hx => by rw [List.mem_singleton.1 hx]; omega))⟩
end Go.Proofs.YtjoblahedgpgbaaGreat

namespace Go.Proofs.YtjoblahedgpgbaaGreat
open Go.RowKit

def RInsPost (ports : List Int) (ls : List (List Rl)) (r : Rl) (B : Nat) (w : World) (vp vl va vr : Value) (rs : List Value) (e : Ending) (w' : World) : Prop :=
  ∃ vr' rs' fo, InsR ports ls r fo ∧ e = .returned (.tuple #[.agg #[vp, vl, va, vr'], .int .i64 fo.2]) ∧ RNetAt w' B vr' rs' fo.1 ∧ (∀ x ∈ rfoot vr' rs', x ∈ rfoot vr rs ∨ w.heap.size ≤ x) ∧ Below w.heap.size w w'
theorem RInsPost.same {ports : List Int} {ls : List (List Rl)} {r r2 : Rl} {B : Nat} {w W : World} {vp vl va vr vo : Value} {rs : List Value} {err : Int} {dl : Bool} (hi : InsR ports ls r (ls, err)) (hc : CA w W dl r2 vp vl va vr vo) (hd : RNetAt W B vr rs ls) (hlo : ∀ x ∈ rfoot vr rs, B ≤ x ∧ x < w.heap.size) :
    RInsPost ports ls r B w vp vl va vr rs (.returned (.tuple #[.agg #[vp, vl, va, vr], .int .i64 err])) (set4 W (w.heap.size + 1 + 1) vp vl va vr) := by
  have hk := kept_set4 W (w.heap.size + 1 + 1) vp vl va vr
  exact ⟨vr, rs, (ls, err), hi, rfl, hd.kept hk (fun x hx hc => by
    have := (hlo x hx).2
    have := List.mem_singleton.1 hc
    omega), fun x hx => Or.inl hx, hc.kept.trans (hk.below hc.kept.size (fun x hx => by rw [List.mem_singleton.1 hx]; omega))⟩

variable {w : World} {B B0 : Nat} {ap al aa : Option Addr} {cp cl ca : Nat} {vr : Value} {rs : List Value} {ls : List (List Rl)} {T : Tp}
set_option maxRecDepth 100000 in
set_option maxHeartbeats 8000000 in
theorem rchg_add (h : RNetAt w B vr rs ls) (hT : TpIn B0 w (.slice ap T.ports.length cp) (.slice al T.links.length cl) (.slice aa T.aces.length ca) T) (hB0 : B0 ≤ w.heap.size) (hBw : B ≤ w.heap.size) (h0 : 0 < ls.length) (hl : ls.length ≤ 40) (hnp : T.ports.length = ls.length) (hL : lenT ls < 100000) (rid rdev : Int) (rad : Nat) (rbi rpr rou : Int) (hra : rad < 2 ^ 32) :
    Calls Tryz.prog 38 #[.agg #[.slice ap T.ports.length cp, .slice al T.links.length cl, .slice aa T.aces.length ca, vr], .agg #[.bool false, .int .i64 rid, .int .i64 rdev, .int .u32 (rad : Int), .int .i64 rbi, .int .i64 rpr, .int .i64 rou]] w fun e w' => RInsPost T.ports ls ⟨rid, rdev, rad, rbi, rpr, rou⟩ B w (.slice ap T.ports.length cp) (.slice al T.links.length cl) (.slice aa T.aces.length ca) vr rs e w' := by
  have HLT := Lib.hid (fun l (hm : l ∈ ls) => Nat.lt_of_le_of_lt (lenT_mem hm) hL)
  have HT := Lib.hid hT
  have HLL := Lib.hid hL
  have HRA := Lib.hid hra
  have HNP := Lib.hid hnp
  clear hT hL hra hnp
  obtain ⟨i0, hi, hz0, hz1, hz2⟩ := info_parts rowr_info
  have HD := Lib.hid h
  have HLO : Hid (∀ x ∈ rfoot vr rs, B ≤ x ∧ x < w.heap.size) := Lib.hid h.lo
  obtain ⟨g, cap, rfl, hat0⟩ := h.at h0
  clear hat0
  have hNEW := four_new w (.cells #[.slice ap T.ports.length cp, .slice al T.links.length cl, .slice aa T.aces.length ca, .slice (some ⟨g, 0, none⟩) ls.length cap] 38) (.cells #[.bool false, .int .i64 rid, .int .i64 rdev, .int .u32 (rad : Int), .int .i64 rbi, .int .i64 rpr, .int .i64 rou] 91) (.cells #[.slice none 0 0, .slice none 0 0, .slice none 0 0, .slice none 0 0] 38) (.cells #[.slice ap T.ports.length cp, .slice al T.links.length cl, .slice aa T.aces.length ca, .slice none 0 0] 38)
  have hrone : ∀ u ∈ rs, u.oneCell' = true := fun u hu => by
    obtain ⟨i, hi, rfl⟩ := List.mem_iff_getElem.1 hu
    obtain ⟨ao, c, he, _⟩ := own_form (h.each i hi (h.len ▸ hi))
    rw [he]
    rfl
  have hlen := h.len
  have HBW := Lib.hid hBw
  clear h hBw
  have HW0 := Lib.hid hNEW
  have HK4 := Lib.hid hNEW.2.2.2.2
  have hdoc4 := HD.out.below HK4.out
  have HROW : Hid (∀ j u, rs[j]? = some u → ((((w.alloc (.cells #[.slice ap T.ports.length cp, .slice al T.links.length cl, .slice aa T.aces.length ca, .slice (some ⟨g, 0, none⟩) ls.length cap] 38)).alloc (.cells #[.bool false, .int .i64 rid, .int .i64 rdev, .int .u32 (rad : Int), .int .i64 rbi, .int .i64 rpr, .int .i64 rou] 91)).alloc (.cells #[.slice none 0 0, .slice none 0 0, .slice none 0 0, .slice none 0 0] 38)).alloc (.cells #[.slice ap T.ports.length cp, .slice al T.links.length cl, .slice aa T.aces.length ca, .slice none 0 0] 38)).cell? ((⟨g, 0, none⟩ : Addr).add j) = some u) := Lib.hid (by
    intro j u hu
    have hj : j < rs.length := (List.getElem?_eq_some_iff.1 hu).1
    have hr4 := hdoc4.row
    rw [hlen] at hr4
    have hr := hr4.cellAt (j * 1) (by omega)
    rw [add_noneO, Nat.zero_add]
    rw [Nat.mul_one] at hr
    exact hr.trans hu)
  clear hNEW hdoc4
  go_enter Tryz.func38, Tryz.ntmps38
  go_upto_region 2 with (fail)
  generalize (((w.alloc (.cells #[.slice ap T.ports.length cp, .slice al T.links.length cl, .slice aa T.aces.length ca, .slice (some ⟨g, 0, none⟩) ls.length cap] 38)).alloc (.cells #[.bool false, .int .i64 rid, .int .i64 rdev, .int .u32 (rad : Int), .int .i64 rbi, .int .i64 rpr, .int .i64 rou] 91)).alloc (.cells #[.slice none 0 0, .slice none 0 0, .slice none 0 0, .slice none 0 0] 38)).alloc (.cells #[.slice ap T.ports.length cp, .slice al T.links.length cl, .slice aa T.aces.length ca, .slice none 0 0] 38) = w1 at *
  obtain ⟨hA, hB, hC, hD, _⟩ := HW0.out
  have a0 := cell_of hA 0
  have a1 := cell_of hA 1
  have a2 := cell_of hA 2
  have a3 := cell_of hA 3
  have d3 := cell_of hD 3
  simp only [List.getElem?_toArray, List.getElem?_cons_zero, List.getElem?_cons_succ] at a0 a1 a2 a3 d3
  clear hA hB hC hD
  go_upto_region 3 with (at_builtin; go_must (refine wpList_append_lies _ rfl (.tmp 17) (.tmp 19) 36 rfl w.heap.size 183 i0 _ 1 24 Tryz.underlying36 hi hz0 hz1 hz2 rfl (by decide) (.slice none 0 0) 0 [] rfl (World.ownsRow_nil _ _ _ _) ⟨g, 0, none⟩ ls.length cap rs rfl (by omega) HROW.out hrone h0 ?_ ?_ ?_ _ rfl ?_); (· unfold maxLen; omega); (· omega); (· exact HK4.out.size); intro g9 cap9 w9 how9 hgr9 hat9 hlt9; have HOW9 := Lib.hid how9; have HGR9 := Lib.hid hgr9; have HAT9 := Lib.hid hat9; have hd9 := (hgr9.block (w.heap.size + 1 + 1 + 1) (lt_of_block HW0.out.2.2.2.1) (by simp [Value.ownBlock])).trans HW0.out.2.2.2.1; have e3 := And.intro (cell_of hd9 3) (unfrozen_of hd9 3); simp only [List.getElem?_toArray, List.getElem?_cons_zero, List.getElem?_cons_succ] at e3; clear how9 hgr9 hat9 hlt9 hd9)
  have hown9 := HOW9.out
  simp only [Nat.zero_add, List.nil_append] at hown9
  have hg9 : g9 = w1.heap.size := by
    rcases HAT9.out with e | e
    · simp [Value.ownBlock] at e
    · exact e
  have HCA : Hid (CA w (w9.setCell ⟨w.heap.size + 1 + 1 + 1, 3, none⟩ (.slice (some ⟨g9, 0, none⟩) ls.length cap9)) false ⟨rid, rdev, rad, rbi, rpr, rou⟩ (.slice ap T.ports.length cp) (.slice al T.links.length cl) (.slice aa T.aces.length ca) (.slice (some ⟨g, 0, none⟩) ls.length cap) (.slice (some ⟨g9, 0, none⟩) ls.length cap9)) := Lib.hid (CA.start HW0.out HGR9.out)
  have hkd : Kept [w.heap.size + 1 + 1 + 1] w9 (w9.setCell ⟨w.heap.size + 1 + 1 + 1, 3, none⟩ (.slice (some ⟨g9, 0, none⟩) ls.length cap9)) := Kept.of_setCell w9 ⟨w.heap.size + 1 + 1 + 1, 3, none⟩ _
  have hzz := lt_of_block HW0.out.2.2.2.1
  have HOUT := Lib.hid (own_kept hown9 hkd (fun k hk hm => by
    have : g9 = k := Option.some.inj hk
    rw [List.mem_singleton.1 hm] at this
    omega))
  have HG9 : Hid (w.heap.size + 1 + 1 + 1 < g9) := Lib.hid (by omega)
  have HDOC := Lib.hid (HD.out.below HCA.out.kept)
  clear hown9 hg9 hkd hzz a0 a1 a2 a3 d3
  generalize w9.setCell ⟨w.heap.size + 1 + 1 + 1, 3, none⟩ (.slice (some ⟨g9, 0, none⟩) ls.length cap9) = w2 at *
  clear HOW9 HGR9 HAT9 HROW HW0 HK4
  have HT2 := Lib.hid (HT.out.kept (HCA.out.kept.mono hB0))
  have q0 := cell_of HCA.out.c 0
  have q2 := cell_of HCA.out.c 2
  have q6 := cell_of HCA.out.c 6
  have n0 := cell_of HCA.out.n 0
  have n3 := cell_of HCA.out.n 3
  simp only [List.getElem?_toArray, List.getElem?_cons_zero, List.getElem?_cons_succ] at q0 q2 q6 n0 n3
  have HNI : Hid (∀ err, (rdev < 0 ∨ (ls.length : Int) ≤ rdev) → err = 10 → InsR T.ports ls ⟨rid, rdev, rad, rbi, rpr, rou⟩ (ls, err)) := Lib.hid (fun err h e => by unfold InsR; rw [if_pos h, e])
  by_cases h1 : rdev < 0
  · have hins := HNI.out 10 (Or.inl h1) rfl
    clear q6 n0
    have n0 := cell_of HCA.out.n 0
    have n1 := cell_of HCA.out.n 1
    have n2 := cell_of HCA.out.n 2
    have n3 := cell_of HCA.out.n 3
    have z0 := And.intro (cell_of HCA.out.z 0) (unfrozen_of HCA.out.z 0)
    have z1 := And.intro (cell_of HCA.out.z 1) (unfrozen_of HCA.out.z 1)
    have z2 := And.intro (cell_of HCA.out.z 2) (unfrozen_of HCA.out.z 2)
    have z3 := And.intro (cell_of HCA.out.z 3) (unfrozen_of HCA.out.z 3)
    simp only [List.getElem?_toArray, List.getElem?_cons_zero, List.getElem?_cons_succ] at n0 n1 n2 n3 z0 z1 z2 z3
    go_wp2_with (fail)
    exact bodyPost_ret (v := .tuple #[.agg #[.slice ap T.ports.length cp, .slice al T.links.length cl, .slice aa T.aces.length ca, .slice (some ⟨g, 0, none⟩) ls.length cap], .int .i64 10]) (by simp [results, Tryz.results38, go_sem, z0, z1, z2, z3]) rfl (RInsPost.same (hins) HCA.out HDOC.out HLO.out)
  · by_cases h2 : (ls.length : Int) ≤ rdev
    · have hins := HNI.out 10 (Or.inr h2) rfl
      have h1' : decide (rdev < 0) = false := decide_eq_false h1
      have h2' : decide ((ls.length : Int) ≤ rdev) = true := decide_eq_true h2
      clear h1 h2 q6 n0
      have n0 := cell_of HCA.out.n 0
      have n1 := cell_of HCA.out.n 1
      have n2 := cell_of HCA.out.n 2
      have n3 := cell_of HCA.out.n 3
      have z0 := And.intro (cell_of HCA.out.z 0) (unfrozen_of HCA.out.z 0)
      have z1 := And.intro (cell_of HCA.out.z 1) (unfrozen_of HCA.out.z 1)
      have z2 := And.intro (cell_of HCA.out.z 2) (unfrozen_of HCA.out.z 2)
      have z3 := And.intro (cell_of HCA.out.z 3) (unfrozen_of HCA.out.z 3)
      simp only [List.getElem?_toArray, List.getElem?_cons_zero, List.getElem?_cons_succ] at n0 n1 n2 n3 z0 z1 z2 z3
      go_wp2_with (fail)
      exact bodyPost_ret (v := .tuple #[.agg #[.slice ap T.ports.length cp, .slice al T.links.length cl, .slice aa T.aces.length ca, .slice (some ⟨g, 0, none⟩) ls.length cap], .int .i64 10]) (by simp [results, Tryz.results38, go_sem, z0, z1, z2, z3]) rfl (RInsPost.same (hins) HCA.out HDOC.out HLO.out)
    · obtain ⟨d, rfl⟩ : ∃ d : Nat, rdev = d := ⟨rdev.toNat, by omega⟩
      have hdl : d < ls.length := by omega
      have hdp : d < T.ports.length := by have := HNP.out; omega
      have h1' : decide (((d : Nat) : Int) < 0) = false := decide_eq_false h1
      have h2' : decide ((ls.length : Int) ≤ (d : Int)) = false := decide_eq_false h2
      have hno : ¬ (((d : Nat) : Int) < 0 ∨ (ls.length : Int) ≤ (d : Int)) := by omega
      clear h1 h2 HNI
      obtain ⟨bp, op, cp2, hep, hpc⟩ := HT2.out.portAt hdp
      cases hep
      have HNI : Hid (∀ fo, (if rou < -1 ∨ T.ports[d] ≤ rou then fo = (ls, 11) else if hasL ls rid = true then fo = (ls, 4) else ∃ f1, AddS ls[d] ⟨rid, (d : Int), rad, rbi, rpr, rou⟩ f1 ∧ fo = (ls.set d f1.1, f1.2)) → InsR T.ports ls ⟨rid, (d : Int), rad, rbi, rpr, rou⟩ fo) := Lib.hid (fun fo hf => by
        unfold InsR
        rw [if_neg hno]
        simp only [Int.toNat_natCast]
        rw [getElem!_pos T.ports d hdp, getElem!_pos ls d hdl]
        exact hf)
      clear hno
      have h5' : (d : Int) < (T.ports.length : Int) := by omega
      generalize T.ports[d] = y at *
      go_wp2_with (fail)
      have hkd : Below w2.heap.size w2 w2.drew := (Below.refl _ _).drew
      have HCD := Lib.hid (HCA.out.next hkd)
      have HDD := Lib.hid (HDOC.out.below hkd)
      have HOD := Lib.hid (own_kept HOUT.out (Kept.of_below (S := []) hkd) (by simp))
      clear hkd
      by_cases h3 : rou < -1 ∨ y ≤ rou
      · have hins := HNI.out (ls, 11) (by rw [if_pos h3])
        have h4 : decide (rou < -1) = true ∨ (decide (rou < -1) = false ∧ decide (y ≤ rou) = true) := by
          rcases Int.lt_or_le rou (-1) with h | h
          · exact Or.inl (decide_eq_true h)
          · exact Or.inr ⟨decide_eq_false (by omega), decide_eq_true (by omega)⟩
        clear h3
        rcases h4 with h4 | ⟨h4, h5⟩
        · go_region
          clear q0 q2 q6 n0 n3 hpc
          generalize w2.drew = wd at *
          have n0 := cell_of HCD.out.n 0
          have n1 := cell_of HCD.out.n 1
          have n2 := cell_of HCD.out.n 2
          have n3 := cell_of HCD.out.n 3
          have z0 := And.intro (cell_of HCD.out.z 0) (unfrozen_of HCD.out.z 0)
          have z1 := And.intro (cell_of HCD.out.z 1) (unfrozen_of HCD.out.z 1)
          have z2 := And.intro (cell_of HCD.out.z 2) (unfrozen_of HCD.out.z 2)
          have z3 := And.intro (cell_of HCD.out.z 3) (unfrozen_of HCD.out.z 3)
          simp only [List.getElem?_toArray, List.getElem?_cons_zero, List.getElem?_cons_succ] at n0 n1 n2 n3 z0 z1 z2 z3
          go_wp2_with (fail)
          exact bodyPost_ret (v := .tuple #[.agg #[.slice (some ⟨bp, op, none⟩) T.ports.length cp, .slice al T.links.length cl, .slice aa T.aces.length ca, .slice (some ⟨g, 0, none⟩) ls.length cap], .int .i64 11]) (by simp [results, Tryz.results38, go_sem, z0, z1, z2, z3]) rfl (RInsPost.same (hins) HCD.out HDD.out HLO.out)
        · go_region
          clear q0 q2 q6 n0 n3 hpc
          generalize w2.drew = wd at *
          have n0 := cell_of HCD.out.n 0
          have n1 := cell_of HCD.out.n 1
          have n2 := cell_of HCD.out.n 2
          have n3 := cell_of HCD.out.n 3
          have z0 := And.intro (cell_of HCD.out.z 0) (unfrozen_of HCD.out.z 0)
          have z1 := And.intro (cell_of HCD.out.z 1) (unfrozen_of HCD.out.z 1)
          have z2 := And.intro (cell_of HCD.out.z 2) (unfrozen_of HCD.out.z 2)
          have z3 := And.intro (cell_of HCD.out.z 3) (unfrozen_of HCD.out.z 3)
          simp only [List.getElem?_toArray, List.getElem?_cons_zero, List.getElem?_cons_succ] at n0 n1 n2 n3 z0 z1 z2 z3
          go_wp2_with (fail)
          exact bodyPost_ret (v := .tuple #[.agg #[.slice (some ⟨bp, op, none⟩) T.ports.length cp, .slice al T.links.length cl, .slice aa T.aces.length ca, .slice (some ⟨g, 0, none⟩) ls.length cap], .int .i64 11]) (by simp [results, Tryz.results38, go_sem, z0, z1, z2, z3]) rfl (RInsPost.same (hins) HCD.out HDD.out HLO.out)
      · have h3' : decide (rou < -1) = false := decide_eq_false (by omega)
        have h4' : decide (y ≤ rou) = false := decide_eq_false (by omega)
        have HNJ := Lib.hid (fun fo hf => HNI.out fo (by rw [if_neg h3]; exact hf))
        clear h3
        go_region
        clear q0 q2 q6 n0 n3 h1' h2' h3' h4' hpc h5' HNI
        generalize w2.drew = wd at *
        have n0 := cell_of HCD.out.n 0
        have n1 := cell_of HCD.out.n 1
        have n2 := cell_of HCD.out.n 2
        have n3 := cell_of HCD.out.n 3
        have q1 := cell_of HCD.out.c 1
        simp only [List.getElem?_toArray, List.getElem?_cons_zero, List.getElem?_cons_succ] at n0 n1 n2 n3 q1
        have HH := Lib.hid (rnhas_calls (vp := .slice (some ⟨bp, op, none⟩) T.ports.length cp) (vl := .slice al T.links.length cl) (va := .slice aa T.aces.length ca) HDD.out hl HLL.out rid)
        go_wp2_with (fail)
        refine Calls.mono HH.out ?_
        rintro e w3 ⟨he, k3⟩
        have HC3 := Lib.hid (HCD.out.next k3)
        have HD3 := Lib.hid (HDD.out.below k3)
        have HO3 := Lib.hid (own_kept HOD.out (Kept.of_below (S := []) k3) (by simp))
        clear k3 n0 n1 n2 n3 q1
        cases hb : hasL ls rid with
        | true =>
          have hins := HNJ.out (ls, 4) (by rw [if_pos hb])
          rw [hb] at he
          subst he
          clear hb
          have n0 := cell_of HC3.out.n 0
          have n1 := cell_of HC3.out.n 1
          have n2 := cell_of HC3.out.n 2
          have n3 := cell_of HC3.out.n 3
          have z0 := And.intro (cell_of HC3.out.z 0) (unfrozen_of HC3.out.z 0)
          have z1 := And.intro (cell_of HC3.out.z 1) (unfrozen_of HC3.out.z 1)
          have z2 := And.intro (cell_of HC3.out.z 2) (unfrozen_of HC3.out.z 2)
          have z3 := And.intro (cell_of HC3.out.z 3) (unfrozen_of HC3.out.z 3)
          simp only [List.getElem?_toArray, List.getElem?_cons_zero, List.getElem?_cons_succ] at n0 n1 n2 n3 z0 z1 z2 z3
          go_wp2_with (fail)
          exact bodyPost_ret (v := .tuple #[.agg #[.slice (some ⟨bp, op, none⟩) T.ports.length cp, .slice al T.links.length cl, .slice aa T.aces.length ca, .slice (some ⟨g, 0, none⟩) ls.length cap], .int .i64 4]) (by simp [results, Tryz.results38, go_sem, z0, z1, z2, z3]) rfl (RInsPost.same (hins) HC3.out HD3.out HLO.out)
        | false =>
          have HNK := Lib.hid (fun fo hf => HNJ.out fo (by rw [if_neg (by simp [hb])]; exact hf))
          rw [hb] at he
          subst he
          clear hb HNJ
          obtain ⟨gg, capz, aoz, cz, he, e0, hrsi, hO, haz⟩ := HD3.out.rowAt hdl
          cases he
          have HCALL : Hid (∀ W, Below w3.heap.size w3 W → Calls Tryz.prog 109 #[.slice aoz ls[d].length cz, .agg #[.int .i64 rid, .int .i64 (d : Int), .int .u32 (rad : Int), .int .i64 rbi, .int .i64 rpr, .int .i64 rou]] W fun e w' => ∃ v' l2 e2, e = .returned (.tuple #[v', .int .i64 e2]) ∧ AddS ls[d] ⟨rid, (d : Int), rad, rbi, rpr, rou⟩ (l2, e2) ∧ w'.ownsRow B 89 6 v' l2.length (rlCells l2) ∧ (∀ x, v'.ownBlock = some x → x ∈ rfoot (.slice (some ⟨g, 0, none⟩) ls.length cap) rs ∨ w3.heap.size ≤ x) ∧ Below w3.heap.size w3 w') := Lib.hid (fun W kW => (radd_calls (own_kept hO (Kept.of_below (S := []) kW) (by simp)) (HLT.out _ (List.getElem_mem hdl)) ⟨rid, (d : Int), rad, rbi, rpr, rou⟩ HRA.out).mono (by
            rintro e w' ⟨v', ⟨l2, e2⟩, he, hadd, hro, hk⟩
            have hks := HC3.out.kept.size
            refine ⟨v', l2, e2, he, hadd, row_or (own_kept hO (Kept.of_below (S := []) (kW.trans (hk.mono kW.size))) (by simp)) (Nat.le_trans (Nat.le_trans HBW.out hks) kW.size) hro, fun x hx => ?_, kW.trans (hk.mono kW.size)⟩
            rcases hro with h1 | ⟨h1, _⟩
            · have := (own_ge h1 hx).1
              have := kW.size
              exact Or.inr (by omega)
            · exact Or.inl (mem_rfoot.2 (Or.inr ⟨_, List.mem_of_getElem? hrsi, h1 ▸ hx⟩))))
          have HSELF : Hid (ls.set d ls[d] = ls) := Lib.hid (List.set_getElem_self hdl)
          have HCELL : Hid (∀ W, Below w3.heap.size w3 W → (W.cell? ⟨w.heap.size, 3, none⟩ = some (.slice (some ⟨g, 0, none⟩) ls.length cap) ∧ W.cell? ⟨g, d, none⟩ = some (.slice aoz ls[d].length cz)) ∧ W.cell? ⟨w.heap.size + 1, 1, none⟩ = some (.int .i64 rid) ∧ W.cell? ⟨w.heap.size + 1, 2, none⟩ = some (.int .i64 (d : Int)) ∧ W.cell? ⟨w.heap.size + 1, 3, none⟩ = some (.int .u32 (rad : Int)) ∧ W.cell? ⟨w.heap.size + 1, 4, none⟩ = some (.int .i64 rbi) ∧ W.cell? ⟨w.heap.size + 1, 5, none⟩ = some (.int .i64 rpr) ∧ W.cell? ⟨w.heap.size + 1, 6, none⟩ = some (.int .i64 rou)) := Lib.hid (fun W kW => by
            have hc := (HC3.out.next kW).c
            exact ⟨⟨cell_of (HC3.out.next kW).n 3, (Kept.of_below (S := []) kW).cell e0 (by simp)⟩, cell_of hc 1, cell_of hc 2, cell_of hc 3, cell_of hc 4, cell_of hc 5, cell_of hc 6⟩)
          generalize hls : ls[d] = l at *
          have hdi : (d : Int) < (ls.length : Int) := by omega
          have HLS := Lib.hid hls
          clear hO haz hrsi hls e0
          go_upto_region 19 with (fail)
          have hBW := (Below.refl w3.heap.size w3).drew
          have hS := HCELL.out _ hBW
          go_region_held3 (fun w' => (w'.cell? ⟨w.heap.size, 3, none⟩ = some (.slice (some ⟨g, 0, none⟩) ls.length cap) ∧ w'.cell? ⟨g, d, none⟩ = some (.slice aoz l.length cz)) ∧ w'.cell? ⟨w.heap.size + 1, 1, none⟩ = some (.int .i64 rid) ∧ w'.cell? ⟨w.heap.size + 1, 2, none⟩ = some (.int .i64 (d : Int)) ∧ w'.cell? ⟨w.heap.size + 1, 3, none⟩ = some (.int .u32 (rad : Int)) ∧ w'.cell? ⟨w.heap.size + 1, 4, none⟩ = some (.int .i64 rbi) ∧ w'.cell? ⟨w.heap.size + 1, 5, none⟩ = some (.int .i64 rpr) ∧ w'.cell? ⟨w.heap.size + 1, 6, none⟩ = some (.int .i64 rou)) (first | assumption) (first | (go_at_call 109; refine Calls.mono (HCALL.out _ (by assumption)) ?_; rintro e w' ⟨v', l2, e2, rfl, hadd', hv', hx', hB'⟩; have hS' := HCELL.out _ hB'; have HADD := Lib.hid hadd'; have HV := Lib.hid hv'; have HX := Lib.hid hx'; clear hadd' hv' hx'))
          have HCW := Lib.hid (HC3.out.next hB')
          have HDW := Lib.hid (HD3.out.below hB')
          have HOW := Lib.hid (own_kept HO3.out (Kept.of_below (S := []) hB') (by simp))
          have HGW : Hid (g9 < w3.heap.size ∧ w.heap.size ≤ w3.heap.size) := Lib.hid ⟨own_inN HO3.out rfl, HC3.out.kept.size⟩
          clear hB' hS' hBW hS
          rcases HADD.out with ⟨_, hfo⟩ | ⟨_, _, hfo⟩ | ⟨_, _, k, _, hfo⟩
          · injection hfo with ha hb
            subst ha
            subst hb
            have hins := HNK.out (ls, 13) ⟨(l2, 13), HADD.out, by rw [HSELF.out]⟩
            have n0 := cell_of HCW.out.n 0
            have n1 := cell_of HCW.out.n 1
            have n2 := cell_of HCW.out.n 2
            have n3 := cell_of HCW.out.n 3
            have z0 := And.intro (cell_of HCW.out.z 0) (unfrozen_of HCW.out.z 0)
            have z1 := And.intro (cell_of HCW.out.z 1) (unfrozen_of HCW.out.z 1)
            have z2 := And.intro (cell_of HCW.out.z 2) (unfrozen_of HCW.out.z 2)
            have z3 := And.intro (cell_of HCW.out.z 3) (unfrozen_of HCW.out.z 3)
            simp only [List.getElem?_toArray, List.getElem?_cons_zero, List.getElem?_cons_succ] at n0 n1 n2 n3 z0 z1 z2 z3
            go_wp2_with (fail)
            exact bodyPost_ret (v := .tuple #[.agg #[.slice (some ⟨bp, op, none⟩) T.ports.length cp, .slice al T.links.length cl, .slice aa T.aces.length ca, .slice (some ⟨g, 0, none⟩) ls.length cap], .int .i64 13]) (by simp [results, Tryz.results38, go_sem, z0, z1, z2, z3]) rfl (RInsPost.same (hins) HCW.out HDW.out HLO.out)
          · injection hfo with ha hb
            subst ha
            subst hb
            have hins := HNK.out (ls, 4) ⟨(l2, 4), HADD.out, by rw [HSELF.out]⟩
            have n0 := cell_of HCW.out.n 0
            have n1 := cell_of HCW.out.n 1
            have n2 := cell_of HCW.out.n 2
            have n3 := cell_of HCW.out.n 3
            have z0 := And.intro (cell_of HCW.out.z 0) (unfrozen_of HCW.out.z 0)
            have z1 := And.intro (cell_of HCW.out.z 1) (unfrozen_of HCW.out.z 1)
            have z2 := And.intro (cell_of HCW.out.z 2) (unfrozen_of HCW.out.z 2)
            have z3 := And.intro (cell_of HCW.out.z 3) (unfrozen_of HCW.out.z 3)
            simp only [List.getElem?_toArray, List.getElem?_cons_zero, List.getElem?_cons_succ] at n0 n1 n2 n3 z0 z1 z2 z3
            go_wp2_with (fail)
            exact bodyPost_ret (v := .tuple #[.agg #[.slice (some ⟨bp, op, none⟩) T.ports.length cp, .slice al T.links.length cl, .slice aa T.aces.length ca, .slice (some ⟨g, 0, none⟩) ls.length cap], .int .i64 4]) (by simp [results, Tryz.results38, go_sem, z0, z1, z2, z3]) rfl (RInsPost.same (hins) HCW.out HDW.out HLO.out)
          · injection hfo with ha hb
            subst hb
            clear ha
            have hins := HNK.out (ls.set d l2, 0) ⟨(l2, 0), HADD.out, rfl⟩
            obtain ⟨ao2, c2, rfl, _⟩ := own_form HV.out
            have o3 := cell_of HCW.out.o 3
            have r1 := HOW.out.cellAt (d * 1) (by omega)
            have r2 := HOW.out.frozenAt d
            rw [Nat.mul_one] at r1
            have hir : d < rs.length := by omega
            rw [List.getElem?_eq_getElem hir] at r1
            simp only [List.getElem?_toArray, List.getElem?_cons_zero, List.getElem?_cons_succ] at o3
            have HINS := Lib.hid hins
            clear hins
            go_upto_region 23 with (fail)
            have hk8 : Kept [g9] w' (w'.setCell ⟨g9, d, none⟩ (.slice ao2 l2.length c2)) := Kept.of_setCell w' ⟨g9, d, none⟩ _
            have HC8 := Lib.hid (HCW.out.step hk8 (fun x hx => (List.mem_singleton.1 hx).symm ▸ HG9.out))
            have HO8 := Lib.hid (HOW.out.stored d (.slice ao2 l2.length c2)).1
            have HD8 := Lib.hid (HDW.out.kept hk8 (fun x hx hc => by have := (HLO.out x hx).2; have := HG9.out; have := List.mem_singleton.1 hc; omega))
            have HV8 := Lib.hid (own_kept HV.out hk8 (fun x hx hc => by
              have e := List.mem_singleton.1 hc
              subst e
              have := HG9.out
              have := HGW.out
              rcases HX.out x hx with h1 | h1
              · have := (HLO.out x h1).2
                omega
              · omega))
            clear hk8 r1 r2 o3
            generalize w'.setCell ⟨g9, d, none⟩ (.slice ao2 l2.length c2) = w8 at *
            have o0 := cell_of HC8.out.o 0
            have o1 := cell_of HC8.out.o 1
            have o2 := cell_of HC8.out.o 2
            have o3 := cell_of HC8.out.o 3
            have z0 := And.intro (cell_of HC8.out.z 0) (unfrozen_of HC8.out.z 0)
            have z1 := And.intro (cell_of HC8.out.z 1) (unfrozen_of HC8.out.z 1)
            have z2 := And.intro (cell_of HC8.out.z 2) (unfrozen_of HC8.out.z 2)
            have z3 := And.intro (cell_of HC8.out.z 3) (unfrozen_of HC8.out.z 3)
            simp only [List.getElem?_toArray, List.getElem?_cons_zero, List.getElem?_cons_succ] at o0 o1 o2 o3 z0 z1 z2 z3
            go_wp2_with (fail)
            have hk := kept_set4 w8 (w.heap.size + 1 + 1) (.slice (some ⟨bp, op, none⟩) T.ports.length cp) (.slice al T.links.length cl) (.slice aa T.aces.length ca) (.slice (some ⟨g9, 0, none⟩) ls.length cap9)
            exact bodyPost_ret (v := .tuple #[.agg #[.slice (some ⟨bp, op, none⟩) T.ports.length cp, .slice al T.links.length cl, .slice aa T.aces.length ca, .slice (some ⟨g9, 0, none⟩) ls.length cap9], .int .i64 0]) (by simp [results, Tryz.results38, go_sem, z0, z1, z2, z3]) rfl ⟨.slice (some ⟨g9, 0, none⟩) ls.length cap9, rs.set d (.slice ao2 l2.length c2), (ls.set d l2, 0), HINS.out, rfl, by
              refine (HD8.out.kept hk fun x hx hc => ?_).out_put (b := w.heap.size) HBW.out (own_kept HO8.out hk fun x hx hc => ?_) (own_kept HV8.out hk fun x hx hc => ?_)
              · have := (HLO.out x hx).2
                have := List.mem_singleton.1 hc
                omega
              · have : g9 = x := Option.some.inj hx
                have := HG9.out
                have := List.mem_singleton.1 hc
                omega
              · have := List.mem_singleton.1 hc
                have := HGW.out
                have := HG9.out
                rcases HX.out x hx with h1 | h1
                · have := (HLO.out x h1).2
                  omega
                · omega, fun x hx => by
              rcases rfoot_put (vr := .slice (some ⟨g, 0, none⟩) ls.length cap) hx with h1 | h1 | h1
              · have : g9 = x := Option.some.inj h1
                have := HG9.out
                exact Or.inr (by omega)
              · rcases HX.out x h1 with h2 | h2
                · exact Or.inl h2
                · have := HGW.out
                  exact Or.inr (by omega)
              · exact Or.inl h1, HC8.out.kept.trans (hk.below HC8.out.kept.size (fun x hx => by rw [List.mem_singleton.1 hx]; omega))⟩
end Go.Proofs.YtjoblahedgpgbaaGreat

namespace Go.Proofs.YtjoblahedgpgbaaGreat
open Go.RowKit

def Op.val (o : Op) : Value := .agg #[.bool o.del, .int .i64 o.rule.id, .int .i64 o.rule.dev, .int .u32 (o.rule.addr : Int), .int .i64 o.rule.bits, .int .i64 o.rule.prio, .int .i64 o.rule.out]
variable {w : World} {B B0 nb : Nat} {vp vl va vt : Value} {ts : List TD} {T : Tp}
theorem nchange_calls (h : NetAt w B nb vp vl va vt ts) (hT : TpIn B0 w vp vl va T) (hB0 : B0 ≤ B) (hok : NetOk T.ports (TD.Ls ts)) (hl : T.ports.length ≤ 40) (hL : lenT (TD.Ls ts) < 100000) (o : Op) (ho : o.rule.Wf) :
    Calls Tryz.prog 71 #[.pointer (some ⟨nb, 0, none⟩), o.val] w fun e w' =>
      ∃ ts', e = .returned (.int .i64 (chgS T.ports (TD.Ls ts) o).2) ∧ NetAt w' B nb vp vl va vt ts' ∧ TD.Ls ts' = (chgS T.ports (TD.Ls ts) o).1 ∧ Turn (feet ts) (feet ts') w w' := by
  obtain ⟨del, r⟩ := o
  have hln : ts.length = T.ports.length := by have := hok.len; simpa [TD.Ls] using this
  have hLL : ∀ t ∈ ts, t.L.length < 100000 := fun t ht => by
    have := lenT_mem (Ls := TD.Ls ts) (L := t.L) (List.mem_map_of_mem ht)
    omega
  cases del with
  | true => exact nchange_del h (by omega) hLL r ho.2.1
  | false => exact nchange_add h hT hB0 hln.symm (by omega) hLL r ho.1 ho.2.1
end Go.Proofs.YtjoblahedgpgbaaGreat

namespace Go.Proofs.YtjoblahedgpgbaaGreat
open Go.RowKit

/-- What a change of the document's net leaves. -/
def ChgPost (ports : List Int) (Ls : List (List Rl)) (o : Op) (B : Nat) (w : World) (vp vl va vr : Value) (rs : List Value) (e : Ending) (w' : World) : Prop :=
  ∃ vr' rs' ls', e = .returned (.tuple #[.agg #[vp, vl, va, vr'], .int .i64 (chgS ports Ls o).2]) ∧ RNetAt w' B vr' rs' ls' ∧ Pairs (chgS ports Ls o).1 ls' ∧ (∀ x ∈ rfoot vr' rs', x ∈ rfoot vr rs ∨ w.heap.size ≤ x) ∧ Below w.heap.size w w'
variable {w : World} {B B0 : Nat} {vp vl va vr : Value} {rs : List Value} {ls Ls : List (List Rl)} {T : Tp}
theorem Pairs.nodup (h : Pairs Ls ls) : ∀ l ∈ ls, (l.map (·.id)).Nodup := by
  intro l hl
  obtain ⟨i, hi, rfl⟩ := List.mem_iff_getElem.1 hl
  exact (h.get i (by rw [h.len]; exact hi) hi).ids
theorem rnchange_calls (h : RNetAt w B vr rs ls) (hP : Pairs Ls ls) (hT : TpIn B0 w vp vl va T) (hB0 : B0 ≤ w.heap.size) (hBw : B ≤ w.heap.size) (hok : NetOk T.ports Ls) (hp0 : 0 < T.ports.length) (hp : T.ports.length ≤ 40) (hL : lenT Ls < 100000) (o : Op) (ho : o.rule.Wf) :
    Calls Tryz.prog 38 #[.agg #[vp, vl, va, vr], o.val] w fun e w' => ChgPost T.ports Ls o B w vp vl va vr rs e w' := by
  have hll : ls.length = T.ports.length := by rw [← hP.len, hok.len]
  obtain ⟨ap, cp, rfl, _⟩ := hT.ports
  obtain ⟨al, cl, rfl, _⟩ := hT.links
  obtain ⟨aa, ca, rfl, _⟩ := hT.aces
  obtain ⟨del, r⟩ := o
  cases del with
  | true =>
    refine (rchg_del h hBw (by omega) (by omega) (by rw [← hP.lens]; exact hL) hP.nodup r.id r.dev r.addr r.bits r.prio r.out).mono ?_
    rintro e w' ⟨vr', rs', he, hd, hf, hk⟩
    have hc := hP.del r.id
    exact ⟨vr', rs', _, by rw [he, hc.2]; rfl, hd, hc.1, hf, hk⟩
  | false =>
    refine (rchg_add h hT hB0 hBw (by omega) (by omega) hll.symm (by rw [← hP.lens]; exact hL) r.id r.dev r.addr r.bits r.prio r.out ho.1).mono ?_
    rintro e w' ⟨vr', rs', fo, hi, he, hd, hf, hk⟩
    have hc := hP.ins hi
    exact ⟨vr', rs', _, by rw [he, hc.2]; rfl, hd, hc.1, hf, hk⟩
end Go.Proofs.YtjoblahedgpgbaaGreat
