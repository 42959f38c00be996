/- The document's Change of a net: what it lays in memory. · The document's Change of a net: a rule that goes. -/
import Derived.Test.YtiedhjmnjpkcoaaRNetL
import Derived.Test.YtiedhjmnjpkcoaaPlay
import Derived.Deep.AppendLies
import Derived.Deep.Onto
namespace Go.Proofs.Ytiedhjmnjpkcoaa
set_option linter.unusedVariables false
set_option linter.unusedSimpArgs false
open Go.RowKit

theorem four_new (w : World) (a b c d : Obj) : ((((w.alloc a).alloc b).alloc c).alloc d).heap[w.heap.size]? = some a ∧ ((((w.alloc a).alloc b).alloc c).alloc d).heap[w.heap.size + 1]? = some b ∧ ((((w.alloc a).alloc b).alloc c).alloc d).heap[w.heap.size + 1 + 1]? = some c ∧ ((((w.alloc a).alloc b).alloc c).alloc d).heap[w.heap.size + 1 + 1 + 1]? = some d ∧ Below w.heap.size w ((((w.alloc a).alloc b).alloc c).alloc d) := by
  have e1 : (w.alloc a).heap.size = w.heap.size + 1 := by simp
  have e2 : ((w.alloc a).alloc b).heap.size = w.heap.size + 1 + 1 := by simp
  have e3 : (((w.alloc a).alloc b).alloc c).heap.size = w.heap.size + 1 + 1 + 1 := by simp
  have h1 := heap_alloc_new w a
  have h2 := heap_alloc_new (w.alloc a) b
  have h3 := heap_alloc_new ((w.alloc a).alloc b) c
  have h4 := heap_alloc_new (((w.alloc a).alloc b).alloc c) d
  rw [e1] at h2
  rw [e2] at h3
  rw [e3] at h4
  exact ⟨blk_alloc (blk_alloc (blk_alloc h1 b) c) d, blk_alloc (blk_alloc h2 c) d, blk_alloc h3 d, h4, ((((Below.refl w.heap.size w).alloc (Nat.le_refl _) _).alloc (by omega) _).alloc (by omega) _).alloc (by omega) _⟩

/-- The boxes of a call of the document's Change. -/
structure CA (w0 w : World) (del : Bool) (r : Rl) (vp vl va vr vo : Value) : Prop where
  n : w.heap[w0.heap.size]? = some (.cells #[vp, vl, va, vr] 69 (0, 0))
  c : w.heap[w0.heap.size + 1]? = some (.cells #[.bool del, .int .i64 r.id, .int .i64 r.dev, .int .u32 (r.addr : Int), .int .i64 r.bits, .int .i64 r.prio, .int .i64 r.out] 47 (0, 0))
  z : w.heap[w0.heap.size + 1 + 1]? = some (.cells #[.slice none 0 0, .slice none 0 0, .slice none 0 0, .slice none 0 0] 69 (0, 0))
  o : w.heap[w0.heap.size + 1 + 1 + 1]? = some (.cells #[vp, vl, va, vo] 69 (0, 0))
  kept : Below w0.heap.size w0 w
variable {w0 w w' : World} {del : Bool} {r : Rl} {vp vl va vr vo : Value}
theorem CA.step (h : CA w0 w del r vp vl va vr vo) {S : List Nat} (k : Kept S w w') (hs : ∀ x ∈ S, w0.heap.size + 3 < x) : CA w0 w' del r vp vl va vr vo := by
  have f : ∀ x, x ≤ w0.heap.size + 3 → x ∉ S := fun x hx hm => by have := hs x hm; omega
  exact ⟨(k.block _ (lt_of_block h.n) (f _ (by omega))).trans h.n, (k.block _ (lt_of_block h.c) (f _ (by omega))).trans h.c, (k.block _ (lt_of_block h.z) (f _ (by omega))).trans h.z, (k.block _ (lt_of_block h.o) (f _ (by omega))).trans h.o, h.kept.trans (k.below h.kept.size (fun x hx => by have := hs x hx; omega))⟩
theorem CA.next (h : CA w0 w del r vp vl va vr vo) (k : Below w.heap.size w w') : CA w0 w' del r vp vl va vr vo := h.step (Kept.of_below (S := []) k) (by simp)
theorem CA.start {w1 w9 : World} {r : Rl} (h : w1.heap[w0.heap.size]? = some (.cells #[vp, vl, va, vr] 69 (0, 0)) ∧ w1.heap[w0.heap.size + 1]? = some (.cells #[.bool del, .int .i64 r.id, .int .i64 r.dev, .int .u32 (r.addr : Int), .int .i64 r.bits, .int .i64 r.prio, .int .i64 r.out] 47 (0, 0)) ∧ w1.heap[w0.heap.size + 1 + 1]? = some (.cells #[.slice none 0 0, .slice none 0 0, .slice none 0 0, .slice none 0 0] 69 (0, 0)) ∧ w1.heap[w0.heap.size + 1 + 1 + 1]? = some (.cells #[vp, vl, va, .slice none 0 0] 69 (0, 0)) ∧ Below w0.heap.size w0 w1)
    (hg : w1.grownBy w9 none) : CA w0 (w9.setCell ⟨w0.heap.size + 1 + 1 + 1, 3, none⟩ vo) del r vp vl va vr vo := by
  obtain ⟨a, b, c, d, k⟩ := h
  have hk : Kept [] w1 w9 := Kept.of_grown_none hg
  have f : ∀ x o, w1.heap[x]? = some o → w9.heap[x]? = some o := fun x o ho => (hk.block x (lt_of_block ho) (by simp)).trans ho
  have hlt := lt_of_block d
  exact ⟨blk_setCell (f _ _ a) (show w0.heap.size ≠ w0.heap.size + 1 + 1 + 1 by omega) vo, blk_setCell (f _ _ b) (show w0.heap.size + 1 ≠ w0.heap.size + 1 + 1 + 1 by omega) vo, blk_setCell (f _ _ c) (show w0.heap.size + 1 + 1 ≠ w0.heap.size + 1 + 1 + 1 by omega) vo, set_block (f _ _ d) 3 vo, k.trans ((hk.below k.size (by simp)).trans ((Kept.of_setCell w9 ⟨w0.heap.size + 3, 3, none⟩ vo).below (by have := hk.size; omega) (by first | (simp; done) | (simp; omega))))⟩
def set4 (w : World) (b : Nat) (x y z u : Value) : World := (((w.setCell ⟨b, 0, none⟩ x).setCell ⟨b, 1, none⟩ y).setCell ⟨b, 2, none⟩ z).setCell ⟨b, 3, none⟩ u
theorem kept_set4 (w : World) (b : Nat) (x y z u : Value) : Kept [b] w (set4 w b x y z u) := ((((Kept.refl [b] w).setCell _ _ (by simp)).setCell _ _ (by simp)).setCell _ _ (by simp)).setCell _ _ (by simp)

variable {B b : Nat} {rs : List Value} {ls : List (List Rl)}
theorem RNetAt.out_put (hd : RNetAt w B vr rs ls) (hb : B ≤ b) {i : Nat} {v' : Value} {l' : List Rl} (ho : w.ownsRow b 33 1 vo ls.length (rs.set i v')) (hv : w.ownsRow B 26 6 v' l'.length (rlCells l')) : RNetAt w B vo (rs.set i v') (ls.set i l') := by
  refine ⟨by simp [hd.len], ?_, fun j h1 h2 => ?_⟩
  · rw [List.length_set, hd.len]
    exact ho.mono hb
  · by_cases e : i = j
    · subst e
      simp only [List.getElem_set_self]
      exact hv
    · simp only [List.getElem_set_ne e]
      exact hd.each j (by simpa using h1) (by simpa using h2)
theorem rfoot_put {i : Nat} {v' : Value} {x : Nat} (h : x ∈ rfoot vo (rs.set i v')) : vo.ownBlock = some x ∨ v'.ownBlock = some x ∨ x ∈ rfoot vr rs := by
  rcases mem_rfoot.1 h with h1 | ⟨v, hv, h1⟩
  · exact Or.inl h1
  · rcases List.mem_or_eq_of_mem_set hv with h2 | h2
    · exact Or.inr (Or.inr (mem_rfoot.2 (Or.inr ⟨v, h2, h1⟩)))
    · exact Or.inr (Or.inl (h2 ▸ h1))
/-- A row that is a row of the net, or new. -/
theorem row_or {v v' : Value} {l l' : List Rl} {W : World} (hv : W.ownsRow B 26 6 v l.length (rlCells l)) (hb : B ≤ b) (h : W.ownsRow b 26 6 v' l'.length (rlCells l') ∨ (v' = v ∧ l' = l)) : W.ownsRow B 26 6 v' l'.length (rlCells l') := by
  rcases h with h | ⟨rfl, rfl⟩
  · exact h.mono hb
  · exact hv
end Go.Proofs.Ytiedhjmnjpkcoaa

namespace Go.Proofs.Ytiedhjmnjpkcoaa
open Go.RowKit
variable {w : World} {B : Nat} {ap al aa : Option Addr} {np cp nl cl na ca : Nat} {vr : Value} {rs : List Value} {ls : List (List Rl)}
set_option maxRecDepth 100000 in
set_option maxHeartbeats 8000000 in
theorem rchg_del (h : RNetAt w B vr rs ls) (hBw : B ≤ w.heap.size) (h0 : 0 < ls.length) (hl : ls.length ≤ 40) (hL : lenT ls < 100000) (hnd : ∀ l ∈ ls, (l.map (·.id)).Nodup) (rid rdev : Int) (rad : Nat) (rbi rpr rou : Int) :
    Calls Try.prog 70 #[.agg #[.slice ap np cp, .slice al nl cl, .slice aa na ca, vr], .agg #[.bool true, .int .i64 rid, .int .i64 rdev, .int .u32 (rad : Int), .int .i64 rbi, .int .i64 rpr, .int .i64 rou]] w fun e w' =>
      ∃ vr' rs', e = .returned (.tuple #[.agg #[.slice ap np cp, .slice al nl cl, .slice aa na ca, vr'], .int .i64 (delS ls rid).2]) ∧ RNetAt w' B vr' rs' (delS ls rid).1 ∧ (∀ x ∈ rfoot vr' rs', x ∈ rfoot vr rs ∨ w.heap.size ≤ x) ∧ Below w.heap.size w w' := by
  have HLT := Lib.hid (fun l (hm : l ∈ ls) => Nat.lt_of_le_of_lt (lenT_mem hm) hL)
  have HND := Lib.hid hnd
  clear hnd hL
  obtain ⟨res, hres⟩ : ∃ res, res = delS ls rid := ⟨_, rfl⟩
  rw [← hres]
  have HRES := Lib.hid hres
  clear hres
  obtain ⟨i0, hi, hz0, hz1, hz2⟩ := info_parts rowr_info
  have HD := Lib.hid h
  have HLO : Hid (∀ x ∈ rfoot vr rs, B ≤ x ∧ x < w.heap.size) := Lib.hid h.lo
  obtain ⟨g, cap, rfl, hat0⟩ := h.at h0
  clear hat0
  have hNEW := four_new w (.cells #[.slice ap np cp, .slice al nl cl, .slice aa na ca, .slice (some ⟨g, 0, none⟩) ls.length cap] 69) (.cells #[.bool true, .int .i64 rid, .int .i64 rdev, .int .u32 (rad : Int), .int .i64 rbi, .int .i64 rpr, .int .i64 rou] 47) (.cells #[.slice none 0 0, .slice none 0 0, .slice none 0 0, .slice none 0 0] 69) (.cells #[.slice ap np cp, .slice al nl cl, .slice aa na ca, .slice none 0 0] 69)
  have hrone : ∀ u ∈ rs, u.oneCell' = true := fun u hu => by
    obtain ⟨i, hi, rfl⟩ := List.mem_iff_getElem.1 hu
    obtain ⟨ao, c, he, _⟩ := own_form (h.each i hi (h.len ▸ hi))
    rw [he]
    rfl
  have hlen := h.len
  have HBW := Lib.hid hBw
  clear h hBw
  have HW0 := Lib.hid hNEW
  have HK4 := Lib.hid hNEW.2.2.2.2
  have hdoc4 := HD.out.below HK4.out
  have HROW : Hid (∀ j u, rs[j]? = some u → ((((w.alloc (.cells #[.slice ap np cp, .slice al nl cl, .slice aa na ca, .slice (some ⟨g, 0, none⟩) ls.length cap] 69)).alloc (.cells #[.bool true, .int .i64 rid, .int .i64 rdev, .int .u32 (rad : Int), .int .i64 rbi, .int .i64 rpr, .int .i64 rou] 47)).alloc (.cells #[.slice none 0 0, .slice none 0 0, .slice none 0 0, .slice none 0 0] 69)).alloc (.cells #[.slice ap np cp, .slice al nl cl, .slice aa na ca, .slice none 0 0] 69)).cell? ((⟨g, 0, none⟩ : Addr).add j) = some u) := Lib.hid (by
    intro j u hu
    have hj : j < rs.length := (List.getElem?_eq_some_iff.1 hu).1
    have hr4 := hdoc4.row
    rw [hlen] at hr4
    have hr := hr4.cellAt (j * 1) (by omega)
    rw [add_none, Nat.zero_add]
    rw [Nat.mul_one] at hr
    exact hr.trans hu)
  clear hNEW hdoc4
  go_enter Try.func70, Try.ntmps70
  go_upto_region 2 with (fail)
  generalize (((w.alloc (.cells #[.slice ap np cp, .slice al nl cl, .slice aa na ca, .slice (some ⟨g, 0, none⟩) ls.length cap] 69)).alloc (.cells #[.bool true, .int .i64 rid, .int .i64 rdev, .int .u32 (rad : Int), .int .i64 rbi, .int .i64 rpr, .int .i64 rou] 47)).alloc (.cells #[.slice none 0 0, .slice none 0 0, .slice none 0 0, .slice none 0 0] 69)).alloc (.cells #[.slice ap np cp, .slice al nl cl, .slice aa na ca, .slice none 0 0] 69) = w1 at *
  obtain ⟨hA, hB, hC, hD, _⟩ := HW0.out
  have a0 := cell_of hA 0
  have a1 := cell_of hA 1
  have a2 := cell_of hA 2
  have a3 := cell_of hA 3
  have d3 := cell_of hD 3
  simp only [List.getElem?_toArray, List.getElem?_cons_zero, List.getElem?_cons_succ] at a0 a1 a2 a3 d3
  clear hA hB hC hD
  go_upto_region 3 with (at_builtin; go_must (refine wpList_append_lies _ rfl (.tmp 17) (.tmp 19) 67 rfl w.heap.size 33 i0 _ 1 24 Try.underlying67 hi hz0 hz1 hz2 rfl (by decide) (.slice none 0 0) 0 [] rfl (World.ownsRow_nil _ _ _ _) ⟨g, 0, none⟩ ls.length cap rs rfl (by omega) HROW.out hrone h0 ?_ ?_ ?_ _ rfl ?_); (· unfold maxLen; omega); (· omega); (· exact HK4.out.size); intro g9 cap9 w9 how9 hgr9 hat9 hlt9; have HOW9 := Lib.hid how9; have HGR9 := Lib.hid hgr9; have HAT9 := Lib.hid hat9; have hd9 := (hgr9.block (w.heap.size + 1 + 1 + 1) (lt_of_block HW0.out.2.2.2.1) (by simp [Value.ownBlock])).trans HW0.out.2.2.2.1; have e3 := And.intro (cell_of hd9 3) (unfrozen_of hd9 3); simp only [List.getElem?_toArray, List.getElem?_cons_zero, List.getElem?_cons_succ] at e3; clear how9 hgr9 hat9 hlt9 hd9)
  have hown9 := HOW9.out
  simp only [Nat.zero_add, List.nil_append] at hown9
  have hg9 : g9 = w1.heap.size := by
    rcases HAT9.out with e | e
    · simp [Value.ownBlock] at e
    · exact e
  have HCA : Hid (CA w (w9.setCell ⟨w.heap.size + 1 + 1 + 1, 3, none⟩ (.slice (some ⟨g9, 0, none⟩) ls.length cap9)) true ⟨rid, rdev, rad, rbi, rpr, rou⟩ (.slice ap np cp) (.slice al nl cl) (.slice aa na ca) (.slice (some ⟨g, 0, none⟩) ls.length cap) (.slice (some ⟨g9, 0, none⟩) ls.length cap9)) := Lib.hid (CA.start HW0.out HGR9.out)
  have hkd : Kept [w.heap.size + 1 + 1 + 1] w9 (w9.setCell ⟨w.heap.size + 1 + 1 + 1, 3, none⟩ (.slice (some ⟨g9, 0, none⟩) ls.length cap9)) := Kept.of_setCell w9 ⟨w.heap.size + 1 + 1 + 1, 3, none⟩ _
  have hzz := lt_of_block HW0.out.2.2.2.1
  have HOUT := Lib.hid (own_kept hown9 hkd (fun k hk hm => by
    have : g9 = k := Option.some.inj hk
    rw [List.mem_singleton.1 hm] at this
    omega))
  have HG9 : Hid (w.heap.size + 1 + 1 + 1 < g9) := Lib.hid (by omega)
  have HDOC := Lib.hid (HD.out.below HCA.out.kept)
  clear hown9 hg9 hkd hzz a0 a1 a2 a3 d3
  generalize w9.setCell ⟨w.heap.size + 1 + 1 + 1, 3, none⟩ (.slice (some ⟨g9, 0, none⟩) ls.length cap9) = w2 at *
  clear HOW9 HGR9 HAT9 HROW HW0 HK4
  have q0 := cell_of HCA.out.c 0
  have n3 := cell_of HCA.out.n 3
  simp only [List.getElem?_toArray, List.getElem?_cons_zero, List.getElem?_cons_succ] at q0 n3
  go_wp2_with (fail)
  go_loopg [7] ls.length (fun gk vi wr => ∃ i : Nat, i + gk = ls.length ∧ vi = .int .i64 (i : Int) ∧ CA w wr true ⟨rid, rdev, rad, rbi, rpr, rou⟩ (.slice ap np cp) (.slice al nl cl) (.slice aa na ca) (.slice (some ⟨g, 0, none⟩) ls.length cap) (.slice (some ⟨g9, 0, none⟩) ls.length cap9) ∧ RNetAt wr B (.slice (some ⟨g, 0, none⟩) ls.length cap) rs ls ∧ wr.ownsRow w.heap.size 33 1 (.slice (some ⟨g9, 0, none⟩) ls.length cap9) ls.length rs ∧ res = (ls.take i ++ (delS (ls.drop i) rid).1, (delS (ls.drop i) rid).2))
  case atStart => exact ⟨0, by omega, rfl, HCA.out, HDOC.out, HOUT.out, by simpa using HRES.out⟩
  case round =>
    obtain ⟨i, hgk, rfl, hca, hdoc, hout, hr⟩ := hrel
    have HCR := Lib.hid hca
    have HDR := Lib.hid hdoc
    have HOR := Lib.hid hout
    have HR := Lib.hid hr
    clear hr hout q0 n3
    have n3 := cell_of hca.n 3
    simp only [List.getElem?_toArray, List.getElem?_cons_zero, List.getElem?_cons_succ] at n3
    by_cases hlt : i < ls.length
    · obtain ⟨gg, capz, aoz, cz, he, e0, hrsi, hO, haz⟩ := hdoc.rowAt hlt
      cases he
      have HDRP : Hid (ls.drop i = ls[i] :: ls.drop (i + 1)) := Lib.hid (List.drop_eq_getElem_cons hlt)
      have HTK : Hid (ls.take (i + 1) = ls.take i ++ [ls[i]]) := Lib.hid (by rw [List.take_add_one, List.getElem?_eq_getElem hlt]; rfl)
      have HSET : Hid (∀ l', ls.set i l' = ls.take i ++ l' :: ls.drop (i + 1)) := Lib.hid (fun l' => by rw [List.set_eq_take_append_cons_drop, if_pos hlt])
      obtain ⟨l2, e2, hdr⟩ : ∃ l2 e2, dropT ls[i] rid = (l2, e2) := ⟨_, _, rfl⟩
      have HCALL : Hid (∀ W, Below wr.heap.size wr W → Calls Try.prog 26 #[.slice aoz ls[i].length cz, .int .i64 rid] W fun e w' => ∃ v', e = .returned (.tuple #[v', .int .i64 e2]) ∧ w'.ownsRow B 26 6 v' l2.length (rlCells l2) ∧ (∀ x, v'.ownBlock = some x → x ∈ rfoot (.slice (some ⟨g, 0, none⟩) ls.length cap) rs ∨ wr.heap.size ≤ x) ∧ Below wr.heap.size wr w') := Lib.hid (fun W kW => (rdrop_calls (own_kept hO (Kept.of_below (S := []) kW) (by simp)) (HLT.out _ (List.getElem_mem hlt)) (HND.out _ (List.getElem_mem hlt)) rid).mono (by
        rintro e w' ⟨v', he, hro, hk⟩
        rw [hdr] at he hro
        have hks := hca.kept.size
        refine ⟨v', he, row_or (own_kept hO (Kept.of_below (S := []) (kW.trans (hk.mono kW.size))) (by simp)) (Nat.le_trans (Nat.le_trans HBW.out hks) kW.size) hro, fun x hx => ?_, kW.trans (hk.mono kW.size)⟩
        rcases hro with h1 | ⟨h1, _⟩
        · have := (own_ge h1 hx).1
          have := kW.size
          exact Or.inr (by omega)
        · exact Or.inl (mem_rfoot.2 (Or.inr ⟨_, List.mem_of_getElem? hrsi, h1 ▸ hx⟩))))
      generalize hls : ls[i] = l at *
      have hii : (i : Int) < (ls.length : Int) := by omega
      have HCELL : Hid (∀ W, Below wr.heap.size wr W → W.cell? ⟨w.heap.size, 3, none⟩ = some (.slice (some ⟨g, 0, none⟩) ls.length cap) ∧ W.cell? ⟨w.heap.size + 1, 1, none⟩ = some (.int .i64 rid) ∧ W.cell? ⟨g, i, none⟩ = some (.slice aoz l.length cz)) := Lib.hid (fun W kW => ⟨cell_of (HCR.out.next kW).n 3, cell_of (HCR.out.next kW).c 1, (Kept.of_below (S := []) kW).cell e0 (by simp)⟩)
      have HRI := Lib.hid hrsi
      have HLS := Lib.hid hls
      have HDT := Lib.hid hdr
      clear hca hdoc hO haz hrsi hls hdr e0
      go_upto_region 7 with (fail)
      clear n3
      have hBW := (Below.refl wr.heap.size wr).drew
      have hS := HCELL.out _ hBW
      go_region_held3 (fun w' => w'.cell? ⟨w.heap.size, 3, none⟩ = some (.slice (some ⟨g, 0, none⟩) ls.length cap) ∧ w'.cell? ⟨w.heap.size + 1, 1, none⟩ = some (.int .i64 rid) ∧ w'.cell? ⟨g, i, none⟩ = some (.slice aoz l.length cz)) (first | assumption) (first | (go_at_call 26; refine Calls.mono (HCALL.out _ (by assumption)) ?_; rintro e w' ⟨v', rfl, hv', hx', hB'⟩; have hS' := HCELL.out _ hB'; have HV := Lib.hid hv'; have HX := Lib.hid hx'; clear hv' hx'))
      have HCW := Lib.hid (HCR.out.next hB')
      have HDW := Lib.hid (HDR.out.below hB')
      have HOW := Lib.hid (own_kept HOR.out (Kept.of_below (S := []) hB') (by simp))
      have HGW : Hid (g9 < wr.heap.size ∧ w.heap.size ≤ wr.heap.size) := Lib.hid ⟨own_inN HOR.out rfl, HCR.out.kept.size⟩
      have hr := HR.out
      rw [HDRP.out] at hr
      unfold delS at hr
      have hd2 := HDT.out
      clear hB' hS' hBW hS
      cases hf : (findR l rid).isSome with
      | true =>
        rw [if_pos hf, HDT.out] at hr
        unfold dropT at hd2
        rw [if_pos hf] at hd2
        injection hd2 with hd3 hd4
        subst hd4
        have HRR := Lib.hid hr
        obtain ⟨ao2, c2, rfl, _⟩ := own_form HV.out
        have o3 := cell_of HCW.out.o 3
        have r1 := HOW.out.cellAt (i * 1) (by omega)
        have r2 := HOW.out.frozenAt i
        rw [Nat.mul_one] at r1
        have hir : i < rs.length := by omega
        rw [List.getElem?_eq_getElem hir] at r1
        simp only [List.getElem?_toArray, List.getElem?_cons_zero, List.getElem?_cons_succ] at o3
        clear hf hd3 hr
        go_upto_region 10 with (fail)
        have hk8 : Kept [g9] w' (w'.setCell ⟨g9, i, none⟩ (.slice ao2 l2.length c2)) := Kept.of_setCell w' ⟨g9, i, none⟩ _
        have HC8 := Lib.hid (HCW.out.step hk8 (fun x hx => (List.mem_singleton.1 hx).symm ▸ HG9.out))
        have HO8 := Lib.hid (HOW.out.stored i (.slice ao2 l2.length c2)).1
        have HD8 := Lib.hid (HDW.out.kept hk8 (fun x hx hc => by have := (HLO.out x hx).2; have := HG9.out; have := List.mem_singleton.1 hc; omega))
        have HV8 := Lib.hid (own_kept HV.out hk8 (fun x hx hc => by
          have e := List.mem_singleton.1 hc
          subst e
          have := HG9.out
          have := HGW.out
          rcases HX.out x hx with h1 | h1
          · have := (HLO.out x h1).2
            omega
          · omega))
        clear hk8 r1 r2 o3
        generalize w'.setCell ⟨g9, i, none⟩ (.slice ao2 l2.length c2) = w8 at *
        have o0 := cell_of HC8.out.o 0
        have o1 := cell_of HC8.out.o 1
        have o2 := cell_of HC8.out.o 2
        have o3 := cell_of HC8.out.o 3
        have z0 := And.intro (cell_of HC8.out.z 0) (unfrozen_of HC8.out.z 0)
        have z1 := And.intro (cell_of HC8.out.z 1) (unfrozen_of HC8.out.z 1)
        have z2 := And.intro (cell_of HC8.out.z 2) (unfrozen_of HC8.out.z 2)
        have z3 := And.intro (cell_of HC8.out.z 3) (unfrozen_of HC8.out.z 3)
        simp only [List.getElem?_toArray, List.getElem?_cons_zero, List.getElem?_cons_succ] at o0 o1 o2 o3 z0 z1 z2 z3
        go_wp2_with (fail)
        have hk := kept_set4 w8 (w.heap.size + 1 + 1) (.slice ap np cp) (.slice al nl cl) (.slice aa na ca) (.slice (some ⟨g9, 0, none⟩) ls.length cap9)
        exact bodyPost_ret (v := .tuple #[.agg #[.slice ap np cp, .slice al nl cl, .slice aa na ca, .slice (some ⟨g9, 0, none⟩) ls.length cap9], .int .i64 0]) (by simp [results, Try.results70, go_sem, z0, z1, z2, z3]) rfl ⟨.slice (some ⟨g9, 0, none⟩) ls.length cap9, by rw [HRR.out], rs.set i (.slice ao2 l2.length c2), by
          rw [HRR.out]
          simp only
          rw [← HSET.out]
          refine (HD8.out.kept hk fun x hx hc => ?_).out_put (b := w.heap.size) HBW.out (own_kept HO8.out hk fun x hx hc => ?_) (own_kept HV8.out hk fun x hx hc => ?_)
          · have := (HLO.out x hx).2
            have := List.mem_singleton.1 hc
            omega
          · have : g9 = x := Option.some.inj hx
            have := HG9.out
            have := List.mem_singleton.1 hc
            omega
          · have := List.mem_singleton.1 hc
            have := HGW.out
            have := HG9.out
            rcases HX.out x hx with h1 | h1
            · have := (HLO.out x h1).2
              omega
            · omega, fun x hx => by
          rcases rfoot_put (vr := .slice (some ⟨g, 0, none⟩) ls.length cap) hx with h1 | h1 | h1
          · have : g9 = x := Option.some.inj h1
            have := HG9.out
            exact Or.inr (by omega)
          · rcases HX.out x h1 with h2 | h2
            · exact Or.inl h2
            · have := HGW.out
              exact Or.inr (by omega)
          · exact Or.inl h1, HC8.out.kept.trans (hk.below HC8.out.kept.size (fun x hx => by rw [List.mem_singleton.1 hx]; omega))⟩
      | false =>
        rw [if_neg (by simp [hf])] at hr
        unfold dropT at hd2
        rw [if_neg (by simp [hf])] at hd2
        injection hd2 with hd3 hd4
        subst hd4
        have HRR := Lib.hid hr
        clear hf hd3 hr
        go_wp2_with (fail)
        go_roundg (gk - 1)
        case measure => omega
        case rel => exact ⟨i + 1, by omega, by go_num, HCW.out, HDW.out, HOW.out, by rw [HRR.out, HTK.out]; simp only [List.append_assoc, List.cons_append, List.nil_append]⟩
    · obtain rfl : i = ls.length := by omega
      have hr := HR.out
      rw [List.drop_eq_nil_of_le (Nat.le_refl _), List.take_length] at hr
      simp only [delS, List.append_nil] at hr
      have HRR := Lib.hid hr
      have HGW := Lib.hid hca.kept.size
      clear hr hca hdoc n3
      have n0 := cell_of HCR.out.n 0
      have n1 := cell_of HCR.out.n 1
      have n2 := cell_of HCR.out.n 2
      have n3 := cell_of HCR.out.n 3
      have z0 := And.intro (cell_of HCR.out.z 0) (unfrozen_of HCR.out.z 0)
      have z1 := And.intro (cell_of HCR.out.z 1) (unfrozen_of HCR.out.z 1)
      have z2 := And.intro (cell_of HCR.out.z 2) (unfrozen_of HCR.out.z 2)
      have z3 := And.intro (cell_of HCR.out.z 3) (unfrozen_of HCR.out.z 3)
      simp only [List.getElem?_toArray, List.getElem?_cons_zero, List.getElem?_cons_succ] at n0 n1 n2 n3 z0 z1 z2 z3
      go_wp2_with (fail)
      have hk := kept_set4 wr (w.heap.size + 1 + 1) (.slice ap np cp) (.slice al nl cl) (.slice aa na ca) (.slice (some ⟨g, 0, none⟩) ls.length cap)
      exact bodyPost_ret (v := .tuple #[.agg #[.slice ap np cp, .slice al nl cl, .slice aa na ca, .slice (some ⟨g, 0, none⟩) ls.length cap], .int .i64 3]) (by simp [results, Try.results70, go_sem, z0, z1, z2, z3]) rfl ⟨.slice (some ⟨g, 0, none⟩) ls.length cap, rs, by rw [HRR.out], by
        rw [HRR.out]
        exact HDR.out.kept hk fun x hx hc => (by
          have := (HLO.out x hx).2
          have := List.mem_singleton.1 hc
          omega), fun x hx => Or.inl hx, HCR.out.kept.trans (hk.below HCR.out.kept.size (fun x hx => by rw [List.mem_singleton.1 hx]; omega))⟩
end Go.Proofs.Ytiedhjmnjpkcoaa
