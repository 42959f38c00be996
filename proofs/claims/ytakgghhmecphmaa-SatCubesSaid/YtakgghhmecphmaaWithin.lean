/- The walk of sat.Within. -/
import Derived.Test.YtakgghhmecphmaaWithinP
import Derived.Test.YtakgghhmecphmaaCount
import Derived.Test.YtakgghhmecphmaaMakeA
namespace Go.Proofs.Ytakgghhmecphmaa
set_option linter.unusedVariables false
set_option linter.unusedSimpArgs false
open Go.RowKit Go.Maps

theorem nil_or_snoc {K : Type} (l : List K) : l = [] ∨ ∃ r x, l = r ++ [x] := by
  rcases List.eq_nil_or_concat l with h | ⟨r, x, h⟩
  · exact Or.inl h
  · exact Or.inr ⟨r, x, by rw [h, List.concat_eq_append]⟩
theorem arr2_info : (Try.prog.info? 124).map (fun i => (i.zero, i.size, i.bytes)) = some (some (.agg #[.int .i64 0, .int .i64 0]), 2, 16) := by kernel_rfl
def boolW (x : Bool) : Value := .bool x
def prCells (l : List (Nat × Nat)) : List Value := l.flatMap fun q => [.int .i64 (q.1 : Int), .int .i64 (q.2 : Int)]
theorem prCells_append (a b : List (Nat × Nat)) : prCells (a ++ b) = prCells a ++ prCells b := by simp [prCells]
theorem prCells_length (l : List (Nat × Nat)) : (prCells l).length = l.length * 2 := by
  induction l with
  | nil => rfl
  | cons x l ih =>
    rw [show prCells (x :: l) = [.int .i64 (x.1 : Int), .int .i64 (x.2 : Int)] ++ prCells l from rfl, List.length_append, ih, List.length_cons]
    simp
    omega
theorem prCells_last (l : List (Nat × Nat)) (q : Nat × Nat) : (prCells (l ++ [q]))[l.length * 2]? = some (.int .i64 (q.1 : Int)) ∧ (prCells (l ++ [q]))[l.length * 2 + 1]? = some (.int .i64 (q.2 : Int)) := by
  rw [prCells_append]
  constructor
  · rw [List.getElem?_append_right (by rw [prCells_length]; omega), prCells_length, Nat.sub_self]
    rfl
  · rw [List.getElem?_append_right (by rw [prCells_length]; omega), prCells_length, show l.length * 2 + 1 - l.length * 2 = 1 by omega]
    rfl
theorem prCells_take (l : List (Nat × Nat)) (q : Nat × Nat) : (prCells (l ++ [q])).take (l.length * 2) = prCells l := by
  rw [prCells_append, ← prCells_length, List.take_left]
/-- The cells of an own row. -/
theorem own_at {w : World} {base : Nat} {e : TypeId} {size g n cap : Nat} {xs : List Value} (h : w.ownsRow base e size (.slice (some ⟨g, 0, none⟩) n cap) n xs) {j : Nat} {u : Value} (hu : xs[j]? = some u) : w.cell? ⟨g, j, none⟩ = some u := by
  rcases h.2 with ⟨h', _⟩ | ⟨g', cap', cur, hv, _, hb, _, _, _, ht⟩
  · cases h'
  · injection hv with e1 e2 e3
    injection e1 with e1
    injection e1 with e1
    subst e1
    rw [cell_of hb]
    rw [← ht, List.getElem?_take] at hu
    split at hu
    · simpa using hu
    · cases hu
theorem own_cap {w : World} {base : Nat} {e : TypeId} {size g n cap : Nat} {xs : List Value} (h : w.ownsRow base e size (.slice (some ⟨g, 0, none⟩) n cap) n xs) : n ≤ cap ∧ cap ≤ 9223372036854775807 := by
  rcases h.2 with ⟨h', _⟩ | ⟨g', cap', cur, hv, _, hb, h1, h2, _, ht⟩
  · cases h'
  · injection hv with e1 e2 e3
    subst e3
    simp only [maxLen] at h2
    exact ⟨h1, h2⟩
theorem own_past2 {w : World} {base : Nat} {e : TypeId} {size : Nat} {v : Value} {n : Nat} {xs : List Value} (h : w.ownsRow base e size v n xs) : ∀ g, v.ownBlock = some g → base ≤ g := by
  intro g hg
  rcases h.2 with ⟨h0, h1⟩ | ⟨g', cap, cur, rfl, hb, _⟩
  · rw [h0] at hg; cases hg
  · cases hg; exact hb
def inL {K : Type} [DecidableEq K] (L : List K) : K → Option Bool := fun q => if q ∈ L then some true else none
theorem inL_cons {K : Type} [DecidableEq K] (L : List K) (x y : K) : upd (inL L) x true y = inL (x :: L) y := by
  unfold upd inL
  by_cases h : y = x
  · subst h; simp
  · by_cases h2 : y ∈ L <;> simp [h, h2]

set_option maxRecDepth 100000 in
theorem Within_none {w : World} {p g mb : Nat} {A : Arn} (h : ArenaAt w p g mb A) (f q : Int) (hf : ¬ (0 ≤ f ∧ f < A.nodes.length) ∨ ¬ (0 ≤ q ∧ q < A.nodes.length)) :
    Calls Try.prog 49 #[.pointer (some ⟨p, 0, none⟩), .int .i64 f, .int .i64 q] w fun e w' => e = .returned (.bool false) ∧ Below w.heap.size w w' := by
  have HH := Lib.hid (fun f => has_calls h f)
  by_cases h1 : 0 ≤ f ∧ f < A.nodes.length
  · have E1 := Lib.hid (decide_eq_true h1)
    have E2 := Lib.hid (decide_eq_false (show ¬ (0 ≤ q ∧ q < A.nodes.length) by rcases hf with h | h; exact absurd h1 h; exact h))
    clear h1 hf
    go_enter Try.func49, Try.ntmps49
    go_wp2_with (fail)
    refine (HH.out _).mono ?_
    rintro e w' ⟨he, hw⟩
    subst he hw
    rw [E1.out]
    go_wp2_with (fail)
    refine (HH.out _).mono ?_
    rintro e w' ⟨he, hw⟩
    subst he hw
    rw [E2.out]
    go_wp2_with (fail)
    go_ret
    exact ⟨rfl, Below.refl _ _⟩
  · have E1 := Lib.hid (decide_eq_false h1)
    clear h1 hf
    go_enter Try.func49, Try.ntmps49
    go_wp2_with (fail)
    refine (HH.out _).mono ?_
    rintro e w' ⟨he, hw⟩
    subst he hw
    rw [E1.out]
    go_wp2_with (fail)
    go_ret
    exact ⟨rfl, Below.refl _ _⟩

set_option maxRecDepth 100000 in
set_option maxHeartbeats 4000000 in
theorem Within_calls {w : World} {p g mb : Nat} {A : Arn} (h : ArenaAt w p g mb A) (hO : A.OK) (f q : Nat) (hf : f < A.nodes.length) (hq : q < A.nodes.length) :
    Calls Try.prog 49 #[.pointer (some ⟨p, 0, none⟩), .int .i64 (f : Int), .int .i64 (q : Int)] w fun e w' => (∃ r : Bool, e = .returned (.bool r) ∧ (r = true ↔ WI A f q)) ∧ Below w.heap.size w w' := by
  have HH := Lib.hid (fun f => has_calls h f)
  have E1 := Lib.hid (decide_eq_true (show 0 ≤ (f : Int) ∧ (f : Int) < A.nodes.length by omega))
  have E2 := Lib.hid (decide_eq_true (show 0 ≤ (q : Int) ∧ (q : Int) < A.nodes.length by omega))
  have hmm := @run_makeMap Try.prog
  go_enter Try.func49, Try.ntmps49
  go_wp2_with (fail)
  refine (HH.out _).mono ?_
  rintro e w' ⟨he, hw⟩
  subst he hw
  rw [E1.out]
  go_wp2_with (fail)
  refine (HH.out _).mono ?_
  rintro e w' ⟨he, hw⟩
  subst he hw
  rw [E2.out]
  go_wp2_with (fail)
  have B1 := (Below.refl w.heap.size w).alloc (Nat.le_refl _) (.map #[] 0)
  have hM1 := (IsMapOf.made w Try.prog 124 prv boolW).congr (g := inL []) (fun x => by simp [inL])
  have hO1 : ((w.alloc (.map #[] 0)).alloc (.cells #[.int .i64 (f : Int), .int .i64 (q : Int)] 124)).ownsRow (w.heap.size + 1) 124 2 (.slice (some ⟨w.heap.size + 1, 0, none⟩) 1 1) 1 (prCells [(f, q)]) := by
    refine ⟨rfl, Or.inr ⟨w.heap.size + 1, 1, #[.int .i64 (f : Int), .int .i64 (q : Int)], rfl, by omega, ?_, Nat.le_refl _, by simp [maxLen], rfl, rfl⟩⟩
    have := heap_alloc_new (w.alloc (.map #[] 0)) (.cells #[.int .i64 (f : Int), .int .i64 (q : Int)] 124)
    rwa [show (w.alloc (.map #[] 0)).heap.size = w.heap.size + 1 by simp] at this
  have hM2 := hM1.of_block (Below.heap_alloc (w.alloc (.map #[] 0)) (.cells #[.int .i64 (f : Int), .int .i64 (q : Int)] 124) w.heap.size (by simp))
  have hB2 := B1.alloc (by simp) (.cells #[.int .i64 (f : Int), .int .i64 (q : Int)] 124)
  have HB2 := Lib.hid hB2
  have HM2 := Lib.hid hM2
  have HO2 := Lib.hid hO1
  have HA := Lib.hid h
  have HO := Lib.hid hO
  have hN18 := Nat.le_trans hO.len hO.most
  have hNN : A.nodes.length * A.nodes.length ≤ 68719476736 := Nat.mul_le_mul hN18 hN18
  obtain ⟨hpz, hgz, hmz⟩ := h.lt
  clear B1 hM1 hO1 hM2 hB2 h hO HH E1 E2
  generalize (w.alloc (.map #[] 0)).alloc (.cells #[.int .i64 (f : Int), .int .i64 (q : Int)] 124) = w1 at *
  generalize hNNd : A.nodes.length * A.nodes.length = NN at *
  have HNN := Lib.hid hNNd
  clear hNNd
  obtain ⟨i0, hi, hz0, hz1, hz2⟩ := info_parts arr2_info
  go_loopg [8] (3 * NN + 1) (fun gk vo wr => ∃ (st L : List (Nat × Nat)) (g2 cap : Nat), gk = 3 * (NN - L.length) + st.length ∧ st.length ≤ L.length + 1 ∧ L.length ≤ NN ∧ vo = .slice (some ⟨g2, 0, none⟩) st.length cap ∧
      wr.ownsRow (w.heap.size + 1) 124 2 vo st.length (prCells st) ∧ IsMapOf Try.prog 124 prv boolW wr w.heap.size L.length (inL L) ∧ WInv A f q L st ∧ Below w.heap.size w wr)
  case atStart => exact ⟨[(f, q)], [], _, 1, by simp, by simp, by simp, rfl, HO2.out, HM2.out, WInv.start hf hq, HB2.out⟩
  case round =>
    obtain ⟨st, L, g2, cap, hgk, hst, hLN, rfl, hOw, hMp, hW, hB⟩ := hrel
    obtain ⟨hc1, hc2⟩ := own_cap hOw
    have hg2 : w.heap.size + 1 ≤ g2 := own_past2 hOw g2 rfl
    have HOW := Lib.hid hOw
    have HMP := Lib.hid hMp
    have HW := Lib.hid hW
    have HB := Lib.hid hB
    have hwz := HB.out.size
    clear hOw hMp hW hB
    rcases nil_or_snoc st with rfl | ⟨st', ⟨x, y⟩, rfl⟩
    · go_wp2_with (fail)
      go_ret
      exact ⟨⟨true, rfl, by simpa using HW.out.yes HO.out⟩, HB.out⟩
    · obtain ⟨c0, c1⟩ := prCells_last st' (x, y)
      have c0 := own_at HOW.out c0
      have c1 := own_at HOW.out c1
      simp only [List.length_append, List.length_cons, List.length_nil, Nat.zero_add] at *
      have hxy := HW.out.lt (x, y) (Or.inr (by simp))
      simp only at hxy c0 c1
      obtain ⟨hxl, hyl⟩ := hxy
      have hm1 : IntKind.i64.wrap (((st'.length : Int) + 1) - 1) = (st'.length : Int) := by rw [IntKind.wrap_i64]; omega
      have hlk : ∀ o, (Instr.lookup 123 (.map (some w.heap.size)) (.agg #[.int .i64 (x : Int), .int .i64 (y : Int)]) false).run Try.prog (wr.alloc o) = .ok (.bool (decide ((x, y) ∈ L))) (wr.alloc o) := by
        intro o
        have k := HMP.out.of_block (w' := wr.alloc o) (Below.heap_alloc wr o _ HMP.out.lt)
        have := k.look prKeyed prv_inj Try.underlying123 (z := .bool false) (by kernel_rfl) (x, y) (pr_key (by simp only; omega) (by simp only; omega)) false
        unfold inL at this
        by_cases hm : (x, y) ∈ L
        · rw [if_pos hm] at this
          rw [decide_eq_true hm]
          exact this
        · rw [if_neg hm] at this
          rw [decide_eq_false hm]
          exact this
      generalize hmm : st'.length = m at *
      have HMM := Lib.hid hmm
      clear hmm
      have HGK := Lib.hid hgk
      clear hgk
      by_cases hx0 : x = 0
      · have t1 : ((x : Int) == 0) = true := by rw [hx0]; rfl
        have HX0 := Lib.hid hx0
        clear hlk hx0
        go_wp2_with (fail)
        go_roundg (3 * (NN - L.length) + m)
        case measure => have := HGK.out; omega
        case rel =>
          have hm' := HMM.out
          subst hm'
          have hs := own_shrink HOW.out (Nat.le_succ _)
          rw [prCells_take] at hs
          exact ⟨st', L, g2, cap, rfl, by omega, hLN, rfl, own_kept hs ((Kept.refl [] wr).alloc _) (by simp), HMP.out.of_block (Below.heap_alloc wr _ _ HMP.out.lt), HW.out.skip (Or.inl (Or.inl HX0.out)), HB.out.alloc hwz _⟩
      have t1 : ((x : Int) == 0) = false := by simp; omega
      by_cases hy1 : y = 1
      · have t2 : ((y : Int) == 1) = true := by rw [hy1]; rfl
        have HX0 := Lib.hid hy1
        clear hlk hy1
        go_wp2_with (fail)
        go_roundg (3 * (NN - L.length) + m)
        case measure => have := HGK.out; omega
        case rel =>
          have hm' := HMM.out
          subst hm'
          have hs := own_shrink HOW.out (Nat.le_succ _)
          rw [prCells_take] at hs
          exact ⟨st', L, g2, cap, rfl, by omega, hLN, rfl, own_kept hs ((Kept.refl [] wr).alloc _) (by simp), HMP.out.of_block (Below.heap_alloc wr _ _ HMP.out.lt), HW.out.skip (Or.inl (Or.inr (Or.inl HX0.out))), HB.out.alloc hwz _⟩
      have t2 : ((y : Int) == 1) = false := by simp; omega
      by_cases hxy : x = y
      · subst hxy
        clear hlk
        go_wp2_with (fail)
        go_roundg (3 * (NN - L.length) + m)
        case measure => have := HGK.out; omega
        case rel =>
          have hm' := HMM.out
          subst hm'
          have hs := own_shrink HOW.out (Nat.le_succ _)
          rw [prCells_take] at hs
          exact ⟨st', L, g2, cap, rfl, by omega, hLN, rfl, own_kept hs ((Kept.refl [] wr).alloc _) (by simp), HMP.out.of_block (Below.heap_alloc wr _ _ HMP.out.lt), HW.out.skip (Or.inl (Or.inr (Or.inr rfl))), HB.out.alloc hwz _⟩
      have t3 : ((x : Int) == (y : Int)) = false := by simp; omega
      by_cases hin : (x, y) ∈ L
      · rw [decide_eq_true hin] at hlk
        have HX0 := Lib.hid hin
        clear hin
        go_wp2_with (fail)
        go_roundg (3 * (NN - L.length) + m)
        case measure => have := HGK.out; omega
        case rel =>
          have hm' := HMM.out
          subst hm'
          have hs := own_shrink HOW.out (Nat.le_succ _)
          rw [prCells_take] at hs
          exact ⟨st', L, g2, cap, rfl, by omega, hLN, rfl, own_kept hs ((Kept.refl [] wr).alloc _) (by simp), HMP.out.of_block (Below.heap_alloc wr _ _ HMP.out.lt), HW.out.skip (Or.inr HX0.out), HB.out.alloc hwz _⟩
      rw [decide_eq_false hin] at hlk
      have HIN := Lib.hid hin
      clear hin
      by_cases hy0 : y = 0
      · have t4 : ((y : Int) == 0) = true := by rw [hy0]; rfl
        have HNO := Lib.hid (HW.out.no HO.out (by unfold Triv; simp only; omega) (Or.inl hy0))
        clear hy0
        go_wp2_with (fail)
        go_ret
        exact ⟨⟨false, rfl, by simpa using HNO.out⟩, HB.out.alloc hwz _⟩
      have t4 : ((y : Int) == 0) = false := by simp; omega
      by_cases hx1 : x = 1
      · have t5 : ((x : Int) == 1) = true := by rw [hx1]; rfl
        have HNO := Lib.hid (HW.out.no HO.out (by unfold Triv; simp only; omega) (Or.inr hx1))
        clear hx1
        go_wp2_with (fail)
        go_ret
        exact ⟨⟨false, rfl, by simpa using HNO.out⟩, HB.out.alloc hwz _⟩
      have t5 : ((x : Int) == 1) = false := by simp; omega
      have hx2 : 2 ≤ x := by omega
      have hy2 : 2 ≤ y := by omega
      have HST := Lib.hid (HW.out.step HO.out hx2 hy2 HIN.out)
      have HMA := Lib.hid (HMP.out.of_block (Below.heap_alloc wr (.cells #[.int .i64 (x : Int), .int .i64 (y : Int)] 124) _ HMP.out.lt))
      have HBX := Lib.hid (heap_alloc_new wr (.cells #[.int .i64 (x : Int), .int .i64 (y : Int)] 124))
      have HBA := Lib.hid (HB.out.alloc hwz (.cells #[.int .i64 (x : Int), .int .i64 (y : Int)] 124))
      have hs := own_shrink HOW.out (Nat.le_succ m)
      rw [← HMM.out, prCells_take, HMM.out] at hs
      have HOA := Lib.hid (own_kept hs ((Kept.refl [] wr).alloc (.cells #[.int .i64 (x : Int), .int .i64 (y : Int)] 124)) (by simp))
      have hsb := HMP.out.lt
      have nx := nodeF_at HO.out hxl hx2
      have ny := nodeF_at HO.out hyl hy2
      obtain ⟨_, xa, xb, _, _, _⟩ := HO.out.at_ hxl hx2
      obtain ⟨_, ya, yb, _, _, _⟩ := HO.out.at_ hyl hy2
      have hk0 : kid0 A (x, y) = (if A.lv y < A.lv x then x else (A.nd x).low, if A.lv x < A.lv y then y else (A.nd y).low) := rfl
      have hk1 : kid1 A (x, y) = (if A.lv y < A.lv x then x else (A.nd x).high, if A.lv x < A.lv y then y else (A.nd y).high) := rfl
      rw [hk0, hk1] at HST
      clear hs HW hk0 hk1 hx0 hy1 hy0 hx1
      generalize A.lv x = lx at *
      generalize A.lv y = ly at *
      generalize (A.nd x).low = x0 at *
      generalize (A.nd x).high = x1 at *
      generalize (A.nd y).low = y0 at *
      generalize (A.nd y).high = y1 at *
      have HNX := Lib.hid (fun w' (k : Below w.heap.size w w') => by have := node_calls (HA.out.below k) (x : Int); rw [nx] at this; exact this)
      have HNY := Lib.hid (fun w' (k : Below w.heap.size w w') => by have := node_calls (HA.out.below k) (y : Int); rw [ny] at this; exact this)
      clear nx ny
      have hkey := pr_key (x := (x, y)) (by simp only; omega) (by simp only; omega)
      go_wp2_with (at_mapUpdate; refine wpList_put _ rfl _ _ _ 123 4 rfl prKeyed prv_inj Try.underlying123 HMA.out (x, y) true hkey rfl rfl rfl ?_; intro w5 M5 hg5; have HM5 := Lib.hid M5; have HG5 := Lib.hid hg5; have X5 := blk_grown HBX.out hg5 (by omega); have dd5 := And.intro (cell_of X5 0) (cell_of X5 1); simp only [List.getElem?_toArray, List.getElem?_cons_zero, List.getElem?_cons_succ] at dd5; have HX5 := Lib.hid X5; have HB5 := Lib.hid (((Kept.of_below (S := []) HBA.out).grown hg5 (Or.inr (Nat.le_refl _))).below (Nat.le_refl _) (by simp)); have HO5 := Lib.hid (own_kept HOA.out (Kept.of_grown hg5) (by intro g' hg'; cases hg'; simp; omega)); clear M5 hg5 X5)
      refine (HNX.out _ HB5.out).mono ?_
      rintro e w6 ⟨he, k6⟩
      subst he
      have X6 := (k6.block _ (lt_of_block HX5.out)).trans HX5.out
      have dd6 := And.intro (cell_of X6 0) (cell_of X6 1)
      simp only [List.getElem?_toArray, List.getElem?_cons_zero, List.getElem?_cons_succ] at dd6
      have HX6 := Lib.hid X6
      have HB6 := Lib.hid (HB5.out.trans (k6.mono HB5.out.size))
      have HO6 := Lib.hid (own_kept HO5.out (Kept.of_below (S := []) k6) (by simp))
      have HM6 := Lib.hid (HM5.out.of_block (k6.block _ HM5.out.lt))
      clear k6 X6 dd5 HX5 HB5 HO5 HM5
      go_wp2_with (fail)
      refine (HNY.out _ HB6.out).mono ?_
      rintro e w7 ⟨he, k7⟩
      subst he
      have X7 := (k7.block _ (lt_of_block HX6.out)).trans HX6.out
      have dd7 := And.intro (cell_of X7 0) (cell_of X7 1)
      simp only [List.getElem?_toArray, List.getElem?_cons_zero, List.getElem?_cons_succ] at dd7
      have HX7 := Lib.hid X7
      have HB7 := Lib.hid (HB6.out.trans (k7.mono HB6.out.size))
      have HO7 := Lib.hid (own_kept HO6.out (Kept.of_below (S := []) k7) (by simp))
      have HM7 := Lib.hid (HM6.out.of_block (k7.block _ HM6.out.lt))
      clear k7 X7 dd6 HX6 HB6 HO6 HM6
      have hL1 : L.length + 1 ≤ NN := by have := HST.out.len; rw [HNN.out] at this; simpa using this
      have hwz7 := HB7.out.size
      have hsb7 := HM7.out.lt
      rcases Nat.lt_trichotomy lx ly with hl | hl | hl
      · have u1 : decide (ly < lx) = false := decide_eq_false (by omega)
        have u2 : decide (lx < ly) = true := decide_eq_true hl
        rw [if_neg (by omega), if_pos hl, if_neg (by omega), if_pos hl] at HST
        go_wp2_with (fail)
        go_quiet (fail)
        have hKd : Kept [] w7 (w7.drewN nq) := ((Kept.refl [] w7).drewN nq)
        have HOd := Lib.hid (own_kept HO7.out hKd (by simp))
        have hzd : (w7.drewN nq).heap.size = w7.heap.size := rfl
        have HKd := Lib.hid hKd
        clear hKd
        go_wp2_with (at_builtin; refine wpList_append_lies _ rfl (.tmp 107) (.tmp 114) 125 rfl (w.heap.size + 1) 124 i0 _ 2 16 Try.underlying125 hi hz0 hz1 hz2 rfl (by decide) _ m (prCells st') rfl ?_ ⟨w7.heap.size, 0, none⟩ 2 2 [.int .i64 (x0 : Int), .int .i64 (y : Int), .int .i64 (x1 : Int), .int .i64 (y : Int)] rfl rfl ?_ ?_ (by omega) ?_ ?_ ?_ _ rfl ?_; (· exact own_kept HOd.out ((Kept.refl [] _).alloc _) (by simp)); (· exact news_at (by first | rfl | simp)); (· simp [Value.oneCell']); (· unfold maxLen; omega); (· omega); (· simp; omega); intro g9 cap9 w9 how9 hgr9 hat9 hlt9; have HOW9 := Lib.hid how9; have HGR9 := Lib.hid hgr9; clear how9 hgr9 hat9 hlt9)
        go_roundg (3 * (NN - (L.length + 1)) + (m + 2))
        case measure => have := HGK.out; omega
        case rel =>
          have hm' := HMM.out
          subst hm'
          have hKa := HKd.out.alloc (.cells #[.int .i64 (x0 : Int), .int .i64 (y : Int), .int .i64 (x1 : Int), .int .i64 (y : Int)] 124)
          refine ⟨st' ++ [(x0, y), (x1, y)], (x, y) :: L, g9, cap9, by simp, by simp; omega, by simpa using hL1, by simp, ?_, ?_, HST.out, ?_⟩
          · have := HOW9.out
            rw [show (st' ++ [(x0, y), (x1, y)]).length = st'.length + 2 by simp, prCells_append]
            exact this
          · have hm := HM7.out
            rw [if_neg (by unfold inL; rw [if_neg HIN.out]; simp)] at hm
            exact (hm.of_block ((HGR9.out.block _ (Nat.lt_of_lt_of_le hm.lt hKa.size) (fun e => absurd (show w.heap.size + 1 ≤ w.heap.size from by injection e with e; exact e ▸ hg2) (by omega))).trans (hKa.block _ hm.lt (by simp)))).congr (fun z => inL_cons L (x, y) z)
          · exact (((Kept.of_below (S := []) HB7.out).trans hKa (by simp)).grown HGR9.out (Or.inr (show w.heap.size ≤ g2 by omega))).below (Nat.le_refl _) (by simp)
      · have u1 : decide (ly < lx) = false := decide_eq_false (by omega)
        have u2 : decide (lx < ly) = false := decide_eq_false (by omega)
        rw [if_neg (by omega), if_neg (by omega), if_neg (by omega), if_neg (by omega)] at HST
        have hKd : Kept [] w7 w7 := (Kept.refl [] w7)
        have HOd := Lib.hid (own_kept HO7.out hKd (by simp))
        have hzd : w7.heap.size = w7.heap.size := rfl
        have HKd := Lib.hid hKd
        clear hKd
        go_wp2_with (at_builtin; refine wpList_append_lies _ rfl (.tmp 107) (.tmp 114) 125 rfl (w.heap.size + 1) 124 i0 _ 2 16 Try.underlying125 hi hz0 hz1 hz2 rfl (by decide) _ m (prCells st') rfl ?_ ⟨w7.heap.size, 0, none⟩ 2 2 [.int .i64 (x0 : Int), .int .i64 (y0 : Int), .int .i64 (x1 : Int), .int .i64 (y1 : Int)] rfl rfl ?_ ?_ (by omega) ?_ ?_ ?_ _ rfl ?_; (· exact own_kept HOd.out ((Kept.refl [] _).alloc _) (by simp)); (· exact news_at (by first | rfl | simp)); (· simp [Value.oneCell']); (· unfold maxLen; omega); (· omega); (· simp; omega); intro g9 cap9 w9 how9 hgr9 hat9 hlt9; have HOW9 := Lib.hid how9; have HGR9 := Lib.hid hgr9; clear how9 hgr9 hat9 hlt9)
        go_roundg (3 * (NN - (L.length + 1)) + (m + 2))
        case measure => have := HGK.out; omega
        case rel =>
          have hm' := HMM.out
          subst hm'
          have hKa := HKd.out.alloc (.cells #[.int .i64 (x0 : Int), .int .i64 (y0 : Int), .int .i64 (x1 : Int), .int .i64 (y1 : Int)] 124)
          refine ⟨st' ++ [(x0, y0), (x1, y1)], (x, y) :: L, g9, cap9, by simp, by simp; omega, by simpa using hL1, by simp, ?_, ?_, HST.out, ?_⟩
          · have := HOW9.out
            rw [show (st' ++ [(x0, y0), (x1, y1)]).length = st'.length + 2 by simp, prCells_append]
            exact this
          · have hm := HM7.out
            rw [if_neg (by unfold inL; rw [if_neg HIN.out]; simp)] at hm
            exact (hm.of_block ((HGR9.out.block _ (Nat.lt_of_lt_of_le hm.lt hKa.size) (fun e => absurd (show w.heap.size + 1 ≤ w.heap.size from by injection e with e; exact e ▸ hg2) (by omega))).trans (hKa.block _ hm.lt (by simp)))).congr (fun z => inL_cons L (x, y) z)
          · exact (((Kept.of_below (S := []) HB7.out).trans hKa (by simp)).grown HGR9.out (Or.inr (show w.heap.size ≤ g2 by omega))).below (Nat.le_refl _) (by simp)
      · have u1 : decide (ly < lx) = true := decide_eq_true hl
        have u2 : decide (lx < ly) = false := decide_eq_false (by omega)
        rw [if_pos hl, if_neg (by omega), if_pos hl, if_neg (by omega)] at HST
        go_wp2_with (fail)
        go_quiet (fail)
        have hKd : Kept [] w7 (w7.drewN nq) := ((Kept.refl [] w7).drewN nq)
        have HOd := Lib.hid (own_kept HO7.out hKd (by simp))
        have hzd : (w7.drewN nq).heap.size = w7.heap.size := rfl
        have HKd := Lib.hid hKd
        clear hKd
        go_wp2_with (at_builtin; refine wpList_append_lies _ rfl (.tmp 107) (.tmp 114) 125 rfl (w.heap.size + 1) 124 i0 _ 2 16 Try.underlying125 hi hz0 hz1 hz2 rfl (by decide) _ m (prCells st') rfl ?_ ⟨w7.heap.size, 0, none⟩ 2 2 [.int .i64 (x : Int), .int .i64 (y0 : Int), .int .i64 (x : Int), .int .i64 (y1 : Int)] rfl rfl ?_ ?_ (by omega) ?_ ?_ ?_ _ rfl ?_; (· exact own_kept HOd.out ((Kept.refl [] _).alloc _) (by simp)); (· exact news_at (by first | rfl | simp)); (· simp [Value.oneCell']); (· unfold maxLen; omega); (· omega); (· simp; omega); intro g9 cap9 w9 how9 hgr9 hat9 hlt9; have HOW9 := Lib.hid how9; have HGR9 := Lib.hid hgr9; clear how9 hgr9 hat9 hlt9)
        go_roundg (3 * (NN - (L.length + 1)) + (m + 2))
        case measure => have := HGK.out; omega
        case rel =>
          have hm' := HMM.out
          subst hm'
          have hKa := HKd.out.alloc (.cells #[.int .i64 (x : Int), .int .i64 (y0 : Int), .int .i64 (x : Int), .int .i64 (y1 : Int)] 124)
          refine ⟨st' ++ [(x, y0), (x, y1)], (x, y) :: L, g9, cap9, by simp, by simp; omega, by simpa using hL1, by simp, ?_, ?_, HST.out, ?_⟩
          · have := HOW9.out
            rw [show (st' ++ [(x, y0), (x, y1)]).length = st'.length + 2 by simp, prCells_append]
            exact this
          · have hm := HM7.out
            rw [if_neg (by unfold inL; rw [if_neg HIN.out]; simp)] at hm
            exact (hm.of_block ((HGR9.out.block _ (Nat.lt_of_lt_of_le hm.lt hKa.size) (fun e => absurd (show w.heap.size + 1 ≤ w.heap.size from by injection e with e; exact e ▸ hg2) (by omega))).trans (hKa.block _ hm.lt (by simp)))).congr (fun z => inL_cons L (x, y) z)
          · exact (((Kept.of_below (S := []) HB7.out).trans hKa (by simp)).grown HGR9.out (Or.inr (show w.heap.size ≤ g2 by omega))).below (Nat.le_refl _) (by simp)

end Go.Proofs.Ytakgghhmecphmaa
