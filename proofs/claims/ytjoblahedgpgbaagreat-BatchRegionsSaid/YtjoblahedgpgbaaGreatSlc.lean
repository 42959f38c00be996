/- BinarySearch, Insert and Delete on rows of whole numbers that a structure owns. -/
import Derived.Test.YtjoblahedgpgbaaGreatShelfB
import Derived.Test.YtjoblahedgpgbaaGreatTrie
namespace Go.Proofs.YtjoblahedgpgbaaGreat
set_option linter.unusedVariables false
set_option linter.unusedSimpArgs false
open Go.RowKit

def setL : List Value → Nat → List Value → List Value
  | xs, _, [] => xs
  | xs, o, v :: r => setL (xs.set o v) (o + 1) r
theorem setL_length : ∀ (vs xs : List Value) (o : Nat), (setL xs o vs).length = xs.length
  | [], _, _ => rfl
  | v :: r, xs, o => by rw [setL, setL_length r]; simp
theorem setL_get : ∀ (vs xs : List Value) (o j : Nat), (setL xs o vs)[j]? = if o ≤ j ∧ j < o + vs.length ∧ j < xs.length then vs[j - o]? else xs[j]?
  | [], xs, o, j => by
    rw [if_neg (by simp; omega)]
    rfl
  | v :: r, xs, o, j => by
    rw [setL, setL_get r]
    simp only [List.length_set, List.length_cons]
    by_cases h1 : o + 1 ≤ j ∧ j < o + 1 + r.length ∧ j < xs.length
    · rw [if_pos h1, if_pos (by omega), show j - o = (j - (o + 1)) + 1 by omega]
      rfl
    · rw [if_neg h1]
      by_cases h2 : j = o
      · subst h2
        by_cases h3 : j < xs.length
        · rw [if_pos (by omega), List.getElem?_set_self h3]
          simp
        · rw [if_neg (by omega), List.getElem?_eq_none (by simp; omega), List.getElem?_eq_none (by omega)]
      · rw [if_neg (by omega), List.getElem?_set_ne (by omega)]

section
variable {w : World} {base : Nat} {e : TypeId}
theorem own_setCells {size g n cap : Nat} : ∀ (vs : List Value) (o : Nat) (w : World) (xs : List Value), w.ownsRow base e size (.slice (some ⟨g, 0, none⟩) n cap) n xs → (w.setCells g o vs).ownsRow base e size (.slice (some ⟨g, 0, none⟩) n cap) n (setL xs o vs)
  | [], _, _, _, h => h
  | v :: r, o, w, xs, h => own_setCells r (o + 1) _ _ (h.stored o v).1
theorem kept_setCells {g : Nat} : ∀ (vs : List Value) (o : Nat) (w : World), Kept [g] w (w.setCells g o vs)
  | [], _, w => Kept.refl _ w
  | v :: r, o, w => (Kept.of_setCell w ⟨g, o, none⟩ v).trans (kept_setCells r (o + 1) _) (by simp)
theorem own_wide {g n cap : Nat} {xs : List Value} (h : w.ownsRow base e 1 (.slice (some ⟨g, 0, none⟩) n cap) n xs) (m : Nat) (hm : n + m ≤ cap) : ∃ ys : List Value, ys.length = m ∧ w.ownsRow base e 1 (.slice (some ⟨g, 0, none⟩) (n + m) cap) (n + m) (xs ++ ys) := by
  have hl := h.1
  rcases h.2 with ⟨h1, _⟩ | ⟨g', cap', cur, h1, hb, hg, hnc, hcm, hcs, htake⟩
  · cases h1
  · cases h1
    have hcl : cur.toList.length = cap := by simp; omega
    refine ⟨(cur.toList.drop n).take m, by simp; omega, by simp; omega, Or.inr ⟨g, cap, cur, rfl, hb, hg, hm, hcm, hcs, ?_⟩⟩
    rw [Nat.mul_one] at htake ⊢
    rw [← htake, List.take_add]
theorem own_capS {g n cap size : Nat} {xs : List Value} (h : w.ownsRow base e size (.slice (some ⟨g, 0, none⟩) n cap) n xs) : n ≤ cap ∧ cap ≤ maxLen ∧ ∃ cur, w.heap[g]? = some (.cells cur e (0, 0)) ∧ cur.size = cap * size := by
  rcases h.2 with ⟨h1, _⟩ | ⟨g', cap', cur, h1, hb, hg, hnc, hcm, hcs, htake⟩
  · cases h1
  · cases h1
    exact ⟨hnc, hcm, cur, hg, hcs⟩
end

/-- A value put in. -/
def putAt (l : List Int) (i : Nat) (x : Int) : List Int := l.take i ++ x :: l.drop i
theorem putAt_length (l : List Int) (i : Nat) (x : Int) : (putAt l i x).length = l.length + 1 := by
  simp [putAt]; omega
theorem shift_list {l : List Int} {i : Nat} {x : Int} {xs : List Value} (hi : i ≤ l.length) (hx : xs.length = l.length + 1) (ht : ∀ j, j < i → xs[j]? = (l[j]?).map i64) : setL (setL xs (i + 1) ((l.map i64).drop i)) i [i64 x] = (putAt l i x).map i64 := by
  refine List.ext_getElem? fun j => ?_
  rw [setL_get, setL_length, setL_get]
  simp only [List.length_cons, List.length_nil, List.length_drop, List.length_map, hx]
  unfold putAt
  rw [List.map_append, List.map_cons]
  rcases Nat.lt_trichotomy j i with h | h | h
  · rw [if_neg (by omega), if_neg (by omega), List.getElem?_append_left (by simp; omega), List.getElem?_map, List.getElem?_take_of_lt h]
    exact ht j h
  · subst h
    rw [if_pos (by omega), List.getElem?_append_right (by simp; omega)]
    simp [List.length_take, Nat.min_eq_left hi]
  · rw [if_neg (by omega), List.getElem?_append_right (by simp; omega)]
    have e1 : (List.map i64 (List.take i l)).length = i := by simp; omega
    rw [e1, show j - i = (j - i - 1) + 1 by omega, List.getElem?_cons_succ]
    by_cases h2 : j < l.length + 1
    · rw [if_pos (by omega), List.map_drop]
      congr 1
    · rw [if_neg (by omega), List.getElem?_eq_none (by omega), List.getElem?_eq_none (by simp; omega)]

theorem search_own {w : World} {S : Value} {l : List Int} (h : w.ownsRow 0 3 1 S l.length (l.map i64)) (hs : l.Pairwise (· < ·)) (hn : l.length < 1000000) (x : Int) :
    Calls Tryz.prog 242 #[S, .int .i64 x] w fun e w' => e = .returned (.tuple #[.int .i64 ((l.countP (· < x) : Nat) : Int), .bool (l.contains x)]) ∧ ∃ q, w' = w.drewN q := by
  rcases h.2 with ⟨h1, h2⟩ | ⟨g, cap, cur, h1, _⟩
  · have : l = [] := List.length_eq_zero_iff.1 h2
    subst this h1
    exact (Any.slices_BinarySearch_int_empty laySearch none 0 x w).mono fun e w' ⟨a, b⟩ => ⟨a, 0, b⟩
  · subst h1
    have := Any.slices_BinarySearch_int laySearch g 0 l.length cap l x w (Nat.le_refl _) (by omega) (fun j hj => by
      rw [Nat.zero_add, h.cellAt j (by omega), List.getElem?_map, List.getElem?_eq_getElem hj, List.getD_eq_getElem?_getD, List.getElem?_eq_getElem hj]
      rfl) (by rw [List.take_length]; exact hs.imp fun h => Int.le_of_lt h)
    rw [List.take_length] at this
    exact this

/-- What Insert comes to. -/
def InsPost (w : World) (S : Value) (l : List Int) (e : Ending) (w' : World) : Prop := ∃ v2, e = .returned v2 ∧ w'.ownsRow 0 3 1 v2 l.length (l.map i64) ∧ Kept S.ownBlock.toList w w' ∧ ∀ y, v2.ownBlock = some y → S.ownBlock = some y ∨ w.heap.size ≤ y

theorem oneInt (x : Int) : ∀ v ∈ [i64 x], v.oneCell' = true := fun v hv => by
  obtain rfl : v = i64 x := by simpa using hv
  rfl
theorem oneInts (l : List Int) : ∀ v ∈ l.map i64, v.oneCell' = true := fun v hv => by
  obtain ⟨x, _, rfl⟩ := List.mem_map.1 hv
  rfl
theorem one_cell {w : World} {vb : Nat} {x : Int} (hv : w.cell? ⟨vb, 0, none⟩ = some (i64 x)) : ∀ j v, [i64 x][j]? = some v → w.cell? ⟨vb, 0 + j, none⟩ = some v := fun j v hj => by
  cases j with
  | zero => simp at hj; subst hj; exact hv
  | succ j => simp at hj

theorem insert_own {w : World} {S : Value} {l : List Int} (h : w.ownsRow 0 3 1 S l.length (l.map i64)) (hn : l.length < 1000000) (x : Int) (i : Nat) (hi : i ≤ l.length) (vb : Nat)
    (hv : w.heap[vb]? = some (.cells #[i64 x] 3 (0, 0))) (hvb : ∀ y, S.ownBlock = some y → y ≠ vb) (hsz : (0 : Nat) ≤ w.heap.size) :
    Calls Tryz.prog 244 #[S, .int .i64 (i : Int), .slice (some ⟨vb, 0, none⟩) 1 1] w (InsPost w S (putAt l i x)) := by
  have hc0 : w.cell? ⟨vb, 0, none⟩ = some (i64 x) := cell_of hv 0
  have hpl := putAt_length l i x
  rcases h.2 with ⟨h1, h2⟩ | ⟨g, cap, cur, h1, hb, hg, hnc, hcm, hcs, htake⟩
  · have : l = [] := List.length_eq_zero_iff.1 h2
    subst this h1
    obtain rfl : i = 0 := by simpa using hi
    refine (Any2.slices_Insert_int_end_grow layInsert none 0 0 vb 0 1 1 [] [i64 x] w (by omega) (by omega) (by omega) (by omega) rfl rfl (fun _ => rfl) (fun a ha => by cases ha) (one_cell hc0) (oneInt x)).mono ?_
    rintro e w' ⟨rfl, rfl⟩
    refine ⟨_, rfl, ⟨by simp [putAt], Or.inr ⟨w.heap.size, _, _, rfl, Nat.zero_le _, heap_alloc_new _ _, grownCap_ge _ _ _ _, grownCap_le_maxLen _ _ _ _ (by unfold maxLen; omega), ?_, ?_⟩⟩, (Kept.refl _ w).drew.alloc _, fun y hy => ?_⟩
    · rw [Array.size_append, size_zeroCells]
      have := grownCap_ge w (0 + 1) 0 (layInsert_ren.t 3)
      show 1 + (grownCap w (0 + 1) 0 (layInsert_ren.t 3) - (0 + 1)) * 1 = grownCap w (0 + 1) 0 (layInsert_ren.t 3) * 1
      omega
    · simp [putAt]
    · cases hy
      exact Or.inr (Nat.le_refl _)
  · subst h1
    have hgv := hvb g rfl
    have hll : (l.map i64).length = l.length := by simp
    have hcell : ∀ j v, (l.map i64)[j]? = some v → w.cell? ⟨g, 0 + j, none⟩ = some v := fun j v hj => by
      have hj2 := (List.getElem?_eq_some_iff.1 hj).1
      rw [Nat.zero_add, h.cellAt j (by simpa using hj2)]
      exact hj
    rcases Nat.lt_or_ge l.length cap with hroom | hroom
    · obtain ⟨ys, hy1, hown⟩ := own_wide h 1 hroom
      rcases Nat.lt_or_ge i l.length with hil | hil
      · refine (Any2.slices_Insert_int_shift layInsert g 0 l.length cap i vb 0 1 1 (l.map i64) [i64 x] w hil (by omega) (by omega) (by unfold maxLen at hcm; omega) (fun e => hgv e.symm) hll rfl hcell (fun j hj => ?_) (fun j _ => ?_) (one_cell hc0) (oneInts l) (oneInt x) 3 3 1 cur.size ?_ ?_ (by omega) (unfrozen_of hv 0) (unfrozen_of hv 1)).mono ?_
        · rw [Nat.zero_add, hown.cellAt j (by omega), List.getElem?_eq_getElem (by rw [List.length_append, hll, hy1]; omega)]
          rfl
        · exact unfrozen_of hg _
        · unfold World.shape?
          rw [hv]
          rfl
        · unfold World.shape?
          rw [hg]
        · rintro e w' ⟨rfl, rfl⟩
          have hd : (w.drew).ownsRow 0 3 1 (.slice (some ⟨g, 0, none⟩) (l.length + 1) cap) (l.length + 1) (l.map i64 ++ ys) := hown
          have k1 := own_setCells [i64 x] (0 + i) _ _ (own_setCells ((l.map i64).drop i) (0 + (i + 1)) _ _ hd)
          rw [Nat.zero_add, Nat.zero_add, shift_list hi (by rw [List.length_append, hll, hy1]) (fun j hj => by rw [List.getElem?_append_left (by rw [hll]; omega), List.getElem?_map])] at k1
          refine ⟨_, rfl, by rw [hpl, Nat.zero_add, Nat.zero_add]; exact k1, (((Kept.refl [g] w).drew).trans (kept_setCells _ _ _) (by simp)).trans (kept_setCells _ _ _) (by simp), fun y hy => Or.inl hy⟩
      · obtain rfl : i = l.length := by omega
        refine (Any2.slices_Insert_int_end_room layInsert g 0 l.length cap vb 0 1 1 [i64 x] w (by omega) (by omega) (by unfold maxLen at hcm; omega) rfl (fun j hj => ?_) (fun j _ => unfrozen_of hg _) (one_cell hc0) (oneInt x)).mono ?_
        · rw [Nat.zero_add, hown.cellAt _ (by omega), List.getElem?_eq_getElem (by rw [List.length_append, hll, hy1]; omega)]
          rfl
        · rintro e w' ⟨rfl, rfl⟩
          have k1 := own_setCells [i64 x] (0 + l.length) _ _ hown
          have e1 : setL (l.map i64 ++ ys) (0 + l.length) [i64 x] = (putAt l l.length x).map i64 := by
            rw [← shift_list (xs := l.map i64 ++ ys) (Nat.le_refl _) (by rw [List.length_append, hll, hy1]) (fun j hj => by rw [List.getElem?_append_left (by rw [hll]; omega), List.getElem?_map])]
            rw [Nat.zero_add, List.drop_eq_nil_of_le (by rw [hll]; omega)]
            rfl
          rw [e1] at k1
          exact ⟨_, rfl, by rw [hpl]; exact k1, kept_setCells _ _ _, fun y hy => Or.inl hy⟩
    · rcases Nat.lt_or_ge i l.length with hil | hil
      · refine (Any2.slices_Insert_int_grow layInsert g 0 l.length cap i vb 0 1 1 (l.map i64) [i64 x] w hil (by omega) hnc (by omega) (by omega) hll rfl hcell (one_cell hc0) (oneInts l) (oneInt x)).mono ?_
        rintro e w' ⟨rfl, rfl⟩
        have hcap := grownCap_ge w (l.length + 1) cap (layInsert_ren.t 3)
        have hcap2 := grownCap_le_maxLen w (l.length + 1) cap (layInsert_ren.t 3) (by unfold maxLen; omega)
        generalize hC : (((l.map i64).take i).toArray ++ Builtin.zeroCells (Value.int .i64 0).cells (l.length + 1 - i) ++ Builtin.zeroCells (Value.int .i64 0).cells (grownCap w (l.length + 1) cap (layInsert_ren.t 3) - (l.length + 1))) = C
        have hCs : C.size = grownCap w (l.length + 1) cap (layInsert_ren.t 3) := by
          rw [← hC, Array.size_append, Array.size_append, size_zeroCells, size_zeroCells]
          simp [Value.cells, Nat.min_eq_left (Nat.le_of_lt hil)]
          omega
        generalize grownCap w (l.length + 1) cap (layInsert_ren.t 3) = cap2 at *
        have hown : (w.alloc (.cells C 3)).ownsRow 0 3 1 (.slice (some ⟨w.heap.size, 0, none⟩) (l.length + 1) cap2) (l.length + 1) (C.toList.take (l.length + 1)) :=
          ⟨by simp; omega, Or.inr ⟨w.heap.size, cap2, C, rfl, Nat.zero_le _, heap_alloc_new _ _, hcap, hcap2, by omega, by rw [Nat.mul_one]⟩⟩
        have k0 : ((w.alloc (.cells C 3)).drew).ownsRow 0 3 1 (.slice (some ⟨w.heap.size, 0, none⟩) (l.length + 1) cap2) (l.length + 1) (C.toList.take (l.length + 1)) := hown
        have k1 := own_setCells [i64 x] i _ _ k0
        have k2 : ((((w.alloc (.cells C 3)).drew).setCells w.heap.size i [i64 x]).drew).ownsRow 0 3 1 (.slice (some ⟨w.heap.size, 0, none⟩) (l.length + 1) cap2) (l.length + 1) (setL (C.toList.take (l.length + 1)) i [i64 x]) := k1
        have k3 := own_setCells ((l.map i64).drop i) (i + 1) _ _ k2
        have e1 : setL (setL (C.toList.take (l.length + 1)) i [i64 x]) (i + 1) ((l.map i64).drop i) = (putAt l i x).map i64 := by
          rw [← shift_list (xs := C.toList.take (l.length + 1)) hi (by simp; omega) (fun j hj => ?_)]
          · refine List.ext_getElem? fun j => ?_
            rw [setL_get, setL_get, setL_get, setL_get, setL_length, setL_length]
            simp only [List.length_cons, List.length_nil]
            by_cases q : i ≤ j ∧ j < i + (0 + 1) ∧ j < (C.toList.take (l.length + 1)).length
            · rw [if_pos q, if_neg (by omega), if_pos q]
            · rw [if_neg q, if_neg q]
          · rw [List.getElem?_take_of_lt (by omega), ← hC]
            simp only [Array.toList_append, List.append_assoc]
            rw [List.getElem?_append_left (by simp; omega), List.getElem?_take_of_lt hj, List.getElem?_map]
        rw [e1] at k3
        refine ⟨_, rfl, by rw [hpl]; exact k3, ?_, fun y hy => Or.inr (by cases hy; exact Nat.le_refl _)⟩
        have kk := (((((Kept.refl [] w).alloc (.cells C 3)).drew).trans (kept_setCells (g := w.heap.size) [i64 x] i _) (by simp)).drew).trans (kept_setCells (g := w.heap.size) ((l.map i64).drop i) (i + 1) _) (by simp)
        exact kk.mono (by simp)
      · obtain rfl : i = l.length := by omega
        refine (Any2.slices_Insert_int_end_grow layInsert (some ⟨g, 0, none⟩) l.length cap vb 0 1 1 (l.map i64) [i64 x] w (by omega) hnc (by omega) (by omega) hll rfl (fun e => by cases e) (fun a ha j v hj => by cases ha; have := hcell j v hj; rw [Nat.zero_add] at this; rw [show (⟨g, 0, none⟩ : Addr).add j = ⟨g, j, none⟩ by unfold Addr.add; split <;> simp_all]; exact this) (one_cell hc0) (oneInt x)).mono ?_
        rintro e w' ⟨rfl, rfl⟩
        have hcap := grownCap_ge w (l.length + 1) cap (layInsert_ren.t 3)
        refine ⟨_, rfl, ⟨by simp [putAt], Or.inr ⟨w.heap.size, _, _, by rw [hpl], Nat.zero_le _, heap_alloc_new _ _, by rw [hpl]; exact hcap, grownCap_le_maxLen _ _ _ _ (by unfold maxLen; omega), ?_, ?_⟩⟩, (Kept.refl _ w).drew.alloc _, fun y hy => ?_⟩
        · rw [Array.size_append, size_zeroCells]
          simp [Value.cells]
          omega
        · simp only [Array.toList_append, putAt]
          rw [List.take_append_of_le_length (by simp)]
          simp
          exact List.take_of_length_le (by simp)
        · cases hy
          exact Or.inr (Nat.le_refl _)

theorem own_narrow {w : World} {base : Nat} {e : TypeId} {g n cap : Nat} {xs : List Value} (h : w.ownsRow base e 1 (.slice (some ⟨g, 0, none⟩) n cap) n xs) (m : Nat) (hm : m ≤ n) : w.ownsRow base e 1 (.slice (some ⟨g, 0, none⟩) m cap) m (xs.take m) := by
  have hl := h.1
  rcases h.2 with ⟨h1, _⟩ | ⟨g', cap', cur, h1, hb, hg, hnc, hcm, hcs, htake⟩
  · cases h1
  · cases h1
    refine ⟨by simp; omega, Or.inr ⟨g, cap, cur, rfl, hb, hg, by omega, hcm, hcs, ?_⟩⟩
    rw [Nat.mul_one] at htake ⊢
    rw [← htake, List.take_take, Nat.min_eq_left hm]
theorem setL_all (xs vs : List Value) (h : vs.length = xs.length) : setL xs 0 vs = vs := by
  refine List.ext_getElem? fun j => ?_
  rw [setL_get]
  by_cases hj : j < vs.length
  · rw [if_pos (by omega), Nat.sub_zero]
  · rw [if_neg (by omega), List.getElem?_eq_none (by omega), List.getElem?_eq_none (by omega)]
theorem delete_own {w : World} {S : Value} {l : List Int} (h : w.ownsRow 0 3 1 S l.length (l.map i64)) (hn : l.length < 1000000) (i : Nat) (hi : i < l.length) (j : Int) (hj : j = (i : Int) + 1) :
    Calls Tryz.prog 203 #[S, .int .i64 (i : Int), .int .i64 j] w (InsPost w S (l.eraseIdx i)) := by
  obtain rfl : j = ((i + 1 : Nat) : Int) := by omega
  rcases h.2 with ⟨h1, h2⟩ | ⟨g, cap, cur, h1, hb, hg, hnc, hcm, hcs, htake⟩
  · omega
  · subst h1
    refine (Any.slices_Delete_int_cells layDelete g 0 l.length cap i (i + 1) l w (Nat.le_refl _) hnc (by unfold maxLen at hcm; omega) (by omega) (by omega) (fun j hj => ?_) (fun j _ => unfrozen_of hg _)).mono ?_
    · rw [Nat.zero_add, h.cellAt j (by omega), List.getElem?_map, List.getElem?_eq_getElem hj, List.getD_eq_getElem?_getD, List.getElem?_eq_getElem hj]
      rfl
    · rintro e w' ⟨rfl, q, rfl⟩
      have hd : (w.drewN q).ownsRow 0 3 1 (.slice (some ⟨g, 0, none⟩) l.length cap) l.length (l.map i64) := h
      have k1 := own_setCells (((l.take l.length).take i ++ (l.take l.length).drop (i + 1) ++ List.replicate (i + 1 - i) 0).map (Value.int .i64)) 0 _ _ hd
      rw [setL_all _ _ (by simp; omega), List.take_length] at k1
      have k2 := own_narrow k1 (l.length - (i + 1 - i)) (by omega)
      have hel : (l.eraseIdx i).length = l.length - (i + 1 - i) := by rw [List.length_eraseIdx_of_lt hi]; omega
      refine ⟨_, rfl, ?_, ((Kept.refl [g] w).drewN q).trans (kept_setCells _ _ _) (by simp), fun y hy => Or.inl hy⟩
      rw [hel]
      have e1 : List.take (l.length - (i + 1 - i)) (List.map (Value.int IntKind.i64) (List.take i l ++ List.drop (i + 1) l ++ List.replicate (i + 1 - i) 0)) = (l.eraseIdx i).map i64 := by
        rw [List.map_append, List.take_append_of_le_length (by simp; omega), List.take_of_length_le (by simp; omega), List.eraseIdx_eq_take_drop_succ]
        rfl
      rw [← e1]
      rw [List.take_length] 
      exact k2

end Go.Proofs.YtjoblahedgpgbaaGreat
