/- The first way that a set has is its least header, plainly; what the document's loops keep. -/
import Derived.Test.YtakgghhmecphmaaCntP
namespace Go.Proofs.Ytakgghhmecphmaa
set_option linter.unusedVariables false
set_option linter.unusedSimpArgs false

theorem free_congr {F : Fn} {q : Nat → Bool} (h : Free1 F q) {b b' : Nat → Bool} (hq : ∀ i, i < 104 → q i = true → b i = b' i) (hh : ∀ i, 104 ≤ i → b i = b' i) : F b = F b' := by
  have : ∀ k, k ≤ 104 → F (fun i => if i < k then b' i else b i) = F b := by
    intro k
    induction k with
    | zero => intro _; exact congrArg F (funext fun i => by rw [if_neg (by omega)])
    | succ k ih =>
      intro hk
      rw [← ih (by omega)]
      by_cases e : q k = true
      · refine congrArg F (funext fun i => ?_)
        by_cases h1 : i < k
        · rw [if_pos h1, if_pos (by omega)]
        · by_cases h2 : i = k
          · subst h2
            rw [if_pos (by omega), if_neg (by omega), hq i (by omega) e]
          · rw [if_neg h1, if_neg (by omega)]
      · have e' : q k = false := by simpa using e
        rw [← h (fun i => if i < k then b' i else b i) k (b' k) e']
        refine congrArg F (funext fun i => ?_)
        unfold updB
        by_cases h2 : i = k
        · subst h2
          rw [if_pos (by omega), if_pos rfl]
        · rw [if_neg h2]
          show _ = if i < k then b' i else b i
          by_cases h1 : i < k
          · rw [if_pos h1, if_pos (by omega)]
          · rw [if_neg h1, if_neg (by omega)]
  rw [← this 104 (Nat.le_refl _)]
  refine congrArg F (funext fun i => ?_)
  by_cases h1 : i < 104
  · rw [if_pos h1]
  · rw [if_neg h1]
    exact hh i (by omega)
theorem varsF_sorted (q : Nat → Bool) (d : Nat) : (varsF q d).Pairwise (· < ·) := (List.pairwise_lt_range' _).filter _
theorem varsF_nodup (q : Nat → Bool) (d : Nat) : (varsF q d).Nodup := (varsF_sorted q d).imp (fun h => by omega)
theorem varsF_mem {q : Nat → Bool} {i : Nat} : i ∈ varsF q 104 ↔ i < 104 ∧ q i = true := by
  unfold varsF
  rw [List.mem_filter, List.mem_range'_1]
  constructor
  · rintro ⟨h1, h2⟩
    exact ⟨by omega, h2⟩
  · rintro ⟨h1, h2⟩
    exact ⟨by omega, h2⟩
/-- Some way has the bits so. -/
theorem way_of {v : List Nat} (b : Nat → Bool) : ∃ w, w < 2 ^ v.length ∧ ∀ i (h : i < v.length), w.testBit (v.length - 1 - i) = b v[i] := by
  refine ⟨numB (v.map b), ?_, fun i h => ?_⟩
  · have := numB_lt (v.map b)
    rwa [List.length_map] at this
  · have := numB_at (v.map b) i (by rw [List.length_map]; exact h)
    rw [List.length_map] at this
    rw [this, List.getD_eq_getElem?_getD, List.getElem?_map, List.getElem?_eq_getElem h]
    rfl
theorem way_in {F : Fn} {q : Nat → Bool} (hF : Free1 F q) {b : Nat → Bool} (hb : ∀ i, 104 ≤ i → b i = false) {w : Nat} (h : ∀ i (h : i < (varsF q 104).length), w.testBit ((varsF q 104).length - 1 - i) = b (varsF q 104)[i]) : F (asgF (varsF q 104) w) = F b := by
  refine free_congr hF (fun i hi hq => ?_) (fun i hi => ?_)
  · obtain ⟨k, hk, rfl⟩ := List.mem_iff_getElem.1 (varsF_mem.2 ⟨hi, hq⟩)
    rw [asgF_at _ _ _ hk (varsF_nodup _ _)]
    exact h k hk
  · rw [hb i hi]
    exact asgF_off _ _ _ (fun hm => by have := (varsF_mem.1 hm).1; omega)
theorem Hd.bit_high (h : Hd) {i : Nat} (hi : 104 ≤ i) : h.bit i = false := by
  unfold Hd.bit
  simp [show ¬ i < 32 by omega, show ¬ i < 64 by omega, show ¬ i < 72 by omega, show ¬ i < 88 by omega, show ¬ i < 104 by omega]

theorem lt_bit {w u p : Nat} (h1 : w.testBit p = false) (h2 : u.testBit p = true) (h : ∀ t, p < t → w.testBit t = u.testBit t) : w < u := by
  have e : w / 2 ^ (p + 1) = u / 2 ^ (p + 1) := Nat.eq_of_testBit_eq (fun i => by rw [Nat.testBit_div_two_pow, Nat.testBit_div_two_pow]; exact h _ (by omega))
  have d : ∀ z : Nat, z / 2 ^ (p + 1) = z / 2 ^ p / 2 := fun z => by rw [Nat.pow_succ, Nat.div_div_eq_div_mul]
  rw [d, d] at e
  rw [Nat.testBit_eq_decide_div_mod_eq] at h1 h2
  have h1 := of_decide_eq_false h1
  have h2 := of_decide_eq_true h2
  rcases Nat.lt_or_ge w u with h3 | h3
  · exact h3
  · have := Nat.div_le_div_right (c := 2 ^ p) h3
    omega
/-- The first way that a set has is its least header. -/
theorem least_first {A : Arn} {f : Nat} {q : Nat → Bool} (hF : Free1 (fun b => inA A b f) q) {w0 : Nat} (h2 : w0 < 2 ^ (varsF q 104).length) (hw : inA A (asgF (varsF q 104) w0) f = true) (hmin : ∀ w, w < w0 → inA A (asgF (varsF q 104) w) f = false) {hd h0 : Hd} (hl : Least A f false hd) (hwf : h0.Wf) (hbit : h0.bit = asgF (varsF q 104) w0) : hd = h0 := by
  have hp := hl.2.2 h0.bit (by rw [hbit]; exact hw)
  rcases hp with hp | ⟨j, hj, hp, p1, p2⟩
  · exact Hd.eq_of hl.1 hwf (fun i hi => (hp i hi).symm)
  · exfalso
    obtain ⟨w', hw1, hw2⟩ := way_of (v := varsF q 104) hd.bit
    have hin := way_in hF (b := hd.bit) (fun i hi => hd.bit_high hi) hw2
    have hjm : j ∈ varsF q 104 := by
      by_cases e : j ∈ varsF q 104
      · exact e
      · have := asgF_off _ w0 j e
        rw [← hbit, p2] at this
        cases this
    obtain ⟨k, hk, rfl⟩ := List.mem_iff_getElem.1 hjm
    have hlt : w' < w0 := by
      refine lt_bit (p := (varsF q 104).length - 1 - k) ?_ ?_ ?_
      · rw [hw2 k hk, p1]
      · rw [← asgF_at _ _ _ hk (varsF_nodup _ _), ← hbit, p2]
        rfl
      · intro t ht
        by_cases htm : t < (varsF q 104).length
        · have e1 : (varsF q 104).length - 1 - ((varsF q 104).length - 1 - t) = t := by omega
          have hi : (varsF q 104).length - 1 - t < (varsF q 104).length := by omega
          have a1 := hw2 _ hi
          have a2 := asgF_at (varsF q 104) w0 _ hi (varsF_nodup _ _)
          rw [e1] at a1 a2
          rw [a1, ← a2, ← hbit, hp]
          exact List.pairwise_iff_getElem.1 (varsF_sorted q 104) _ _ hi hk (by omega)
        · have hp2 : 2 ^ (varsF q 104).length ≤ 2 ^ t := Nat.pow_le_pow_right (by omega) (by omega)
          rw [Nat.testBit_lt_two_pow (by omega), Nat.testBit_lt_two_pow (by omega)]
    have := hmin w' hlt
    rw [hin, hl.2.1] at this
    cases this

/-- The bits as the document lays them: the first k of them are held. -/
def bitsW (v : List Nat) (w k : Nat) : List Bool := (List.range 104).map fun j => if j ∈ v.take k then asgF v w j else false
theorem bitsW_length (v : List Nat) (w k : Nat) : (bitsW v w k).length = 104 := by simp [bitsW]
theorem bitsW_zero (v : List Nat) (w : Nat) : bitsW v w 0 = List.replicate 104 false := by
  unfold bitsW
  simp only [List.take_zero, List.not_mem_nil, if_false]
  rw [List.map_const', List.length_range]
theorem bitsW_succ {v : List Nat} (hn : v.Nodup) (hlt : ∀ x ∈ v, x < 104) (w : Nat) {k : Nat} (hk : k < v.length) : (bitsW v w k).set v[k] (w.testBit (v.length - 1 - k)) = bitsW v w (k + 1) := by
  have hv := hlt _ (List.getElem_mem hk)
  apply List.ext_getElem?
  intro j
  rw [← asgF_at v w k hk hn, List.getElem?_set]
  unfold bitsW
  rw [List.length_map, List.length_range, List.getElem?_map, List.getElem?_map]
  have htk : v.take (k + 1) = v.take k ++ [v[k]] := by rw [List.take_add_one, List.getElem?_eq_getElem hk]; rfl
  by_cases e : v[k] = j
  · subst e
    rw [if_pos rfl, if_pos hv, List.getElem?_range hv, htk, Option.map_some, if_pos (List.mem_append.2 (Or.inr List.mem_cons_self))]
  · rw [if_neg e]
    by_cases hj : j < 104
    · have hm : j ∈ v.take (k + 1) ↔ j ∈ v.take k := by
        rw [htk, List.mem_append, List.mem_singleton]
        exact ⟨fun h => h.resolve_right (fun h => e h.symm), Or.inl⟩
      rw [List.getElem?_range hj, Option.map_some, Option.map_some]
      by_cases h1 : j ∈ v.take k
      · rw [if_pos h1, if_pos (hm.2 h1)]
      · rw [if_neg h1, if_neg (fun h => h1 (hm.1 h))]
    · rw [List.getElem?_eq_none (by simpa using hj)]
      rfl
theorem bitsW_bit {v : List Nat} (hlt : ∀ x ∈ v, x < 104) (w : Nat) : (backH (bitsW v w v.length)).bit = asgF v w := by
  funext i
  rw [backH_bit (bitsW_length _ _ _), List.getD_eq_getElem?_getD]
  unfold bitsW
  rw [List.take_length, List.getElem?_map]
  by_cases hi : i < 104
  · rw [List.getElem?_range hi]
    simp only [Option.map_some, Option.getD_some]
    by_cases hm : i ∈ v
    · rw [if_pos hm]
    · rw [if_neg hm, asgF_off v w i hm]
  · rw [List.getElem?_eq_none (by simpa using hi)]
    rw [asgF_off v w i (fun hm => by have := hlt i hm; omega)]
    rfl

/-- What the document's rows keep: of each set how many ways of the first f i, and the first of them. -/
def hasW (l : List Ex) (v : List Nat) (i w : Nat) : Bool := (inL l (asgF v w)).getD i false
def cntW (l : List Ex) (v : List Nat) (i k : Nat) : Nat := (List.range k).countP (hasW l v i)
def oneW (l : List Ex) (v : List Nat) (i k : Nat) : Option Nat := (List.range k).find? (hasW l v i)
def hdW (l : List Ex) (v : List Nat) (i k : Nat) : Hd := match oneW l v i k with | some w => backH (bitsW v w v.length) | none => hdZ
theorem cntW_succ (l : List Ex) (v : List Nat) (i k : Nat) : cntW l v i (k + 1) = cntW l v i k + (hasW l v i k).toNat := by
  unfold cntW
  rw [List.range_succ, List.countP_append, List.countP_singleton]
  cases hasW l v i k <;> rfl
theorem cntW_le (l : List Ex) (v : List Nat) (i k : Nat) : cntW l v i k ≤ k := by
  unfold cntW
  have := List.countP_le_length (p := hasW l v i) (l := List.range k)
  simpa using this
theorem oneW_succ (l : List Ex) (v : List Nat) (i k : Nat) : oneW l v i (k + 1) = match oneW l v i k with | some w => some w | none => if hasW l v i k then some k else none := by
  unfold oneW
  rw [List.range_succ, List.find?_append, List.find?_singleton]
  cases (List.range k).find? (hasW l v i) <;> rfl
theorem oneW_some {l : List Ex} {v : List Nat} {i k w : Nat} (h : oneW l v i k = some w) : w < k ∧ hasW l v i w = true ∧ ∀ u, u < w → hasW l v i u = false := by
  induction k with
  | zero => cases h
  | succ k ih =>
    rw [oneW_succ] at h
    cases e : oneW l v i k with
    | some u =>
      rw [e] at h
      cases h
      obtain ⟨h1, h2⟩ := ih e
      exact ⟨by omega, h2⟩
    | none =>
      rw [e] at h
      simp only at h
      split at h
      · cases h
        rename_i h1
        refine ⟨by omega, h1, fun u hu => ?_⟩
        have := List.find?_eq_none.1 e u (List.mem_range.2 hu)
        simpa using this
      · cases h
theorem oneW_none {l : List Ex} {v : List Nat} {i k : Nat} (h : oneW l v i k = none) : ∀ u, u < k → hasW l v i u = false := fun u hu => by
  have := List.find?_eq_none.1 h u (List.mem_range.2 hu)
  simpa using this
/-- A row whose first j places are a round ahead. -/
def rowG {α : Type} (n : Nat) (G : Nat → Nat → α) (k j : Nat) : List α := (List.range n).map fun i => G i (if i < j then k + 1 else k)
theorem rowG_length {α : Type} (n : Nat) (G : Nat → Nat → α) (k j : Nat) : (rowG n G k j).length = n := by simp [rowG]
theorem rowG_get {α : Type} {n : Nat} {G : Nat → Nat → α} {k j i : Nat} (hi : i < n) : (rowG n G k j)[i]? = some (G i (if i < j then k + 1 else k)) := by
  unfold rowG
  rw [List.getElem?_map, List.getElem?_range hi]
  rfl
theorem rowG_at {α : Type} {n : Nat} {G : Nat → Nat → α} {k j : Nat} (hj : j < n) : (rowG n G k j)[j]? = some (G j k) := by
  rw [rowG_get hj, if_neg (by omega)]
theorem rowG_set {α : Type} {n : Nat} {G : Nat → Nat → α} {k j : Nat} (hj : j < n) {x : α} (hx : x = G j (k + 1)) : (rowG n G k j).set j x = rowG n G k (j + 1) := by
  apply List.ext_getElem?
  intro i
  rw [List.getElem?_set, rowG_length]
  by_cases e : j = i
  · subst e
    rw [if_pos rfl, if_pos hj, rowG_get hj, if_pos (by omega), hx]
  · rw [if_neg e]
    by_cases hi : i < n
    · rw [rowG_get hi, rowG_get hi]
      by_cases h1 : i < j
      · rw [if_pos h1, if_pos (by omega)]
      · rw [if_neg h1, if_neg (by omega)]
    · rw [List.getElem?_eq_none (by rw [rowG_length]; omega), List.getElem?_eq_none (by rw [rowG_length]; omega)]
theorem rowG_same {α : Type} {n : Nat} {G : Nat → Nat → α} {k j : Nat} (hj : j < n) (hx : G j (k + 1) = G j k) : rowG n G k (j + 1) = rowG n G k j := by
  rw [← rowG_set hj hx.symm]
  apply List.ext_getElem?
  intro i
  rw [List.getElem?_set, rowG_length]
  by_cases e : j = i
  · subst e
    rw [if_pos rfl, if_pos hj, rowG_at hj]
  · rw [if_neg e]
theorem rowG_end {α : Type} (n : Nat) (G : Nat → Nat → α) (k : Nat) : rowG n G k n = rowG n G (k + 1) 0 := by
  apply List.ext_getElem?
  intro i
  by_cases hi : i < n
  · rw [rowG_get hi, rowG_get hi, if_pos hi, if_neg (by omega)]
  · rw [List.getElem?_eq_none (by rw [rowG_length]; omega), List.getElem?_eq_none (by rw [rowG_length]; omega)]
end Go.Proofs.Ytakgghhmecphmaa
