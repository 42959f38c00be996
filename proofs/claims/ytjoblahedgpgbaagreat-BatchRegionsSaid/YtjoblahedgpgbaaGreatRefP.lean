/- The document's list of rules: an insertion keeps it sorted. Plain. -/
import Derived.Test.YtjoblahedgpgbaaGreatRBest
namespace Go.Proofs.YtjoblahedgpgbaaGreat
set_option linter.unusedVariables false
set_option linter.unusedSimpArgs false
open Go.RowKit

/-- A place in a list for a rule. -/
structure InsAt (l : List Rl) (r : Rl) (k : Nat) : Prop where
  le : k ≤ l.length
  up : ∀ j x, k = j + 1 → l[j]? = some x → aheadR x r = true
  off : ∀ j x, k ≤ j → l[j]? = some x → aheadR x r = false

/-- What the document's Add comes to. -/
def AddS (l : List Rl) (r : Rl) (fo : List Rl × Int) : Prop :=
  (rtB r.dst = false ∧ fo = (l, 13)) ∨ (rtB r.dst = true ∧ (findR l r.id).isSome = true ∧ fo = (l, 4)) ∨ (rtB r.dst = true ∧ (∀ x ∈ l, x.id ≠ r.id) ∧ ∃ k, InsAt l r k ∧ fo = (l.take k ++ r :: l.drop k, 0))

theorem ahead_trans {a b c : Rl} (h1 : aheadR a b = true) (h2 : aheadR b c = true) : aheadR a c = true := by
  rw [ahead_iff] at *
  omega
theorem ahead_total {a b : Rl} (h : aheadR a b = false) (hn : a.id ≠ b.id) : aheadR b a = true := by
  rw [ahead_false] at h
  rw [ahead_iff]
  omega
theorem ahead_asym {a b : Rl} (h : aheadR a b = true) : aheadR b a = false := by
  rw [ahead_iff] at h
  rw [ahead_false]
  omega
theorem Sorted.weak {l : List Rl} (h : Sorted l) : l.Pairwise (fun a b => aheadR b a = false) := h.imp ahead_asym

theorem InsAt.sorted {l : List Rl} {r : Rl} {k : Nat} (h : InsAt l r k) (hs : Sorted l) (hn : ∀ x ∈ l, x.id ≠ r.id) : Sorted (l.take k ++ r :: l.drop k) := by
  have h1 : ∀ x ∈ l.take k, aheadR x r = true := by
    intro x hx
    obtain ⟨i, hi, rfl⟩ := List.mem_iff_getElem.1 hx
    have hik : i < k := by simp at hi; omega
    have hil : i < l.length := by simp at hi; omega
    obtain ⟨j, rfl⟩ : ∃ j, k = j + 1 := ⟨k - 1, by omega⟩
    have hj : j < l.length := by have := h.le; omega
    have h3 := h.up j l[j] rfl (List.getElem?_eq_getElem hj)
    rw [List.getElem_take]
    by_cases e : i = j
    · subst e
      exact h3
    · exact ahead_trans (List.pairwise_iff_getElem.1 hs i j hil hj (by omega)) h3
  have h2 : ∀ x ∈ l.drop k, aheadR r x = true := by
    intro x hx
    obtain ⟨i, hi, rfl⟩ := List.mem_iff_getElem.1 hx
    have hil : k + i < l.length := by simp at hi; omega
    rw [List.getElem_drop]
    exact ahead_total (h.off (k + i) _ (by omega) (List.getElem?_eq_getElem hil)) (hn _ (List.getElem_mem hil))
  have hs' := hs
  rw [← List.take_append_drop k l] at hs'
  obtain ⟨s1, s2, s3⟩ := List.pairwise_append.1 hs'
  refine List.pairwise_append.2 ⟨s1, List.pairwise_cons.2 ⟨h2, s2⟩, fun x hx y hy => ?_⟩
  rcases List.mem_cons.1 hy with rfl | hy
  · exact h1 x hx
  · exact s3 x hx y hy

theorem findR_isSome {l : List Rl} {x : Int} : (findR l x).isSome = true ↔ ∃ r ∈ l, r.id = x := by simp [findR]

/-- The table's rules and the document's. -/
structure Pair (L l : List Rl) : Prop where
  perm : l.Perm L
  sorted : Sorted l
  ids : (l.map (·.id)).Nodup

theorem Pair.nil : Pair [] [] := ⟨List.Perm.refl _, List.Pairwise.nil, List.Pairwise.nil⟩
theorem Pair.find {L l : List Rl} (h : Pair L l) (x : Int) : findR L x = findR l x := (find_perm h.perm h.ids x).symm

theorem Pair.add {L l : List Rl} {r : Rl} {fo : List Rl × Int} (h : Pair L l) (hf : AddS l r fo) : Pair (addT L r).1 fo.1 ∧ fo.2 = (addT L r).2 := by
  unfold addT
  rw [h.find]
  rcases hf with ⟨h1, rfl⟩ | ⟨h1, h2, rfl⟩ | ⟨h1, h2, k, hk, rfl⟩
  · rw [if_neg (by simp [h1])]
    exact ⟨h, rfl⟩
  · rw [if_pos h1, if_pos h2]
    exact ⟨h, rfl⟩
  · rw [if_pos h1, if_neg (by rw [findR_isSome]; rintro ⟨x, hx, e⟩; exact h2 x hx e)]
    have hp : (l.take k ++ r :: l.drop k).Perm (r :: l) := by
      have := List.perm_middle (a := r) (l₁ := l.take k) (l₂ := l.drop k)
      rwa [List.take_append_drop] at this
    refine ⟨⟨hp.trans (h.perm.cons r), hk.sorted h.sorted h2, ?_⟩, rfl⟩
    rw [(hp.map _).nodup_iff, List.map_cons, List.nodup_cons]
    refine ⟨fun hm => ?_, h.ids⟩
    obtain ⟨x, hx, e⟩ := List.mem_map.1 hm
    exact h2 x hx e

theorem Pair.drop {L l : List Rl} (h : Pair L l) (id : Int) : Pair (dropT L id).1 (dropT l id).1 ∧ (dropT l id).2 = (dropT L id).2 := by
  unfold dropT
  rw [h.find]
  cases (findR l id).isSome with
  | false => exact ⟨h, rfl⟩
  | true => exact ⟨⟨h.perm.filter _, h.sorted.sublist List.filter_sublist, h.ids.sublist (List.filter_sublist.map _)⟩, rfl⟩

theorem add_ok {L : List Rl} {r : Rl} (h : ∀ x ∈ L, x.Ok) (h1 : r.addr < 2 ^ 32) (h3 : okI r.id) : ∀ x ∈ (addT L r).1, x.Ok := by
  unfold addT
  split
  · split
    · exact h
    · intro x hx
      rcases List.mem_cons.1 hx with rfl | hx
      · exact ⟨h1, by assumption, h3⟩
      · exact h x hx
  · exact h
theorem add_len (L : List Rl) (r : Rl) : (addT L r).1.length ≤ L.length + 1 := by
  unfold addT
  split
  · split <;> simp
  · simp
theorem drop_len (L : List Rl) (id : Int) : (dropT L id).1.length ≤ L.length := by
  unfold dropT
  split
  · exact List.length_filter_le _ _
  · exact Nat.le_refl _
theorem drop_sub (L : List Rl) (id : Int) : ∀ x ∈ (dropT L id).1, x ∈ L := by
  unfold dropT
  split
  · intro x hx
    exact (List.mem_filter.1 hx).1
  · exact fun x hx => hx

/-- Taking the one place out is the filter. -/
theorem drop_at {l : List Rl} {i : Nat} (hi : i < l.length) (hn : (l.map (·.id)).Nodup) : l.take i ++ l.drop (i + 1) = l.filter fun r => decide (r.id ≠ l[i].id) := by
  have e : l = l.take i ++ l[i] :: l.drop (i + 1) := by rw [← List.drop_eq_getElem_cons hi, List.take_append_drop]
  have hn' : ((l.take i ++ l[i] :: l.drop (i + 1)).map (·.id)).Nodup := by rw [← e]; exact hn
  rw [List.map_append, List.map_cons] at hn'
  obtain ⟨_, n2, n3⟩ := List.nodup_append.1 hn'
  obtain ⟨m1, _⟩ := List.nodup_cons.1 n2
  generalize l[i] = x at *
  rw [e, List.filter_append, List.filter_cons_of_neg (by simp)]
  have k1 : (l.take i).filter (fun r => decide (r.id ≠ x.id)) = l.take i := List.filter_eq_self.2 fun r hr => by
    have := n3 r.id (List.mem_map_of_mem hr) x.id (by simp)
    simp [this]
  have k2 : (l.drop (i + 1)).filter (fun r => decide (r.id ≠ x.id)) = l.drop (i + 1) := List.filter_eq_self.2 fun r hr => by
    have : r.id ≠ x.id := fun e => m1 (e ▸ List.mem_map_of_mem hr)
    simp [this]
  rw [← e, k1, k2]

/-- A row that is one of the two lists. -/
def RowOr (w w' : World) (v v' : Value) (l l' : List Rl) : Prop := w'.ownsRow w.heap.size 89 6 v' l'.length (rlCells l') ∨ (v' = v ∧ l' = l)
end Go.Proofs.YtjoblahedgpgbaaGreat
