/- The table of rules: its plain laws (what the tree's values are, for a list of rules). -/
import Derived.Test.YtjoblahedgpgbaaGreatTrieMeet
import Derived.Test.YtjoblahedgpgbaaGreatRul
import Derived.Test.YtjoblahedgpgbaaGreatMap
namespace Go.Proofs.YtjoblahedgpgbaaGreat
set_option linter.unusedVariables false
set_option linter.unusedSimpArgs false
open Go.RowKit

def Rl.path (r : Rl) : List Bool := pth r.addr r.bits.toNat
def okI (x : Int) : Prop := -9223372036854775808 ≤ x ∧ x ≤ 9223372036854775807
def Rl.Ok (r : Rl) : Prop := r.addr < 2 ^ 32 ∧ rtB r.dst = true ∧ okI r.id
def findR (L : List Rl) (id : Int) : Option Rl := L.find? fun r => decide (r.id = id)
def idsAt (L : List Rl) (π : List Bool) : List Int := (L.filter fun r => decide (r.path = π)).map (·.id)
/-- The tree's values are the rules' ids. -/
def TVals (V : List Bool → List Int) (L : List Rl) : Prop := ∀ π, (V π).Perm (idsAt L π) ∧ (V π).Pairwise (· < ·)

theorem sorted_split (x : Int) : ∀ l : List Int, l.Pairwise (· < ·) → (∀ y ∈ l.take (l.countP (· < x)), y < x) ∧ (∀ y ∈ l.drop (l.countP (· < x)), x ≤ y)
  | [], _ => by simp
  | a :: l, h => by
    obtain ⟨h1, h2⟩ := List.pairwise_cons.1 h
    obtain ⟨i1, i2⟩ := sorted_split x l h2
    by_cases ha : a < x
    · rw [List.countP_cons_of_pos (by simpa using ha)]
      refine ⟨fun y hy => ?_, fun y hy => i2 y (by simpa using hy)⟩
      rw [List.take_succ_cons] at hy
      rcases List.mem_cons.1 hy with rfl | hy
      · exact ha
      · exact i1 y hy
    · have h0 : l.countP (· < x) = 0 := List.countP_eq_zero.2 fun y hy => by have := h1 y hy; simp; omega
      rw [List.countP_cons_of_neg (by simpa using ha), h0]
      refine ⟨by simp, fun y hy => ?_⟩
      rcases List.mem_cons.1 (by simpa using hy) with rfl | hy
      · omega
      · have := h1 y hy
        omega

theorem putAt_perm (l : List Int) (i : Nat) (x : Int) : (putAt l i x).Perm (x :: l) := by
  unfold putAt
  refine List.perm_middle.trans ?_
  rw [List.take_append_drop]
theorem putAt_sorted (x : Int) (l : List Int) (h : l.Pairwise (· < ·)) (hx : x ∉ l) : (putAt l (l.countP (· < x)) x).Pairwise (· < ·) := by
  obtain ⟨h1, h2⟩ := sorted_split x l h
  unfold putAt
  rw [List.pairwise_append]
  refine ⟨h.sublist (List.take_sublist _ _), List.pairwise_cons.2 ⟨fun y hy => ?_, h.sublist (List.drop_sublist _ _)⟩, fun a ha b hb => ?_⟩
  · have := h2 y hy
    have : y ≠ x := fun e => hx (e ▸ List.mem_of_mem_drop hy)
    omega
  · have := h1 a ha
    rcases List.mem_cons.1 hb with rfl | hb
    · exact this
    · have := h2 b hb
      omega
theorem erase_perm (x : Int) : ∀ l : List Int, l.Pairwise (· < ·) → x ∈ l → l.Perm (x :: l.eraseIdx (l.countP (· < x)))
  | [], _, hx => by cases hx
  | a :: l, h, hx => by
    obtain ⟨h1, h2⟩ := List.pairwise_cons.1 h
    by_cases ha : a < x
    · rw [List.countP_cons_of_pos (by simpa using ha), List.eraseIdx_cons_succ]
      have hx2 : x ∈ l := by
        rcases List.mem_cons.1 hx with rfl | hx
        · omega
        · exact hx
      exact ((erase_perm x l h2 hx2).cons a).trans (List.Perm.swap _ _ _)
    · have h0 : l.countP (· < x) = 0 := List.countP_eq_zero.2 fun y hy => by have := h1 y hy; simp; omega
      rw [List.countP_cons_of_neg (by simpa using ha), h0, List.eraseIdx_cons_zero]
      rcases List.mem_cons.1 hx with rfl | hx
      · exact List.Perm.refl _
      · have := h1 x hx
        omega

theorem TVals.perm {V : List Bool → List Int} {L L' : List Rl} (h : TVals V L) (hp : L.Perm L') : TVals V L' :=
  fun π => ⟨(h π).1.trans ((hp.filter _).map _), (h π).2⟩
theorem TVals.nil : TVals (fun _ => []) [] := fun π => ⟨List.Perm.refl _, List.Pairwise.nil⟩
theorem TVals.mem {V : List Bool → List Int} {L : List Rl} (h : TVals V L) {π : List Bool} {x : Int} : x ∈ V π ↔ ∃ r ∈ L, r.path = π ∧ r.id = x := by
  rw [(h π).1.mem_iff]
  simp [idsAt, and_assoc]
theorem TVals.len {V : List Bool → List Int} {L : List Rl} (h : TVals V L) (π : List Bool) : (V π).length ≤ L.length := by
  rw [(h π).1.length_eq, idsAt, List.length_map]
  exact List.length_filter_le _ _
theorem TVals.add {V : List Bool → List Int} {L : List Rl} (h : TVals V L) (r : Rl) (hr : ∀ x ∈ L, x.id ≠ r.id) : TVals (updV V r.path (putAt (V r.path) ((V r.path).countP (· < r.id)) r.id)) (r :: L) := by
  intro π
  unfold updV
  by_cases hπ : π = r.path
  · subst hπ
    rw [if_pos rfl]
    have hn : r.id ∉ V r.path := fun hm => by
      obtain ⟨x, hx, _, he⟩ := h.mem.1 hm
      exact hr x hx he
    refine ⟨?_, putAt_sorted _ _ (h _).2 hn⟩
    have : idsAt (r :: L) r.path = r.id :: idsAt L r.path := by simp [idsAt]
    rw [this]
    exact (putAt_perm _ _ _).trans ((h _).1.cons _)
  · rw [if_neg hπ]
    have : idsAt (r :: L) π = idsAt L π := by unfold idsAt; rw [List.filter_cons_of_neg (by simpa using fun e : r.path = π => hπ e.symm)]
    rw [this]
    exact h π
theorem TVals.drop {V : List Bool → List Int} {L L' : List Rl} (h : TVals V L) (r : Rl) (hp : L.Perm (r :: L')) : TVals (updV V r.path ((V r.path).eraseIdx ((V r.path).countP (· < r.id)))) L' := by
  intro π
  have h' := h.perm hp
  unfold updV
  by_cases hπ : π = r.path
  · subst hπ
    rw [if_pos rfl]
    have hm : r.id ∈ V r.path := h'.mem.2 ⟨r, by simp, rfl, rfl⟩
    have e1 : idsAt (r :: L') r.path = r.id :: idsAt L' r.path := by simp [idsAt]
    refine ⟨?_, (h _).2.sublist (List.eraseIdx_sublist _ _)⟩
    have h2 := (h' r.path).1
    rw [e1] at h2
    exact ((erase_perm r.id _ (h _).2 hm).symm.trans h2).cons_inv
  · rw [if_neg hπ]
    have : idsAt (r :: L') π = idsAt L' π := by unfold idsAt; rw [List.filter_cons_of_neg (by simpa using fun e : r.path = π => hπ e.symm)]
    rw [← this]
    exact h' π

theorem find_mem {L : List Rl} {r : Rl} (hn : (L.map (·.id)).Nodup) (hr : r ∈ L) : findR L r.id = some r := by
  induction L with
  | nil => cases hr
  | cons a L ih =>
    rw [List.map_cons, List.nodup_cons] at hn
    unfold findR at *
    rcases List.mem_cons.1 hr with rfl | hr
    · simp
    · have hne : a.id ≠ r.id := fun e => hn.1 (e ▸ List.mem_map_of_mem hr)
      rw [List.find?_cons_of_neg (by simpa using hne)]
      exact ih hn.2 hr
theorem find_none {L : List Rl} {x : Int} : findR L x = none ↔ ∀ r ∈ L, r.id ≠ x := by simp [findR]
theorem find_id {L : List Rl} {x : Int} {r : Rl} (h : findR L x = some r) : r ∈ L ∧ r.id = x := ⟨List.mem_of_find?_eq_some h, by simpa using List.find?_some h⟩
theorem find_perm {L L' : List Rl} (hp : L.Perm L') (hn : (L.map (·.id)).Nodup) (x : Int) : findR L x = findR L' x := by
  have hn' : (L'.map (·.id)).Nodup := (hp.map _).nodup_iff.1 hn
  cases h : findR L x with
  | none => exact (find_none.2 fun r hr => find_none.1 h r (hp.mem_iff.2 hr)).symm
  | some r =>
    obtain ⟨h1, h2⟩ := find_id h
    rw [← h2, find_mem hn' (hp.mem_iff.1 h1)]

theorem filter_split3 {α : Type} (p q1 q2 q3 : α → Bool) (hp : ∀ a, p a = (q1 a || (q2 a || q3 a))) (h12 : ∀ a, q1 a = true → q2 a = false) (h13 : ∀ a, q1 a = true → q3 a = false) (h23 : ∀ a, q2 a = true → q3 a = false) :
    ∀ l : List α, (l.filter q1 ++ (l.filter q2 ++ l.filter q3)).Perm (l.filter p)
  | [] => List.Perm.refl _
  | a :: l => by
    have ih := filter_split3 p q1 q2 q3 hp h12 h13 h23 l
    have hpa := hp a
    cases e1 : q1 a with
    | true =>
      rw [e1] at hpa
      rw [List.filter_cons_of_pos e1, List.filter_cons_of_neg (by simp [h12 a e1]), List.filter_cons_of_neg (by simp [h13 a e1]), List.filter_cons_of_pos (by simpa using hpa)]
      exact ih.cons _
    | false =>
      rw [List.filter_cons_of_neg (by simp [e1])]
      cases e2 : q2 a with
      | true =>
        rw [e1, e2] at hpa
        rw [List.filter_cons_of_pos e2, List.filter_cons_of_neg (by simp [h23 a e2]), List.filter_cons_of_pos (by simpa using hpa), List.cons_append]
        exact List.perm_middle.trans (ih.cons _)
      | false =>
        rw [List.filter_cons_of_neg (by simp [e2])]
        cases e3 : q3 a with
        | true =>
          rw [e1, e2, e3] at hpa
          rw [List.filter_cons_of_pos e3, List.filter_cons_of_pos (by simpa using hpa), ← List.append_assoc]
          refine List.perm_middle.trans ?_
          rw [List.append_assoc]
          exact ih.cons _
        | false =>
          rw [e1, e2, e3] at hpa
          rw [List.filter_cons_of_neg (by simp [e3]), List.filter_cons_of_neg (by simpa using hpa)]
          exact ih

theorem subL_perm {V : List Bool → List Int} {L : List Rl} (h : TVals V L) : ∀ d π, (subL V d π).Perm ((L.filter fun r => decide (π <+: r.path ∧ r.path.length ≤ π.length + d)).map (·.id))
  | 0, π => by
    refine (h π).1.trans ?_
    unfold idsAt
    rw [show (fun r : Rl => decide (r.path = π)) = fun r => decide (π <+: r.path ∧ r.path.length ≤ π.length + 0) from funext fun r => decide_eq_decide.2 ⟨fun e => by rw [e]; simp, fun ⟨e, l⟩ => (e.eq_of_length_le l).symm⟩]
  | d + 1, π => by
    refine (List.Perm.append (h π).1 (List.Perm.append (subL_perm h d _) (subL_perm h d _))).trans ?_
    unfold idsAt
    rw [← List.map_append, ← List.map_append]
    refine List.Perm.map _ ?_
    have key : ∀ r : Rl, (π <+: r.path ∧ r.path.length ≤ π.length + (d + 1)) ↔ (r.path = π ∨ (π ++ [false] <+: r.path ∧ r.path.length ≤ (π ++ [false]).length + d) ∨ (π ++ [true] <+: r.path ∧ r.path.length ≤ (π ++ [true]).length + d)) := by
      intro r
      constructor
      · rintro ⟨⟨t, ht⟩, hl⟩
        rcases t with _ | ⟨c, t⟩
        · exact Or.inl (by simpa using ht.symm)
        · right
          have : π ++ [c] <+: r.path := ⟨t, by simpa using ht⟩
          cases c
          · exact Or.inl ⟨this, by simp; omega⟩
          · exact Or.inr ⟨this, by simp; omega⟩
      · rintro (e | ⟨e, l⟩ | ⟨e, l⟩)
        · rw [e]; simp
        · exact ⟨(List.prefix_append _ _).trans e, by simp at l; omega⟩
        · exact ⟨(List.prefix_append _ _).trans e, by simp at l; omega⟩
    refine filter_split3 _ _ _ _ (fun r => ?_) (fun r e => ?_) (fun r e => ?_) (fun r e => ?_) L
    · rw [Bool.eq_iff_iff]
      simp only [Bool.or_eq_true, decide_eq_true_eq]
      exact key r
    · have e' : r.path = π := by simpa using e
      refine decide_eq_false fun h2 => ?_
      have h3 := h2.1.length_le
      rw [e', List.length_append] at h3
      simp only [List.length_cons, List.length_nil] at h3
      omega
    · have e' : r.path = π := by simpa using e
      refine decide_eq_false fun h2 => ?_
      have h3 := h2.1.length_le
      rw [e', List.length_append] at h3
      simp only [List.length_cons, List.length_nil] at h3
      omega
    · have e := of_decide_eq_true e
      refine decide_eq_false fun h2 => ?_
      obtain ⟨t1, h1⟩ := e.1
      obtain ⟨t2, h2⟩ := h2.1
      have := h1.trans h2.symm
      simp at this

/-- The values at the first m nodes on an address's way. -/
theorem ofL_perm {V : List Bool → List Int} {L : List Rl} (h : TVals V L) (a : Nat) : ∀ m, (ofL V a m).Perm ((L.filter fun r => decide (r.path.length < m ∧ r.path = pth a r.path.length)).map (·.id))
  | 0 => by simp [ofL]
  | m + 1 => by
    rw [ofL_succ]
    refine (List.Perm.append (ofL_perm h a m) (h _).1).trans ?_
    unfold idsAt
    rw [← List.map_append]
    refine List.Perm.map _ ?_
    have := filter_split3 (fun r : Rl => decide (r.path.length < m + 1 ∧ r.path = pth a r.path.length)) (fun r => decide (r.path.length < m ∧ r.path = pth a r.path.length)) (fun r => decide (r.path = pth a m)) (fun _ => false) (fun r => ?_) (fun r e => ?_) (fun r e => rfl) (fun r e => rfl) L
    · rwa [show L.filter (fun _ => false) = [] from List.filter_eq_nil_iff.2 fun _ _ => by simp, List.append_nil] at this
    · rw [Bool.eq_iff_iff]
      simp only [Bool.or_eq_true, decide_eq_true_eq, Bool.false_eq_true, or_false]
      constructor
      · rintro ⟨h1, h2⟩
        rcases Nat.lt_or_ge r.path.length m with h3 | h3
        · exact Or.inl ⟨h3, h2⟩
        · right
          have : r.path.length = m := by omega
          rw [h2, this]
      · rintro (⟨h1, h2⟩ | h2)
        · exact ⟨by omega, h2⟩
        · rw [h2, pth_length]
          exact ⟨by omega, rfl⟩
    · have e := of_decide_eq_true e
      refine decide_eq_false fun h2 => ?_
      have := e.1
      rw [h2, pth_length] at this
      omega
end Go.Proofs.YtjoblahedgpgbaaGreat
