/- What BddFull asks, in plain lists: expressions made one more each time, in an arena of whatever room. -/
import Derived.Test.YtakgghhmecphmaaHeldP
namespace Go.Proofs.Ytakgghhmecphmaa
set_option linter.unusedVariables false
set_option linter.unusedSimpArgs false

/-- A step that finds no room leaves the arena as it was. -/
theorem stepE_none {A A' : Arn} {out : List Nat} {x : Ex} (h : stepE A out x = (none, A')) : A' = A := by
  have hj : ∀ {k f g : Nat} {A' : Arn}, joinA A k f g = (none, A') → A' = A := by
    intro k f g A' h
    unfold joinA at h
    split at h
    · cases h; rfl
    · cases h
  unfold stepE at h
  split at h
  · cases h
  split at h
  · cases h
  split at h
  · unfold cubeF at h
    split at h
    · cases h; rfl
    · cases h
  split at h
  · exact hj h
  split at h
  · unfold restrictA at h
    split at h
    · cases h; rfl
    · cases h
  split at h
  · unfold iteA at h
    split at h
    · cases h; rfl
    · split at h
      · cases h; rfl
      · split at h
        · cases h; rfl
        · cases h
  · exact hj h

theorem makeGo_snoc : ∀ (l : List Ex) (A : Arn) (out : List Nat) (x : Ex), makeGo A out (l ++ [x]) =
    if (makeGo A out l).2.1 = true then
      (match stepE (makeGo A out l).2.2 (makeGo A out l).1 x with
      | (none, A') => ((makeGo A out l).1, false, A')
      | (some f, A') => ((makeGo A out l).1 ++ [f], true, A'))
    else makeGo A out l
  | [], A, out, x => by
    simp only [List.nil_append, makeGo, if_true]
    rcases e : stepE A out x with ⟨q, A'⟩
    cases q <;> rfl
  | y :: r, A, out, x => by
    rw [List.cons_append]
    unfold makeGo
    rcases e : stepE A out y with ⟨q, A'⟩
    cases q with
    | none => simp
    | some f => exact makeGo_snoc r A' (out ++ [f]) x

theorem take_bad {l : List Ex} (hR : ∀ i x, l[i]? = some x → ¬ BadE x i) (n : Nat) : ∀ i x, (l.take n)[i]? = some x → ¬ BadE x i := fun i x hx => by
  rw [List.getElem?_take] at hx
  split at hx
  · exact hR i x hx
  · cases hx
theorem zero_bad {l : List Ex} (hR : ∀ i x, l[i]? = some x → ¬ BadE x i) : ∀ i x, l[i]? = some x → ¬ BadE x (0 + i) := fun i x hx => by rw [Nat.zero_add]; exact hR i x hx

/-- One more expression, where all ahead are made. -/
theorem full_step {A0 : Arn} (hO : A0.OK) {l : List Ex} (hR : ∀ i x, l[i]? = some x → ¬ BadE x i) {i : Nat} (hi : i < l.length) (hok : (makeGo A0 [] (l.take i)).2.1 = true) {A : Arn} (hA : (makeGo A0 [] (l.take i)).2.2 = A) :
    A.OK ∧ A.most = A0.most ∧ ∃ s ok A', makeGo A [] (l.take (i + 1)) = (s, ok, A') ∧ A'.OK ∧ A'.most = A0.most ∧
      (ok = true → s.length = i + 1 ∧ makeGo A0 [] (l.take (i + 1)) = (s, true, A')) ∧ (ok = false → A' = A ∧ s.length = i ∧ makeGo A [] (l.take i) = (s, true, A)  ∧ (makeGo A0 [] (l.take (i + 1))).2.1 = false) := by
  have hb := zero_bad (take_bad hR i)
  have hb1 := zero_bad (take_bad hR (i + 1))
  obtain ⟨p1, p2, p3, p4, p5⟩ := makeGo_ok (l.take i) A0 [] 0 hO (by simp) hb
  obtain ⟨_, q2⟩ := makeGo_sem (l.take i) A0 [] [] 0 hO (by simp) hb ⟨rfl, fun i b => by simp [inA_zero]⟩ hok
  have hag := q2 _ p1 (Ext.refl _)
  have hlen : (makeGo A0 [] (l.take i)).1.length = i := by have := p5 hok; rw [this, List.length_take]; simp; omega
  have hsp : l.take (i + 1) = l.take i ++ [l[i]] := by rw [List.take_add_one, List.getElem?_eq_getElem hi]; rfl
  have hs := makeGo_snoc (l.take i) (makeGo A0 [] (l.take i)).2.2 [] l[i]
  have hs0 := makeGo_snoc (l.take i) A0 [] l[i]
  rw [← hsp] at hs hs0
  rw [hag] at hs
  rw [if_pos hok] at hs0
  rw [if_pos rfl] at hs
  simp only at hs
  have hst := stepE_ok p1 p3 (i := i) (x := l[i]) (hR i _ (List.getElem?_eq_getElem hi))
  rcases e : stepE (makeGo A0 [] (l.take i)).2.2 (makeGo A0 [] (l.take i)).1 l[i] with ⟨q, A'⟩
  rw [e] at hs hs0 hst
  subst hA
  refine ⟨p1, p2.most, ?_⟩
  cases q with
  | none =>
    obtain rfl := stepE_none e
    exact ⟨_, _, _, hs, p1, p2.most, fun h => by simp at h, fun _ => ⟨rfl, hlen, hag, by rw [hs0]⟩⟩
  | some f => exact ⟨_, _, _, hs, hst.1, hst.2.1.most.trans p2.most, fun _ => ⟨by simp [hlen], hs0⟩, fun h => by simp at h⟩

theorem makeGo_take {l : List Ex} : ∀ (n : Nat) {A0 : Arn}, (makeGo A0 [] l).2.1 = true → (makeGo A0 [] (l.take n)).2.1 = true := by
  intro n A0 h
  have key : ∀ (a b : List Ex) (A : Arn) (out : List Nat), (makeGo A out (a ++ b)).2.1 = true → (makeGo A out a).2.1 = true := by
    intro a
    induction a with
    | nil => intro b A out _; rfl
    | cons x r ih =>
      intro b A out h
      rw [List.cons_append] at h
      unfold makeGo at h ⊢
      rcases e : stepE A out x with ⟨q, A'⟩
      rw [e] at h
      cases q with
      | none => exact h
      | some f => exact ih b A' (out ++ [f]) h
  have e := List.take_append_drop n l
  rw [← e] at h
  exact key _ _ _ _ h

end Go.Proofs.Ytakgghhmecphmaa
