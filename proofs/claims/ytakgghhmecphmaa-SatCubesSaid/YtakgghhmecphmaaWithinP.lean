/- Whether all of a set is another one's: pair by pair, in plain lists. No program in sight. -/
import Derived.Test.YtakgghhmecphmaaSem5
namespace Go.Proofs.Ytakgghhmecphmaa
set_option linter.unusedVariables false
set_option linter.unusedSimpArgs false

/-- All of a set is another one's. -/
def WI (A : Arn) (f g : Nat) : Prop := ∀ b, inA A b f = true → inA A b g = true
def Triv (q : Nat × Nat) : Prop := q.1 = 0 ∨ q.2 = 1 ∨ q.1 = q.2
/-- The parts of a pair, without and with its first bit. -/
def kid0 (A : Arn) (q : Nat × Nat) : Nat × Nat := (if A.lv q.2 < A.lv q.1 then q.1 else (A.nd q.1).low, if A.lv q.1 < A.lv q.2 then q.2 else (A.nd q.2).low)
def kid1 (A : Arn) (q : Nat × Nat) : Nat × Nat := (if A.lv q.2 < A.lv q.1 then q.1 else (A.nd q.1).high, if A.lv q.1 < A.lv q.2 then q.2 else (A.nd q.2).high)

theorem triv_wi (A : Arn) {q : Nat × Nat} (h : Triv q) : WI A q.1 q.2 := by
  intro b hb
  rcases h with h | h | h
  · rw [h, inA_zero] at hb; cases hb
  · rw [h]; exact inA_one A b
  · rw [← h]; exact hb

theorem half {A : Arn} (hA : A.OK) {f v : Nat} (hf : f < A.nodes.length) (h2 : 2 ≤ f) (hv : v ≤ A.lv f) (b : Nat → Bool) (on : Bool) :
    inA A (updB b v on) f = inA A b (if v < A.lv f then f else if on then (A.nd f).high else (A.nd f).low) := by
  split
  · exact inA_upd hA b on hf (by assumption)
  · obtain rfl : v = A.lv f := by omega
    exact inA_part hA b on hf h2

theorem kid_lt {A : Arn} (hA : A.OK) {q : Nat × Nat} (h1 : q.1 < A.nodes.length) (h2 : q.2 < A.nodes.length) (h3 : 2 ≤ q.1) (h4 : 2 ≤ q.2) :
    (kid0 A q).1 < A.nodes.length ∧ (kid0 A q).2 < A.nodes.length ∧ (kid1 A q).1 < A.nodes.length ∧ (kid1 A q).2 < A.nodes.length ∧ (kid0 A q).1 + (kid0 A q).2 < q.1 + q.2 ∧ (kid1 A q).1 + (kid1 A q).2 < q.1 + q.2 := by
  obtain ⟨_, a1, a2, _⟩ := hA.at_ h1 h3
  obtain ⟨_, b1, b2, _⟩ := hA.at_ h2 h4
  unfold kid0 kid1
  simp only
  refine ⟨?_, ?_, ?_, ?_, ?_, ?_⟩ <;> (repeat' split) <;> omega

theorem kid_wi {A : Arn} (hA : A.OK) {q : Nat × Nat} (h1 : q.1 < A.nodes.length) (h2 : q.2 < A.nodes.length) (h3 : 2 ≤ q.1) (h4 : 2 ≤ q.2) :
    WI A q.1 q.2 ↔ WI A (kid0 A q).1 (kid0 A q).2 ∧ WI A (kid1 A q).1 (kid1 A q).2 := by
  have e : ∀ b on, inA A (updB b (min (A.lv q.1) (A.lv q.2)) on) q.1 = inA A b (if on then (kid1 A q).1 else (kid0 A q).1) := fun b on => by
    rw [half hA h1 h3 (by omega) b on]
    unfold kid0 kid1
    congr 1
    by_cases h : A.lv q.2 < A.lv q.1
    · rw [if_pos (by omega), if_pos h, if_pos h]; cases on <;> rfl
    · rw [if_neg (by omega), if_neg h, if_neg h]
  have k : ∀ b on, inA A (updB b (min (A.lv q.1) (A.lv q.2)) on) q.2 = inA A b (if on then (kid1 A q).2 else (kid0 A q).2) := fun b on => by
    rw [half hA h2 h4 (by omega) b on]
    unfold kid0 kid1
    congr 1
    by_cases h : A.lv q.1 < A.lv q.2
    · rw [if_pos (by omega), if_pos h, if_pos h]; cases on <;> rfl
    · rw [if_neg (by omega), if_neg h, if_neg h]
  constructor
  · intro h
    refine ⟨fun b hb => ?_, fun b hb => ?_⟩
    · have := h (updB b (min (A.lv q.1) (A.lv q.2)) false)
      rw [e, k] at this
      exact this (by simpa using hb)
    · have := h (updB b (min (A.lv q.1) (A.lv q.2)) true)
      rw [e, k] at this
      exact this (by simpa using hb)
  · rintro ⟨h5, h6⟩ b hb
    have hs : updB b (min (A.lv q.1) (A.lv q.2)) (b (min (A.lv q.1) (A.lv q.2))) = b := by
      funext v; unfold updB; split
      · rename_i e; rw [e]
      · rfl
    have e' := e b (b (min (A.lv q.1) (A.lv q.2)))
    have k' := k b (b (min (A.lv q.1) (A.lv q.2)))
    rw [hs] at e' k'
    rw [e'] at hb
    rw [k']
    revert hb
    cases b (min (A.lv q.1) (A.lv q.2))
    · simpa using h5 b
    · simpa using h6 b

/-- What the walk keeps: which pairs are done, which are to do. -/
structure WInv (A : Arn) (f g : Nat) (L st : List (Nat × Nat)) : Prop where
  nodup : L.Nodup
  lt : ∀ q, q ∈ L ∨ q ∈ st → q.1 < A.nodes.length ∧ q.2 < A.nodes.length
  ups : WI A f g → ∀ q ∈ st, WI A q.1 q.2
  done : ∀ q ∈ L, 2 ≤ q.1 ∧ 2 ≤ q.2 ∧ (Triv (kid0 A q) ∨ kid0 A q ∈ L ∨ kid0 A q ∈ st) ∧ (Triv (kid1 A q) ∨ kid1 A q ∈ L ∨ kid1 A q ∈ st)
  first : Triv (f, g) ∨ (f, g) ∈ L ∨ (f, g) ∈ st

theorem WInv.start {A : Arn} {f g : Nat} (hf : f < A.nodes.length) (hg : g < A.nodes.length) : WInv A f g [] [(f, g)] :=
  ⟨List.nodup_nil, fun q h => by rcases h with h | h <;> simp at h; subst h; exact ⟨hf, hg⟩, fun h q hq => by simp at hq; subst hq; exact h, fun q h => by simp at h, Or.inr (Or.inr (by simp))⟩
theorem WInv.skip {A : Arn} {f g : Nat} {L st : List (Nat × Nat)} {q : Nat × Nat} (h : WInv A f g L (st ++ [q])) (hq : Triv q ∨ q ∈ L) : WInv A f g L st := by
  have key : ∀ c, (Triv c ∨ c ∈ L ∨ c ∈ st ++ [q]) → (Triv c ∨ c ∈ L ∨ c ∈ st) := by
    rintro c (h1 | h1 | h1)
    · exact Or.inl h1
    · exact Or.inr (Or.inl h1)
    · rcases List.mem_append.1 h1 with h2 | h2
      · exact Or.inr (Or.inr h2)
      · obtain rfl : c = q := by simpa using h2
        rcases hq with h3 | h3
        · exact Or.inl h3
        · exact Or.inr (Or.inl h3)
  exact ⟨h.nodup, fun c hc => h.lt c (hc.imp id (fun x => by simp [x])), fun w c hc => h.ups w c (by simp [hc]), fun c hc => by
    obtain ⟨a, b, d, e⟩ := h.done c hc
    exact ⟨a, b, key _ d, key _ e⟩, key _ h.first⟩
theorem WInv.step {A : Arn} (hA : A.OK) {f g : Nat} {L st : List (Nat × Nat)} {q : Nat × Nat} (h : WInv A f g L (st ++ [q])) (h1 : 2 ≤ q.1) (h2 : 2 ≤ q.2) (hn : q ∉ L) : WInv A f g (q :: L) (st ++ [kid0 A q, kid1 A q]) := by
  obtain ⟨l1, l2⟩ := h.lt q (Or.inr (by simp))
  obtain ⟨k1, k2, k3, k4, _, _⟩ := kid_lt hA l1 l2 h1 h2
  have key : ∀ c, (Triv c ∨ c ∈ L ∨ c ∈ st ++ [q]) → (Triv c ∨ c ∈ q :: L ∨ c ∈ st ++ [kid0 A q, kid1 A q]) := by
    rintro c (h1 | h1 | h1)
    · exact Or.inl h1
    · exact Or.inr (Or.inl (by simp [h1]))
    · rcases List.mem_append.1 h1 with h2 | h2
      · exact Or.inr (Or.inr (by simp [h2]))
      · obtain rfl : c = q := by simpa using h2
        exact Or.inr (Or.inl (by simp))
  refine ⟨List.nodup_cons.2 ⟨hn, h.nodup⟩, ?_, ?_, ?_, key _ h.first⟩
  · rintro c (hc | hc)
    · rcases List.mem_cons.1 hc with rfl | hc
      · exact ⟨l1, l2⟩
      · exact h.lt c (Or.inl hc)
    · rcases List.mem_append.1 hc with hc | hc
      · exact h.lt c (Or.inr (by simp [hc]))
      · simp at hc
        rcases hc with rfl | rfl
        · exact ⟨k1, k2⟩
        · exact ⟨k3, k4⟩
  · intro w c hc
    have hw := (kid_wi hA l1 l2 h1 h2).1 (h.ups w q (by simp))
    rcases List.mem_append.1 hc with hc | hc
    · exact h.ups w c (by simp [hc])
    · simp at hc
      rcases hc with rfl | rfl
      · exact hw.1
      · exact hw.2
  · intro c hc
    rcases List.mem_cons.1 hc with rfl | hc
    · exact ⟨h1, h2, Or.inr (Or.inr (by simp)), Or.inr (Or.inr (by simp))⟩
    · obtain ⟨a, b, d, e⟩ := h.done c hc
      exact ⟨a, b, key _ d, key _ e⟩
/-- Nothing is left to do: it is so. -/
theorem WInv.yes {A : Arn} (hA : A.OK) {f g : Nat} {L : List (Nat × Nat)} (h : WInv A f g L []) : WI A f g := by
  have key : ∀ (n : Nat) (q : Nat × Nat), q.1 + q.2 ≤ n → (Triv q ∨ q ∈ L) → WI A q.1 q.2 := by
    intro n
    induction n with
    | zero =>
      intro q hn hq
      refine triv_wi A (Or.inl (by omega))
    | succ n ih =>
      rintro q hn (hq | hq)
      · exact triv_wi A hq
      · obtain ⟨a, b, d, e⟩ := h.done q hq
        obtain ⟨l1, l2⟩ := h.lt q (Or.inl hq)
        obtain ⟨_, _, _, _, k5, k6⟩ := kid_lt hA l1 l2 a b
        exact (kid_wi hA l1 l2 a b).2 ⟨ih _ (by omega) (by simpa using d), ih _ (by omega) (by simpa using e)⟩
  exact key _ (f, g) (Nat.le_refl _) (by simpa using h.first)
/-- One pair that isn't tells that it isn't. -/
theorem WInv.no {A : Arn} (hA : A.OK) {f g : Nat} {L st : List (Nat × Nat)} {q : Nat × Nat} (h : WInv A f g L (st ++ [q])) (ht : ¬ Triv q) (hq : q.2 = 0 ∨ q.1 = 1) : ¬ WI A f g := by
  intro w
  have hw := h.ups w q (by simp)
  obtain ⟨l1, l2⟩ := h.lt q (Or.inr (by simp))
  unfold Triv at ht
  rcases hq with hq | hq
  · refine ht (Or.inl ?_)
    refine canon' hA l1 (by have := hA.two; omega) fun b => ?_
    rw [inA_zero]
    cases hb : inA A b q.1
    · rfl
    · have := hw b hb
      rw [hq, inA_zero] at this
      cases this
  · refine ht (Or.inr (Or.inl ?_))
    refine canon' hA l2 (by have := hA.two; omega) fun b => ?_
    have := hw b (by rw [hq]; exact inA_one A b)
    rw [this, inA_one]
theorem nodup_len : ∀ (n : Nat) (l : List Nat), l.Nodup → (∀ x ∈ l, x < n) → l.length ≤ n
  | 0, l, _, h => by
    cases l with
    | nil => simp
    | cons x r => have := h x (by simp); omega
  | n + 1, l, hd, h => by
    have h1 := nodup_len n (l.erase n) (hd.erase n) (fun x hx => by
      rw [hd.mem_erase_iff] at hx
      have := h x hx.2
      omega)
    rw [List.length_erase] at h1
    split at h1 <;> omega
theorem WInv.len {A : Arn} {f g : Nat} {L st : List (Nat × Nat)} (h : WInv A f g L st) : L.length ≤ A.nodes.length * A.nodes.length := by
  have hs : ∀ q ∈ L, q.1 * A.nodes.length + q.2 < A.nodes.length * A.nodes.length := fun q hq => by
    obtain ⟨l1, l2⟩ := h.lt q (Or.inl hq)
    have : (q.1 + 1) * A.nodes.length ≤ A.nodes.length * A.nodes.length := Nat.mul_le_mul_right _ l1
    rw [Nat.add_mul] at this
    omega
  have hd : (L.map fun q => q.1 * A.nodes.length + q.2).Nodup := by
    rw [List.Nodup, List.pairwise_map]
    refine h.nodup.imp_of_mem fun {a b} ha hb hne e => hne ?_
    obtain ⟨_, a2⟩ := h.lt a (Or.inl ha)
    obtain ⟨_, b2⟩ := h.lt b (Or.inl hb)
    have hpos : 0 < A.nodes.length := by omega
    have e1 : (a.1 * A.nodes.length + a.2) / A.nodes.length = a.1 := by rw [Nat.mul_comm, Nat.mul_add_div hpos, Nat.div_eq_of_lt a2, Nat.add_zero]
    have e2 : (b.1 * A.nodes.length + b.2) / A.nodes.length = b.1 := by rw [Nat.mul_comm, Nat.mul_add_div hpos, Nat.div_eq_of_lt b2, Nat.add_zero]
    have e3 : (a.1 * A.nodes.length + a.2) % A.nodes.length = a.2 := by rw [Nat.mul_comm, Nat.mul_add_mod, Nat.mod_eq_of_lt a2]
    have e4 : (b.1 * A.nodes.length + b.2) % A.nodes.length = b.2 := by rw [Nat.mul_comm, Nat.mul_add_mod, Nat.mod_eq_of_lt b2]
    rw [e] at e1 e3
    exact Prod.ext (e1.symm.trans e2) (e3.symm.trans e4)
  have := nodup_len _ _ hd (fun x hx => by
    obtain ⟨q, hq, rfl⟩ := List.mem_map.1 hx
    exact hs q hq)
  simpa using this

end Go.Proofs.Ytakgghhmecphmaa
