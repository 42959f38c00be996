/- A set's nodes, itself and those within, in plain lists. No program in sight. -/
import Derived.Test.YtakgghhmecphmaaWithinP
namespace Go.Proofs.Ytakgghhmecphmaa
set_option linter.unusedVariables false
set_option linter.unusedSimpArgs false

/-- What is reached from sets, the two without a bit not counted. -/
inductive Rch (A : Arn) (S : List Nat) : Nat → Prop
  | base {f : Nat} : f ∈ S → 2 ≤ f → Rch A S f
  | low {f : Nat} : Rch A S f → 2 ≤ (A.nd f).low → Rch A S (A.nd f).low
  | high {f : Nat} : Rch A S f → 2 ≤ (A.nd f).high → Rch A S (A.nd f).high
theorem Rch.two {A : Arn} {S : List Nat} {x : Nat} (h : Rch A S x) : 2 ≤ x := by
  cases h <;> assumption
theorem Rch.mono {A : Arn} {S T : List Nat} (hs : ∀ f ∈ S, 2 ≤ f → f ∈ T) {x : Nat} (h : Rch A S x) : Rch A T x := by
  induction h with
  | base h1 h2 => exact .base (hs _ h1 h2) h2
  | low _ h2 ih => exact .low ih h2
  | high _ h2 ih => exact .high ih h2
theorem Rch.part {A : Arn} {S T : List Nat} {x : Nat} (h : Rch A (S ++ T) x) : Rch A S x ∨ Rch A T x := by
  induction h with
  | base h1 h2 =>
    rcases List.mem_append.1 h1 with h | h
    · exact Or.inl (.base h h2)
    · exact Or.inr (.base h h2)
  | low _ h2 ih => exact ih.imp (fun h => .low h h2) (fun h => .low h h2)
  | high _ h2 ih => exact ih.imp (fun h => .high h h2) (fun h => .high h h2)

structure NInv (A : Arn) (S L st : List Nat) : Prop where
  nodup : L.Nodup
  lt : ∀ x, x ∈ L ∨ x ∈ st → x < A.nodes.length
  sound : ∀ x, x ∈ L ∨ x ∈ st → 2 ≤ x → Rch A S x
  done : ∀ x ∈ L, 2 ≤ x ∧ (2 ≤ (A.nd x).low → (A.nd x).low ∈ L ∨ (A.nd x).low ∈ st) ∧ (2 ≤ (A.nd x).high → (A.nd x).high ∈ L ∨ (A.nd x).high ∈ st)
  base : ∀ x ∈ S, 2 ≤ x → x ∈ L ∨ x ∈ st
theorem NInv.start {A : Arn} {S : List Nat} (h : ∀ x ∈ S, x < A.nodes.length) : NInv A S [] S :=
  ⟨List.nodup_nil, fun x hx => by rcases hx with hx | hx; simp at hx; exact h x hx, fun x hx h2 => by rcases hx with hx | hx; simp at hx; exact .base hx h2, fun x hx => by simp at hx, fun x hx _ => Or.inr hx⟩
theorem NInv.skip {A : Arn} {S L st : List Nat} {x : Nat} (h : NInv A S L (st ++ [x])) (hx : x < 2 ∨ x ∈ L) : NInv A S L st := by
  have key : ∀ c, 2 ≤ c → (c ∈ L ∨ c ∈ st ++ [x]) → (c ∈ L ∨ c ∈ st) := by
    rintro c hc (h1 | h1)
    · exact Or.inl h1
    · rcases List.mem_append.1 h1 with h2 | h2
      · exact Or.inr h2
      · obtain rfl : c = x := by simpa using h2
        rcases hx with h3 | h3
        · omega
        · exact Or.inl h3
  exact ⟨h.nodup, fun c hc => h.lt c (hc.imp id (fun y => by simp [y])), fun c hc => h.sound c (hc.imp id (fun y => by simp [y])),
    fun c hc => by obtain ⟨a, b, d⟩ := h.done c hc; exact ⟨a, fun e => key _ e (b e), fun e => key _ e (d e)⟩, fun c hc h2 => key c h2 (h.base c hc h2)⟩
theorem NInv.step {A : Arn} (hA : A.OK) {S L st : List Nat} {x : Nat} (h : NInv A S L (st ++ [x])) (h2 : 2 ≤ x) (hn : x ∉ L) : NInv A S (x :: L) (st ++ [(A.nd x).low, (A.nd x).high]) := by
  have hx := h.lt x (Or.inr (by simp))
  obtain ⟨_, a1, a2, _⟩ := hA.at_ hx h2
  have hr := h.sound x (Or.inr (by simp)) h2
  have key : ∀ c, (c ∈ L ∨ c ∈ st ++ [x]) → (c ∈ x :: L ∨ c ∈ st ++ [(A.nd x).low, (A.nd x).high]) := by
    rintro c (h1 | h1)
    · exact Or.inl (by simp [h1])
    · rcases List.mem_append.1 h1 with h3 | h3
      · exact Or.inr (by simp [h3])
      · obtain rfl : c = x := by simpa using h3
        exact Or.inl (by simp)
  have back : ∀ c, (c ∈ x :: L ∨ c ∈ st ++ [(A.nd x).low, (A.nd x).high]) → (c ∈ L ∨ c ∈ st ++ [x]) ∨ c = (A.nd x).low ∨ c = (A.nd x).high := by
    rintro c (h1 | h1)
    · rcases List.mem_cons.1 h1 with rfl | h1
      · exact Or.inl (Or.inr (by simp))
      · exact Or.inl (Or.inl h1)
    · rcases List.mem_append.1 h1 with h1 | h1
      · exact Or.inl (Or.inr (by simp [h1]))
      · exact Or.inr (by simpa using h1)
  refine ⟨List.nodup_cons.2 ⟨hn, h.nodup⟩, ?_, ?_, ?_, fun c hc h3 => key c (h.base c hc h3)⟩
  · intro c hc
    rcases back c hc with h1 | rfl | rfl
    · exact h.lt c h1
    · omega
    · omega
  · intro c hc h3
    rcases back c hc with h1 | rfl | rfl
    · exact h.sound c h1 h3
    · exact .low hr h3
    · exact .high hr h3
  · intro c hc
    rcases List.mem_cons.1 hc with rfl | hc
    · exact ⟨h2, fun _ => Or.inr (by simp), fun _ => Or.inr (by simp)⟩
    · obtain ⟨a, b, d⟩ := h.done c hc
      exact ⟨a, fun e => key _ (b e), fun e => key _ (d e)⟩
theorem NInv.ends {A : Arn} {S L : List Nat} (h : NInv A S L []) : ∀ x, x ∈ L ↔ Rch A S x := by
  intro x
  constructor
  · intro hx
    exact h.sound x (Or.inl hx) (h.done x hx).1
  · intro hx
    induction hx with
    | base h1 h2 => simpa using h.base _ h1 h2
    | low _ h2 ih => simpa using (h.done _ ih).2.1 h2
    | high _ h2 ih => simpa using (h.done _ ih).2.2 h2
theorem NInv.len {A : Arn} {S L st : List Nat} (h : NInv A S L st) : L.length ≤ A.nodes.length := nodup_len _ _ h.nodup fun x hx => h.lt x (Or.inl hx)

theorem nodup_sub : ∀ (l m : List Nat), l.Nodup → (∀ x ∈ l, x ∈ m) → l.length ≤ m.length
  | [], m, _, _ => by simp
  | x :: r, m, hd, h => by
    obtain ⟨h1, h2⟩ := List.nodup_cons.1 hd
    have hx := h x (by simp)
    have := nodup_sub r (m.erase x) h2 (fun y hy => (List.mem_erase_of_ne (show y ≠ x from fun e => h1 (by rw [← e]; exact hy))).2 (h y (by simp [hy])))
    rw [List.length_erase_of_mem hx] at this
    have := List.length_pos_of_mem hx
    rw [List.length_cons]
    omega
/-- The nodes of sets, each once. -/
def NodesOf (A : Arn) (S L : List Nat) : Prop := L.Nodup ∧ (∀ x, x ∈ L ↔ Rch A S x) ∧ ∀ x ∈ L, x < A.nodes.length

theorem nodesof_le {A : Arn} {S T L M : List Nat} (h : NodesOf A S L) (k : NodesOf A T M) (hs : ∀ f ∈ S, 2 ≤ f → f ∈ T) : L.length ≤ M.length :=
  nodup_sub _ _ h.1 fun x hx => (k.2.1 x).2 (((h.2.1 x).1 hx).mono hs)
theorem nodesof_sum {A : Arn} {S T L M B : List Nat} (h : NodesOf A S L) (k : NodesOf A T M) (b : NodesOf A (S ++ T) B) : B.length ≤ L.length + M.length := by
  rw [← List.length_append]
  refine nodup_sub _ _ b.1 fun x hx => ?_
  rcases ((b.2.1 x).1 hx).part with h1 | h1
  · exact List.mem_append.2 (Or.inl ((h.2.1 x).2 h1))
  · exact List.mem_append.2 (Or.inr ((k.2.1 x).2 h1))
theorem nodesof_two {A : Arn} {S L : List Nat} (h : NodesOf A S L) : L.length ≤ A.nodes.length - 2 := by
  have hd : (L.map fun x => x - 2).Nodup := by
    rw [List.Nodup, List.pairwise_map]
    refine h.1.imp_of_mem fun {a b} ha hb hne e => hne ?_
    have h1 := ((h.2.1 a).1 ha).two
    have h2 := ((h.2.1 b).1 hb).two
    omega
  have := nodup_len (A.nodes.length - 2) _ hd (fun x hx => by
    obtain ⟨y, hy, rfl⟩ := List.mem_map.1 hx
    have h1 := ((h.2.1 y).1 hy).two
    have h2 := h.2.2 y hy
    omega)
  simpa using this
theorem nodesof_zero {A : Arn} {x : Nat} {L : List Nat} (h : NodesOf A [x] L) : L.length = 0 ↔ x ≤ 1 := by
  constructor
  · intro h0
    by_cases hx : x ≤ 1
    · exact hx
    · have := (h.2.1 x).2 (.base (by simp) (by omega))
      rw [List.eq_nil_of_length_eq_zero h0] at this
      simp at this
  · intro hx
    rcases L with _ | ⟨y, r⟩
    · rfl
    · exfalso
      have hr := (h.2.1 y).1 (by simp)
      have key : ∀ z, Rch A [x] z → False := fun z hz => by
        induction hz with
        | base h1 h2 => simp at h1; omega
        | low _ _ ih => exact ih
        | high _ _ ih => exact ih
      exact key _ hr

end Go.Proofs.Ytakgghhmecphmaa
