/- What a maker of a set comes to: a set that has what it should, or nothing is turned. Plainly. -/
import Derived.Test.YtakgghhmecphmaaRangP
namespace Go.Proofs.Ytakgghhmecphmaa
set_option linter.unusedVariables false
set_option linter.unusedSimpArgs false

/-- A maker at an arena: no room and nothing new, or a set that has what F says. -/
def MkR (F : Fn) (A : Arn) (r : Option Nat) (A' : Arn) : Prop := (r = none ∧ A' = A) ∨ ∃ x, r = some x ∧ A'.OK ∧ Ext A A' ∧ x < A'.nodes.length ∧ ∀ b, inA A' b x = F b
theorem upTo_ext {A B : Arn} (h : Ext A B) : upTo B A.nodes.length = A := by
  obtain ⟨hm, r, hr⟩ := h
  unfold upTo
  rw [hr]
  cases A
  cases B
  simp at hm ⊢
  exact hm
theorem mkR_cube {A : Arn} (hA : A.OK) {L : List (Nat × Bool)} (hR : Rise L) : MkR (fun b => agree b L) A (cubeF A L).1 (cubeF A L).2 := by
  obtain ⟨h1, h2, h3, h4⟩ := cubeF_ok hA hR
  cases e : (cubeF A L).1 with
  | none => exact Or.inl ⟨rfl, h4 e⟩
  | some x => exact Or.inr ⟨x, rfl, h1, h2, h3 x e, fun b => cubeF_sem hA hR (x := x) (by rw [← e]) b⟩
theorem rangeGo_ok {field : Nat} (hfield : field + 16 ≤ 104) {A0 : Arn} : ∀ (bs : List (Nat × Nat)) (f : Nat) (A : Arn) (F0 : Fn), A.OK → f < A.nodes.length → Ext A0 A → (∀ b, inA A b f = F0 b) → (∀ c ∈ bs, c.2 ≤ 16) →
    ((rangeGo field A0.nodes.length bs f A).1 = none ∧ (rangeGo field A0.nodes.length bs f A).2 = A0) ∨
    ∃ x, (rangeGo field A0.nodes.length bs f A).1 = some x ∧ (rangeGo field A0.nodes.length bs f A).2.OK ∧ Ext A0 (rangeGo field A0.nodes.length bs f A).2 ∧ x < (rangeGo field A0.nodes.length bs f A).2.nodes.length ∧ ∀ b, inA (rangeGo field A0.nodes.length bs f A).2 b x = (F0 b || bs.any fun c => agree b (litL field c.1 16 c.2))
  | [], f, A, F0, hA, hf, hE, hs, _ => Or.inr ⟨f, rfl, hA, hE, hf, fun b => by rw [List.any_nil, Bool.or_false]; exact hs b⟩
  | (q, n) :: bs, f, A, F0, hA, hf, hE, hs, hn => by
    have hn16 := hn (q, n) List.mem_cons_self
    simp only at hn16
    have hR := litL_rise field q 16 (k := n) (by omega)
    rw [rangeGo_cons]
    obtain ⟨h1, h2, h3, h4⟩ := cubeF_ok hA hR
    have hsem := fun x A' (h : cubeF A (litL field q 16 n) = (some x, A')) b => cubeF_sem hA hR h b
    rcases e : cubeF A (litL field q 16 n) with ⟨r, A1⟩
    rw [e] at h1 h2 h3 h4
    simp only at h1 h2 h3 h4
    cases r with
    | none =>
      exact Or.inl ⟨rfl, upTo_ext (hE.trans h2)⟩
    | some x =>
      have hx := h3 x rfl
      have hf1 := Nat.lt_of_lt_of_le hf h2.len
      have hsx := hsem x A1 e
      obtain ⟨j1, j2, j3⟩ := joinA_ok h1 (k := 1) (by omega) hf1 hx
      have hjs := fun y (h : (joinA A1 1 f x).1 = some y) b => joinA_sem h1 (k := 1) (by omega) hf1 hx h b
      simp only
      rcases e2 : joinA A1 1 f x with ⟨r2, A2⟩
      rw [e2] at j1 j2 j3 hjs
      simp only at j1 j2 j3 hjs
      cases r2 with
      | none => exact Or.inl ⟨rfl, upTo_ext (hE.trans (h2.trans j2))⟩
      | some f2 =>
        have ih := rangeGo_ok hfield bs f2 A2 (fun b => F0 b || agree b (litL field q 16 n)) j1 (j3 f2 rfl) (hE.trans (h2.trans j2)) (fun b => by
          rw [hjs f2 rfl b, inA_ext hA h1 h2 b f hf, hs, hsx]
          rfl) (fun c hc => hn c (List.mem_cons_of_mem _ hc))
        simp only
        rcases ih with ih | ⟨y, a1, a2, a3, a4, a5⟩
        · exact Or.inl ih
        · refine Or.inr ⟨y, a1, a2, a3, a4, fun b => ?_⟩
          rw [a5 b, List.any_cons, Bool.or_assoc]
theorem mkR_range {field : Nat} (hfield : field + 16 ≤ 104) {A : Arn} (hA : A.OK) {bs : List (Nat × Nat)} (hn : ∀ c ∈ bs, c.2 ≤ 16) : MkR (fun b => bs.any fun c => agree b (litL field c.1 16 c.2)) A (rangeGo field A.nodes.length bs 0 A).1 (rangeGo field A.nodes.length bs 0 A).2 := by
  rcases rangeGo_ok hfield bs 0 A (fun _ => false) hA (by have := hA.two; omega) (Ext.refl A) (fun b => inA_zero A b) hn with h | ⟨x, a1, a2, a3, a4, a5⟩
  · exact Or.inl h
  · exact Or.inr ⟨x, a1, a2, a3, a4, fun b => by rw [a5 b, Bool.false_or]⟩
theorem mkR_true {A : Arn} (hA : A.OK) : MkR (fun _ => true) A (some 1) A := Or.inr ⟨1, rfl, hA, Ext.refl A, by have := hA.two; omega, fun b => inA_one A b⟩
end Go.Proofs.Ytakgghhmecphmaa
