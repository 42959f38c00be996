/- What a cube of bits has, in plain lists. No program in sight. -/
import Derived.Test.YtakgghhmecphmaaSem5
namespace Go.Proofs.Ytakgghhmecphmaa
set_option linter.unusedVariables false
set_option linter.unusedSimpArgs false

/-- All bits of a list are so. -/
def agree (b : Nat → Bool) (l : List (Nat × Bool)) : Bool := l.all fun x => b x.1 == x.2
theorem agree_rev (b : Nat → Bool) (l : List (Nat × Bool)) : agree b l.reverse = agree b l := by
  unfold agree
  rw [Bool.eq_iff_iff]
  simp

theorem cubeGo_sem : ∀ (l : List (Nat × Bool)) (A : Arn) (f : Nat), A.OK → f < A.nodes.length → (∀ x ∈ l, x.1 < 104) → l.Pairwise (fun a b => b.1 < a.1) → (∀ x ∈ l, x.1 < A.lv f) →
    ∀ x A', cubeGo A f l = (some x, A') → ∀ b, inA A' b x = (agree b l && inA A b f)
  | [], A, f, _, _, _, _, _, x, A', h, b => by
    cases h
    simp [agree]
  | (v, on) :: r, A, f, hA, hf, hlt, hp, hl, x, A', h, b => by
    have hv := hlt (v, on) (by simp)
    have hlv := hl (v, on) (by simp)
    have h2 := hA.two
    have h0 := hA.lv_zero
    obtain ⟨m1, m2, m3⟩ := mkF_step (on := on) hA hf hv hlv
    have c0 : (if on then 0 else f) < A.nodes.length := by split <;> omega
    have c1 : (if on then f else 0) < A.nodes.length := by split <;> omega
    have c2 : v < A.lv (if on then 0 else f) := by split <;> simp_all
    have c3 : v < A.lv (if on then f else 0) := by split <;> simp_all
    have s := fun x h => mk_sem hA hv c0 c1 c2 c3 (x := x) h b
    unfold cubeGo at h
    rcases hm : mkF A v (if on then 0 else f) (if on then f else 0) with ⟨q, A1⟩
    rw [hm] at m1 m2 m3 h s
    cases q with
    | none => cases h
    | some f' =>
      simp only at m1 m2 m3 h s
      obtain ⟨h1, h3⟩ := m3 f' rfl
      obtain ⟨p1, p2⟩ := List.pairwise_cons.1 hp
      rw [cubeGo_sem r A1 f' m1 h1 (fun y hy => hlt y (by simp [hy])) p2 (fun y hy => by have := p1 y hy; simp only at this; omega) x A' h b, s f' rfl]
      have ez := inA_zero A b
      unfold agree
      simp only [List.all_cons]
      cases on <;> cases b v <;> simp [ez]

theorem cubeF_sem {A A' : Arn} (hA : A.OK) {l : List (Nat × Bool)} (hR : Rise l) {x : Nat} (h : cubeF A l = (some x, A')) (b : Nat → Bool) : inA A' b x = agree b l := by
  unfold cubeF at h
  rcases e : cubeGo A 1 l.reverse with ⟨q, A1⟩
  rw [e] at h
  cases q with
  | none => cases h
  | some f =>
    cases h
    rw [cubeGo_sem l.reverse A 1 hA (by have := hA.two; omega) (fun x hx => hR.lt x (by simpa using hx)) (List.pairwise_reverse.2 hR.up) (fun x hx => by rw [hA.lv_one]; exact hR.lt x (by simpa using hx)) x A' e b, agree_rev, inA_one, Bool.and_true]

theorem cubeGo_room : ∀ (l : List (Nat × Bool)) (A : Arn) (f : Nat), A.nodes.length + l.length ≤ A.most → (∃ x, (cubeGo A f l).1 = some x) ∧ (cubeGo A f l).2.nodes.length ≤ A.nodes.length + l.length
  | [], A, f, _ => ⟨⟨f, rfl⟩, Nat.le_refl _⟩
  | (v, on) :: r, A, f, h => by
    rw [List.length_cons] at h
    have q2 := mk_len A v (if on then 0 else f) (if on then f else 0)
    have q3 := fun h => mkF_full (A := A) (L := v) (lo := if on then 0 else f) (hi := if on then f else 0) h
    have q4 := (mkF_ext A v (if on then 0 else f) (if on then f else 0)).most
    unfold cubeGo
    rcases e : mkF A v (if on then 0 else f) (if on then f else 0) with ⟨q, A1⟩
    rw [e] at q2 q3 q4
    simp only at q2 q3 q4
    cases q with
    | none => have := (q3 rfl).1; omega
    | some f' =>
      obtain ⟨a, b⟩ := cubeGo_room r A1 f' (by omega)
      exact ⟨a, by rw [List.length_cons]; simp only; omega⟩

theorem cubeF_room {A : Arn} {l : List (Nat × Bool)} (h : A.nodes.length + l.length ≤ A.most) : ∃ x A', cubeF A l = (some x, A') ∧ A'.nodes.length ≤ A.nodes.length + l.length := by
  obtain ⟨⟨x, a⟩, b⟩ := cubeGo_room l.reverse A 1 (by simpa using h)
  unfold cubeF
  rcases e : cubeGo A 1 l.reverse with ⟨q, A1⟩
  rw [e] at a b
  simp only at a
  subst a
  exact ⟨x, A1, rfl, by simpa using b⟩

end Go.Proofs.Ytakgghhmecphmaa
