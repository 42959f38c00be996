/- What SatSteps asks of one round, in plain lists and numbers: a set without its least header. -/
import Derived.Test.YtakgghhmecphmaaSem
import Derived.Test.YtakgghhmecphmaaEndsP
namespace Go.Proofs.Ytakgghhmecphmaa
set_option linter.unusedVariables false
set_option linter.unusedSimpArgs false

theorem suf_range (h : Nat → Bool) : ∀ (n s : Nat), s + n = 104 → SufL ((List.range' s n).map fun i => (i, h i))
  | 0, s, _ => by simp [SufL]
  | n + 1, s, hs => by
    rw [List.range'_succ, List.map_cons]
    refine ⟨?_, suf_range h n (s + 1) (by omega)⟩
    simp
    omega
theorem headN_suf (hd : Hd) : SufL (headN hd 104) := by
  unfold headN
  rw [List.range_eq_range']
  exact suf_range hd.bit 104 0 rfl
theorem headN_is (hd : Hd) (b : Nat → Bool) : agree b (headN hd 104) = true ↔ ∀ v, v < 104 → b v = hd.bit v := by
  unfold agree headN
  simp only [List.all_map, List.all_eq_true, List.mem_range, Function.comp, beq_iff_eq]

theorem inA_low {A : Arn} (hA : A.OK) {b b' : Nat → Bool} (h : ∀ v, v < 104 → b v = b' v) : ∀ (n f : Nat), f ≤ n → f < A.nodes.length → inA A b f = inA A b' f := by
  intro n
  induction n with
  | zero =>
    intro f hn _
    obtain rfl : f = 0 := by omega
    rw [inA_zero, inA_zero]
  | succ n ih =>
    intro f hn hf
    rcases Nat.lt_or_ge f 2 with h2 | h2
    · obtain rfl | rfl : f = 0 ∨ f = 1 := by omega
      · rw [inA_zero, inA_zero]
      · rw [inA_one, inA_one]
    · obtain ⟨a, b1, b2, _⟩ := hA.at_ hf h2
      rw [inA_node hA b hf h2, inA_node hA b' hf h2, h _ a]
      split
      · exact ih _ (by omega) (by omega)
      · exact ih _ (by omega) (by omega)

theorem step_plain {A : Arn} (hA : A.OK) (hr : A.nodes.length + 208 < A.most) {f : Nat} (hf : f < A.nodes.length) {hd : Hd} (hl : Least A f false hd) :
    ∃ x A1 g A2, cubeF A (headN hd 104) = (some x, A1) ∧ joinA A1 3 f x = (some g, A2) ∧ A1.OK ∧ A2.OK ∧ f < A1.nodes.length ∧ x < A1.nodes.length ∧ g < A2.nodes.length ∧ cntA A2 g + 1 = cntA A f ∧ inA A2 hd.bit g = false ∧
      A2.nodes.length ≤ A.nodes.length + 208 ∧ A2.most = A.most ∧ ∀ h2, Least A2 g false h2 → cmpH hd h2 = -1 := by
  have hR := headN_rise hd (Nat.le_refl 104)
  obtain ⟨x, A1, e1, n1⟩ := cubeF_room (A := A) (l := headN hd 104) (by rw [headN_length]; omega)
  rw [headN_length] at n1
  obtain ⟨o1, b1, c1, _⟩ := cubeF_ok hA hR
  rw [e1] at o1 b1 c1
  simp only at o1 b1 c1
  have hx := c1 x rfl
  have s1 := fun b => cubeF_sem hA hR e1 b
  have m1 := b1.most
  have hf1 : f < A1.nodes.length := Nat.lt_of_lt_of_le hf b1.len
  obtain ⟨g, A2, e2, n2⟩ := diff_room o1 hf1 hx (headN_suf hd) (headN_length _ _) s1 (by omega)
  obtain ⟨o2, b2, c2⟩ := joinA_ok o1 (k := 3) (by omega) hf1 hx
  have s2 := fun h b => joinA_sem o1 (k := 3) (x := g) (by omega) hf1 hx h b
  rw [e2] at o2 b2 c2 s2
  simp only at o2 b2 c2 s2
  have hg := c2 g rfl
  have sg : ∀ b, inA A2 b g = (inA A b f && !agree b (headN hd 104)) := fun b => by
    rw [s2 trivial b, inA_ext hA o1 b1 b f hf, s1]
    rfl
  have hind : ∀ b, agree b (headN hd 104) = true → inA A b f = true := fun b hb => by
    rw [← hl.2.1]
    exact inA_low hA ((headN_is hd b).1 hb) f f (Nat.le_refl _) hf
  refine ⟨x, A1, g, A2, e1, e2, o1, o2, hf1, hx, hg, ?_, ?_, by omega, b2.most.trans m1, ?_⟩
  · have hw := (ways_agree 104 (headN hd 104) (Nat.le_refl _) hR.up (fun x hx => ⟨by omega, hR.lt x hx⟩)).2
    rw [headN_length] at hw
    unfold cntA
    rw [← ways_cut 104 (fun b => inA A b f) (fun b => agree b (headN hd 104)), ways_congr 104 sg,
      ways_congr 104 (F := fun b => inA A b f && agree b (headN hd 104)) (G := fun b => agree b (headN hd 104)) (fun b => by
        cases hb : agree b (headN hd 104)
        · simp
        · rw [hind b hb]; rfl), hw]
    omega
  · rw [sg, (headN_is hd hd.bit).2 (fun _ _ => rfl)]
    simp
  · intro h2 hl2
    have hin := hl2.2.1
    rw [sg] at hin
    simp only [Bool.and_eq_true, Bool.not_eq_true'] at hin
    rcases hl.2.2 h2.bit hin.1 with p | ⟨j, hj, p, p1, p2⟩
    · rw [(headN_is hd h2.bit).2 p] at hin
      cases hin.2
    · exact cmp_less hl.1 hl2.1 hj (fun v hv => (p v hv).symm) p1 (by rw [p2]; rfl)

end Go.Proofs.Ytakgghhmecphmaa
