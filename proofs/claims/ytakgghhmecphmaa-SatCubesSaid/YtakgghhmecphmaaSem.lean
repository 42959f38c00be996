/- What a set has, told of its graph; that two sets that have the same are one; what joins come to. No program in sight. -/
import Derived.Test.YtakgghhmecphmaaMakeP
namespace Go.Proofs.Ytakgghhmecphmaa
set_option linter.unusedVariables false
set_option linter.unusedSimpArgs false

/-- Whether a set has the header of these bits, in d steps. -/
def ev (A : Arn) (b : Nat → Bool) : Nat → Nat → Bool
  | 0, f => f == 1
  | d + 1, f => if f ≤ 1 then f == 1 else ev A b d (if b (A.nd f).level then (A.nd f).high else (A.nd f).low)
def inA (A : Arn) (b : Nat → Bool) (f : Nat) : Bool := ev A b f f

theorem ev_enough {A : Arn} (hA : A.OK) (b : Nat → Bool) : ∀ (d f : Nat), f < A.nodes.length → f ≤ d → ev A b d f = ev A b f f := by
  intro d
  induction d using Nat.strongRecOn with
  | _ d ih =>
    intro f hf hd
    by_cases h1 : f ≤ 1
    · match d, f with
      | 0, f => obtain rfl : f = 0 := by omega
                rfl
      | d + 1, 0 => simp [ev]
      | d + 1, 1 => simp [ev]
      | d + 1, f + 2 => omega
    · obtain ⟨a, h2, h3, _⟩ := hA.at_ hf (by omega)
      match d, f with
      | 0, f => omega
      | d + 1, 0 => omega
      | d + 1, f + 1 =>
        unfold ev
        rw [if_neg h1, if_neg h1]
        have hc : (if b (A.nd (f + 1)).level then (A.nd (f + 1)).high else (A.nd (f + 1)).low) < f + 1 := by split <;> omega
        generalize (if b (A.nd (f + 1)).level then (A.nd (f + 1)).high else (A.nd (f + 1)).low) = c at hc
        rw [ih d (by omega) c (by omega) (by omega)]
        by_cases hfd : f = d
        · subst hfd
          rw [ih f (by omega) c (by omega) (by omega)]
        · rw [ih f (by omega) c (by omega) (by omega)]

theorem inA_zero (A : Arn) (b : Nat → Bool) : inA A b 0 = false := rfl
theorem inA_one (A : Arn) (b : Nat → Bool) : inA A b 1 = true := rfl
theorem inA_node {A : Arn} (hA : A.OK) (b : Nat → Bool) {f : Nat} (hf : f < A.nodes.length) (h2 : 2 ≤ f) : inA A b f = inA A b (if b (A.lv f) then (A.nd f).high else (A.nd f).low) := by
  obtain ⟨a, h2', h3, _⟩ := hA.at_ hf h2
  obtain ⟨g, rfl⟩ : ∃ g, f = g + 1 := ⟨f - 1, by omega⟩
  unfold inA
  rw [show ev A b (g + 1) (g + 1) = ev A b g (if b (A.lv (g + 1)) then (A.nd (g + 1)).high else (A.nd (g + 1)).low) from by
    conv => lhs; unfold ev
    rw [if_neg (by omega)]
    rfl]
  refine ev_enough hA b _ _ ?_ ?_ <;> split <;> omega

theorem inA_ext {A B : Arn} (hA : A.OK) (hB : B.OK) (e : Ext A B) (b : Nat → Bool) : ∀ f, f < A.nodes.length → inA B b f = inA A b f := by
  intro f
  induction f using Nat.strongRecOn with
  | _ f ih =>
    intro hf
    rcases Nat.lt_or_ge f 2 with h | h
    · obtain rfl | rfl : f = 0 ∨ f = 1 := by omega
      · rfl
      · rfl
    · have := e.len
      obtain ⟨a, h2', h3, _⟩ := hA.at_ hf h
      rw [inA_node hA b hf h, inA_node hB b (by omega) h, e.lv hf, e.nd hf]
      refine ih _ ?_ ?_ <;> split <;> omega

theorem inA_indep {A : Arn} (hA : A.OK) {b b' : Nat → Bool} : ∀ f, f < A.nodes.length → (∀ v, A.lv f ≤ v → b v = b' v) → inA A b f = inA A b' f := by
  intro f
  induction f using Nat.strongRecOn with
  | _ f ih =>
    intro hf hb
    rcases Nat.lt_or_ge f 2 with h | h
    · obtain rfl | rfl : f = 0 ∨ f = 1 := by omega
      · rfl
      · rfl
    · obtain ⟨a, h2, h3, _, h4, h5⟩ := hA.at_ hf h
      rw [inA_node hA b hf h, inA_node hA b' hf h, hb _ (Nat.le_refl _)]
      split
      · exact ih _ h3 (by omega) (fun v hv => hb v (by omega))
      · exact ih _ h2 (by omega) (fun v hv => hb v (by omega))

def updB (b : Nat → Bool) (i : Nat) (on : Bool) : Nat → Bool := fun v => if v = i then on else b v
theorem updB_same (b : Nat → Bool) (i : Nat) (on : Bool) : updB b i on i = on := by simp [updB]
theorem updB_other (b : Nat → Bool) {i v : Nat} (on : Bool) (h : v ≠ i) : updB b i on v = b v := by simp [updB, h]
theorem inA_upd {A : Arn} (hA : A.OK) (b : Nat → Bool) {f i : Nat} (on : Bool) (hf : f < A.nodes.length) (hi : i < A.lv f) : inA A (updB b i on) f = inA A b f :=
  inA_indep hA f hf (fun v hv => updB_other b on (by omega))
theorem inA_part {A : Arn} (hA : A.OK) (b : Nat → Bool) {f : Nat} (on : Bool) (hf : f < A.nodes.length) (h2 : 2 ≤ f) : inA A (updB b (A.lv f) on) f = inA A b (if on then (A.nd f).high else (A.nd f).low) := by
  obtain ⟨a, h3, h4, _, h5, h6⟩ := hA.at_ hf h2
  rw [inA_node hA _ hf h2, updB_same]
  refine inA_upd hA b on ?_ ?_ <;> split <;> omega

/-- TWO SETS THAT HAVE THE SAME ARE ONE. -/
theorem canon {A : Arn} (hA : A.OK) : ∀ (n f g : Nat), f + g ≤ n → f < A.nodes.length → g < A.nodes.length → (∀ b, inA A b f = inA A b g) → f = g := by
  intro n
  induction n with
  | zero => intro f g h _ _ _; omega
  | succ n ih =>
    intro f g hn hf hg h
    -- a node whose parts have the same is none
    have key : ∀ f g, f + g ≤ n + 1 → f < A.nodes.length → g < A.nodes.length → (∀ b, inA A b f = inA A b g) → A.lv f < A.lv g → False := by
      intro f g hn hf hg h hl
      have := hA.lv_le g
      have h2 := two_of_lv hA (f := f) (by omega)
      obtain ⟨a, h3, h4, h5, h6, h7⟩ := hA.at_ hf h2
      have p : ∀ (on : Bool) (b : Nat → Bool), inA A b (if on then (A.nd f).high else (A.nd f).low) = inA A b g := fun on b => by
        rw [← inA_part hA b on hf h2, h, inA_upd hA b on hg hl]
      have e1 : (A.nd f).low = g := ih _ _ (by omega) (by omega) hg (p false)
      have e2 : (A.nd f).high = g := ih _ _ (by omega) (by omega) hg (p true)
      exact h5 (e1.trans e2.symm)
    rcases Nat.lt_trichotomy (A.lv f) (A.lv g) with hl | hl | hl
    · exact (key f g hn hf hg h hl).elim
    · rcases Nat.lt_or_ge (A.lv f) 104 with h1 | h1
      · have f2 := two_of_lv hA h1
        have g2 := two_of_lv hA (f := g) (by omega)
        obtain ⟨a, h3, h4, h5, h6, h7⟩ := hA.at_ hf f2
        obtain ⟨a', h3', h4', h5', h6', h7'⟩ := hA.at_ hg g2
        have p : ∀ (on : Bool) (b : Nat → Bool), inA A b (if on then (A.nd f).high else (A.nd f).low) = inA A b (if on then (A.nd g).high else (A.nd g).low) := fun on b => by
          rw [← inA_part hA b on hf f2, ← inA_part hA b on hg g2, h, hl]
        have e1 : (A.nd f).low = (A.nd g).low := ih _ _ (by omega) (by omega) (by omega) (p false)
        have e2 : (A.nd f).high = (A.nd g).high := ih _ _ (by omega) (by omega) (by omega) (p true)
        have e3 : A.nd f = A.nd g := by
          have hl' : (A.nd f).level = (A.nd g).level := hl
          cases hx : A.nd f
          cases hy : A.nd g
          simp [hx, hy] at e1 e2 hl'
          simp [e1, e2, hl']
        have q1 := findF_of hA.nodup f2 (nd_get hf)
        have q2 := findF_of hA.nodup g2 (nd_get hg)
        rw [e3, q2] at q1
        cases q1
        rfl
      · have f2 : f < 2 := by
          rcases Nat.lt_or_ge f 2 with h' | h'
          · exact h'
          · have := (hA.at_ hf h').1; omega
        have g2 : g < 2 := by
          rcases Nat.lt_or_ge g 2 with h' | h'
          · exact h'
          · have := (hA.at_ hg h').1; omega
        have h0 := h (fun _ => false)
        obtain rfl | rfl : f = 0 ∨ f = 1 := by omega
        · obtain rfl | rfl : g = 0 ∨ g = 1 := by omega
          · rfl
          · cases h0
        · obtain rfl | rfl : g = 0 ∨ g = 1 := by omega
          · cases h0
          · rfl
    · exact (key g f (by omega) hg hf (fun b => (h b).symm) hl).elim

theorem canon' {A : Arn} (hA : A.OK) {f g : Nat} (hf : f < A.nodes.length) (hg : g < A.nodes.length) (h : ∀ b, inA A b f = inA A b g) : f = g := canon hA _ f g (Nat.le_refl _) hf hg h

/-- What two sets joined have. -/
def opF (k : Nat) (x y : Bool) : Bool := if k = 0 then x && y else if k = 1 then x || y else if k = 2 then x != y else x && !y

theorem short_sem {A : Arn} {k f g x : Nat} (h : shortF k f g = some x) (b : Nat → Bool) : inA A b x = opF k (inA A b f) (inA A b g) := by
  have h0 := inA_zero A b
  have h1 := inA_one A b
  unfold shortF at h
  unfold opF
  repeat' split at h
  all_goals cases h
  all_goals simp_all
  all_goals rename_i hh
  all_goals first | (rcases hh with hh | hh | hh <;> subst hh <;> simp_all; done) | (rcases hh with hh | hh <;> subst hh <;> simp_all; done)

end Go.Proofs.Ytakgghhmecphmaa
