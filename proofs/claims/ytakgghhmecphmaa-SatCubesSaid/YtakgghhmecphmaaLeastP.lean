/- The least and the greatest header of a set: down its nodes, in plain lists. No program in sight. -/
import Derived.Test.YtakgghhmecphmaaWithP
namespace Go.Proofs.Ytakgghhmecphmaa
set_option linter.unusedVariables false
set_option linter.unusedSimpArgs false

/-- b is h up to bit i, or leaves it at one bit where h is 'on' and b isn't. -/
def Past (i : Nat) (on : Bool) (h b : Nat → Bool) : Prop := (∀ v, v < i → b v = h v) ∨ ∃ j, j < i ∧ (∀ v, v < j → b v = h v) ∧ h j = on ∧ b j = !on
/-- What the way down keeps. -/
structure LInv (A : Arn) (f : Nat) (on : Bool) (i g : Nat) (h : Hd) : Prop where
  wf : h.Wf
  lt : g < A.nodes.length
  ne : g ≠ 0
  lv : i ≤ A.lv g
  zero : ∀ v, i ≤ v → h.bit v = false
  same : ∀ b : Nat → Bool, (∀ v, v < i → b v = h.bit v) → inA A b f = inA A b g
  past : ∀ b : Nat → Bool, inA A b f = true → Past i on h.bit b

theorem LInv.start {A : Arn} {f : Nat} (on : Bool) (hf : f < A.nodes.length) (h0 : f ≠ 0) : LInv A f on 0 f hdZ :=
  ⟨hdZ_wf, hf, h0, Nat.zero_le _, fun v _ => hdZ_bit v, fun _ _ => rfl, fun b _ => Or.inl fun v hv => by omega⟩

theorem put_low (h : Hd) {i : Nat} (hi : i < 104) (on : Bool) {v : Nat} (hv : v < i) : (h.put i on).bit v = h.bit v := by
  rw [Hd.put_bit h hi, updB_other _ _ (by omega)]
theorem put_at (h : Hd) {i : Nat} (hi : i < 104) (on : Bool) : (h.put i on).bit i = on := by
  rw [Hd.put_bit h hi, updB_same]
theorem put_high (h : Hd) {i : Nat} (hi : i < 104) (on : Bool) {v : Nat} (hv : i < v) : (h.put i on).bit v = h.bit v := by
  rw [Hd.put_bit h hi, updB_other _ _ (by omega)]

theorem Past.on {i : Nat} {on : Bool} {h : Hd} {b : Nat → Bool} (p : Past i on h.bit b) (hi : i < 104) : Past (i + 1) on (h.put i on).bit b := by
  rcases p with p | ⟨j, hj, p, p1, p2⟩
  · by_cases hb : b i = on
    · refine Or.inl fun v hv => ?_
      by_cases e : v = i
      · subst e; rw [put_at h hi, hb]
      · rw [put_low h hi on (by omega)]; exact p v (by omega)
    · refine Or.inr ⟨i, by omega, fun v hv => by rw [put_low h hi on hv]; exact p v hv, put_at h hi on, ?_⟩
      revert hb; cases b i <;> cases on <;> simp
  · exact Or.inr ⟨j, by omega, fun v hv => by rw [put_low h hi on (by omega)]; exact p v hv, by rw [put_low h hi on hj]; exact p1, p2⟩

theorem LInv.skip {A : Arn} {f g i : Nat} {on : Bool} {h : Hd} (k : LInv A f on i g h) (hi : i < 104) (hl : A.lv g ≠ i) : LInv A f on (i + 1) g (h.put i on) :=
  ⟨Hd.put_wf k.wf hi on, k.lt, k.ne, by have := k.lv; omega, fun v hv => by rw [put_high h hi on (by omega)]; exact k.zero v (by omega),
    fun b hb => k.same b fun v hv => by rw [hb v (by omega), put_low h hi on hv], fun b hb => (k.past b hb).on hi⟩

theorem two_of {A : Arn} (hA : A.OK) {g : Nat} (h : A.lv g < 104) : 2 ≤ g := by
  rcases Nat.lt_or_ge g 2 with h2 | h2
  · obtain rfl | rfl : g = 0 ∨ g = 1 := by omega
    · rw [hA.lv_zero] at h; omega
    · rw [hA.lv_one] at h; omega
  · exact h2
def firstF (A : Arn) (on : Bool) (g : Nat) : Nat := if on then (A.nd g).high else (A.nd g).low
def secondF (A : Arn) (on : Bool) (g : Nat) : Nat := if on then (A.nd g).low else (A.nd g).high

theorem LInv.first {A : Arn} (hA : A.OK) {f g i : Nat} {on : Bool} {h : Hd} (k : LInv A f on i g h) (hi : i < 104) (hl : A.lv g = i) (h0 : firstF A on g ≠ 0) : LInv A f on (i + 1) (firstF A on g) (h.put i on) := by
  have h2 := two_of hA (g := g) (by omega)
  obtain ⟨a, b1, c, d, e1, e2⟩ := hA.at_ k.lt h2
  have hlt := k.lt
  refine ⟨Hd.put_wf k.wf hi on, ?_, h0, ?_, fun v hv => by rw [put_high h hi on (by omega)]; exact k.zero v (by omega), ?_, fun b hb => (k.past b hb).on hi⟩
  · unfold firstF; split <;> omega
  · unfold firstF; split <;> omega
  · intro b hb
    rw [k.same b fun v hv => by rw [hb v (by omega), put_low h hi on hv], inA_node hA b k.lt h2, hl, hb i (by omega), put_at h hi on]
    rfl
theorem LInv.second {A : Arn} (hA : A.OK) {f g i : Nat} {on : Bool} {h : Hd} (k : LInv A f on i g h) (hi : i < 104) (hl : A.lv g = i) (h0 : firstF A on g = 0) : LInv A f on (i + 1) (secondF A on g) (h.put i (!on)) := by
  have h2 := two_of hA (g := g) (by omega)
  obtain ⟨a, b1, c, d, e1, e2⟩ := hA.at_ k.lt h2
  have hlt := k.lt
  refine ⟨Hd.put_wf k.wf hi (!on), ?_, ?_, ?_, fun v hv => by rw [put_high h hi (!on) (by omega)]; exact k.zero v (by omega), ?_, ?_⟩
  · unfold secondF; split <;> omega
  · revert h0; unfold firstF secondF; cases on <;> simp <;> omega
  · unfold secondF; split <;> omega
  · intro b hb
    rw [k.same b fun v hv => by rw [hb v (by omega), put_low h hi (!on) hv], inA_node hA b k.lt h2, hl, hb i (by omega), put_at h hi (!on)]
    unfold secondF
    cases on <;> rfl
  · intro b hb
    rcases k.past b hb with p | ⟨j, hj, p, p1, p2⟩
    · have hin := k.same b p
      rw [hb, inA_node hA b k.lt h2, hl] at hin
      have hbi : b i = !on := by
        by_cases e : b i = on
        · rw [e] at hin
          have : (if on = true then (A.nd g).high else (A.nd g).low) = 0 := h0
          rw [this, inA_zero] at hin
          cases hin
        · revert e; cases b i <;> cases on <;> simp
      refine Or.inl fun v hv => ?_
      by_cases e : v = i
      · subst e; rw [put_at h hi, hbi]
      · rw [put_low h hi _ (by omega)]; exact p v (by omega)
    · exact Or.inr ⟨j, by omega, fun v hv => by rw [put_low h hi _ (by omega)]; exact p v hv, by rw [put_low h hi _ hj]; exact p1, p2⟩

/-- The header at the end of the way. -/
def Least (A : Arn) (f : Nat) (on : Bool) (h : Hd) : Prop := h.Wf ∧ inA A h.bit f = true ∧ ∀ b : Nat → Bool, inA A b f = true → Past 104 on h.bit b
theorem LInv.ends {A : Arn} (hA : A.OK) {f g : Nat} {on : Bool} {h : Hd} (k : LInv A f on 104 g h) : Least A f on h := by
  refine ⟨k.wf, ?_, k.past⟩
  rw [k.same h.bit fun _ _ => rfl]
  have hg : g = 1 := by
    rcases Nat.lt_or_ge g 2 with h2 | h2
    · have := k.ne; omega
    · have := (hA.at_ k.lt h2).1
      have := k.lv
      omega
  rw [hg]
  exact inA_one A _

end Go.Proofs.Ytakgghhmecphmaa
