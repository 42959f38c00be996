/- A header with a bit set, or not: in plain numbers. · The least and the greatest header of a set: down its nodes, in plain lists. No program in sight. -/
import Derived.Test.YtakgghhmecphmaaEncP
namespace Go.Proofs.Ytakgghhmecphmaa
set_option linter.unusedVariables false
set_option linter.unusedSimpArgs false

/-- A header with one bit turned. -/
def Hd.flip (h : Hd) (i : Nat) : Hd :=
  if i < 32 then { h with dst := h.dst ^^^ 2 ^ (31 - i) } else if i < 64 then { h with src := h.src ^^^ 2 ^ (63 - i) } else if i < 72 then { h with proto := h.proto ^^^ 2 ^ (71 - i) }
  else if i < 88 then { h with sport := h.sport ^^^ 2 ^ (87 - i) } else { h with dport := h.dport ^^^ 2 ^ (103 - i) }
theorem xor_bit (n k m : Nat) : (n ^^^ 2 ^ k).testBit m = if m = k then !n.testBit m else n.testBit m := by
  rw [Nat.testBit_xor, Nat.testBit_two_pow]
  by_cases h : k = m
  · subst h; simp
  · rw [decide_eq_false h, if_neg (fun e => h e.symm)]; simp
theorem Hd.flip_bit (h : Hd) {i : Nat} (hi : i < 104) (v : Nat) : (h.flip i).bit v = if v = i then !h.bit v else h.bit v := by
  unfold Hd.flip Hd.bit
  have hc : i < 32 ∨ (32 ≤ i ∧ i < 64) ∨ (64 ≤ i ∧ i < 72) ∨ (72 ≤ i ∧ i < 88) ∨ (88 ≤ i ∧ i < 104) := by omega
  have hv : v < 32 ∨ (32 ≤ v ∧ v < 64) ∨ (64 ≤ v ∧ v < 72) ∨ (72 ≤ v ∧ v < 88) ∨ (88 ≤ v ∧ v < 104) ∨ 104 ≤ v := by omega
  rcases hc with h1 | ⟨h0, h1⟩ | ⟨h0, h1⟩ | ⟨h0, h1⟩ | ⟨h0, h1⟩
  · rw [if_pos h1]
    rcases hv with k | ⟨k0, k⟩ | ⟨k0, k⟩ | ⟨k0, k⟩ | ⟨k0, k⟩ | k
    · rw [if_pos k, if_pos k]
      simp only
      rw [xor_bit]
      by_cases e : v = i
      · rw [if_pos (by omega), if_pos e]
      · rw [if_neg (by omega), if_neg e]
    all_goals (rw [if_neg (show ¬ v = i by omega)]; (repeat' split) <;> first | rfl | omega)
  · rw [if_neg (show ¬ i < 32 by omega), if_pos h1]
    rcases hv with k | ⟨k0, k⟩ | ⟨k0, k⟩ | ⟨k0, k⟩ | ⟨k0, k⟩ | k
    · rw [if_neg (show ¬ v = i by omega)]; (repeat' split) <;> first | rfl | omega
    · rw [if_neg (show ¬ v < 32 by omega), if_pos k, if_neg (show ¬ v < 32 by omega), if_pos k]
      simp only
      rw [xor_bit]
      by_cases e : v = i
      · rw [if_pos (by omega), if_pos e]
      · rw [if_neg (by omega), if_neg e]
    all_goals (rw [if_neg (show ¬ v = i by omega)]; (repeat' split) <;> first | rfl | omega)
  · rw [if_neg (show ¬ i < 32 by omega), if_neg (show ¬ i < 64 by omega), if_pos h1]
    rcases hv with k | ⟨k0, k⟩ | ⟨k0, k⟩ | ⟨k0, k⟩ | ⟨k0, k⟩ | k
    · rw [if_neg (show ¬ v = i by omega)]; (repeat' split) <;> first | rfl | omega
    · rw [if_neg (show ¬ v = i by omega)]; (repeat' split) <;> first | rfl | omega
    · rw [if_neg (show ¬ v < 32 by omega), if_neg (show ¬ v < 64 by omega), if_pos k, if_neg (show ¬ v < 32 by omega), if_neg (show ¬ v < 64 by omega), if_pos k]
      simp only
      rw [xor_bit]
      by_cases e : v = i
      · rw [if_pos (by omega), if_pos e]
      · rw [if_neg (by omega), if_neg e]
    all_goals (rw [if_neg (show ¬ v = i by omega)]; (repeat' split) <;> first | rfl | omega)
  · rw [if_neg (show ¬ i < 32 by omega), if_neg (show ¬ i < 64 by omega), if_neg (show ¬ i < 72 by omega), if_pos h1]
    rcases hv with k | ⟨k0, k⟩ | ⟨k0, k⟩ | ⟨k0, k⟩ | ⟨k0, k⟩ | k
    · rw [if_neg (show ¬ v = i by omega)]; (repeat' split) <;> first | rfl | omega
    · rw [if_neg (show ¬ v = i by omega)]; (repeat' split) <;> first | rfl | omega
    · rw [if_neg (show ¬ v = i by omega)]; (repeat' split) <;> first | rfl | omega
    · rw [if_neg (show ¬ v < 32 by omega), if_neg (show ¬ v < 64 by omega), if_neg (show ¬ v < 72 by omega), if_pos k, if_neg (show ¬ v < 32 by omega), if_neg (show ¬ v < 64 by omega), if_neg (show ¬ v < 72 by omega), if_pos k]
      simp only
      rw [xor_bit]
      by_cases e : v = i
      · rw [if_pos (by omega), if_pos e]
      · rw [if_neg (by omega), if_neg e]
    all_goals (rw [if_neg (show ¬ v = i by omega)]; (repeat' split) <;> first | rfl | omega)
  · rw [if_neg (show ¬ i < 32 by omega), if_neg (show ¬ i < 64 by omega), if_neg (show ¬ i < 72 by omega), if_neg (show ¬ i < 88 by omega)]
    rcases hv with k | ⟨k0, k⟩ | ⟨k0, k⟩ | ⟨k0, k⟩ | ⟨k0, k⟩ | k
    · rw [if_neg (show ¬ v = i by omega)]; (repeat' split) <;> first | rfl | omega
    · rw [if_neg (show ¬ v = i by omega)]; (repeat' split) <;> first | rfl | omega
    · rw [if_neg (show ¬ v = i by omega)]; (repeat' split) <;> first | rfl | omega
    · rw [if_neg (show ¬ v = i by omega)]; (repeat' split) <;> first | rfl | omega
    · rw [if_neg (show ¬ v < 32 by omega), if_neg (show ¬ v < 64 by omega), if_neg (show ¬ v < 72 by omega), if_neg (show ¬ v < 88 by omega), if_pos k, if_neg (show ¬ v < 32 by omega), if_neg (show ¬ v < 64 by omega), if_neg (show ¬ v < 72 by omega), if_neg (show ¬ v < 88 by omega), if_pos k]
      simp only
      rw [xor_bit]
      by_cases e : v = i
      · rw [if_pos (by omega), if_pos e]
      · rw [if_neg (by omega), if_neg e]
    · rw [if_neg (show ¬ v = i by omega)]; (repeat' split) <;> first | rfl | omega
theorem xor_lt {n m k : Nat} (h : n < 2 ^ m) (hk : k < m) : n ^^^ 2 ^ k < 2 ^ m := Nat.xor_lt_two_pow h (Nat.pow_lt_pow_right (by omega) hk)
theorem Hd.flip_wf {h : Hd} (w : h.Wf) {i : Nat} (hi : i < 104) : (h.flip i).Wf := by
  unfold Hd.flip
  split
  · exact ⟨xor_lt w.dst (by omega), w.src, w.proto, w.sport, w.dport⟩
  split
  · exact ⟨w.dst, xor_lt w.src (by omega), w.proto, w.sport, w.dport⟩
  split
  · exact ⟨w.dst, w.src, xor_lt w.proto (by omega), w.sport, w.dport⟩
  split
  · exact ⟨w.dst, w.src, w.proto, xor_lt w.sport (by omega), w.dport⟩
  · exact ⟨w.dst, w.src, w.proto, w.sport, xor_lt w.dport (by omega)⟩

/-- A header with a bit so. -/
def Hd.put (h : Hd) (i : Nat) (on : Bool) : Hd := if h.bit i = on then h else h.flip i
theorem Hd.put_wf {h : Hd} (w : h.Wf) {i : Nat} (hi : i < 104) (on : Bool) : (h.put i on).Wf := by
  unfold Hd.put
  split
  · exact w
  · exact Hd.flip_wf w hi
theorem Hd.put_bit (h : Hd) {i : Nat} (hi : i < 104) (on : Bool) : (h.put i on).bit = updB h.bit i on := by
  funext v
  unfold Hd.put updB
  split
  · rename_i e
    split
    · rename_i e2; rw [e2, e]
    · rfl
  · rename_i e
    rw [Hd.flip_bit h hi]
    split
    · rename_i e2
      subst e2
      revert e
      cases h.bit v <;> cases on <;> simp
    · rfl
def hdZ : Hd := ⟨0, 0, 0, 0, 0⟩
theorem hdZ_wf : hdZ.Wf := ⟨by decide, by decide, by decide, by decide, by decide⟩
theorem hdZ_bit (v : Nat) : hdZ.bit v = false := by
  unfold Hd.bit hdZ
  simp


/-- b is h up to bit i, or leaves it at one bit where h is 'on' and b isn't. -/
def Past (i : Nat) (on : Bool) (h b : Nat → Bool) : Prop := (∀ v, v < i → b v = h v) ∨ ∃ j, j < i ∧ (∀ v, v < j → b v = h v) ∧ h j = on ∧ b j = !on
/-- What the way down keeps. -/
structure LInv (A : Arn) (f : Nat) (on : Bool) (i g : Nat) (h : Hd) : Prop where
  wf : h.Wf
  lt : g < A.nodes.length
  ne : g ≠ 0
  lv : i ≤ A.lv g
  zero : ∀ v, i ≤ v → h.bit v = false
  same : ∀ b : Nat → Bool, (∀ v, v < i → b v = h.bit v) → inA A b f = inA A b g
  past : ∀ b : Nat → Bool, inA A b f = true → Past i on h.bit b

theorem LInv.start {A : Arn} {f : Nat} (on : Bool) (hf : f < A.nodes.length) (h0 : f ≠ 0) : LInv A f on 0 f hdZ :=
  ⟨hdZ_wf, hf, h0, Nat.zero_le _, fun v _ => hdZ_bit v, fun _ _ => rfl, fun b _ => Or.inl fun v hv => by omega⟩

theorem put_low (h : Hd) {i : Nat} (hi : i < 104) (on : Bool) {v : Nat} (hv : v < i) : (h.put i on).bit v = h.bit v := by
  rw [Hd.put_bit h hi, updB_other _ _ (by omega)]
theorem put_at (h : Hd) {i : Nat} (hi : i < 104) (on : Bool) : (h.put i on).bit i = on := by
  rw [Hd.put_bit h hi, updB_same]
theorem put_high (h : Hd) {i : Nat} (hi : i < 104) (on : Bool) {v : Nat} (hv : i < v) : (h.put i on).bit v = h.bit v := by
  rw [Hd.put_bit h hi, updB_other _ _ (by omega)]

theorem Past.on {i : Nat} {on : Bool} {h : Hd} {b : Nat → Bool} (p : Past i on h.bit b) (hi : i < 104) : Past (i + 1) on (h.put i on).bit b := by
  rcases p with p | ⟨j, hj, p, p1, p2⟩
  · by_cases hb : b i = on
    · refine Or.inl fun v hv => ?_
      by_cases e : v = i
      · subst e; rw [put_at h hi, hb]
      · rw [put_low h hi on (by omega)]; exact p v (by omega)
    · refine Or.inr ⟨i, by omega, fun v hv => by rw [put_low h hi on hv]; exact p v hv, put_at h hi on, ?_⟩
      revert hb; cases b i <;> cases on <;> simp
  · exact Or.inr ⟨j, by omega, fun v hv => by rw [put_low h hi on (by omega)]; exact p v hv, by rw [put_low h hi on hj]; exact p1, p2⟩

theorem LInv.skip {A : Arn} {f g i : Nat} {on : Bool} {h : Hd} (k : LInv A f on i g h) (hi : i < 104) (hl : A.lv g ≠ i) : LInv A f on (i + 1) g (h.put i on) :=
  ⟨Hd.put_wf k.wf hi on, k.lt, k.ne, by have := k.lv; omega, fun v hv => by rw [put_high h hi on (by omega)]; exact k.zero v (by omega),
    fun b hb => k.same b fun v hv => by rw [hb v (by omega), put_low h hi on hv], fun b hb => (k.past b hb).on hi⟩

theorem two_of {A : Arn} (hA : A.OK) {g : Nat} (h : A.lv g < 104) : 2 ≤ g := by
  rcases Nat.lt_or_ge g 2 with h2 | h2
  · obtain rfl | rfl : g = 0 ∨ g = 1 := by omega
    · rw [hA.lv_zero] at h; omega
    · rw [hA.lv_one] at h; omega
  · exact h2
def firstF (A : Arn) (on : Bool) (g : Nat) : Nat := if on then (A.nd g).high else (A.nd g).low
def secondF (A : Arn) (on : Bool) (g : Nat) : Nat := if on then (A.nd g).low else (A.nd g).high

theorem LInv.first {A : Arn} (hA : A.OK) {f g i : Nat} {on : Bool} {h : Hd} (k : LInv A f on i g h) (hi : i < 104) (hl : A.lv g = i) (h0 : firstF A on g ≠ 0) : LInv A f on (i + 1) (firstF A on g) (h.put i on) := by
  have h2 := two_of hA (g := g) (by omega)
  obtain ⟨a, b1, c, d, e1, e2⟩ := hA.at_ k.lt h2
  have hlt := k.lt
  refine ⟨Hd.put_wf k.wf hi on, ?_, h0, ?_, fun v hv => by rw [put_high h hi on (by omega)]; exact k.zero v (by omega), ?_, fun b hb => (k.past b hb).on hi⟩
  · unfold firstF; split <;> omega
  · unfold firstF; split <;> omega
  · intro b hb
    rw [k.same b fun v hv => by rw [hb v (by omega), put_low h hi on hv], inA_node hA b k.lt h2, hl, hb i (by omega), put_at h hi on]
    rfl
theorem LInv.second {A : Arn} (hA : A.OK) {f g i : Nat} {on : Bool} {h : Hd} (k : LInv A f on i g h) (hi : i < 104) (hl : A.lv g = i) (h0 : firstF A on g = 0) : LInv A f on (i + 1) (secondF A on g) (h.put i (!on)) := by
  have h2 := two_of hA (g := g) (by omega)
  obtain ⟨a, b1, c, d, e1, e2⟩ := hA.at_ k.lt h2
  have hlt := k.lt
  refine ⟨Hd.put_wf k.wf hi (!on), ?_, ?_, ?_, fun v hv => by rw [put_high h hi (!on) (by omega)]; exact k.zero v (by omega), ?_, ?_⟩
  · unfold secondF; split <;> omega
  · revert h0; unfold firstF secondF; cases on <;> simp <;> omega
  · unfold secondF; split <;> omega
  · intro b hb
    rw [k.same b fun v hv => by rw [hb v (by omega), put_low h hi (!on) hv], inA_node hA b k.lt h2, hl, hb i (by omega), put_at h hi (!on)]
    unfold secondF
    cases on <;> rfl
  · intro b hb
    rcases k.past b hb with p | ⟨j, hj, p, p1, p2⟩
    · have hin := k.same b p
      rw [hb, inA_node hA b k.lt h2, hl] at hin
      have hbi : b i = !on := by
        by_cases e : b i = on
        · rw [e] at hin
          have : (if on = true then (A.nd g).high else (A.nd g).low) = 0 := h0
          rw [this, inA_zero] at hin
          cases hin
        · revert e; cases b i <;> cases on <;> simp
      refine Or.inl fun v hv => ?_
      by_cases e : v = i
      · subst e; rw [put_at h hi, hbi]
      · rw [put_low h hi _ (by omega)]; exact p v (by omega)
    · exact Or.inr ⟨j, by omega, fun v hv => by rw [put_low h hi _ (by omega)]; exact p v hv, by rw [put_low h hi _ hj]; exact p1, p2⟩

/-- The header at the end of the way. -/
def Least (A : Arn) (f : Nat) (on : Bool) (h : Hd) : Prop := h.Wf ∧ inA A h.bit f = true ∧ ∀ b : Nat → Bool, inA A b f = true → Past 104 on h.bit b
theorem LInv.ends {A : Arn} (hA : A.OK) {f g : Nat} {on : Bool} {h : Hd} (k : LInv A f on 104 g h) : Least A f on h := by
  refine ⟨k.wf, ?_, k.past⟩
  rw [k.same h.bit fun _ _ => rfl]
  have hg : g = 1 := by
    rcases Nat.lt_or_ge g 2 with h2 | h2
    · have := k.ne; omega
    · have := (hA.at_ k.lt h2).1
      have := k.lv
      omega
  rw [hg]
  exact inA_one A _

end Go.Proofs.Ytakgghhmecphmaa
