/- A header with a bit set, or not: in plain numbers. -/
import Derived.Test.YtakgghhmecphmaaEncP
namespace Go.Proofs.Ytakgghhmecphmaa
set_option linter.unusedVariables false
set_option linter.unusedSimpArgs false

/-- A header with one bit turned. -/
def Hd.flip (h : Hd) (i : Nat) : Hd :=
  if i < 32 then { h with dst := h.dst ^^^ 2 ^ (31 - i) } else if i < 64 then { h with src := h.src ^^^ 2 ^ (63 - i) } else if i < 72 then { h with proto := h.proto ^^^ 2 ^ (71 - i) }
  else if i < 88 then { h with sport := h.sport ^^^ 2 ^ (87 - i) } else { h with dport := h.dport ^^^ 2 ^ (103 - i) }
theorem xor_bit (n k m : Nat) : (n ^^^ 2 ^ k).testBit m = if m = k then !n.testBit m else n.testBit m := by
  rw [Nat.testBit_xor, Nat.testBit_two_pow]
  by_cases h : k = m
  · subst h; simp
  · rw [decide_eq_false h, if_neg (fun e => h e.symm)]; simp
theorem Hd.flip_bit (h : Hd) {i : Nat} (hi : i < 104) (v : Nat) : (h.flip i).bit v = if v = i then !h.bit v else h.bit v := by
  unfold Hd.flip Hd.bit
  have hc : i < 32 ∨ (32 ≤ i ∧ i < 64) ∨ (64 ≤ i ∧ i < 72) ∨ (72 ≤ i ∧ i < 88) ∨ (88 ≤ i ∧ i < 104) := by omega
  have hv : v < 32 ∨ (32 ≤ v ∧ v < 64) ∨ (64 ≤ v ∧ v < 72) ∨ (72 ≤ v ∧ v < 88) ∨ (88 ≤ v ∧ v < 104) ∨ 104 ≤ v := by omega
  rcases hc with h1 | ⟨h0, h1⟩ | ⟨h0, h1⟩ | ⟨h0, h1⟩ | ⟨h0, h1⟩
  · rw [if_pos h1]
    rcases hv with k | ⟨k0, k⟩ | ⟨k0, k⟩ | ⟨k0, k⟩ | ⟨k0, k⟩ | k
    · rw [if_pos k, if_pos k]
      simp only
      rw [xor_bit]
      by_cases e : v = i
      · rw [if_pos (by omega), if_pos e]
      · rw [if_neg (by omega), if_neg e]
    all_goals (rw [if_neg (show ¬ v = i by omega)]; (repeat' split) <;> first | rfl | omega)
  · rw [if_neg (show ¬ i < 32 by omega), if_pos h1]
    rcases hv with k | ⟨k0, k⟩ | ⟨k0, k⟩ | ⟨k0, k⟩ | ⟨k0, k⟩ | k
    · rw [if_neg (show ¬ v = i by omega)]; (repeat' split) <;> first | rfl | omega
    · rw [if_neg (show ¬ v < 32 by omega), if_pos k, if_neg (show ¬ v < 32 by omega), if_pos k]
      simp only
      rw [xor_bit]
      by_cases e : v = i
      · rw [if_pos (by omega), if_pos e]
      · rw [if_neg (by omega), if_neg e]
    all_goals (rw [if_neg (show ¬ v = i by omega)]; (repeat' split) <;> first | rfl | omega)
  · rw [if_neg (show ¬ i < 32 by omega), if_neg (show ¬ i < 64 by omega), if_pos h1]
    rcases hv with k | ⟨k0, k⟩ | ⟨k0, k⟩ | ⟨k0, k⟩ | ⟨k0, k⟩ | k
    · rw [if_neg (show ¬ v = i by omega)]; (repeat' split) <;> first | rfl | omega
    · rw [if_neg (show ¬ v = i by omega)]; (repeat' split) <;> first | rfl | omega
    · rw [if_neg (show ¬ v < 32 by omega), if_neg (show ¬ v < 64 by omega), if_pos k, if_neg (show ¬ v < 32 by omega), if_neg (show ¬ v < 64 by omega), if_pos k]
      simp only
      rw [xor_bit]
      by_cases e : v = i
      · rw [if_pos (by omega), if_pos e]
      · rw [if_neg (by omega), if_neg e]
    all_goals (rw [if_neg (show ¬ v = i by omega)]; (repeat' split) <;> first | rfl | omega)
  · rw [if_neg (show ¬ i < 32 by omega), if_neg (show ¬ i < 64 by omega), if_neg (show ¬ i < 72 by omega), if_pos h1]
    rcases hv with k | ⟨k0, k⟩ | ⟨k0, k⟩ | ⟨k0, k⟩ | ⟨k0, k⟩ | k
    · rw [if_neg (show ¬ v = i by omega)]; (repeat' split) <;> first | rfl | omega
    · rw [if_neg (show ¬ v = i by omega)]; (repeat' split) <;> first | rfl | omega
    · rw [if_neg (show ¬ v = i by omega)]; (repeat' split) <;> first | rfl | omega
    · rw [if_neg (show ¬ v < 32 by omega), if_neg (show ¬ v < 64 by omega), if_neg (show ¬ v < 72 by omega), if_pos k, if_neg (show ¬ v < 32 by omega), if_neg (show ¬ v < 64 by omega), if_neg (show ¬ v < 72 by omega), if_pos k]
      simp only
      rw [xor_bit]
      by_cases e : v = i
      · rw [if_pos (by omega), if_pos e]
      · rw [if_neg (by omega), if_neg e]
    all_goals (rw [if_neg (show ¬ v = i by omega)]; (repeat' split) <;> first | rfl | omega)
  · rw [if_neg (show ¬ i < 32 by omega), if_neg (show ¬ i < 64 by omega), if_neg (show ¬ i < 72 by omega), if_neg (show ¬ i < 88 by omega)]
    rcases hv with k | ⟨k0, k⟩ | ⟨k0, k⟩ | ⟨k0, k⟩ | ⟨k0, k⟩ | k
    · rw [if_neg (show ¬ v = i by omega)]; (repeat' split) <;> first | rfl | omega
    · rw [if_neg (show ¬ v = i by omega)]; (repeat' split) <;> first | rfl | omega
    · rw [if_neg (show ¬ v = i by omega)]; (repeat' split) <;> first | rfl | omega
    · rw [if_neg (show ¬ v = i by omega)]; (repeat' split) <;> first | rfl | omega
    · rw [if_neg (show ¬ v < 32 by omega), if_neg (show ¬ v < 64 by omega), if_neg (show ¬ v < 72 by omega), if_neg (show ¬ v < 88 by omega), if_pos k, if_neg (show ¬ v < 32 by omega), if_neg (show ¬ v < 64 by omega), if_neg (show ¬ v < 72 by omega), if_neg (show ¬ v < 88 by omega), if_pos k]
      simp only
      rw [xor_bit]
      by_cases e : v = i
      · rw [if_pos (by omega), if_pos e]
      · rw [if_neg (by omega), if_neg e]
    · rw [if_neg (show ¬ v = i by omega)]; (repeat' split) <;> first | rfl | omega
theorem xor_lt {n m k : Nat} (h : n < 2 ^ m) (hk : k < m) : n ^^^ 2 ^ k < 2 ^ m := Nat.xor_lt_two_pow h (Nat.pow_lt_pow_right (by omega) hk)
theorem Hd.flip_wf {h : Hd} (w : h.Wf) {i : Nat} (hi : i < 104) : (h.flip i).Wf := by
  unfold Hd.flip
  split
  · exact ⟨xor_lt w.dst (by omega), w.src, w.proto, w.sport, w.dport⟩
  split
  · exact ⟨w.dst, xor_lt w.src (by omega), w.proto, w.sport, w.dport⟩
  split
  · exact ⟨w.dst, w.src, xor_lt w.proto (by omega), w.sport, w.dport⟩
  split
  · exact ⟨w.dst, w.src, w.proto, xor_lt w.sport (by omega), w.dport⟩
  · exact ⟨w.dst, w.src, w.proto, w.sport, xor_lt w.dport (by omega)⟩

/-- A header with a bit so. -/
def Hd.put (h : Hd) (i : Nat) (on : Bool) : Hd := if h.bit i = on then h else h.flip i
theorem Hd.put_wf {h : Hd} (w : h.Wf) {i : Nat} (hi : i < 104) (on : Bool) : (h.put i on).Wf := by
  unfold Hd.put
  split
  · exact w
  · exact Hd.flip_wf w hi
theorem Hd.put_bit (h : Hd) {i : Nat} (hi : i < 104) (on : Bool) : (h.put i on).bit = updB h.bit i on := by
  funext v
  unfold Hd.put updB
  split
  · rename_i e
    split
    · rename_i e2; rw [e2, e]
    · rfl
  · rename_i e
    rw [Hd.flip_bit h hi]
    split
    · rename_i e2
      subst e2
      revert e
      cases h.bit v <;> cases on <;> simp
    · rfl
def hdZ : Hd := ⟨0, 0, 0, 0, 0⟩
theorem hdZ_wf : hdZ.Wf := ⟨by decide, by decide, by decide, by decide, by decide⟩
theorem hdZ_bit (v : Nat) : hdZ.bit v = false := by
  unfold Hd.bit hdZ
  simp

end Go.Proofs.Ytakgghhmecphmaa
