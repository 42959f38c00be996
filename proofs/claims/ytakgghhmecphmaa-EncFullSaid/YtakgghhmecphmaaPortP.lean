/- A port of a header as a number; a field's literals as its number's first bits. Plainly. -/
import Derived.Test.YtakgghhmecphmaaMakP
import Derived.Test.YtakgghhmecphmaaBack
namespace Go.Proofs.Ytakgghhmecphmaa
set_option linter.unusedVariables false
set_option linter.unusedSimpArgs false

/-- The number that some bits are. -/
def fieldN (b : Nat → Bool) (s k : Nat) : Nat := numB ((List.range k).map fun i => b (s + i))
theorem fieldN_lt (b : Nat → Bool) (s k : Nat) : fieldN b s k < 2 ^ k := by
  have := numB_lt ((List.range k).map fun i => b (s + i))
  simpa [fieldN] using this
theorem fieldN_bit (b : Nat → Bool) (s k : Nat) {i : Nat} (hi : i < k) : (fieldN b s k).testBit (k - 1 - i) = b (s + i) := by
  have := numB_at ((List.range k).map fun i => b (s + i)) i (by simpa using hi)
  rw [List.length_map, List.length_range] at this
  unfold fieldN
  rw [this, List.getD_eq_getElem?_getD, List.getElem?_map, List.getElem?_range hi]
  rfl
theorem agree_lit (b : Nat → Bool) (s q k n : Nat) (hn : n ≤ k) (hq : q < 2 ^ k) : agree b (litL s q k n) = decide (fieldN b s k / 2 ^ (k - n) = q / 2 ^ (k - n)) := by
  have hlt := fieldN_lt b s k
  have hbit := fun i (hi : i < k) => fieldN_bit b s k hi
  rw [Bool.eq_iff_iff, decide_eq_true_iff]
  unfold agree litL
  rw [List.all_map, List.all_eq_true]
  constructor
  · intro h
    refine Nat.eq_of_testBit_eq fun t => ?_
    rw [Nat.testBit_div_two_pow, Nat.testBit_div_two_pow]
    by_cases ht : t + (k - n) < k
    · have h1 := h (k - 1 - (t + (k - n))) (List.mem_range.2 (by omega))
      have h2 := hbit (k - 1 - (t + (k - n))) (by omega)
      simp only [Function.comp, beq_iff_eq] at h1
      rw [show k - 1 - (k - 1 - (t + (k - n))) = t + (k - n) by omega] at h1 h2
      rw [h2, h1]
    · have hp : 2 ^ k ≤ 2 ^ (t + (k - n)) := Nat.pow_le_pow_right (by omega) (by omega)
      rw [Nat.testBit_lt_two_pow (by omega), Nat.testBit_lt_two_pow (by omega)]
  · intro h i hi
    have hi := List.mem_range.1 hi
    have h1 := congrArg (fun z => z.testBit (n - 1 - i)) h
    simp only [Nat.testBit_div_two_pow] at h1
    have h2 := hbit i (by omega)
    rw [show n - 1 - i + (k - n) = k - 1 - i by omega, h2] at h1
    simp only [Function.comp, beq_iff_eq]
    exact h1
theorem agree_blk (b : Nat → Bool) (s : Nat) (c : Nat × Nat) (hn : c.2 ≤ 16) (hq : c.1 < 65536) : agree b (litL s c.1 16 c.2) = inBlk c (fieldN b s 16) := by
  rw [agree_lit b s c.1 16 c.2 hn (by simpa using hq)]
  rfl
end Go.Proofs.Ytakgghhmecphmaa
