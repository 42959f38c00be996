/- Ranges of ports as blocks, and bits of a number as literals: plainly. -/
import Derived.Test.YtakgghhmecphmaaHeldP
namespace Go.Proofs.Ytakgghhmecphmaa
set_option linter.unusedVariables false
set_option linter.unusedSimpArgs false

/-- The first bits of a number, from a header's bit on. -/
def litL (first n long k : Nat) : List (Nat × Bool) := (List.range k).map fun i => (first + i, n.testBit (long - 1 - i))
theorem litL_succ (first n long k : Nat) : litL first n long (k + 1) = litL first n long k ++ [(first + k, n.testBit (long - 1 - k))] := by simp [litL, List.range_succ]
theorem litL_length (first n long k : Nat) : (litL first n long k).length = k := by simp [litL]
theorem litL_rise (first n long : Nat) {k : Nat} (hk : first + k ≤ 104) : Rise (litL first n long k) := by
  refine ⟨fun x hx => ?_, ?_⟩
  rotate_left
  · unfold litL
    rw [List.pairwise_map]
    exact (List.pairwise_lt_range).imp (fun h => by simp only; omega)
  · obtain ⟨i, hi, rfl⟩ := List.mem_map.1 hx
    have := List.mem_range.1 hi
    simp only
    omega

/-- Blocks one behind the other, each on a border of its own size. -/
def Chain : Nat → List (Nat × Nat) → Nat → Prop
  | a, [], m => a = m
  | a, (q, n) :: r, m => q = a ∧ n ≤ 16 ∧ a % 2 ^ (16 - n) = 0 ∧ Chain (a + 2 ^ (16 - n)) r m
theorem Chain.le : ∀ {bs : List (Nat × Nat)} {a m : Nat}, Chain a bs m → a + bs.length ≤ m
  | [], a, m, h => by
    have : a = m := h
    simp [this]
  | (q, n) :: r, a, m, h => by
    have := Chain.le h.2.2.2
    have := Nat.two_pow_pos (16 - n)
    rw [List.length_cons]
    omega
theorem Chain.snoc : ∀ {bs : List (Nat × Nat)} {a m n : Nat}, Chain a bs m → n ≤ 16 → m % 2 ^ (16 - n) = 0 → Chain a (bs ++ [(m, n)]) (m + 2 ^ (16 - n))
  | [], a, m, n, h, hn, hm => by
    have e : a = m := h
    subst e
    exact ⟨rfl, hn, hm, rfl⟩
  | (q, k) :: r, a, m, n, h, hn, hm => ⟨h.1, h.2.1, h.2.2.1, Chain.snoc h.2.2.2 hn hm⟩
/-- What is in a block, and what in all of them. -/
def inBlk (b : Nat × Nat) (p : Nat) : Bool := decide (p / 2 ^ (16 - b.2) = b.1 / 2 ^ (16 - b.2))
theorem blk_iff {a s p : Nat} (hs : 0 < s) (ha : a % s = 0) : p / s = a / s ↔ a ≤ p ∧ p < a + s := by
  obtain ⟨q, rfl⟩ := Nat.dvd_of_mod_eq_zero ha
  rw [Nat.mul_div_cancel_left q hs]
  constructor
  · intro h
    have h1 := Nat.div_add_mod p s
    have h2 := Nat.mod_lt p hs
    rw [h] at h1
    omega
  · rintro ⟨h1, h2⟩
    refine Nat.div_eq_of_lt_le ?_ ?_
    · rw [Nat.mul_comm]; exact h1
    · rw [Nat.add_mul, Nat.one_mul, Nat.mul_comm]
      omega
theorem Chain.any : ∀ {bs : List (Nat × Nat)} {a m : Nat}, Chain a bs m → ∀ p, bs.any (fun b => inBlk b p) = decide (a ≤ p ∧ p < m)
  | [], a, m, h, p => by
    have e : a = m := h
    subst e
    rw [List.any_nil, decide_eq_false (by omega)]
  | (q, n) :: r, a, m, h, p => by
    obtain ⟨rfl, h2, h3, h4⟩ := h
    have hp := Nat.two_pow_pos (16 - n)
    have hle := h4.le
    rw [List.any_cons, Chain.any h4 p]
    unfold inBlk
    simp only
    rw [Bool.eq_iff_iff, Bool.or_eq_true, decide_eq_true_iff, decide_eq_true_iff, decide_eq_true_iff, blk_iff hp h3]
    omega
def blCells (bs : List (Nat × Nat)) : List Value := bs.flatMap fun b => [.int .u16 (b.1 : Int), .int .i64 (b.2 : Int)]
theorem blCells_snoc (bs : List (Nat × Nat)) (q n : Nat) : blCells (bs ++ [(q, n)]) = blCells bs ++ [.int .u16 (q : Int), .int .i64 (n : Int)] := by simp [blCells]
end Go.Proofs.Ytakgghhmecphmaa
