/- Counts of two words: the walks of wide. -/
import Derived.Test.YtakgghhmecphmaaArena
import Derived.Shelf.Spec.BitsCarry
namespace Go.Proofs.Ytakgghhmecphmaa
set_option linter.unusedVariables false
set_option linter.unusedSimpArgs false
open Go.RowKit

/-- A count below 2^128. -/
def cval (n : Nat) : Value := .agg #[.int .u64 ((n / 18446744073709551616 : Nat) : Int), .int .u64 ((n % 18446744073709551616 : Nat) : Int)]

theorem add64 (x y c : Int) (hx : 0 ≤ x) (hy : 0 ≤ y) (hc0 : 0 ≤ c) (hc : c ≤ 1) (w : World) : (callFunc 77 #[.int .u64 x, .int .u64 y, .int .u64 c]).run Try.prog w =
    .ok (.value (.tuple #[.int .u64 ((x + y + c) % 18446744073709551616), .int .u64 ((x + y + c) / 18446744073709551616)])) w := by
  obtain ⟨x, rfl⟩ := Int.eq_ofNat_of_zero_le hx
  obtain ⟨y, rfl⟩ := Int.eq_ofNat_of_zero_le hy
  obtain ⟨c, rfl⟩ := Int.eq_ofNat_of_zero_le hc0
  rw [run_callFunc_extern Try.func77 (by kernel_rfl) (by kernel_rfl) (by kernel_rfl) (e := add64Entry) (by kernel_rfl), run_add64 x y c (by omega) (by omega) (by omega) (by omega)]
  rfl
theorem add64_0 (x y : Int) (hx : 0 ≤ x) (hy : 0 ≤ y) (w : World) : (callFunc 77 #[.int .u64 x, .int .u64 y, .int .u64 0]).run Try.prog w =
    .ok (.value (.tuple #[.int .u64 ((x + y) % 18446744073709551616), .int .u64 ((x + y) / 18446744073709551616)])) w := by
  simpa using add64 x y 0 hx hy (Int.le_refl 0) (by decide) w

set_option maxRecDepth 100000 in
theorem of_calls (w : World) (n : Nat) (hn : n < 18446744073709551616) : Calls Try.prog 51 #[.int .u64 (n : Int)] w fun e w' => e = .returned (cval n) ∧ Below w.heap.size w w' := by
  have e : cval n = .agg #[.int .u64 0, .int .u64 (n : Int)] := by
    unfold cval
    rw [Nat.div_eq_of_lt hn, Nat.mod_eq_of_lt hn]
    rfl
  rw [e]
  go_enter Try.func51, Try.ntmps51
  go_wp2
  simp [bodyPost, results, Try.results51, go_sem]
  exact (Below.refl _ _).alloc (Nat.le_refl _) _

set_option maxRecDepth 100000 in
theorem cadd_calls (w : World) (n m : Nat) (hnm : n + m < 2 ^ 128) : Calls Try.prog 48 #[cval n, cval m] w fun e w' => e = .returned (cval (n + m)) ∧ Below w.heap.size w w' := by
  have k0 : 0 ≤ ((n % 18446744073709551616 : Nat) : Int) := by omega
  have k1 : 0 ≤ ((m % 18446744073709551616 : Nat) : Int) := by omega
  have k2 : 0 ≤ ((n / 18446744073709551616 : Nat) : Int) := by omega
  have k3 : 0 ≤ ((m / 18446744073709551616 : Nat) : Int) := by omega
  have e : cval (n + m) = .agg #[.int .u64 ((((n / 18446744073709551616 : Nat) : Int) + ((m / 18446744073709551616 : Nat) : Int) + (((n % 18446744073709551616 : Nat) : Int) + ((m % 18446744073709551616 : Nat) : Int)) / 18446744073709551616) % 18446744073709551616), .int .u64 ((((n % 18446744073709551616 : Nat) : Int) + ((m % 18446744073709551616 : Nat) : Int)) % 18446744073709551616)] := by
    unfold cval
    congr 3 <;> (simp; try omega)
  rw [e]
  have q0 : 0 ≤ (((n % 18446744073709551616 : Nat) : Int) + ((m % 18446744073709551616 : Nat) : Int)) / 18446744073709551616 := by omega
  have q1 : (((n % 18446744073709551616 : Nat) : Int) + ((m % 18446744073709551616 : Nat) : Int)) / 18446744073709551616 ≤ 1 := by omega
  clear e
  unfold cval
  generalize ((n % 18446744073709551616 : Nat) : Int) = a at *
  generalize ((m % 18446744073709551616 : Nat) : Int) = b at *
  generalize ((n / 18446744073709551616 : Nat) : Int) = c at *
  generalize ((m / 18446744073709551616 : Nat) : Int) = d at *
  go_enter Try.func48, Try.ntmps48
  go_wp2_with (first | simp only [add64_0 a b k0 k1] | simp only [add64 c d _ k2 k3 q0 q1])
  simp [bodyPost, results, Try.results48, go_sem]
  exact (((Below.refl _ _).alloc (Nat.le_refl _) _).alloc (by simp) _).alloc (by simp; omega) _

set_option maxRecDepth 100000 in
theorem zero_calls (w : World) (n : Nat) (hn : n < 2 ^ 128) : Calls Try.prog 47 #[cval n] w fun e w' => e = .returned (.bool (decide (n = 0))) ∧ Below w.heap.size w w' := by
  unfold cval
  go_enter Try.func47, Try.ntmps47
  go_wp2
  · go_ret
    refine ⟨?_, (Below.refl _ _).alloc (Nat.le_refl _) _⟩
    rw [decide_eq_true (by omega)]
    rfl
  · go_ret
    refine ⟨?_, (Below.refl _ _).alloc (Nat.le_refl _) _⟩
    rw [decide_eq_false (by omega)]
    rfl
  · go_ret
    refine ⟨?_, (Below.refl _ _).alloc (Nat.le_refl _) _⟩
    rw [decide_eq_false (by omega)]
    rfl

theorem or64 (x y : Nat) (hx : x < 2 ^ 64) (hy : y < 2 ^ 64) : bits .or .u64 (x : Int) (y : Int) = ((x ||| y : Nat) : Int) := by
  unfold bits
  simp only [BitVec.toNat_or]
  have e : ∀ z : Nat, z < 2 ^ 64 → (BitVec.ofInt IntKind.u64.bits (z : Int)).toNat = z := fun z hz => by
    have : (BitVec.ofInt 64 ((z : Nat) : Int)).toNat = z % 2 ^ 64 := by simp [BitVec.toNat_ofInt]
    rw [show IntKind.u64.bits = 64 from rfl, this, Nat.mod_eq_of_lt hz]
  rw [e x hx, e y hy]
  have := Nat.or_lt_two_pow hx hy
  show IntKind.u64.wrap ((x ||| y : Nat) : Int) = _
  unfold IntKind.wrap
  simp only [show IntKind.u64.signed = false from rfl, Bool.false_and, Bool.false_eq_true, if_false]
  exact Int.emod_eq_of_lt (by omega) (by rw [show IntKind.u64.bits = 64 from rfl]; exact_mod_cast this)
theorem wrap64 (z : Nat) : IntKind.u64.wrap (z : Int) = ((z % 18446744073709551616 : Nat) : Int) := by
  unfold IntKind.wrap
  simp only [show IntKind.u64.signed = false from rfl, Bool.false_and, Bool.false_eq_true, if_false]
  rw [show IntKind.u64.bits = 64 from rfl]
  norm_cast
theorem up_plain {n k : Nat} (hnk : n * 2 ^ k < 2 ^ 128) (h : k < 64) : n / 18446744073709551616 * 2 ^ k < 2 ^ 64 ∧ n % 18446744073709551616 / 2 ^ (64 - k) < 2 ^ 64 ∧
    (n / 18446744073709551616 * 2 ^ k ||| n % 18446744073709551616 / 2 ^ (64 - k)) = n * 2 ^ k / 18446744073709551616 ∧ n % 18446744073709551616 * 2 ^ k % 18446744073709551616 = n * 2 ^ k % 18446744073709551616 := by
  have hM : (18446744073709551616 : Nat) = 2 ^ k * 2 ^ (64 - k) := by rw [← Nat.pow_add, show k + (64 - k) = 64 by omega]
  have hp : 0 < 2 ^ k := Nat.two_pow_pos k
  have hq : 0 < 2 ^ (64 - k) := Nat.two_pow_pos _
  have h1 := Nat.div_add_mod n 18446744073709551616
  have hlt := Nat.mod_lt n (show 18446744073709551616 > 0 by omega)
  generalize n / 18446744073709551616 = a at *
  generalize n % 18446744073709551616 = b at *
  subst h1
  have e1 : (18446744073709551616 * a + b) * 2 ^ k = 18446744073709551616 * (a * 2 ^ k) + b * 2 ^ k := by rw [Nat.add_mul, Nat.mul_assoc]
  have e2 : b * 2 ^ k / 18446744073709551616 = b / 2 ^ (64 - k) := by
    rw [hM, Nat.mul_comm b, Nat.mul_div_mul_left _ _ hp]
  have hb : b / 2 ^ (64 - k) < 2 ^ k := by
    rw [Nat.div_lt_iff_lt_mul hq, ← hM]
    exact hlt
  have ha : a * 2 ^ k < 2 ^ 64 := by
    rw [e1] at hnk
    have : (2 : Nat) ^ 128 = 18446744073709551616 * 2 ^ 64 := by decide
    rw [this] at hnk
    refine Nat.lt_of_mul_lt_mul_left (a := 18446744073709551616) ?_
    omega
  have hk : 2 ^ k ≤ 2 ^ 64 := Nat.pow_le_pow_right (by omega) (by omega)
  refine ⟨ha, by omega, ?_, ?_⟩
  · rw [e1, Nat.mul_add_div (by omega), e2, Nat.mul_comm a, Nat.two_pow_add_eq_or_of_lt hb]
  · rw [e1, Nat.mul_add_mod]

set_option maxRecDepth 100000 in
theorem up_calls (w : World) (n k : Nat) (hnk : n * 2 ^ k < 2 ^ 128) (hk : k < 128) : Calls Try.prog 58 #[cval n, .int .i64 (k : Int)] w fun e w' => e = .returned (cval (n * 2 ^ k)) ∧ Below w.heap.size w w' := by
  unfold cval
  rcases Nat.lt_or_ge k 64 with h | h
  · rcases Nat.eq_zero_or_pos k with h0 | h0
    · subst h0
      have t1 : decide (((0 : Nat) : Int) = 0) = true := rfl
      go_enter Try.func58, Try.ntmps58
      go_wp2
      simp [bodyPost, results, Try.results58, go_sem]
      exact ((Below.refl _ _).alloc (Nat.le_refl _) _).alloc (by simp) _
    · obtain ⟨u1, u2, u3, u4⟩ := up_plain hnk h
      have hw : IntKind.i64.wrap (64 - (k : Int)) = ((64 - k : Nat) : Int) := by
        rw [IntKind.wrap_i64]
        omega
      have f1 : bits .or .u64 (IntKind.u64.wrap ((n : Int) / 18446744073709551616 * 2 ^ k)) ((n : Int) % 18446744073709551616 / 2 ^ (64 - k)) = ((n * 2 ^ k / 18446744073709551616 : Nat) : Int) := by
        have a1 : ((n : Int) / 18446744073709551616 * 2 ^ k) = ((n / 18446744073709551616 * 2 ^ k : Nat) : Int) := by rw [Int.natCast_mul, Int.natCast_ediv, Int.natCast_pow]; rfl
        have a2 : ((n : Int) % 18446744073709551616 / 2 ^ (64 - k)) = ((n % 18446744073709551616 / 2 ^ (64 - k) : Nat) : Int) := by rw [Int.natCast_ediv, Int.natCast_emod, Int.natCast_pow]; rfl
        rw [a1, a2, wrap64, Nat.mod_eq_of_lt u1, or64 _ _ u1 u2, u3]
      have f2 : IntKind.u64.wrap ((n : Int) % 18446744073709551616 * 2 ^ k) = ((n * 2 ^ k % 18446744073709551616 : Nat) : Int) := by
        have a1 : ((n : Int) % 18446744073709551616 * 2 ^ k) = ((n % 18446744073709551616 * 2 ^ k : Nat) : Int) := by rw [Int.natCast_mul, Int.natCast_emod, Int.natCast_pow]; rfl
        rw [a1, wrap64, u4]
      go_enter Try.func58, Try.ntmps58
      go_wp2
      refine wp_still_tail 15 (by kernel_rfl) (by kernel_rfl) ?_
      simp only [List.take_succ_cons, List.take_zero, List.drop_succ_cons, List.drop_zero]
      repeat still_step
      refine wpStill_nil ?_
      go_wp2
      simp [bodyPost, results, Try.results58, go_sem]
      exact (((Below.refl _ _).alloc (Nat.le_refl _) _).alloc (by simp) _).drew
  · have hlo : n / 18446744073709551616 = 0 := by
      rcases Nat.eq_zero_or_pos (n / 18446744073709551616) with h0 | h0
      · exact h0
      · have h1 := Nat.div_mul_le_self n 18446744073709551616
        have hk : (2 : Nat) ^ 64 ≤ 2 ^ k := Nat.pow_le_pow_right (by omega) h
        have h2 : 18446744073709551616 * 2 ^ 64 ≤ n * 2 ^ k := Nat.mul_le_mul (by omega) hk
        have h3 : (2 : Nat) ^ 128 = 18446744073709551616 * 2 ^ 64 := by decide
        omega
    have hn : n < 18446744073709551616 := by omega
    have hp : 2 ^ k = 18446744073709551616 * 2 ^ (k - 64) := by
      rw [show (18446744073709551616 : Nat) = 2 ^ 64 from rfl, ← Nat.pow_add, show 64 + (k - 64) = k by omega]
    have h4 : n * 2 ^ k = 18446744073709551616 * (n * 2 ^ (k - 64)) := by rw [hp]; ac_rfl
    have h5 : n * 2 ^ (k - 64) < 18446744073709551616 := by
      refine Nat.lt_of_mul_lt_mul_left (a := 18446744073709551616) ?_
      rw [← h4]
      exact hnk
    have f2 : IntKind.u64.wrap ((n : Int) % 18446744073709551616 * 2 ^ (k - 64)) = ((n * 2 ^ k / 18446744073709551616 : Nat) : Int) := by
      have a1 : ((n : Int) % 18446744073709551616 * 2 ^ (k - 64)) = ((n % 18446744073709551616 * 2 ^ (k - 64) : Nat) : Int) := by rw [Int.natCast_mul, Int.natCast_emod, Int.natCast_pow]; rfl
      rw [a1, wrap64, h4, Nat.mul_div_cancel_left _ (by omega), Nat.mod_eq_of_lt hn, Nat.mod_eq_of_lt h5]
    have f3 : ((n * 2 ^ k % 18446744073709551616 : Nat) : Int) = 0 := by rw [h4, Nat.mul_mod_right]; rfl
    rw [f3]
    clear hp h4 h5 hlo
    go_enter Try.func58, Try.ntmps58
    go_wp2
    simp [bodyPost, results, Try.results58, go_sem]
    exact ((Below.refl _ _).alloc (Nat.le_refl _) _).alloc (by simp) _

end Go.Proofs.Ytakgghhmecphmaa
