/- The package cidr and the document, as far as seat A has them (lines of Cid). -/
import Derived.Test.YtakgghhmecphmaaProg
import Derived.Test.YtakgghhmecphmaaHeap
import Derived.BigQuiet
import Derived.Deep.QuietTactic
import Derived.Deep.RegionLaw
import Derived.WalkSpells
import Derived.KernelRfl
import Derived.Lib.Hide
import Derived.IntWalk
import Derived.Deep.LoopGhost
namespace Go.Proofs.Ytakgghhmecphmaa
set_option linter.unusedVariables false
set_option linter.unusedSimpArgs false
open Go.RowKit

/-- The first n bits of an address. -/
def maskN (n : Nat) : Nat := (2 ^ n - 1) * 2 ^ (32 - n)
theorem maskN_bit {n i : Nat} (hn : n ≤ 32) (hi : i < 32) : (maskN n).testBit i = decide (32 - n ≤ i) := by
  unfold maskN
  rw [← Nat.shiftLeft_eq, Nat.testBit_shiftLeft, Nat.testBit_two_pow_sub_one]
  by_cases h : 32 - n ≤ i
  · simp [h]; omega
  · simp [h]
theorem maskN_lt {n : Nat} (hn : n ≤ 32) : maskN n < 2 ^ 32 := by
  unfold maskN
  have h1 : 2 ^ n * 2 ^ (32 - n) = 2 ^ 32 := by rw [← Nat.pow_add]; congr 1; omega
  have h2 : 0 < 2 ^ (32 - n) := Nat.two_pow_pos _
  have h3 : 0 < 2 ^ n := Nat.two_pow_pos _
  rw [Nat.sub_mul, h1]
  omega
theorem maskN_shl {n : Nat} (h1 : 1 ≤ n) (hn : n ≤ 32) : 4294967295 * 2 ^ (32 - n) % 4294967296 = maskN n := by
  have e1 : 2 ^ n * 2 ^ (32 - n) = 4294967296 := by rw [← Nat.pow_add, show n + (32 - n) = 32 by omega]
  have h2 : 0 < 2 ^ (32 - n) := Nat.two_pow_pos _
  have h3 : 2 ^ (32 - n) ≤ 2 ^ 31 := Nat.pow_le_pow_right (by omega) (by omega)
  unfold maskN
  rw [Nat.sub_mul, e1]
  generalize 2 ^ (32 - n) = m at *
  have : 4294967295 * m = 4294967296 * (m - 1) + (4294967296 - 1 * m) := by omega
  rw [this, Nat.mul_add_mod, Nat.mod_eq_of_lt (by omega)]

theorem of32 (z : Nat) (hz : z < 2 ^ 32) : (BitVec.ofInt IntKind.u32.bits (z : Int)).toNat = z := by
  have : (BitVec.ofInt 32 ((z : Nat) : Int)).toNat = z % 2 ^ 32 := by simp [BitVec.toNat_ofInt]
  rw [show IntKind.u32.bits = 32 from rfl, this, Nat.mod_eq_of_lt hz]
theorem in32 (z : Nat) (hz : z < 2 ^ 32) : IntKind.u32.wrap (z : Int) = z := by
  unfold IntKind.wrap
  simp only [show IntKind.u32.signed = false from rfl, Bool.false_and, Bool.false_eq_true, if_false]
  exact Int.emod_eq_of_lt (by omega) (by rw [show IntKind.u32.bits = 32 from rfl]; exact_mod_cast hz)
theorem in64 (z : Nat) (hz : z < 18446744073709551616) : IntKind.u64.wrap (z : Int) = z := by
  unfold IntKind.wrap
  simp only [show IntKind.u64.signed = false from rfl, Bool.false_and, Bool.false_eq_true, if_false]
  exact Int.emod_eq_of_lt (by omega) (by rw [show IntKind.u64.bits = 64 from rfl]; exact_mod_cast hz)
theorem and32 (x y : Nat) (hx : x < 2 ^ 32) (hy : y < 2 ^ 32) : bits .and .u32 (x : Int) (y : Int) = ((x &&& y : Nat) : Int) := by
  unfold bits
  simp only [BitVec.toNat_and]
  rw [of32 x hx, of32 y hy]
  exact in32 _ (Nat.and_lt_two_pow _ hy)
theorem xor32 (x y : Nat) (hx : x < 2 ^ 32) (hy : y < 2 ^ 32) : bits .xor .u32 (x : Int) (y : Int) = ((x ^^^ y : Nat) : Int) := by
  unfold bits
  simp only [BitVec.toNat_xor]
  rw [of32 x hx, of32 y hy]
  exact in32 _ (Nat.xor_lt_two_pow hx hy)
theorem or32 (x y : Nat) (hx : x < 2 ^ 32) (hy : y < 2 ^ 32) : bits .or .u32 (x : Int) (y : Int) = ((x ||| y : Nat) : Int) := by
  unfold bits
  simp only [BitVec.toNat_or]
  rw [of32 x hx, of32 y hy]
  exact in32 _ (Nat.or_lt_two_pow hx hy)
/-- What is behind the first n bits. -/
theorem andNot_mask (x n : Nat) (hx : x < 2 ^ 32) (hn : n ≤ 32) : bits .andNot .u32 (x : Int) (maskN n : Int) = ((x % 2 ^ (32 - n) : Nat) : Int) := by
  have hlt : x % 2 ^ (32 - n) < 2 ^ 32 := Nat.lt_of_le_of_lt (Nat.mod_le _ _) hx
  unfold bits
  simp only []
  have key : (BitVec.ofInt IntKind.u32.bits (x : Int) &&& ~~~BitVec.ofInt IntKind.u32.bits (maskN n : Int)).toNat = x % 2 ^ (32 - n) := by
    refine Nat.eq_of_testBit_eq fun i => ?_
    rw [Nat.testBit_mod_two_pow]
    by_cases hi : i < 32
    · have e1 := of32 x hx
      have e2 := of32 (maskN n) (maskN_lt hn)
      rw [BitVec.toNat_and, Nat.testBit_and, e1, BitVec.testBit_toNat, BitVec.getLsbD_not, ← BitVec.testBit_toNat, e2, maskN_bit hn hi]
      rw [show decide (i < IntKind.u32.bits) = true from decide_eq_true hi]
      by_cases h : i < 32 - n
      · simp [h, show ¬ (32 - n ≤ i) by omega]
      · simp [h, show 32 - n ≤ i by omega]
    · rw [Nat.testBit_lt_two_pow (Nat.lt_of_lt_of_le (BitVec.isLt _) (Nat.pow_le_pow_right (by omega) (by show IntKind.u32.bits ≤ i; exact Nat.le_of_not_lt hi)))]
      rw [show decide (i < 32 - n) = false from decide_eq_false (by omega)]
      rfl
  rw [key]
  exact in32 _ hlt
/-- The first n bits, the others not set. -/
theorem and_mask (x n : Nat) (hx : x < 2 ^ 32) (hn : n ≤ 32) : x &&& maskN n = x / 2 ^ (32 - n) * 2 ^ (32 - n) := by
  refine Nat.eq_of_testBit_eq fun i => ?_
  rw [Nat.testBit_and, ← Nat.shiftLeft_eq, Nat.testBit_shiftLeft, ← Nat.shiftRight_eq_div_pow, Nat.testBit_shiftRight]
  by_cases hi : i < 32
  · rw [maskN_bit hn hi]
    by_cases h : 32 - n ≤ i
    · simp [h, show 32 - n + (i - (32 - n)) = i by omega]
    · simp [h]
  · have : x.testBit i = false := Nat.testBit_lt_two_pow (Nat.lt_of_lt_of_le hx (Nat.pow_le_pow_right (by omega) (by omega)))
    rw [this]
    by_cases h : 32 - n ≤ i
    · simp [h, show 32 - n + (i - (32 - n)) = i by omega, this]
    · simp [h]
theorem xor_div (x y k : Nat) : (x ^^^ y) / 2 ^ k = 0 ↔ x / 2 ^ k = y / 2 ^ k := by
  rw [← Nat.shiftRight_eq_div_pow, ← Nat.shiftRight_eq_div_pow, ← Nat.shiftRight_eq_div_pow, Nat.shiftRight_xor_distrib]
  constructor
  · intro h
    refine Nat.eq_of_testBit_eq fun i => ?_
    have := congrArg (fun z => Nat.testBit z i) h
    simp only [Nat.testBit_xor, Nat.zero_testBit] at this
    simpa using this
  · intro h
    rw [h, Nat.xor_self]

/-- Has a prefix an address? -/
def hasN (p n a : Nat) : Bool := a / 2 ^ (32 - n) == p / 2 ^ (32 - n)
theorem has_mask (p n a : Nat) (hp : p < 2 ^ 32) (ha : a < 2 ^ 32) (hn : n ≤ 32) : ((((a ^^^ p) &&& maskN n : Nat) : Int) == 0) = hasN p n a := by
  rw [and_mask _ _ (Nat.xor_lt_two_pow ha hp) hn]
  unfold hasN
  have h2 := Nat.two_pow_pos (32 - n)
  rw [Bool.eq_iff_iff, beq_iff_eq, beq_iff_eq, ← xor_div]
  generalize (a ^^^ p) / 2 ^ (32 - n) = z
  constructor
  · intro h
    have h3 : z * 2 ^ (32 - n) = 0 := by exact_mod_cast h
    rcases Nat.mul_eq_zero.1 h3 with h4 | h4
    · exact h4
    · omega
  · rintro rfl
    simp

structure Pf where
  addr : Nat
  bits : Int
deriving DecidableEq
def Pf.val (p : Pf) : Value := .agg #[.int .u32 (p.addr : Int), .int .i64 p.bits]
/-- May a prefix be? -/
def Pf.Right (p : Pf) : Prop := 0 ≤ p.bits ∧ p.bits ≤ 32 ∧ p.addr % 2 ^ (32 - p.bits.toNat) = 0
instance (p : Pf) : Decidable p.Right := by unfold Pf.Right; infer_instance

theorem cast_shl (n : Nat) : ((4294967295 * 2 ^ (32 - n) % 4294967296 : Nat) : Int) = 4294967295 * 2 ^ (32 - n) % 4294967296 := by
  rw [Int.natCast_emod, Int.natCast_mul, Int.natCast_pow]
  rfl

set_option maxRecDepth 100000 in
theorem cmask_calls (w : World) (n : Nat) (hn : n ≤ 32) : Calls Try.prog 94 #[.int .i64 (n : Int)] w fun e w' => e = .returned (.int .u32 (maskN n : Int)) ∧ w = w' := by
  rcases Nat.eq_zero_or_pos n with h0 | h0
  · subst h0
    have t : decide (((0 : Nat) : Int) ≤ 0) = true := rfl
    go_enter Try.func94, Try.ntmps94
    go_wp2
    go_ret
    exact ⟨rfl, rfl⟩
  · have t : decide ((n : Int) ≤ 0) = false := decide_eq_false (by omega)
    have HM := Lib.hid (maskN_shl h0 hn)
    go_enter Try.func94, Try.ntmps94
    go_wp2_with (fail)
    go_ret
    exact ⟨congrArg (fun z => Ending.returned (Value.int .u32 z)) (by rw [← HM.out]; exact (cast_shl n).symm), rfl⟩

theorem cmask_q (w : World) (n : Nat) (hn : n ≤ 32) : Calls Try.prog 94 #[.int .i64 (n : Int)] w fun e w' => e = .returned (.int .u32 (maskN n : Int)) ∧ w' = w :=
  (cmask_calls w n hn).mono fun _ _ h => ⟨h.1, h.2.symm⟩

theorem mod_zero (x : Nat) : (((x : Nat) : Int) == 0) = decide (x = 0) := by
  rw [Bool.eq_iff_iff, beq_iff_eq, decide_eq_true_iff]
  omega

theorem below_box (w : World) (o : Obj) (n : Nat) : Below w.heap.size w ((w.alloc o).drewN n) := ((Kept.refl [] w).alloc o |>.drewN n).below (Nat.le_refl _) (by simp)
set_option maxRecDepth 100000 in
theorem right_in (w : World) (a n : Nat) (ha : a < 2 ^ 32) (hn : n ≤ 32) (b : Bool) (hb : decide (a % 2 ^ (32 - n) = 0) = b) : Calls Try.prog 83 #[.agg #[.int .u32 (a : Int), .int .i64 (n : Int)]] w fun e w' => e = .returned (.bool b) ∧ Below w.heap.size w w' := by
  have t1 : decide ((0 : Int) ≤ (n : Int)) = true := decide_eq_true (by omega)
  have t2 : decide ((n : Int) ≤ 32) = true := decide_eq_true (by omega)
  have t3 : (bits .andNot .u32 (a : Int) (maskN n : Int) == 0) = b := by rw [andNot_mask a n ha hn, mod_zero, hb]
  have HM := Lib.hid (fun w' => cmask_q w' n hn)
  generalize maskN n = m at *
  clear hb
  go_enter Try.func83, Try.ntmps83
  go_wp2_with (fail)
  go_quiet ((go_at_call 94; exact Calls.quiet_of_same (HM.out _)))
  go_wp2
  go_ret
  exact ⟨rfl, below_box _ _ _⟩
set_option maxRecDepth 100000 in
theorem right_out (w : World) (a : Nat) (b : Int) (hb : ¬ (0 ≤ b ∧ b ≤ 32)) : Calls Try.prog 83 #[.agg #[.int .u32 (a : Int), .int .i64 b]] w fun e w' => e = .returned (.bool false) ∧ Below w.heap.size w w' := by
  by_cases h : 0 ≤ b
  · have t1 : decide ((0 : Int) ≤ b) = true := decide_eq_true h
    have t2 : decide (b ≤ 32) = false := decide_eq_false (by omega)
    clear hb
    go_enter Try.func83, Try.ntmps83
    go_wp2_with (fail)
    go_quiet (fail)
    go_wp2
    go_ret
    exact ⟨rfl, below_box _ _ _⟩
  · have t1 : decide ((0 : Int) ≤ b) = false := decide_eq_false h
    clear hb
    go_enter Try.func83, Try.ntmps83
    go_wp2_with (fail)
    go_quiet (fail)
    go_wp2
    go_ret
    exact ⟨rfl, below_box _ _ _⟩
/-- What Right answers. -/
def rtB (p : Pf) : Bool := decide (0 ≤ p.bits) && (decide (p.bits ≤ 32) && decide (p.addr % 2 ^ (32 - p.bits.toNat) = 0))
theorem rtB_iff (p : Pf) : rtB p = true ↔ p.Right := by
  unfold rtB Pf.Right
  simp only [Bool.and_eq_true, decide_eq_true_iff]
theorem rtB_in {a n : Nat} (hn : n ≤ 32) : decide (a % 2 ^ (32 - n) = 0) = rtB ⟨a, n⟩ := by
  unfold rtB
  simp only [Int.toNat_natCast]
  rw [decide_eq_true (show 0 ≤ (n : Int) by omega), decide_eq_true (show (n : Int) ≤ 32 by omega)]
  rfl
theorem rtB_out {a : Nat} {b : Int} (hb : ¬ (0 ≤ b ∧ b ≤ 32)) : rtB ⟨a, b⟩ = false := by
  rw [Bool.eq_false_iff]
  intro h
  have := (rtB_iff _).1 h
  exact hb ⟨this.1, this.2.1⟩
theorem cright_calls (w : World) (p : Pf) (hp : p.addr < 2 ^ 32) : Calls Try.prog 83 #[p.val] w fun e w' => e = .returned (.bool (rtB p)) ∧ Below w.heap.size w w' := by
  obtain ⟨a, b⟩ := p
  by_cases h : 0 ≤ b ∧ b ≤ 32
  · obtain ⟨n, rfl⟩ := Int.eq_ofNat_of_zero_le h.1
    exact right_in w a n hp (by omega) _ (rtB_in (by omega))
  · rw [rtB_out h]
    exact right_out w a b h


/-- The document's: how many addresses. -/
theorem size_calls (w : World) (n : Nat) (hn : n ≤ 32) : Calls Try.prog 87 #[.int .i64 (n : Int)] w fun e w' => e = .returned (.int .u64 ((2 ^ (32 - n) : Nat) : Int)) ∧ w' = w := by
  go_enter Try.func87, Try.ntmps87
  go_wp2_with (fail)
  go_loopg [3, 4] (32 - n) (fun gk vs vi wr => ∃ t : Nat, t + gk = 32 - n ∧ vi = .int .i64 ((n + t : Nat) : Int) ∧ vs = .int .u64 ((2 ^ t : Nat) : Int) ∧ w = wr)
  case atStart => exact ⟨0, by omega, rfl, rfl, rfl⟩
  case round =>
    obtain ⟨t, ht, rfl, rfl, rfl⟩ := hrel
    by_cases hlt : t < 32 - n
    · have hp : 2 ^ t ≤ 2 ^ 31 := Nat.pow_le_pow_right (by omega) (by omega)
      have h31 : 2 ^ t ≤ 2147483648 := by omega
      have HS := Lib.hid (Nat.pow_succ 2 t)
      clear hp
      generalize hm : n + t = m at *
      have HM := Lib.hid hm
      clear hm
      generalize 2 ^ t = z at *
      have hm32 : m < 32 := by have := HM.out; omega
      go_wp2_with (fail)
      go_roundg (gk - 1)
      case measure => omega
      case rel =>
        refine ⟨t + 1, by omega, ?_, ?_, rfl⟩
        · rw [← Nat.add_assoc, HM.out]; go_num
        · rw [HS.out]; go_num
    · obtain rfl : t = 32 - n := by omega
      rw [show n + (32 - n) = 32 by omega]
      go_wp2_with (fail)
      go_ret
      exact ⟨rfl, rfl⟩

set_option maxRecDepth 100000 in
theorem rright_in (w : World) (a n : Nat) (ha : a < 2 ^ 32) (hn : n ≤ 32) (b : Bool) (hb : decide (a % 2 ^ (32 - n) = 0) = b) : Calls Try.prog 63 #[.agg #[.int .u32 (a : Int), .int .i64 (n : Int)]] w fun e w' => e = .returned (.bool b) ∧ Below w.heap.size w w' := by
  have t1 : decide ((0 : Int) ≤ (n : Int)) = true := decide_eq_true (by omega)
  have t2 : decide ((n : Int) ≤ 32) = true := decide_eq_true (by omega)
  have t3 : (((a : Int) % ((2 ^ (32 - n) : Nat) : Int)) == 0) = b := by rw [← hb, ← mod_zero]; rfl
  have hz : 0 < 2 ^ (32 - n) := Nat.two_pow_pos _
  have HM := Lib.hid (fun w' => size_calls w' n hn)
  generalize 2 ^ (32 - n) = m at *
  have hz1 : (0 : Int) < (m : Int) := by omega
  have hz2 : ((m : Int) == 0) = false := by rw [beq_eq_false_iff_ne]; omega
  clear hb
  go_enter Try.func63, Try.ntmps63
  go_wp2_with (fail)
  go_quiet ((go_at_call 87; exact Calls.quiet_of_same (HM.out _)))
  go_wp2
  go_ret
  exact ⟨rfl, below_box _ _ _⟩
set_option maxRecDepth 100000 in
theorem rright_out (w : World) (a : Nat) (b : Int) (hb : ¬ (0 ≤ b ∧ b ≤ 32)) : Calls Try.prog 63 #[.agg #[.int .u32 (a : Int), .int .i64 b]] w fun e w' => e = .returned (.bool false) ∧ Below w.heap.size w w' := by
  by_cases h : 0 ≤ b
  · have t1 : decide ((0 : Int) ≤ b) = true := decide_eq_true h
    have t2 : decide (b ≤ 32) = false := decide_eq_false (by omega)
    clear hb
    go_enter Try.func63, Try.ntmps63
    go_wp2_with (fail)
    go_quiet (fail)
    go_wp2
    go_ret
    exact ⟨rfl, below_box _ _ _⟩
  · have t1 : decide ((0 : Int) ≤ b) = false := decide_eq_false h
    clear hb
    go_enter Try.func63, Try.ntmps63
    go_wp2_with (fail)
    go_quiet (fail)
    go_wp2
    go_ret
    exact ⟨rfl, below_box _ _ _⟩
theorem rright_calls (w : World) (p : Pf) (hp : p.addr < 2 ^ 32) : Calls Try.prog 63 #[p.val] w fun e w' => e = .returned (.bool (rtB p)) ∧ Below w.heap.size w w' := by
  obtain ⟨a, b⟩ := p
  by_cases h : 0 ≤ b ∧ b ≤ 32
  · obtain ⟨n, rfl⟩ := Int.eq_ofNat_of_zero_le h.1
    exact rright_in w a n hp (by omega) _ (rtB_in (by omega))
  · rw [rtB_out h]
    exact rright_out w a b h

set_option maxRecDepth 100000 in
theorem rhas_calls (w : World) (p n a : Nat) (hp : p < 2 ^ 32) (ha : a < 2 ^ 32) (hn : n ≤ 32) : Calls Try.prog 73 #[.agg #[.int .u32 (p : Int), .int .i64 (n : Int)], .int .u32 (a : Int)] w fun e w' => e = .returned (.bool (hasN p n a)) ∧ Below w.heap.size w w' := by
  have t3 : (((a / 2 ^ (32 - n) : Nat) : Int) == ((p / 2 ^ (32 - n) : Nat) : Int)) = hasN p n a := by
    unfold hasN
    rw [Bool.eq_iff_iff, beq_iff_eq, beq_iff_eq]
    omega
  have hz : 0 < 2 ^ (32 - n) := Nat.two_pow_pos _
  have HM := Lib.hid (fun w' => size_calls w' n hn)
  generalize hasN p n a = b at *
  generalize 2 ^ (32 - n) = m at *
  have hz1 : (0 : Int) < (m : Int) := by omega
  have hz2 : ((m : Int) == 0) = false := by rw [beq_eq_false_iff_ne]; omega
  have e1 := in64 a (by omega)
  have e2 := in64 p (by omega)
  have e5 : IntKind.u64.wrap ((a : Int) / (m : Int)) = (a : Int) / (m : Int) := in64 (a / m) (by have := Nat.div_le_self a m; omega)
  have e6 : IntKind.u64.wrap ((p : Int) / (m : Int)) = (p : Int) / (m : Int) := in64 (p / m) (by have := Nat.div_le_self p m; omega)
  have t4 : ((a : Int) / (m : Int) == (p : Int) / (m : Int)) = b := t3
  clear t3
  go_enter Try.func73, Try.ntmps73
  go_wp2_with (fail)
  go_quiet ((go_at_call 87; exact Calls.quiet_of_same (HM.out _)))
  go_wp2
  go_ret
  exact ⟨rfl, below_box _ _ _⟩
end Go.Proofs.Ytakgghhmecphmaa
