/- Prefixes: masks in plain numbers; the walks of cidr's and the document's functions on them. -/
import Derived.Test.YtjoblahedgpgbaaGreatProg
import Derived.Test.YtjoblahedgpgbaaGreatHeap
import Derived.BigQuiet
import Derived.Deep.QuietTactic
import Derived.Deep.RegionLaw
import Derived.WalkSpells
import Derived.KernelRfl
import Derived.Lib.Hide
import Derived.IntWalk
import Derived.Deep.LoopGhost
namespace Go.Proofs.YtjoblahedgpgbaaGreat
set_option linter.unusedVariables false
set_option linter.unusedSimpArgs false
open Go.RowKit

/-- The first n bits of an address. -/
def maskN (n : Nat) : Nat := (2 ^ n - 1) * 2 ^ (32 - n)
theorem maskN_bit {n i : Nat} (hn : n ≤ 32) (hi : i < 32) : (maskN n).testBit i = decide (32 - n ≤ i) := by
  unfold maskN
  rw [← Nat.shiftLeft_eq, Nat.testBit_shiftLeft, Nat.testBit_two_pow_sub_one]
  by_cases h : 32 - n ≤ i
  · simp [h]; omega
  · simp [h]
theorem maskN_lt {n : Nat} (hn : n ≤ 32) : maskN n < 2 ^ 32 := by
  unfold maskN
  have h1 : 2 ^ n * 2 ^ (32 - n) = 2 ^ 32 := by rw [← Nat.pow_add]; congr 1; omega
  have h2 : 0 < 2 ^ (32 - n) := Nat.two_pow_pos _
  have h3 : 0 < 2 ^ n := Nat.two_pow_pos _
  rw [Nat.sub_mul, h1]
  omega
theorem maskN_shl {n : Nat} (h1 : 1 ≤ n) (hn : n ≤ 32) : 4294967295 * 2 ^ (32 - n) % 4294967296 = maskN n := by
  have e1 : 2 ^ n * 2 ^ (32 - n) = 4294967296 := by rw [← Nat.pow_add, show n + (32 - n) = 32 by omega]
  have h2 : 0 < 2 ^ (32 - n) := Nat.two_pow_pos _
  have h3 : 2 ^ (32 - n) ≤ 2 ^ 31 := Nat.pow_le_pow_right (by omega) (by omega)
  unfold maskN
  rw [Nat.sub_mul, e1]
  generalize 2 ^ (32 - n) = m at *
  have : 4294967295 * m = 4294967296 * (m - 1) + (4294967296 - 1 * m) := by omega
  rw [this, Nat.mul_add_mod, Nat.mod_eq_of_lt (by omega)]

theorem of32 (z : Nat) (hz : z < 2 ^ 32) : (BitVec.ofInt IntKind.u32.bits (z : Int)).toNat = z := by
  have : (BitVec.ofInt 32 ((z : Nat) : Int)).toNat = z % 2 ^ 32 := by simp [BitVec.toNat_ofInt]
  rw [show IntKind.u32.bits = 32 from rfl, this, Nat.mod_eq_of_lt hz]
theorem in32 (z : Nat) (hz : z < 2 ^ 32) : IntKind.u32.wrap (z : Int) = z := by
  unfold IntKind.wrap
  simp only [show IntKind.u32.signed = false from rfl, Bool.false_and, Bool.false_eq_true, if_false]
  exact Int.emod_eq_of_lt (by omega) (by rw [show IntKind.u32.bits = 32 from rfl]; exact_mod_cast hz)
theorem in64 (z : Nat) (hz : z < 18446744073709551616) : IntKind.u64.wrap (z : Int) = z := by
  unfold IntKind.wrap
  simp only [show IntKind.u64.signed = false from rfl, Bool.false_and, Bool.false_eq_true, if_false]
  exact Int.emod_eq_of_lt (by omega) (by rw [show IntKind.u64.bits = 64 from rfl]; exact_mod_cast hz)
theorem and32 (x y : Nat) (hx : x < 2 ^ 32) (hy : y < 2 ^ 32) : bits .and .u32 (x : Int) (y : Int) = ((x &&& y : Nat) : Int) := by
  unfold bits
  simp only [BitVec.toNat_and]
  rw [of32 x hx, of32 y hy]
  exact in32 _ (Nat.and_lt_two_pow _ hy)
theorem xor32 (x y : Nat) (hx : x < 2 ^ 32) (hy : y < 2 ^ 32) : bits .xor .u32 (x : Int) (y : Int) = ((x ^^^ y : Nat) : Int) := by
  unfold bits
  simp only [BitVec.toNat_xor]
  rw [of32 x hx, of32 y hy]
  exact in32 _ (Nat.xor_lt_two_pow hx hy)
theorem or32 (x y : Nat) (hx : x < 2 ^ 32) (hy : y < 2 ^ 32) : bits .or .u32 (x : Int) (y : Int) = ((x ||| y : Nat) : Int) := by
  unfold bits
  simp only [BitVec.toNat_or]
  rw [of32 x hx, of32 y hy]
  exact in32 _ (Nat.or_lt_two_pow hx hy)
/-- What is behind the first n bits. -/
theorem andNot_mask (x n : Nat) (hx : x < 2 ^ 32) (hn : n ≤ 32) : bits .andNot .u32 (x : Int) (maskN n : Int) = ((x % 2 ^ (32 - n) : Nat) : Int) := by
  have hlt : x % 2 ^ (32 - n) < 2 ^ 32 := Nat.lt_of_le_of_lt (Nat.mod_le _ _) hx
  unfold bits
  simp only []
  have key : (BitVec.ofInt IntKind.u32.bits (x : Int) &&& ~~~BitVec.ofInt IntKind.u32.bits (maskN n : Int)).toNat = x % 2 ^ (32 - n) := by
    refine Nat.eq_of_testBit_eq fun i => ?_
    rw [Nat.testBit_mod_two_pow]
    by_cases hi : i < 32
    · have e1 := of32 x hx
      have e2 := of32 (maskN n) (maskN_lt hn)
      rw [BitVec.toNat_and, Nat.testBit_and, e1, BitVec.testBit_toNat, BitVec.getLsbD_not, ← BitVec.testBit_toNat, e2, maskN_bit hn hi]
      rw [show decide (i < IntKind.u32.bits) = true from decide_eq_true hi]
      by_cases h : i < 32 - n
      · simp [h, show ¬ (32 - n ≤ i) by omega]
      · simp [h, show 32 - n ≤ i by omega]
    · rw [Nat.testBit_lt_two_pow (Nat.lt_of_lt_of_le (BitVec.isLt _) (Nat.pow_le_pow_right (by omega) (by show IntKind.u32.bits ≤ i; exact Nat.le_of_not_lt hi)))]
      rw [show decide (i < 32 - n) = false from decide_eq_false (by omega)]
      rfl
  rw [key]
  exact in32 _ hlt
/-- The first n bits, the others not set. -/
theorem and_mask (x n : Nat) (hx : x < 2 ^ 32) (hn : n ≤ 32) : x &&& maskN n = x / 2 ^ (32 - n) * 2 ^ (32 - n) := by
  refine Nat.eq_of_testBit_eq fun i => ?_
  rw [Nat.testBit_and, ← Nat.shiftLeft_eq, Nat.testBit_shiftLeft, ← Nat.shiftRight_eq_div_pow, Nat.testBit_shiftRight]
  by_cases hi : i < 32
  · rw [maskN_bit hn hi]
    by_cases h : 32 - n ≤ i
    · simp [h, show 32 - n + (i - (32 - n)) = i by omega]
    · simp [h]
  · have : x.testBit i = false := Nat.testBit_lt_two_pow (Nat.lt_of_lt_of_le hx (Nat.pow_le_pow_right (by omega) (by omega)))
    rw [this]
    by_cases h : 32 - n ≤ i
    · simp [h, show 32 - n + (i - (32 - n)) = i by omega, this]
    · simp [h]
theorem xor_div (x y k : Nat) : (x ^^^ y) / 2 ^ k = 0 ↔ x / 2 ^ k = y / 2 ^ k := by
  rw [← Nat.shiftRight_eq_div_pow, ← Nat.shiftRight_eq_div_pow, ← Nat.shiftRight_eq_div_pow, Nat.shiftRight_xor_distrib]
  constructor
  · intro h
    refine Nat.eq_of_testBit_eq fun i => ?_
    have := congrArg (fun z => Nat.testBit z i) h
    simp only [Nat.testBit_xor, Nat.zero_testBit] at this
    simpa using this
  · intro h
    rw [h, Nat.xor_self]

/-- Has a prefix an address? -/
def hasN (p n a : Nat) : Bool := a / 2 ^ (32 - n) == p / 2 ^ (32 - n)
theorem has_mask (p n a : Nat) (hp : p < 2 ^ 32) (ha : a < 2 ^ 32) (hn : n ≤ 32) : ((((a ^^^ p) &&& maskN n : Nat) : Int) == 0) = hasN p n a := by
  rw [and_mask _ _ (Nat.xor_lt_two_pow ha hp) hn]
  unfold hasN
  have h2 := Nat.two_pow_pos (32 - n)
  rw [Bool.eq_iff_iff, beq_iff_eq, beq_iff_eq, ← xor_div]
  generalize (a ^^^ p) / 2 ^ (32 - n) = z
  constructor
  · intro h
    have h3 : z * 2 ^ (32 - n) = 0 := by exact_mod_cast h
    rcases Nat.mul_eq_zero.1 h3 with h4 | h4
    · exact h4
    · omega
  · rintro rfl
    simp

structure Pf where
  addr : Nat
  bits : Int
deriving DecidableEq
def Pf.val (p : Pf) : Value := .agg #[.int .u32 (p.addr : Int), .int .i64 p.bits]
/-- May a prefix be? -/
def Pf.Right (p : Pf) : Prop := 0 ≤ p.bits ∧ p.bits ≤ 32 ∧ p.addr % 2 ^ (32 - p.bits.toNat) = 0
instance (p : Pf) : Decidable p.Right := by unfold Pf.Right; infer_instance

theorem cast_shl (n : Nat) : ((4294967295 * 2 ^ (32 - n) % 4294967296 : Nat) : Int) = 4294967295 * 2 ^ (32 - n) % 4294967296 := by
  rw [Int.natCast_emod, Int.natCast_mul, Int.natCast_pow]
  rfl

set_option maxRecDepth 100000 in
theorem cmask_calls (w : World) (n : Nat) (hn : n ≤ 32) : Calls Tryz.prog 212 #[.int .i64 (n : Int)] w fun e w' => e = .returned (.int .u32 (maskN n : Int)) ∧ w = w' := by
  rcases Nat.eq_zero_or_pos n with h0 | h0
  · subst h0
    have t : decide (((0 : Nat) : Int) ≤ 0) = true := rfl
    go_enter Tryz.func212, Tryz.ntmps212
    go_wp2
    go_ret
    exact ⟨rfl, rfl⟩
  · have t : decide ((n : Int) ≤ 0) = false := decide_eq_false (by omega)
    have HM := Lib.hid (maskN_shl h0 hn)
    go_enter Tryz.func212, Tryz.ntmps212
    go_wp2_with (fail)
    go_ret
    exact ⟨congrArg (fun z => Ending.returned (Value.int .u32 z)) (by rw [← HM.out]; exact (cast_shl n).symm), rfl⟩

theorem cmask_q (w : World) (n : Nat) (hn : n ≤ 32) : Calls Tryz.prog 212 #[.int .i64 (n : Int)] w fun e w' => e = .returned (.int .u32 (maskN n : Int)) ∧ w' = w :=
  (cmask_calls w n hn).mono fun _ _ h => ⟨h.1, h.2.symm⟩

theorem mod_zero (x : Nat) : (((x : Nat) : Int) == 0) = decide (x = 0) := by
  rw [Bool.eq_iff_iff, beq_iff_eq, decide_eq_true_iff]
  omega

theorem below_box (w : World) (o : Obj) (n : Nat) : Below w.heap.size w ((w.alloc o).drewN n) := ((Kept.refl [] w).alloc o |>.drewN n).below (Nat.le_refl _) (by simp)
set_option maxRecDepth 100000 in
theorem right_in (w : World) (a n : Nat) (ha : a < 2 ^ 32) (hn : n ≤ 32) (b : Bool) (hb : decide (a % 2 ^ (32 - n) = 0) = b) : Calls Tryz.prog 149 #[.agg #[.int .u32 (a : Int), .int .i64 (n : Int)]] w fun e w' => e = .returned (.bool b) ∧ Below w.heap.size w w' := by
  have t1 : decide ((0 : Int) ≤ (n : Int)) = true := decide_eq_true (by omega)
  have t2 : decide ((n : Int) ≤ 32) = true := decide_eq_true (by omega)
  have t3 : (bits .andNot .u32 (a : Int) (maskN n : Int) == 0) = b := by rw [andNot_mask a n ha hn, mod_zero, hb]
  have HM := Lib.hid (fun w' => cmask_q w' n hn)
  generalize maskN n = m at *
  clear hb
  go_enter Tryz.func149, Tryz.ntmps149
  go_wp2_with (fail)
  go_quiet ((go_at_call 212; exact Calls.quiet_of_same (HM.out _)))
  go_wp2
  go_ret
  exact ⟨rfl, below_box _ _ _⟩
set_option maxRecDepth 100000 in
theorem right_out (w : World) (a : Nat) (b : Int) (hb : ¬ (0 ≤ b ∧ b ≤ 32)) : Calls Tryz.prog 149 #[.agg #[.int .u32 (a : Int), .int .i64 b]] w fun e w' => e = .returned (.bool false) ∧ Below w.heap.size w w' := by
  by_cases h : 0 ≤ b
  · have t1 : decide ((0 : Int) ≤ b) = true := decide_eq_true h
    have t2 : decide (b ≤ 32) = false := decide_eq_false (by omega)
    clear hb
    go_enter Tryz.func149, Tryz.ntmps149
    go_wp2_with (fail)
    go_quiet (fail)
    go_wp2
    go_ret
    exact ⟨rfl, below_box _ _ _⟩
  · have t1 : decide ((0 : Int) ≤ b) = false := decide_eq_false h
    clear hb
    go_enter Tryz.func149, Tryz.ntmps149
    go_wp2_with (fail)
    go_quiet (fail)
    go_wp2
    go_ret
    exact ⟨rfl, below_box _ _ _⟩
/-- What Right answers. -/
def rtB (p : Pf) : Bool := decide (0 ≤ p.bits) && (decide (p.bits ≤ 32) && decide (p.addr % 2 ^ (32 - p.bits.toNat) = 0))
theorem rtB_iff (p : Pf) : rtB p = true ↔ p.Right := by
  unfold rtB Pf.Right
  simp only [Bool.and_eq_true, decide_eq_true_iff]
theorem rtB_in {a n : Nat} (hn : n ≤ 32) : decide (a % 2 ^ (32 - n) = 0) = rtB ⟨a, n⟩ := by
  unfold rtB
  simp only [Int.toNat_natCast]
  rw [decide_eq_true (show 0 ≤ (n : Int) by omega), decide_eq_true (show (n : Int) ≤ 32 by omega)]
  rfl
theorem rtB_out {a : Nat} {b : Int} (hb : ¬ (0 ≤ b ∧ b ≤ 32)) : rtB ⟨a, b⟩ = false := by
  rw [Bool.eq_false_iff]
  intro h
  have := (rtB_iff _).1 h
  exact hb ⟨this.1, this.2.1⟩
theorem cright_calls (w : World) (p : Pf) (hp : p.addr < 2 ^ 32) : Calls Tryz.prog 149 #[p.val] w fun e w' => e = .returned (.bool (rtB p)) ∧ Below w.heap.size w w' := by
  obtain ⟨a, b⟩ := p
  by_cases h : 0 ≤ b ∧ b ≤ 32
  · obtain ⟨n, rfl⟩ := Int.eq_ofNat_of_zero_le h.1
    exact right_in w a n hp (by omega) _ (rtB_in (by omega))
  · rw [rtB_out h]
    exact right_out w a b h

set_option maxRecDepth 100000 in
theorem chas_calls (w : World) (p n a : Nat) (hp : p < 2 ^ 32) (ha : a < 2 ^ 32) (hn : n ≤ 32) : Calls Tryz.prog 249 #[.agg #[.int .u32 (p : Int), .int .i64 (n : Int)], .int .u32 (a : Int)] w fun e w' => e = .returned (.bool (hasN p n a)) ∧ Below w.heap.size w w' := by
  have t3 : (bits .and .u32 (bits .xor .u32 (a : Int) (p : Int)) (maskN n : Int) == 0) = hasN p n a := by
    rw [xor32 a p ha hp, and32 _ _ (Nat.xor_lt_two_pow ha hp) (maskN_lt hn), has_mask p n a hp ha hn]
  have HM := Lib.hid (fun w' => cmask_q w' n hn)
  generalize maskN n = m at *
  generalize hasN p n a = b at *
  go_enter Tryz.func249, Tryz.ntmps249
  go_wp2_with (fail)
  go_quiet ((go_at_call 212; exact Calls.quiet_of_same (HM.out _)))
  go_wp2
  go_ret
  exact ⟨rfl, below_box _ _ _⟩

set_option maxRecDepth 100000 in
theorem cof_calls (w : World) (a n : Nat) (ha : a < 2 ^ 32) (hn : n ≤ 32) : Calls Tryz.prog 162 #[.int .u32 (a : Int), .int .i64 (n : Int)] w fun e w' => e = .returned (.agg #[.int .u32 ((a / 2 ^ (32 - n) * 2 ^ (32 - n) : Nat) : Int), .int .i64 (n : Int)]) ∧ Below w.heap.size w w' := by
  have t3 : bits .and .u32 (a : Int) (maskN n : Int) = ((a / 2 ^ (32 - n) * 2 ^ (32 - n) : Nat) : Int) := by
    rw [and32 _ _ ha (maskN_lt hn), and_mask a n ha hn]
  have T3 := Lib.hid t3
  have HM := Lib.hid (fun w' => cmask_q w' n hn)
  generalize maskN n = m at *
  generalize a / 2 ^ (32 - n) * 2 ^ (32 - n) = z at *
  have t1 : ¬ (32 : Int) < (n : Int) := by omega
  clear t3
  rcases Nat.eq_zero_or_pos n with h0 | h0
  · subst h0
    go_enter Tryz.func162, Tryz.ntmps162
    go_wp2_with (go_at_call 212; refine (HM.out _).mono ?_; rintro e w' ⟨rfl, rfl⟩)
    rw [T3.out]
    simp [bodyPost, results, Tryz.results162, go_sem]
    exact (Below.refl _ _).alloc (Nat.le_refl _) _
  · have t2 : (0 : Int) < (n : Int) := by omega
    go_enter Tryz.func162, Tryz.ntmps162
    go_wp2_with (go_at_call 212; refine (HM.out _).mono ?_; rintro e w' ⟨rfl, rfl⟩)
    rw [T3.out]
    simp [bodyPost, results, Tryz.results162, go_sem]
    exact (Below.refl _ _).alloc (Nat.le_refl _) _

set_option maxRecDepth 100000 in
theorem cwithin_calls (w : World) (p n q m : Nat) (hp : p < 2 ^ 32) (hq : q < 2 ^ 32) (hn : n ≤ 32) (hm : m ≤ 32) : Calls Tryz.prog 213 #[.agg #[.int .u32 (p : Int), .int .i64 (n : Int)], .agg #[.int .u32 (q : Int), .int .i64 (m : Int)]] w fun e w' =>
    e = .returned (.bool (decide (m ≤ n) && hasN q m p)) ∧ Below w.heap.size w w' := by
  have HH := Lib.hid (fun w' => chas_calls w' q m p hq hp hm)
  generalize hasN q m p = b at *
  by_cases h : m ≤ n
  · have t1 : decide ((m : Int) ≤ (n : Int)) = true := decide_eq_true (by omega)
    have t2 : decide (m ≤ n) = true := decide_eq_true h
    go_enter Tryz.func213, Tryz.ntmps213
    go_wp2_with (go_at_call 249; refine (HH.out _).mono ?_; rintro e w' ⟨rfl, k⟩; have k := Lib.hid k)
    go_ret
    exact ⟨by simp [h], ((Below.refl _ _).alloc (Nat.le_refl _) _ |>.alloc (by simp) _).trans (k.out.mono (by simp; omega))⟩
  · have t1 : decide ((m : Int) ≤ (n : Int)) = false := decide_eq_false (by omega)
    have t2 : decide (m ≤ n) = false := decide_eq_false h
    go_enter Tryz.func213, Tryz.ntmps213
    go_wp2
    go_ret
    exact ⟨by simp [h], (Below.refl _ _).alloc (Nat.le_refl _) _ |>.alloc (by simp) _⟩

/-- Have two prefixes an address in common? -/
def meetN (p n q m : Nat) : Bool := (decide (m ≤ n) && hasN q m p) || (decide (n ≤ m) && hasN p n q)
set_option maxRecDepth 100000 in
theorem cmeet_calls (w : World) (p n q m : Nat) (hp : p < 2 ^ 32) (hq : q < 2 ^ 32) (hn : n ≤ 32) (hm : m ≤ 32) : Calls Tryz.prog 150 #[.agg #[.int .u32 (p : Int), .int .i64 (n : Int)], .agg #[.int .u32 (q : Int), .int .i64 (m : Int)]] w fun e w' =>
    e = .returned (.bool (meetN p n q m)) ∧ Below w.heap.size w w' := by
  have H1 := Lib.hid (fun w' => cwithin_calls w' p n q m hp hq hn hm)
  have H2 := Lib.hid (fun w' => cwithin_calls w' q m p n hq hp hm hn)
  unfold meetN
  have k0 := ((Below.refl w.heap.size w).alloc (Nat.le_refl _) (.cells #[.int .u32 (p : Int), .int .i64 (n : Int)] 48)).alloc (by simp) (.cells #[.int .u32 (q : Int), .int .i64 (m : Int)] 48)
  have hX := blk_alloc (heap_alloc_new w (.cells #[.int .u32 (p : Int), .int .i64 (n : Int)] 48)) (.cells #[.int .u32 (q : Int), .int .i64 (m : Int)] 48)
  have hY := heap_alloc_new (w.alloc (.cells #[.int .u32 (p : Int), .int .i64 (n : Int)] 48)) (.cells #[.int .u32 (q : Int), .int .i64 (m : Int)] 48)
  rw [show (w.alloc (.cells #[.int .u32 (p : Int), .int .i64 (n : Int)] 48)).heap.size = w.heap.size + 1 by simp] at hY
  generalize (decide (m ≤ n) && hasN q m p) = b1 at *
  generalize (decide (n ≤ m) && hasN p n q) = b2 at *
  go_enter Tryz.func150, Tryz.ntmps150
  go_wp2_with (fail)
  generalize (w.alloc (.cells #[.int .u32 (p : Int), .int .i64 (n : Int)] 48)).alloc (.cells #[.int .u32 (q : Int), .int .i64 (m : Int)] 48) = w1 at *
  refine (H1.out _).mono ?_
  rintro e w2 ⟨he, k1⟩
  subst he
  have hX1 := (k1.block _ (lt_of_block hX)).trans hX
  have hY1 := (k1.block _ (lt_of_block hY)).trans hY
  have dx := And.intro (cell_of hX1 0) (And.intro (cell_of hX1 1) (And.intro (cell_of hY1 0) (cell_of hY1 1)))
  simp only [List.getElem?_toArray, List.getElem?_cons_zero, List.getElem?_cons_succ] at dx
  have K1 := Lib.hid (k0.trans (k1.mono (by have := k0.size; omega)))
  clear hX hY hX1 hY1 k0 k1
  cases b1
  · go_wp2_with (go_at_call 213; refine (H2.out _).mono ?_; rintro e w' ⟨rfl, k⟩; have k := Lib.hid k)
    go_ret
    exact ⟨by simp, K1.out.trans (k.out.mono K1.out.size)⟩
  · go_wp2
    go_ret
    exact ⟨by simp, K1.out⟩

/-- The document's: how many addresses. -/
theorem size_calls (w : World) (n : Nat) (hn : n ≤ 32) : Calls Tryz.prog 148 #[.int .i64 (n : Int)] w fun e w' => e = .returned (.int .u64 ((2 ^ (32 - n) : Nat) : Int)) ∧ w' = w := by
  go_enter Tryz.func148, Tryz.ntmps148
  go_wp2_with (fail)
  go_loopg [3, 4] (32 - n) (fun gk vs vi wr => ∃ t : Nat, t + gk = 32 - n ∧ vi = .int .i64 ((n + t : Nat) : Int) ∧ vs = .int .u64 ((2 ^ t : Nat) : Int) ∧ w = wr)
  case atStart => exact ⟨0, by omega, rfl, rfl, rfl⟩
  case round =>
    obtain ⟨t, ht, rfl, rfl, rfl⟩ := hrel
    by_cases hlt : t < 32 - n
    · have hp : 2 ^ t ≤ 2 ^ 31 := Nat.pow_le_pow_right (by omega) (by omega)
      have h31 : 2 ^ t ≤ 2147483648 := by omega
      have HS := Lib.hid (Nat.pow_succ 2 t)
      clear hp
      generalize hm : n + t = m at *
      have HM := Lib.hid hm
      clear hm
      generalize 2 ^ t = z at *
      have hm32 : m < 32 := by have := HM.out; omega
      go_wp2_with (fail)
      go_roundg (gk - 1)
      case measure => omega
      case rel =>
        refine ⟨t + 1, by omega, ?_, ?_, rfl⟩
        · rw [← Nat.add_assoc, HM.out]; go_num
        · rw [HS.out]; go_num
    · obtain rfl : t = 32 - n := by omega
      rw [show n + (32 - n) = 32 by omega]
      go_wp2_with (fail)
      go_ret
      exact ⟨rfl, rfl⟩

set_option maxRecDepth 100000 in
theorem rright_in (w : World) (a n : Nat) (ha : a < 2 ^ 32) (hn : n ≤ 32) (b : Bool) (hb : decide (a % 2 ^ (32 - n) = 0) = b) : Calls Tryz.prog 79 #[.agg #[.int .u32 (a : Int), .int .i64 (n : Int)]] w fun e w' => e = .returned (.bool b) ∧ Below w.heap.size w w' := by
  have t1 : decide ((0 : Int) ≤ (n : Int)) = true := decide_eq_true (by omega)
  have t2 : decide ((n : Int) ≤ 32) = true := decide_eq_true (by omega)
  have t3 : (((a : Int) % ((2 ^ (32 - n) : Nat) : Int)) == 0) = b := by rw [← hb, ← mod_zero]; rfl
  have hz : 0 < 2 ^ (32 - n) := Nat.two_pow_pos _
  have HM := Lib.hid (fun w' => size_calls w' n hn)
  generalize 2 ^ (32 - n) = m at *
  have hz1 : (0 : Int) < (m : Int) := by omega
  have hz2 : ((m : Int) == 0) = false := by rw [beq_eq_false_iff_ne]; omega
  clear hb
  go_enter Tryz.func79, Tryz.ntmps79
  go_wp2_with (fail)
  go_quiet ((go_at_call 148; exact Calls.quiet_of_same (HM.out _)))
  go_wp2
  go_ret
  exact ⟨rfl, below_box _ _ _⟩
set_option maxRecDepth 100000 in
theorem rright_out (w : World) (a : Nat) (b : Int) (hb : ¬ (0 ≤ b ∧ b ≤ 32)) : Calls Tryz.prog 79 #[.agg #[.int .u32 (a : Int), .int .i64 b]] w fun e w' => e = .returned (.bool false) ∧ Below w.heap.size w w' := by
  by_cases h : 0 ≤ b
  · have t1 : decide ((0 : Int) ≤ b) = true := decide_eq_true h
    have t2 : decide (b ≤ 32) = false := decide_eq_false (by omega)
    clear hb
    go_enter Tryz.func79, Tryz.ntmps79
    go_wp2_with (fail)
    go_quiet (fail)
    go_wp2
    go_ret
    exact ⟨rfl, below_box _ _ _⟩
  · have t1 : decide ((0 : Int) ≤ b) = false := decide_eq_false h
    clear hb
    go_enter Tryz.func79, Tryz.ntmps79
    go_wp2_with (fail)
    go_quiet (fail)
    go_wp2
    go_ret
    exact ⟨rfl, below_box _ _ _⟩
theorem rright_calls (w : World) (p : Pf) (hp : p.addr < 2 ^ 32) : Calls Tryz.prog 79 #[p.val] w fun e w' => e = .returned (.bool (rtB p)) ∧ Below w.heap.size w w' := by
  obtain ⟨a, b⟩ := p
  by_cases h : 0 ≤ b ∧ b ≤ 32
  · obtain ⟨n, rfl⟩ := Int.eq_ofNat_of_zero_le h.1
    exact rright_in w a n hp (by omega) _ (rtB_in (by omega))
  · rw [rtB_out h]
    exact rright_out w a b h

set_option maxRecDepth 100000 in
theorem rhas_calls (w : World) (p n a : Nat) (hp : p < 2 ^ 32) (ha : a < 2 ^ 32) (hn : n ≤ 32) : Calls Tryz.prog 151 #[.agg #[.int .u32 (p : Int), .int .i64 (n : Int)], .int .u32 (a : Int)] w fun e w' => e = .returned (.bool (hasN p n a)) ∧ Below w.heap.size w w' := by
  have t3 : (((a / 2 ^ (32 - n) : Nat) : Int) == ((p / 2 ^ (32 - n) : Nat) : Int)) = hasN p n a := by
    unfold hasN
    rw [Bool.eq_iff_iff, beq_iff_eq, beq_iff_eq]
    omega
  have hz : 0 < 2 ^ (32 - n) := Nat.two_pow_pos _
  have HM := Lib.hid (fun w' => size_calls w' n hn)
  generalize hasN p n a = b at *
  generalize 2 ^ (32 - n) = m at *
  have hz1 : (0 : Int) < (m : Int) := by omega
  have hz2 : ((m : Int) == 0) = false := by rw [beq_eq_false_iff_ne]; omega
  have e1 := in64 a (by omega)
  have e2 := in64 p (by omega)
  have e5 : IntKind.u64.wrap ((a : Int) / (m : Int)) = (a : Int) / (m : Int) := in64 (a / m) (by have := Nat.div_le_self a m; omega)
  have e6 : IntKind.u64.wrap ((p : Int) / (m : Int)) = (p : Int) / (m : Int) := in64 (p / m) (by have := Nat.div_le_self p m; omega)
  have t4 : ((a : Int) / (m : Int) == (p : Int) / (m : Int)) = b := t3
  clear t3
  go_enter Tryz.func151, Tryz.ntmps151
  go_wp2_with (fail)
  go_quiet ((go_at_call 148; exact Calls.quiet_of_same (HM.out _)))
  go_wp2
  go_ret
  exact ⟨rfl, below_box _ _ _⟩

/-- A prefix's last address. -/
def lastN (p n : Nat) : Nat := p + 2 ^ (32 - n) - 1
theorem right_last {p n : Nat} (hp : p < 2 ^ 32) (hn : n ≤ 32) (hr : p % 2 ^ (32 - n) = 0) : p + 2 ^ (32 - n) ≤ 4294967296 := by
  have e1 : 2 ^ n * 2 ^ (32 - n) = 4294967296 := by rw [← Nat.pow_add, show n + (32 - n) = 32 by omega]
  have hz := Nat.two_pow_pos (32 - n)
  have h1 := Nat.div_add_mod p (2 ^ (32 - n))
  rw [hr, Nat.add_zero] at h1
  have h2 : p / 2 ^ (32 - n) < 2 ^ n := by
    rw [Nat.div_lt_iff_lt_mul hz, e1]
    exact hp
  have h3 : 2 ^ (32 - n) * (p / 2 ^ (32 - n) + 1) ≤ 2 ^ (32 - n) * 2 ^ n := Nat.mul_le_mul (Nat.le_refl _) h2
  rw [Nat.mul_add, h1, Nat.mul_one, Nat.mul_comm, e1] at h3
  exact h3
set_option maxRecDepth 100000 in
theorem rlast_calls (w : World) (p n : Nat) (hp : p < 2 ^ 32) (hn : n ≤ 32) (hr : p % 2 ^ (32 - n) = 0) : Calls Tryz.prog 80 #[.agg #[.int .u32 (p : Int), .int .i64 (n : Int)]] w fun e w' => e = .returned (.int .u32 (lastN p n : Int)) ∧ Below w.heap.size w w' := by
  have hl := right_last hp hn hr
  have hz : 0 < 2 ^ (32 - n) := Nat.two_pow_pos _
  have HM := Lib.hid (fun w' => size_calls w' n hn)
  have HL := Lib.hid (show ((lastN p n : Nat) : Int) = (p : Int) + ((2 ^ (32 - n) : Nat) : Int) - 1 by unfold lastN; omega)
  generalize 2 ^ (32 - n) = m at *
  generalize ((lastN p n : Nat) : Int) = q at *
  have e1 := in64 p (by omega)
  have e2 : IntKind.u64.wrap ((p : Int) + (m : Int)) = (p : Int) + (m : Int) := in64 (p + m) (by omega)
  have e3 : IntKind.u64.wrap ((p : Int) + (m : Int) - 1) = (p : Int) + (m : Int) - 1 := by
    have := in64 (p + m - 1) (by omega)
    rwa [show (((p + m - 1 : Nat)) : Int) = (p : Int) + (m : Int) - 1 by omega] at this
  have e4 : IntKind.u32.wrap ((p : Int) + (m : Int) - 1) = (p : Int) + (m : Int) - 1 := by
    have := in32 (p + m - 1) (by omega)
    rwa [show (((p + m - 1 : Nat)) : Int) = (p : Int) + (m : Int) - 1 by omega] at this
  clear hr
  go_enter Tryz.func80, Tryz.ntmps80
  go_wp2_with (fail)
  go_quiet ((go_at_call 148; exact Calls.quiet_of_same (HM.out _)))
  go_wp2
  go_ret
  exact ⟨by rw [HL.out]; rfl, below_box _ _ _⟩

set_option maxRecDepth 100000 in
theorem tbit_calls (w : World) (a i : Nat) (ha : a < 2 ^ 32) (hi : i < 32) : Calls Tryz.prog 243 #[.int .u32 (a : Int), .int .i64 (i : Int)] w fun e w' => e = .returned (.int .i64 (((a.testBit (31 - i)).toNat : Nat) : Int)) ∧ w' = w := by
  have hj : ∃ j : Nat, (31 : Int) - (i : Int) = (j : Int) ∧ 31 - i = j := ⟨31 - i, by omega, rfl⟩
  obtain ⟨j, hj1, hj2⟩ := hj
  rw [hj2]
  have hj3 : j < 32 := by omega
  have t3 : bits .and .u32 ((a : Int) / 2 ^ j) 1 = (((a.testBit j).toNat : Nat) : Int) := by
    have e : ((a : Int) / 2 ^ j) = ((a / 2 ^ j : Nat) : Int) := by norm_cast
    have hlt : a / 2 ^ j < 2 ^ 32 := Nat.lt_of_le_of_lt (Nat.div_le_self _ _) ha
    rw [e, show (1 : Int) = ((1 : Nat) : Int) from rfl, and32 _ 1 hlt (by omega), Nat.and_one_is_mod, Nat.testBit_eq_decide_div_mod_eq]
    have := Nat.mod_lt (a / 2 ^ j) (show 0 < 2 by omega)
    by_cases h : a / 2 ^ j % 2 = 1
    · simp [h]
    · have h0 : a / 2 ^ j % 2 = 0 := by omega
      simp [h0]
  have hb : ((a.testBit j).toNat : Int) ≤ 1 := by cases a.testBit j <;> simp
  have hb0 : 0 ≤ ((a.testBit j).toNat : Int) := by omega
  generalize (((a.testBit j).toNat : Nat) : Int) = z at *
  have HJ := Lib.hid hj1
  clear hj2
  go_enter Tryz.func243, Tryz.ntmps243
  go_wp2
  go_ret
  exact ⟨rfl, rfl⟩

end Go.Proofs.YtjoblahedgpgbaaGreat
