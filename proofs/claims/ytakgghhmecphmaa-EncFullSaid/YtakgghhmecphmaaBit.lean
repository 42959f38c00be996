/- Headers, bit by bit. -/
import Derived.Test.YtakgghhmecphmaaArena
namespace Go.Proofs.Ytakgghhmecphmaa
set_option linter.unusedVariables false
set_option linter.unusedSimpArgs false
open Go.RowKit

structure Hd where
  dst : Nat
  src : Nat
  proto : Nat
  sport : Nat
  dport : Nat
deriving DecidableEq
def Hd.val (h : Hd) : Value := .agg #[.int .u32 (h.dst : Int), .int .u32 (h.src : Int), .int .u8 (h.proto : Int), .int .u16 (h.sport : Int), .int .u16 (h.dport : Int)]
structure Hd.Wf (h : Hd) : Prop where
  dst : h.dst < 2 ^ 32
  src : h.src < 2 ^ 32
  proto : h.proto < 2 ^ 8
  sport : h.sport < 2 ^ 16
  dport : h.dport < 2 ^ 16
def Hd.bit (h : Hd) (i : Nat) : Bool :=
  if i < 32 then h.dst.testBit (31 - i) else if i < 64 then h.src.testBit (63 - i) else if i < 72 then h.proto.testBit (71 - i)
  else if i < 88 then h.sport.testBit (87 - i) else if i < 104 then h.dport.testBit (103 - i) else false

theorem and1 {k : IntKind} (hs : k.signed = false) (hk : 1 ≤ k.bits) (n : Nat) : bits .and k (n : Int) 1 = ((n % 2 : Nat) : Int) := by
  unfold bits
  simp only [BitVec.toNat_and]
  have hp : (2 : Nat) ≤ 2 ^ k.bits := by
    have := Nat.pow_le_pow_right (n := 2) (by omega) hk
    omega
  have e1 : (BitVec.ofInt k.bits (n : Int)).toNat = n % 2 ^ k.bits := by simp [BitVec.toNat_ofInt]
  have e2 : (BitVec.ofInt k.bits 1).toNat = 1 := by
    have := (show (BitVec.ofInt k.bits ((1 : Nat) : Int)).toNat = 1 % 2 ^ k.bits by simp [BitVec.toNat_ofInt])
    rw [Nat.mod_eq_of_lt (by omega)] at this
    exact this
  rw [e1, e2, Nat.and_one_is_mod, Nat.mod_mod_of_dvd n ⟨2 ^ (k.bits - 1), by rw [Nat.mul_comm, ← Nat.pow_succ]; congr 1; omega⟩]
  unfold IntKind.wrap
  simp only [hs, Bool.false_and, Bool.false_eq_true, if_false]
  have h2 := Nat.mod_lt n (show 0 < 2 by omega)
  refine Int.emod_eq_of_lt (by omega) ?_
  have : (2 : Int) ≤ 2 ^ k.bits := by exact_mod_cast hp
  omega

theorem bit_val {k : IntKind} (hs : k.signed = false) (hk : 1 ≤ k.bits) (d j : Nat) : (bits .and k ((d : Int) / 2 ^ j) 1 == 1) = d.testBit j := by
  have e : ((d : Int) / 2 ^ j) = ((d / 2 ^ j : Nat) : Int) := by norm_cast
  rw [e, and1 hs hk, Nat.testBit_eq_decide_div_mod_eq]
  by_cases h : d / 2 ^ j % 2 = 1
  · simp [h]
  · simp [h]
    omega

set_option maxRecDepth 100000 in
theorem bit_calls (w : World) (h : Hd) (i : Nat) (hi : i < 104) : Calls Try.prog 27 #[h.val, .int .i64 (i : Int)] w fun e w' => e = .returned (.bool (h.bit i)) ∧ Below w.heap.size w w' := by
  obtain ⟨d, s, p, sp, dp⟩ := h
  unfold Hd.val
  simp only
  have hc : i < 32 ∨ (32 ≤ i ∧ i < 64) ∨ (64 ≤ i ∧ i < 72) ∨ (72 ≤ i ∧ i < 88) ∨ (88 ≤ i ∧ i < 104) := by omega
  rcases hc with h1 | ⟨h0, h1⟩ | ⟨h0, h1⟩ | ⟨h0, h1⟩ | ⟨h0, h1⟩
  · go_enter Try.func27, Try.ntmps27
    go_wp2
    go_ret
    refine ⟨?_, (Below.refl _ _).alloc (Nat.le_refl _) _⟩
    show Ending.returned (Value.bool (bits .and .u32 (_ / 2 ^ (_ : Nat)) 1 == 1)) = _
    rw [bit_val rfl (by decide)]
    unfold Hd.bit
    rw [if_pos h1]
  · go_enter Try.func27, Try.ntmps27
    go_wp2
    go_ret
    refine ⟨?_, (Below.refl _ _).alloc (Nat.le_refl _) _⟩
    show Ending.returned (Value.bool (bits .and .u32 (_ / 2 ^ (_ : Nat)) 1 == 1)) = _
    rw [bit_val rfl (by decide)]
    unfold Hd.bit
    rw [if_neg (by omega), if_pos h1]
    simp only
    rw [show 31 - (i - 32) = 63 - i by omega]
  · go_enter Try.func27, Try.ntmps27
    go_wp2
    go_ret
    refine ⟨?_, (Below.refl _ _).alloc (Nat.le_refl _) _⟩
    show Ending.returned (Value.bool (bits .and .u8 (_ / 2 ^ (_ : Nat)) 1 == 1)) = _
    rw [bit_val rfl (by decide)]
    unfold Hd.bit
    rw [if_neg (by omega), if_neg (by omega), if_pos h1]
    simp only
    rw [show 7 - (i - 64) = 71 - i by omega]
  · go_enter Try.func27, Try.ntmps27
    go_wp2
    go_ret
    refine ⟨?_, (Below.refl _ _).alloc (Nat.le_refl _) _⟩
    show Ending.returned (Value.bool (bits .and .u16 (_ / 2 ^ (_ : Nat)) 1 == 1)) = _
    rw [bit_val rfl (by decide)]
    unfold Hd.bit
    rw [if_neg (by omega), if_neg (by omega), if_neg (by omega), if_pos h1]
    simp only
    rw [show 15 - (i - 72) = 87 - i by omega]
  · go_enter Try.func27, Try.ntmps27
    go_wp2
    go_ret
    refine ⟨?_, (Below.refl _ _).alloc (Nat.le_refl _) _⟩
    show Ending.returned (Value.bool (bits .and .u16 (_ / 2 ^ (_ : Nat)) 1 == 1)) = _
    rw [bit_val rfl (by decide)]
    unfold Hd.bit
    rw [if_neg (by omega), if_neg (by omega), if_neg (by omega), if_neg (by omega), if_pos h1]
    simp only
    rw [show 15 - (i - 88) = 103 - i by omega]

end Go.Proofs.Ytakgghhmecphmaa
