/- The walk of hdr.With. -/
import Derived.Test.YtakgghhmecphmaaLeastP
import Derived.Test.YtakgghhmecphmaaWide
namespace Go.Proofs.Ytakgghhmecphmaa
set_option linter.unusedVariables false
set_option linter.unusedSimpArgs false
open Go.RowKit

theorem xorK {k : IntKind} (hs : k.signed = false) {x y : Nat} (hx : x < 2 ^ k.bits) (hy : y < 2 ^ k.bits) : bits .xor k (x : Int) (y : Int) = ((x ^^^ y : Nat) : Int) := by
  unfold bits
  simp only [BitVec.toNat_xor]
  have e : ∀ z : Nat, z < 2 ^ k.bits → (BitVec.ofInt k.bits (z : Int)).toNat = z := fun z hz => by
    have : (BitVec.ofInt k.bits ((z : Nat) : Int)).toNat = z % 2 ^ k.bits := by simp [BitVec.toNat_ofInt]
    rw [this, Nat.mod_eq_of_lt hz]
  rw [e x hx, e y hy]
  have := Nat.xor_lt_two_pow hx hy
  show k.wrap ((x ^^^ y : Nat) : Int) = _
  unfold IntKind.wrap
  simp only [hs, Bool.false_and, Bool.false_eq_true, if_false]
  exact Int.emod_eq_of_lt (by omega) (by exact_mod_cast this)

theorem wrapP {k : IntKind} (hs : k.signed = false) {m : Nat} (hm : 2 ^ m < 2 ^ k.bits) : k.wrap (2 ^ m) = ((2 ^ m : Nat) : Int) := by
  unfold IntKind.wrap
  simp only [hs, Bool.false_and, Bool.false_eq_true, if_false]
  have h : (2 : Int) ^ m < 2 ^ k.bits := by exact_mod_cast hm
  have h0 : (0 : Int) ≤ 2 ^ m := Int.pow_nonneg (by omega)
  rw [Int.emod_eq_of_lt h0 h]
  push_cast
  rfl

set_option maxRecDepth 100000 in
theorem With_same (w : World) (h : Hd) (i : Nat) (hi : i < 104) (on : Bool) (hb : h.bit i = on) : Calls Try.prog 84 #[h.val, .int .i64 (i : Int), .bool on] w fun e w' => e = .returned h.val ∧ Below w.heap.size w w' := by
  have HB := Lib.hid (fun w' => bit_calls w' h i hi)
  rw [hb] at HB
  obtain ⟨d, s, p, sp, dp⟩ := h
  unfold Hd.val at *
  simp only at *
  go_enter Try.func84, Try.ntmps84
  go_wp2_with (fail)
  have K0 := ((Kept.refl [] w).alloc (.cells #[.int .u32 (d : Int), .int .u32 (s : Int), .int .u8 (p : Int), .int .u16 (sp : Int), .int .u16 (dp : Int)] 25)).alloc (.cells #[.int .u32 0, .int .u32 0, .int .u8 0, .int .u16 0, .int .u16 0] 25)
  have X0 := blk_alloc (heap_alloc_new w (.cells #[.int .u32 (d : Int), .int .u32 (s : Int), .int .u8 (p : Int), .int .u16 (sp : Int), .int .u16 (dp : Int)] 25)) (.cells #[.int .u32 0, .int .u32 0, .int .u8 0, .int .u16 0, .int .u16 0] 25)
  have Y0 := heap_alloc_new (w.alloc (.cells #[.int .u32 (d : Int), .int .u32 (s : Int), .int .u8 (p : Int), .int .u16 (sp : Int), .int .u16 (dp : Int)] 25)) (.cells #[.int .u32 0, .int .u32 0, .int .u8 0, .int .u16 0, .int .u16 0] 25)
  rw [show (w.alloc (.cells #[.int .u32 (d : Int), .int .u32 (s : Int), .int .u8 (p : Int), .int .u16 (sp : Int), .int .u16 (dp : Int)] 25)).heap.size = w.heap.size + 1 by simp] at Y0
  generalize (w.alloc (.cells #[.int .u32 (d : Int), .int .u32 (s : Int), .int .u8 (p : Int), .int .u16 (sp : Int), .int .u16 (dp : Int)] 25)).alloc (.cells #[.int .u32 0, .int .u32 0, .int .u8 0, .int .u16 0, .int .u16 0] 25) = w1 at *
  refine (HB.out _).mono ?_
  rintro e w2 ⟨he, k2⟩
  subst he
  have X2 := (k2.block _ (lt_of_block X0)).trans X0
  have Y2 := (k2.block _ (lt_of_block Y0)).trans Y0
  have K2 := Lib.hid (K0.trans (Kept.of_below (S := []) k2) (by simp))
  clear k2 X0 Y0 K0
  have dx := And.intro (cell_of X2 0) (And.intro (cell_of X2 1) (And.intro (cell_of X2 2) (And.intro (cell_of X2 3) (cell_of X2 4))))
  simp only [List.getElem?_toArray, List.getElem?_cons_zero, List.getElem?_cons_succ] at dx
  have fdx := And.intro (unfrozen_of X2 0) (And.intro (unfrozen_of X2 1) (And.intro (unfrozen_of X2 2) (And.intro (unfrozen_of X2 3) (unfrozen_of X2 4))))
  have dy := And.intro (cell_of Y2 0) (And.intro (cell_of Y2 1) (And.intro (cell_of Y2 2) (And.intro (cell_of Y2 3) (cell_of Y2 4))))
  simp only [List.getElem?_toArray, List.getElem?_cons_zero, List.getElem?_cons_succ] at dy
  have fdy := And.intro (unfrozen_of Y2 0) (And.intro (unfrozen_of Y2 1) (And.intro (unfrozen_of Y2 2) (And.intro (unfrozen_of Y2 3) (unfrozen_of Y2 4))))
  have HX2 := Lib.hid X2
  have HY2 := Lib.hid Y2
  clear X2 Y2
  go_wp2_with (fail)
  have Y9 := HY2.out
  have K9 := K2.out
  have E0 := set_block Y9 0 (.int .u32 (d : Int))
  have q0 := cell_of E0 0
  have E1 := set_block E0 1 (.int .u32 (s : Int))
  have q1 := cell_of E1 1
  have E2 := set_block E1 2 (.int .u8 (p : Int))
  have q2 := cell_of E2 2
  have E3 := set_block E2 3 (.int .u16 (sp : Int))
  have q3 := cell_of E3 3
  have E4 := set_block E3 4 (.int .u16 (dp : Int))
  have q4 := cell_of E4 4
  simp at q0 q1 q2 q3 q4
  clear E0 E1 E2 E3 E4
  simp [bodyPost, results, Try.results84, go_sem, q0, q1, q2, q3, q4]
  exact (((((K9.setCell ⟨w.heap.size + 1, 0, none⟩ (.int .u32 (d : Int)) (Or.inr (by simp))).setCell ⟨w.heap.size + 1, 1, none⟩ (.int .u32 (s : Int)) (Or.inr (by simp))).setCell ⟨w.heap.size + 1, 2, none⟩ (.int .u8 (p : Int)) (Or.inr (by simp))).setCell ⟨w.heap.size + 1, 3, none⟩ (.int .u16 (sp : Int)) (Or.inr (by simp))).setCell ⟨w.heap.size + 1, 4, none⟩ (.int .u16 (dp : Int)) (Or.inr (by simp))).below (Nat.le_refl _) (by simp)

set_option maxRecDepth 100000 in
set_option maxHeartbeats 1000000 in
theorem With_dst (w : World) (h : Hd) (hw : h.Wf) (i : Nat) (h0 : 0 ≤ i) (h1 : i < 32) (on : Bool) (hb : h.bit i ≠ on) : Calls Try.prog 84 #[h.val, .int .i64 (i : Int), .bool on] w fun e w' => e = .returned (Hd.flip h i).val ∧ Below w.heap.size w w' := by
  have hbe : (h.bit i == on) = false := by simpa using hb
  have HB := Lib.hid (fun w' => bit_calls w' h i (by omega))
  have hv := hw.dst
  have hw1 : IntKind.i64.wrap (31 - (i : Int)) = ((31 - i : Nat) : Int) := by rw [IntKind.wrap_i64]; omega
  have hp2 : 2 ^ (31 - i) < 2 ^ 32 := Nat.pow_lt_pow_right (by omega) (by omega)
  have hw2 : IntKind.u32.wrap (2 ^ (31 - i)) = ((2 ^ (31 - i) : Nat) : Int) := wrapP rfl hp2
  have hw3 : bits .xor .u32 (h.dst : Int) (2 ^ (31 - i)) = ((h.dst ^^^ 2 ^ (31 - i) : Nat) : Int) := by rw [← xorK (k := .u32) rfl hv hp2, Int.natCast_pow]; rfl
  have e : (Hd.flip h i).val = .agg #[.int .u32 (((h.dst ^^^ 2 ^ (31 - i) : Nat)) : Int), .int .u32 (h.src : Int), .int .u8 (h.proto : Int), .int .u16 (h.sport : Int), .int .u16 (h.dport : Int)] := by
    unfold Hd.flip
    rw [if_pos (by omega)]; rfl
  rw [e]
  clear e hb
  generalize h.bit i = hbit at *
  obtain ⟨d, s, p, sp, dp⟩ := h
  unfold Hd.val at *
  simp only at *
  go_enter Try.func84, Try.ntmps84
  go_wp2_with (fail)
  have K0 := ((Kept.refl [] w).alloc (.cells #[.int .u32 (d : Int), .int .u32 (s : Int), .int .u8 (p : Int), .int .u16 (sp : Int), .int .u16 (dp : Int)] 25)).alloc (.cells #[.int .u32 0, .int .u32 0, .int .u8 0, .int .u16 0, .int .u16 0] 25)
  have X0 := blk_alloc (heap_alloc_new w (.cells #[.int .u32 (d : Int), .int .u32 (s : Int), .int .u8 (p : Int), .int .u16 (sp : Int), .int .u16 (dp : Int)] 25)) (.cells #[.int .u32 0, .int .u32 0, .int .u8 0, .int .u16 0, .int .u16 0] 25)
  have Y0 := heap_alloc_new (w.alloc (.cells #[.int .u32 (d : Int), .int .u32 (s : Int), .int .u8 (p : Int), .int .u16 (sp : Int), .int .u16 (dp : Int)] 25)) (.cells #[.int .u32 0, .int .u32 0, .int .u8 0, .int .u16 0, .int .u16 0] 25)
  rw [show (w.alloc (.cells #[.int .u32 (d : Int), .int .u32 (s : Int), .int .u8 (p : Int), .int .u16 (sp : Int), .int .u16 (dp : Int)] 25)).heap.size = w.heap.size + 1 by simp] at Y0
  generalize (w.alloc (.cells #[.int .u32 (d : Int), .int .u32 (s : Int), .int .u8 (p : Int), .int .u16 (sp : Int), .int .u16 (dp : Int)] 25)).alloc (.cells #[.int .u32 0, .int .u32 0, .int .u8 0, .int .u16 0, .int .u16 0] 25) = w1 at *
  refine (HB.out _).mono ?_
  rintro e w2 ⟨he, k2⟩
  subst he
  have X2 := (k2.block _ (lt_of_block X0)).trans X0
  have Y2 := (k2.block _ (lt_of_block Y0)).trans Y0
  have K2 := Lib.hid (K0.trans (Kept.of_below (S := []) k2) (by simp))
  clear k2 X0 Y0 K0
  have dx := And.intro (cell_of X2 0) (And.intro (cell_of X2 1) (And.intro (cell_of X2 2) (And.intro (cell_of X2 3) (cell_of X2 4))))
  simp only [List.getElem?_toArray, List.getElem?_cons_zero, List.getElem?_cons_succ] at dx
  have fdx := And.intro (unfrozen_of X2 0) (And.intro (unfrozen_of X2 1) (And.intro (unfrozen_of X2 2) (And.intro (unfrozen_of X2 3) (unfrozen_of X2 4))))
  have dy := And.intro (cell_of Y2 0) (And.intro (cell_of Y2 1) (And.intro (cell_of Y2 2) (And.intro (cell_of Y2 3) (cell_of Y2 4))))
  simp only [List.getElem?_toArray, List.getElem?_cons_zero, List.getElem?_cons_succ] at dy
  have fdy := And.intro (unfrozen_of Y2 0) (And.intro (unfrozen_of Y2 1) (And.intro (unfrozen_of Y2 2) (And.intro (unfrozen_of Y2 3) (unfrozen_of Y2 4))))
  have HX2 := Lib.hid X2
  have HY2 := Lib.hid Y2
  clear X2 Y2
  go_wp2_with (fail)
  refine wp_still_tail 7 (by kernel_rfl) (by kernel_rfl) ?_
  simp only [List.take_succ_cons, List.take_zero, List.drop_succ_cons, List.drop_zero]
  repeat still_step
  refine wpStill_nil ?_
  go_wp2_with (fail)
  have Y9 := blk_setCell HY2.out (a := ⟨w.heap.size, 0, none⟩) (by simp) (.int .u32 (((d ^^^ 2 ^ (31 - i) : Nat)) : Int))
  have K9 := K2.out.setCell ⟨w.heap.size, 0, none⟩ (.int .u32 (((d ^^^ 2 ^ (31 - i) : Nat)) : Int)) (Or.inr (Nat.le_refl _))
  have E0 := set_block Y9 0 (.int .u32 (((d ^^^ 2 ^ (31 - i) : Nat)) : Int))
  have q0 := cell_of E0 0
  have E1 := set_block E0 1 (.int .u32 (s : Int))
  have q1 := cell_of E1 1
  have E2 := set_block E1 2 (.int .u8 (p : Int))
  have q2 := cell_of E2 2
  have E3 := set_block E2 3 (.int .u16 (sp : Int))
  have q3 := cell_of E3 3
  have E4 := set_block E3 4 (.int .u16 (dp : Int))
  have q4 := cell_of E4 4
  simp at q0 q1 q2 q3 q4
  clear E0 E1 E2 E3 E4
  simp [bodyPost, results, Try.results84, go_sem, q0, q1, q2, q3, q4]
  exact (((((K9.setCell ⟨w.heap.size + 1, 0, none⟩ (.int .u32 (((d ^^^ 2 ^ (31 - i) : Nat)) : Int)) (Or.inr (by simp))).setCell ⟨w.heap.size + 1, 1, none⟩ (.int .u32 (s : Int)) (Or.inr (by simp))).setCell ⟨w.heap.size + 1, 2, none⟩ (.int .u8 (p : Int)) (Or.inr (by simp))).setCell ⟨w.heap.size + 1, 3, none⟩ (.int .u16 (sp : Int)) (Or.inr (by simp))).setCell ⟨w.heap.size + 1, 4, none⟩ (.int .u16 (dp : Int)) (Or.inr (by simp))).drew.below (Nat.le_refl _) (by simp)

set_option maxRecDepth 100000 in
set_option maxHeartbeats 1000000 in
theorem With_src (w : World) (h : Hd) (hw : h.Wf) (i : Nat) (h0 : 32 ≤ i) (h1 : i < 64) (on : Bool) (hb : h.bit i ≠ on) : Calls Try.prog 84 #[h.val, .int .i64 (i : Int), .bool on] w fun e w' => e = .returned (Hd.flip h i).val ∧ Below w.heap.size w w' := by
  have hbe : (h.bit i == on) = false := by simpa using hb
  have HB := Lib.hid (fun w' => bit_calls w' h i (by omega))
  have hv := hw.src
  have hw0 : IntKind.i64.wrap ((i : Int) - 32) = ((i - 32 : Nat) : Int) := by rw [IntKind.wrap_i64]; omega
  have hw1 : IntKind.i64.wrap (31 - ((i - 32 : Nat) : Int)) = ((63 - i : Nat) : Int) := by rw [IntKind.wrap_i64]; omega
  have hp2 : 2 ^ (63 - i) < 2 ^ 32 := Nat.pow_lt_pow_right (by omega) (by omega)
  have hw2 : IntKind.u32.wrap (2 ^ (63 - i)) = ((2 ^ (63 - i) : Nat) : Int) := wrapP rfl hp2
  have hw3 : bits .xor .u32 (h.src : Int) (2 ^ (63 - i)) = ((h.src ^^^ 2 ^ (63 - i) : Nat) : Int) := by rw [← xorK (k := .u32) rfl hv hp2, Int.natCast_pow]; rfl
  have e : (Hd.flip h i).val = .agg #[.int .u32 (h.dst : Int), .int .u32 (((h.src ^^^ 2 ^ (63 - i) : Nat)) : Int), .int .u8 (h.proto : Int), .int .u16 (h.sport : Int), .int .u16 (h.dport : Int)] := by
    unfold Hd.flip
    rw [if_neg (by omega)]; rw [if_pos (by omega)]; rfl
  rw [e]
  clear e hb
  generalize h.bit i = hbit at *
  obtain ⟨d, s, p, sp, dp⟩ := h
  unfold Hd.val at *
  simp only at *
  go_enter Try.func84, Try.ntmps84
  go_wp2_with (fail)
  have K0 := ((Kept.refl [] w).alloc (.cells #[.int .u32 (d : Int), .int .u32 (s : Int), .int .u8 (p : Int), .int .u16 (sp : Int), .int .u16 (dp : Int)] 25)).alloc (.cells #[.int .u32 0, .int .u32 0, .int .u8 0, .int .u16 0, .int .u16 0] 25)
  have X0 := blk_alloc (heap_alloc_new w (.cells #[.int .u32 (d : Int), .int .u32 (s : Int), .int .u8 (p : Int), .int .u16 (sp : Int), .int .u16 (dp : Int)] 25)) (.cells #[.int .u32 0, .int .u32 0, .int .u8 0, .int .u16 0, .int .u16 0] 25)
  have Y0 := heap_alloc_new (w.alloc (.cells #[.int .u32 (d : Int), .int .u32 (s : Int), .int .u8 (p : Int), .int .u16 (sp : Int), .int .u16 (dp : Int)] 25)) (.cells #[.int .u32 0, .int .u32 0, .int .u8 0, .int .u16 0, .int .u16 0] 25)
  rw [show (w.alloc (.cells #[.int .u32 (d : Int), .int .u32 (s : Int), .int .u8 (p : Int), .int .u16 (sp : Int), .int .u16 (dp : Int)] 25)).heap.size = w.heap.size + 1 by simp] at Y0
  generalize (w.alloc (.cells #[.int .u32 (d : Int), .int .u32 (s : Int), .int .u8 (p : Int), .int .u16 (sp : Int), .int .u16 (dp : Int)] 25)).alloc (.cells #[.int .u32 0, .int .u32 0, .int .u8 0, .int .u16 0, .int .u16 0] 25) = w1 at *
  refine (HB.out _).mono ?_
  rintro e w2 ⟨he, k2⟩
  subst he
  have X2 := (k2.block _ (lt_of_block X0)).trans X0
  have Y2 := (k2.block _ (lt_of_block Y0)).trans Y0
  have K2 := Lib.hid (K0.trans (Kept.of_below (S := []) k2) (by simp))
  clear k2 X0 Y0 K0
  have dx := And.intro (cell_of X2 0) (And.intro (cell_of X2 1) (And.intro (cell_of X2 2) (And.intro (cell_of X2 3) (cell_of X2 4))))
  simp only [List.getElem?_toArray, List.getElem?_cons_zero, List.getElem?_cons_succ] at dx
  have fdx := And.intro (unfrozen_of X2 0) (And.intro (unfrozen_of X2 1) (And.intro (unfrozen_of X2 2) (And.intro (unfrozen_of X2 3) (unfrozen_of X2 4))))
  have dy := And.intro (cell_of Y2 0) (And.intro (cell_of Y2 1) (And.intro (cell_of Y2 2) (And.intro (cell_of Y2 3) (cell_of Y2 4))))
  simp only [List.getElem?_toArray, List.getElem?_cons_zero, List.getElem?_cons_succ] at dy
  have fdy := And.intro (unfrozen_of Y2 0) (And.intro (unfrozen_of Y2 1) (And.intro (unfrozen_of Y2 2) (And.intro (unfrozen_of Y2 3) (unfrozen_of Y2 4))))
  have HX2 := Lib.hid X2
  have HY2 := Lib.hid Y2
  clear X2 Y2
  go_wp2_with (fail)
  refine wp_still_tail 8 (by kernel_rfl) (by kernel_rfl) ?_
  simp only [List.take_succ_cons, List.take_zero, List.drop_succ_cons, List.drop_zero]
  repeat still_step
  refine wpStill_nil ?_
  go_wp2_with (fail)
  have Y9 := blk_setCell HY2.out (a := ⟨w.heap.size, 1, none⟩) (by simp) (.int .u32 (((s ^^^ 2 ^ (63 - i) : Nat)) : Int))
  have K9 := K2.out.setCell ⟨w.heap.size, 1, none⟩ (.int .u32 (((s ^^^ 2 ^ (63 - i) : Nat)) : Int)) (Or.inr (Nat.le_refl _))
  have E0 := set_block Y9 0 (.int .u32 (d : Int))
  have q0 := cell_of E0 0
  have E1 := set_block E0 1 (.int .u32 (((s ^^^ 2 ^ (63 - i) : Nat)) : Int))
  have q1 := cell_of E1 1
  have E2 := set_block E1 2 (.int .u8 (p : Int))
  have q2 := cell_of E2 2
  have E3 := set_block E2 3 (.int .u16 (sp : Int))
  have q3 := cell_of E3 3
  have E4 := set_block E3 4 (.int .u16 (dp : Int))
  have q4 := cell_of E4 4
  simp at q0 q1 q2 q3 q4
  clear E0 E1 E2 E3 E4
  simp [bodyPost, results, Try.results84, go_sem, q0, q1, q2, q3, q4]
  exact (((((K9.setCell ⟨w.heap.size + 1, 0, none⟩ (.int .u32 (d : Int)) (Or.inr (by simp))).setCell ⟨w.heap.size + 1, 1, none⟩ (.int .u32 (((s ^^^ 2 ^ (63 - i) : Nat)) : Int)) (Or.inr (by simp))).setCell ⟨w.heap.size + 1, 2, none⟩ (.int .u8 (p : Int)) (Or.inr (by simp))).setCell ⟨w.heap.size + 1, 3, none⟩ (.int .u16 (sp : Int)) (Or.inr (by simp))).setCell ⟨w.heap.size + 1, 4, none⟩ (.int .u16 (dp : Int)) (Or.inr (by simp))).drew.below (Nat.le_refl _) (by simp)

set_option maxRecDepth 100000 in
set_option maxHeartbeats 1000000 in
theorem With_proto (w : World) (h : Hd) (hw : h.Wf) (i : Nat) (h0 : 64 ≤ i) (h1 : i < 72) (on : Bool) (hb : h.bit i ≠ on) : Calls Try.prog 84 #[h.val, .int .i64 (i : Int), .bool on] w fun e w' => e = .returned (Hd.flip h i).val ∧ Below w.heap.size w w' := by
  have hbe : (h.bit i == on) = false := by simpa using hb
  have HB := Lib.hid (fun w' => bit_calls w' h i (by omega))
  have hv := hw.proto
  have hw0 : IntKind.i64.wrap ((i : Int) - 64) = ((i - 64 : Nat) : Int) := by rw [IntKind.wrap_i64]; omega
  have hw1 : IntKind.i64.wrap (7 - ((i - 64 : Nat) : Int)) = ((71 - i : Nat) : Int) := by rw [IntKind.wrap_i64]; omega
  have hp2 : 2 ^ (71 - i) < 2 ^ 8 := Nat.pow_lt_pow_right (by omega) (by omega)
  have hw2 : IntKind.u8.wrap (2 ^ (71 - i)) = ((2 ^ (71 - i) : Nat) : Int) := wrapP rfl hp2
  have hw3 : bits .xor .u8 (h.proto : Int) (2 ^ (71 - i)) = ((h.proto ^^^ 2 ^ (71 - i) : Nat) : Int) := by rw [← xorK (k := .u8) rfl hv hp2, Int.natCast_pow]; rfl
  have e : (Hd.flip h i).val = .agg #[.int .u32 (h.dst : Int), .int .u32 (h.src : Int), .int .u8 (((h.proto ^^^ 2 ^ (71 - i) : Nat)) : Int), .int .u16 (h.sport : Int), .int .u16 (h.dport : Int)] := by
    unfold Hd.flip
    rw [if_neg (by omega)]; rw [if_neg (by omega)]; rw [if_pos (by omega)]; rfl
  rw [e]
  clear e hb
  generalize h.bit i = hbit at *
  obtain ⟨d, s, p, sp, dp⟩ := h
  unfold Hd.val at *
  simp only at *
  go_enter Try.func84, Try.ntmps84
  go_wp2_with (fail)
  have K0 := ((Kept.refl [] w).alloc (.cells #[.int .u32 (d : Int), .int .u32 (s : Int), .int .u8 (p : Int), .int .u16 (sp : Int), .int .u16 (dp : Int)] 25)).alloc (.cells #[.int .u32 0, .int .u32 0, .int .u8 0, .int .u16 0, .int .u16 0] 25)
  have X0 := blk_alloc (heap_alloc_new w (.cells #[.int .u32 (d : Int), .int .u32 (s : Int), .int .u8 (p : Int), .int .u16 (sp : Int), .int .u16 (dp : Int)] 25)) (.cells #[.int .u32 0, .int .u32 0, .int .u8 0, .int .u16 0, .int .u16 0] 25)
  have Y0 := heap_alloc_new (w.alloc (.cells #[.int .u32 (d : Int), .int .u32 (s : Int), .int .u8 (p : Int), .int .u16 (sp : Int), .int .u16 (dp : Int)] 25)) (.cells #[.int .u32 0, .int .u32 0, .int .u8 0, .int .u16 0, .int .u16 0] 25)
  rw [show (w.alloc (.cells #[.int .u32 (d : Int), .int .u32 (s : Int), .int .u8 (p : Int), .int .u16 (sp : Int), .int .u16 (dp : Int)] 25)).heap.size = w.heap.size + 1 by simp] at Y0
  generalize (w.alloc (.cells #[.int .u32 (d : Int), .int .u32 (s : Int), .int .u8 (p : Int), .int .u16 (sp : Int), .int .u16 (dp : Int)] 25)).alloc (.cells #[.int .u32 0, .int .u32 0, .int .u8 0, .int .u16 0, .int .u16 0] 25) = w1 at *
  refine (HB.out _).mono ?_
  rintro e w2 ⟨he, k2⟩
  subst he
  have X2 := (k2.block _ (lt_of_block X0)).trans X0
  have Y2 := (k2.block _ (lt_of_block Y0)).trans Y0
  have K2 := Lib.hid (K0.trans (Kept.of_below (S := []) k2) (by simp))
  clear k2 X0 Y0 K0
  have dx := And.intro (cell_of X2 0) (And.intro (cell_of X2 1) (And.intro (cell_of X2 2) (And.intro (cell_of X2 3) (cell_of X2 4))))
  simp only [List.getElem?_toArray, List.getElem?_cons_zero, List.getElem?_cons_succ] at dx
  have fdx := And.intro (unfrozen_of X2 0) (And.intro (unfrozen_of X2 1) (And.intro (unfrozen_of X2 2) (And.intro (unfrozen_of X2 3) (unfrozen_of X2 4))))
  have dy := And.intro (cell_of Y2 0) (And.intro (cell_of Y2 1) (And.intro (cell_of Y2 2) (And.intro (cell_of Y2 3) (cell_of Y2 4))))
  simp only [List.getElem?_toArray, List.getElem?_cons_zero, List.getElem?_cons_succ] at dy
  have fdy := And.intro (unfrozen_of Y2 0) (And.intro (unfrozen_of Y2 1) (And.intro (unfrozen_of Y2 2) (And.intro (unfrozen_of Y2 3) (unfrozen_of Y2 4))))
  have HX2 := Lib.hid X2
  have HY2 := Lib.hid Y2
  clear X2 Y2
  go_wp2_with (fail)
  refine wp_still_tail 8 (by kernel_rfl) (by kernel_rfl) ?_
  simp only [List.take_succ_cons, List.take_zero, List.drop_succ_cons, List.drop_zero]
  repeat still_step
  refine wpStill_nil ?_
  go_wp2_with (fail)
  have Y9 := blk_setCell HY2.out (a := ⟨w.heap.size, 2, none⟩) (by simp) (.int .u8 (((p ^^^ 2 ^ (71 - i) : Nat)) : Int))
  have K9 := K2.out.setCell ⟨w.heap.size, 2, none⟩ (.int .u8 (((p ^^^ 2 ^ (71 - i) : Nat)) : Int)) (Or.inr (Nat.le_refl _))
  have E0 := set_block Y9 0 (.int .u32 (d : Int))
  have q0 := cell_of E0 0
  have E1 := set_block E0 1 (.int .u32 (s : Int))
  have q1 := cell_of E1 1
  have E2 := set_block E1 2 (.int .u8 (((p ^^^ 2 ^ (71 - i) : Nat)) : Int))
  have q2 := cell_of E2 2
  have E3 := set_block E2 3 (.int .u16 (sp : Int))
  have q3 := cell_of E3 3
  have E4 := set_block E3 4 (.int .u16 (dp : Int))
  have q4 := cell_of E4 4
  simp at q0 q1 q2 q3 q4
  clear E0 E1 E2 E3 E4
  simp [bodyPost, results, Try.results84, go_sem, q0, q1, q2, q3, q4]
  exact (((((K9.setCell ⟨w.heap.size + 1, 0, none⟩ (.int .u32 (d : Int)) (Or.inr (by simp))).setCell ⟨w.heap.size + 1, 1, none⟩ (.int .u32 (s : Int)) (Or.inr (by simp))).setCell ⟨w.heap.size + 1, 2, none⟩ (.int .u8 (((p ^^^ 2 ^ (71 - i) : Nat)) : Int)) (Or.inr (by simp))).setCell ⟨w.heap.size + 1, 3, none⟩ (.int .u16 (sp : Int)) (Or.inr (by simp))).setCell ⟨w.heap.size + 1, 4, none⟩ (.int .u16 (dp : Int)) (Or.inr (by simp))).drew.below (Nat.le_refl _) (by simp)

set_option maxRecDepth 100000 in
set_option maxHeartbeats 1000000 in
theorem With_sport (w : World) (h : Hd) (hw : h.Wf) (i : Nat) (h0 : 72 ≤ i) (h1 : i < 88) (on : Bool) (hb : h.bit i ≠ on) : Calls Try.prog 84 #[h.val, .int .i64 (i : Int), .bool on] w fun e w' => e = .returned (Hd.flip h i).val ∧ Below w.heap.size w w' := by
  have hbe : (h.bit i == on) = false := by simpa using hb
  have HB := Lib.hid (fun w' => bit_calls w' h i (by omega))
  have hv := hw.sport
  have hw0 : IntKind.i64.wrap ((i : Int) - 72) = ((i - 72 : Nat) : Int) := by rw [IntKind.wrap_i64]; omega
  have hw1 : IntKind.i64.wrap (15 - ((i - 72 : Nat) : Int)) = ((87 - i : Nat) : Int) := by rw [IntKind.wrap_i64]; omega
  have hp2 : 2 ^ (87 - i) < 2 ^ 16 := Nat.pow_lt_pow_right (by omega) (by omega)
  have hw2 : IntKind.u16.wrap (2 ^ (87 - i)) = ((2 ^ (87 - i) : Nat) : Int) := wrapP rfl hp2
  have hw3 : bits .xor .u16 (h.sport : Int) (2 ^ (87 - i)) = ((h.sport ^^^ 2 ^ (87 - i) : Nat) : Int) := by rw [← xorK (k := .u16) rfl hv hp2, Int.natCast_pow]; rfl
  have e : (Hd.flip h i).val = .agg #[.int .u32 (h.dst : Int), .int .u32 (h.src : Int), .int .u8 (h.proto : Int), .int .u16 (((h.sport ^^^ 2 ^ (87 - i) : Nat)) : Int), .int .u16 (h.dport : Int)] := by
    unfold Hd.flip
    rw [if_neg (by omega)]; rw [if_neg (by omega)]; rw [if_neg (by omega)]; rw [if_pos (by omega)]; rfl
  rw [e]
  clear e hb
  generalize h.bit i = hbit at *
  obtain ⟨d, s, p, sp, dp⟩ := h
  unfold Hd.val at *
  simp only at *
  go_enter Try.func84, Try.ntmps84
  go_wp2_with (fail)
  have K0 := ((Kept.refl [] w).alloc (.cells #[.int .u32 (d : Int), .int .u32 (s : Int), .int .u8 (p : Int), .int .u16 (sp : Int), .int .u16 (dp : Int)] 25)).alloc (.cells #[.int .u32 0, .int .u32 0, .int .u8 0, .int .u16 0, .int .u16 0] 25)
  have X0 := blk_alloc (heap_alloc_new w (.cells #[.int .u32 (d : Int), .int .u32 (s : Int), .int .u8 (p : Int), .int .u16 (sp : Int), .int .u16 (dp : Int)] 25)) (.cells #[.int .u32 0, .int .u32 0, .int .u8 0, .int .u16 0, .int .u16 0] 25)
  have Y0 := heap_alloc_new (w.alloc (.cells #[.int .u32 (d : Int), .int .u32 (s : Int), .int .u8 (p : Int), .int .u16 (sp : Int), .int .u16 (dp : Int)] 25)) (.cells #[.int .u32 0, .int .u32 0, .int .u8 0, .int .u16 0, .int .u16 0] 25)
  rw [show (w.alloc (.cells #[.int .u32 (d : Int), .int .u32 (s : Int), .int .u8 (p : Int), .int .u16 (sp : Int), .int .u16 (dp : Int)] 25)).heap.size = w.heap.size + 1 by simp] at Y0
  generalize (w.alloc (.cells #[.int .u32 (d : Int), .int .u32 (s : Int), .int .u8 (p : Int), .int .u16 (sp : Int), .int .u16 (dp : Int)] 25)).alloc (.cells #[.int .u32 0, .int .u32 0, .int .u8 0, .int .u16 0, .int .u16 0] 25) = w1 at *
  refine (HB.out _).mono ?_
  rintro e w2 ⟨he, k2⟩
  subst he
  have X2 := (k2.block _ (lt_of_block X0)).trans X0
  have Y2 := (k2.block _ (lt_of_block Y0)).trans Y0
  have K2 := Lib.hid (K0.trans (Kept.of_below (S := []) k2) (by simp))
  clear k2 X0 Y0 K0
  have dx := And.intro (cell_of X2 0) (And.intro (cell_of X2 1) (And.intro (cell_of X2 2) (And.intro (cell_of X2 3) (cell_of X2 4))))
  simp only [List.getElem?_toArray, List.getElem?_cons_zero, List.getElem?_cons_succ] at dx
  have fdx := And.intro (unfrozen_of X2 0) (And.intro (unfrozen_of X2 1) (And.intro (unfrozen_of X2 2) (And.intro (unfrozen_of X2 3) (unfrozen_of X2 4))))
  have dy := And.intro (cell_of Y2 0) (And.intro (cell_of Y2 1) (And.intro (cell_of Y2 2) (And.intro (cell_of Y2 3) (cell_of Y2 4))))
  simp only [List.getElem?_toArray, List.getElem?_cons_zero, List.getElem?_cons_succ] at dy
  have fdy := And.intro (unfrozen_of Y2 0) (And.intro (unfrozen_of Y2 1) (And.intro (unfrozen_of Y2 2) (And.intro (unfrozen_of Y2 3) (unfrozen_of Y2 4))))
  have HX2 := Lib.hid X2
  have HY2 := Lib.hid Y2
  clear X2 Y2
  go_wp2_with (fail)
  refine wp_still_tail 8 (by kernel_rfl) (by kernel_rfl) ?_
  simp only [List.take_succ_cons, List.take_zero, List.drop_succ_cons, List.drop_zero]
  repeat still_step
  refine wpStill_nil ?_
  go_wp2_with (fail)
  have Y9 := blk_setCell HY2.out (a := ⟨w.heap.size, 3, none⟩) (by simp) (.int .u16 (((sp ^^^ 2 ^ (87 - i) : Nat)) : Int))
  have K9 := K2.out.setCell ⟨w.heap.size, 3, none⟩ (.int .u16 (((sp ^^^ 2 ^ (87 - i) : Nat)) : Int)) (Or.inr (Nat.le_refl _))
  have E0 := set_block Y9 0 (.int .u32 (d : Int))
  have q0 := cell_of E0 0
  have E1 := set_block E0 1 (.int .u32 (s : Int))
  have q1 := cell_of E1 1
  have E2 := set_block E1 2 (.int .u8 (p : Int))
  have q2 := cell_of E2 2
  have E3 := set_block E2 3 (.int .u16 (((sp ^^^ 2 ^ (87 - i) : Nat)) : Int))
  have q3 := cell_of E3 3
  have E4 := set_block E3 4 (.int .u16 (dp : Int))
  have q4 := cell_of E4 4
  simp at q0 q1 q2 q3 q4
  clear E0 E1 E2 E3 E4
  simp [bodyPost, results, Try.results84, go_sem, q0, q1, q2, q3, q4]
  exact (((((K9.setCell ⟨w.heap.size + 1, 0, none⟩ (.int .u32 (d : Int)) (Or.inr (by simp))).setCell ⟨w.heap.size + 1, 1, none⟩ (.int .u32 (s : Int)) (Or.inr (by simp))).setCell ⟨w.heap.size + 1, 2, none⟩ (.int .u8 (p : Int)) (Or.inr (by simp))).setCell ⟨w.heap.size + 1, 3, none⟩ (.int .u16 (((sp ^^^ 2 ^ (87 - i) : Nat)) : Int)) (Or.inr (by simp))).setCell ⟨w.heap.size + 1, 4, none⟩ (.int .u16 (dp : Int)) (Or.inr (by simp))).drew.below (Nat.le_refl _) (by simp)

set_option maxRecDepth 100000 in
set_option maxHeartbeats 1000000 in
theorem With_dport (w : World) (h : Hd) (hw : h.Wf) (i : Nat) (h0 : 88 ≤ i) (h1 : i < 104) (on : Bool) (hb : h.bit i ≠ on) : Calls Try.prog 84 #[h.val, .int .i64 (i : Int), .bool on] w fun e w' => e = .returned (Hd.flip h i).val ∧ Below w.heap.size w w' := by
  have hbe : (h.bit i == on) = false := by simpa using hb
  have HB := Lib.hid (fun w' => bit_calls w' h i (by omega))
  have hv := hw.dport
  have hw0 : IntKind.i64.wrap ((i : Int) - 88) = ((i - 88 : Nat) : Int) := by rw [IntKind.wrap_i64]; omega
  have hw1 : IntKind.i64.wrap (15 - ((i - 88 : Nat) : Int)) = ((103 - i : Nat) : Int) := by rw [IntKind.wrap_i64]; omega
  have hp2 : 2 ^ (103 - i) < 2 ^ 16 := Nat.pow_lt_pow_right (by omega) (by omega)
  have hw2 : IntKind.u16.wrap (2 ^ (103 - i)) = ((2 ^ (103 - i) : Nat) : Int) := wrapP rfl hp2
  have hw3 : bits .xor .u16 (h.dport : Int) (2 ^ (103 - i)) = ((h.dport ^^^ 2 ^ (103 - i) : Nat) : Int) := by rw [← xorK (k := .u16) rfl hv hp2, Int.natCast_pow]; rfl
  have e : (Hd.flip h i).val = .agg #[.int .u32 (h.dst : Int), .int .u32 (h.src : Int), .int .u8 (h.proto : Int), .int .u16 (h.sport : Int), .int .u16 (((h.dport ^^^ 2 ^ (103 - i) : Nat)) : Int)] := by
    unfold Hd.flip
    rw [if_neg (by omega)]; rw [if_neg (by omega)]; rw [if_neg (by omega)]; rw [if_neg (by omega)]; rfl
  rw [e]
  clear e hb
  generalize h.bit i = hbit at *
  obtain ⟨d, s, p, sp, dp⟩ := h
  unfold Hd.val at *
  simp only at *
  go_enter Try.func84, Try.ntmps84
  go_wp2_with (fail)
  have K0 := ((Kept.refl [] w).alloc (.cells #[.int .u32 (d : Int), .int .u32 (s : Int), .int .u8 (p : Int), .int .u16 (sp : Int), .int .u16 (dp : Int)] 25)).alloc (.cells #[.int .u32 0, .int .u32 0, .int .u8 0, .int .u16 0, .int .u16 0] 25)
  have X0 := blk_alloc (heap_alloc_new w (.cells #[.int .u32 (d : Int), .int .u32 (s : Int), .int .u8 (p : Int), .int .u16 (sp : Int), .int .u16 (dp : Int)] 25)) (.cells #[.int .u32 0, .int .u32 0, .int .u8 0, .int .u16 0, .int .u16 0] 25)
  have Y0 := heap_alloc_new (w.alloc (.cells #[.int .u32 (d : Int), .int .u32 (s : Int), .int .u8 (p : Int), .int .u16 (sp : Int), .int .u16 (dp : Int)] 25)) (.cells #[.int .u32 0, .int .u32 0, .int .u8 0, .int .u16 0, .int .u16 0] 25)
  rw [show (w.alloc (.cells #[.int .u32 (d : Int), .int .u32 (s : Int), .int .u8 (p : Int), .int .u16 (sp : Int), .int .u16 (dp : Int)] 25)).heap.size = w.heap.size + 1 by simp] at Y0
  generalize (w.alloc (.cells #[.int .u32 (d : Int), .int .u32 (s : Int), .int .u8 (p : Int), .int .u16 (sp : Int), .int .u16 (dp : Int)] 25)).alloc (.cells #[.int .u32 0, .int .u32 0, .int .u8 0, .int .u16 0, .int .u16 0] 25) = w1 at *
  refine (HB.out _).mono ?_
  rintro e w2 ⟨he, k2⟩
  subst he
  have X2 := (k2.block _ (lt_of_block X0)).trans X0
  have Y2 := (k2.block _ (lt_of_block Y0)).trans Y0
  have K2 := Lib.hid (K0.trans (Kept.of_below (S := []) k2) (by simp))
  clear k2 X0 Y0 K0
  have dx := And.intro (cell_of X2 0) (And.intro (cell_of X2 1) (And.intro (cell_of X2 2) (And.intro (cell_of X2 3) (cell_of X2 4))))
  simp only [List.getElem?_toArray, List.getElem?_cons_zero, List.getElem?_cons_succ] at dx
  have fdx := And.intro (unfrozen_of X2 0) (And.intro (unfrozen_of X2 1) (And.intro (unfrozen_of X2 2) (And.intro (unfrozen_of X2 3) (unfrozen_of X2 4))))
  have dy := And.intro (cell_of Y2 0) (And.intro (cell_of Y2 1) (And.intro (cell_of Y2 2) (And.intro (cell_of Y2 3) (cell_of Y2 4))))
  simp only [List.getElem?_toArray, List.getElem?_cons_zero, List.getElem?_cons_succ] at dy
  have fdy := And.intro (unfrozen_of Y2 0) (And.intro (unfrozen_of Y2 1) (And.intro (unfrozen_of Y2 2) (And.intro (unfrozen_of Y2 3) (unfrozen_of Y2 4))))
  have HX2 := Lib.hid X2
  have HY2 := Lib.hid Y2
  clear X2 Y2
  go_wp2_with (fail)
  refine wp_still_tail 8 (by kernel_rfl) (by kernel_rfl) ?_
  simp only [List.take_succ_cons, List.take_zero, List.drop_succ_cons, List.drop_zero]
  repeat still_step
  refine wpStill_nil ?_
  go_wp2_with (fail)
  have Y9 := blk_setCell HY2.out (a := ⟨w.heap.size, 4, none⟩) (by simp) (.int .u16 (((dp ^^^ 2 ^ (103 - i) : Nat)) : Int))
  have K9 := K2.out.setCell ⟨w.heap.size, 4, none⟩ (.int .u16 (((dp ^^^ 2 ^ (103 - i) : Nat)) : Int)) (Or.inr (Nat.le_refl _))
  have E0 := set_block Y9 0 (.int .u32 (d : Int))
  have q0 := cell_of E0 0
  have E1 := set_block E0 1 (.int .u32 (s : Int))
  have q1 := cell_of E1 1
  have E2 := set_block E1 2 (.int .u8 (p : Int))
  have q2 := cell_of E2 2
  have E3 := set_block E2 3 (.int .u16 (sp : Int))
  have q3 := cell_of E3 3
  have E4 := set_block E3 4 (.int .u16 (((dp ^^^ 2 ^ (103 - i) : Nat)) : Int))
  have q4 := cell_of E4 4
  simp at q0 q1 q2 q3 q4
  clear E0 E1 E2 E3 E4
  simp [bodyPost, results, Try.results84, go_sem, q0, q1, q2, q3, q4]
  exact (((((K9.setCell ⟨w.heap.size + 1, 0, none⟩ (.int .u32 (d : Int)) (Or.inr (by simp))).setCell ⟨w.heap.size + 1, 1, none⟩ (.int .u32 (s : Int)) (Or.inr (by simp))).setCell ⟨w.heap.size + 1, 2, none⟩ (.int .u8 (p : Int)) (Or.inr (by simp))).setCell ⟨w.heap.size + 1, 3, none⟩ (.int .u16 (sp : Int)) (Or.inr (by simp))).setCell ⟨w.heap.size + 1, 4, none⟩ (.int .u16 (((dp ^^^ 2 ^ (103 - i) : Nat)) : Int)) (Or.inr (by simp))).drew.below (Nat.le_refl _) (by simp)

/-- A header with a bit so. -/
theorem With_calls (w : World) (h : Hd) (hw : h.Wf) (i : Nat) (hi : i < 104) (on : Bool) : Calls Try.prog 84 #[h.val, .int .i64 (i : Int), .bool on] w fun e w' => e = .returned (h.put i on).val ∧ Below w.heap.size w w' := by
  unfold Hd.put
  split
  · exact With_same w h i hi on (by assumption)
  · rename_i hb
    have hc : i < 32 ∨ (32 ≤ i ∧ i < 64) ∨ (64 ≤ i ∧ i < 72) ∨ (72 ≤ i ∧ i < 88) ∨ (88 ≤ i ∧ i < 104) := by omega
    rcases hc with h1 | ⟨h0, h1⟩ | ⟨h0, h1⟩ | ⟨h0, h1⟩ | ⟨h0, h1⟩
    · exact With_dst w h hw i (Nat.zero_le _) h1 on hb
    · exact With_src w h hw i h0 h1 on hb
    · exact With_proto w h hw i h0 h1 on hb
    · exact With_sport w h hw i h0 h1 on hb
    · exact With_dport w h hw i h0 h1 on hb

end Go.Proofs.Ytakgghhmecphmaa
