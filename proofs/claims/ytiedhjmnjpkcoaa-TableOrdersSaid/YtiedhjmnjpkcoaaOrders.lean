/- The law TableOrders. -/
import Derived.Test.YtiedhjmnjpkcoaaAwake11
import Derived.Test.YtiedhjmnjpkcoaaArgsR
import Derived.Deep.RegionHeld3
namespace Go.Proofs.Ytiedhjmnjpkcoaa
set_option linter.unusedVariables false
set_option linter.unusedSimpArgs false
open Go.RowKit

/-- Compare, with what is kept. -/
theorem compare_below (w : World) (a b : Rl) : Calls Try.prog 15 #[a.val, b.val] w fun e w' => e = .returned (.int .i64 (cmpR a b)) ∧ Below w.heap.size w w' :=
  (compare_calls w a b).mono fun e w' ⟨he, q, os, hw⟩ => ⟨he, by
    subst hw
    exact ⟨rfl, rfl, rfl, by simp [Sort.grow], fun k hk => Sort.heap_grow_old _ _ hk⟩⟩

/-- Three boxes of rules. -/
structure Bx3 (w0 w : World) (a b c : Rl) : Prop where
  xa : RBx w w0.heap.size a
  xb : RBx w (w0.heap.size + 1) b
  xc : RBx w (w0.heap.size + 2) c
  kept : Below w0.heap.size w0 w
theorem Bx3.next {w0 w w' : World} {a b c : Rl} (h : Bx3 w0 w a b c) (k : Below w.heap.size w w') : Bx3 w0 w' a b c :=
  ⟨(k.block _ (lt_of_block h.xa)).trans h.xa, (k.block _ (lt_of_block h.xb)).trans h.xb, (k.block _ (lt_of_block h.xc)).trans h.xc, h.kept.trans (k.mono h.kept.size)⟩
theorem Bx3.drew {w0 w : World} {a b c : Rl} (h : Bx3 w0 w a b c) : Bx3 w0 w.drew a b c := h.next ((Kept.refl [] w).drew.below (Nat.le_refl _) (by simp))
theorem Bx3.cells {w0 w : World} {a b c : Rl} (h : Bx3 w0 w a b c) : w.cell? ⟨w0.heap.size, 0, none⟩ = some (.int .i64 a.id) ∧ w.cell? ⟨w0.heap.size, 1, none⟩ = some (.int .i64 a.dev) ∧ w.cell? ⟨w0.heap.size, 2, none⟩ = some (.int .u32 (a.addr : Int)) ∧ w.cell? ⟨w0.heap.size, 3, none⟩ = some (.int .i64 a.bits) ∧ w.cell? ⟨w0.heap.size, 4, none⟩ = some (.int .i64 a.prio) ∧ w.cell? ⟨w0.heap.size, 5, none⟩ = some (.int .i64 a.out) ∧ w.cell? ⟨w0.heap.size + 1, 0, none⟩ = some (.int .i64 b.id) ∧ w.cell? ⟨w0.heap.size + 1, 1, none⟩ = some (.int .i64 b.dev) ∧ w.cell? ⟨w0.heap.size + 1, 2, none⟩ = some (.int .u32 (b.addr : Int)) ∧ w.cell? ⟨w0.heap.size + 1, 3, none⟩ = some (.int .i64 b.bits) ∧ w.cell? ⟨w0.heap.size + 1, 4, none⟩ = some (.int .i64 b.prio) ∧ w.cell? ⟨w0.heap.size + 1, 5, none⟩ = some (.int .i64 b.out) ∧ w.cell? ⟨w0.heap.size + 2, 0, none⟩ = some (.int .i64 c.id) ∧ w.cell? ⟨w0.heap.size + 2, 1, none⟩ = some (.int .i64 c.dev) ∧ w.cell? ⟨w0.heap.size + 2, 2, none⟩ = some (.int .u32 (c.addr : Int)) ∧ w.cell? ⟨w0.heap.size + 2, 3, none⟩ = some (.int .i64 c.bits) ∧ w.cell? ⟨w0.heap.size + 2, 4, none⟩ = some (.int .i64 c.prio) ∧ w.cell? ⟨w0.heap.size + 2, 5, none⟩ = some (.int .i64 c.out) :=
  ⟨h.xa.cells.1, h.xa.cells.2.1, h.xa.cells.2.2.1, h.xa.cells.2.2.2.1, h.xa.cells.2.2.2.2.1, h.xa.cells.2.2.2.2.2, h.xb.cells.1, h.xb.cells.2.1, h.xb.cells.2.2.1, h.xb.cells.2.2.2.1, h.xb.cells.2.2.2.2.1, h.xb.cells.2.2.2.2.2, h.xc.cells.1, h.xc.cells.2.1, h.xc.cells.2.2.1, h.xc.cells.2.2.2.1, h.xc.cells.2.2.2.2.1, h.xc.cells.2.2.2.2.2⟩
theorem cmpR_neg (a b : Rl) : cmpR b a = -cmpR a b := by
  unfold cmpR
  rw [cmpI_neg a.prio, cmpI_neg a.bits, cmpI_neg a.id b.id]
  unfold or3
  split <;> split <;> (try split) <;> (try split) <;> omega
theorem cmpR_self (a : Rl) : cmpR a a = 0 := by simp [cmpR, cmpI_self, or3]

set_option maxRecDepth 100000 in
set_option maxHeartbeats 2000000 in
theorem orders_calls (w : World) (a b c : Rl) : Calls Try.prog 3 #[a.val, b.val, c.val] w fun e w' => e = .returned (.bool true) ∧ Below w.heap.size w w' := by
  have hb0 : Bx3 w (((w.alloc (.cells a.cells.toArray 26)).alloc (.cells b.cells.toArray 26)).alloc (.cells c.cells.toArray 26)) a b c := by
    have e1 : (w.alloc (.cells a.cells.toArray 26)).heap.size = w.heap.size + 1 := by simp
    have e2 : ((w.alloc (.cells a.cells.toArray 26)).alloc (.cells b.cells.toArray 26)).heap.size = w.heap.size + 2 := by simp
    refine ⟨?_, ?_, ?_, (((Below.refl _ _).alloc (Nat.le_refl _) _).alloc (by simp) _).alloc (by simp; omega) _⟩
    · exact blk_alloc (blk_alloc (heap_alloc_new w _) _) _
    · have := heap_alloc_new (w.alloc (.cells a.cells.toArray 26)) (.cells b.cells.toArray 26)
      rw [e1] at this
      exact blk_alloc this _
    · have := heap_alloc_new ((w.alloc (.cells a.cells.toArray 26)).alloc (.cells b.cells.toArray 26)) (.cells c.cells.toArray 26)
      rw [e2] at this
      exact this
  have hbac := cmpR_neg a b
  have haa := cmpR_self a
  have hz : cmpR a b = 0 → a.id = b.id ∧ a.prio = b.prio := fun h0 => by
    have h1 : ¬ aheadR a b = true := by rw [← cmpR_ahead, h0]; decide
    have h2 : ¬ aheadR b a = true := by rw [← cmpR_ahead, hbac, h0]; decide
    rw [ahead_iff] at h1 h2
    omega
  have htr : cmpR a b < 0 → cmpR b c < 0 → cmpR a c < 0 := fun h1 h2 => by
    have h1' : aheadR a b = true := by rw [← cmpR_ahead]; exact decide_eq_true h1
    have h2' : aheadR b c = true := by rw [← cmpR_ahead]; exact decide_eq_true h2
    have h3 : aheadR a c = true := by rw [ahead_iff] at *; omega
    rw [← cmpR_ahead] at h3
    exact of_decide_eq_true h3
  have hr : cmpR a b = -1 ∨ cmpR a b = 0 ∨ cmpR a b = 1 := by
    unfold cmpR or3 cmpI
    repeat' split
    all_goals omega
  have hah := cmpR_ahead a b
  have HAH := Lib.hid (fun W => ahead_calls W a b)
  obtain ⟨a0, a1, a2, a3, a4, a5⟩ := a
  obtain ⟨b0, b1, b2, b3, b4, b5⟩ := b
  obtain ⟨c0, c1, c2, c3, c4, c5⟩ := c
  have HB0 := Lib.hid hb0
  clear hb0
  unfold Rl.cells at HB0
  unfold Rl.val at *
  simp only at *
  have HBAC := Lib.hid hbac
  have HAA := Lib.hid haa
  have HZ := Lib.hid hz
  have HTR := Lib.hid htr
  have HR := Lib.hid hr
  have HDA := Lib.hid hah
  clear hbac haa hz htr hr hah
  go_enter Try.func3, Try.ntmps3
  go_wp2_with (fail)
  have HC : Hid (∀ W (x0 x1 : Int) (x2 : Nat) (x3 x4 x5 y0 y1 : Int) (y2 : Nat) (y3 y4 y5 : Int), Bx3 w W ⟨a0, a1, a2, a3, a4, a5⟩ ⟨b0, b1, b2, b3, b4, b5⟩ ⟨c0, c1, c2, c3, c4, c5⟩ → Calls Try.prog 15 #[.agg #[.int .i64 x0, .int .i64 x1, .int .u32 (x2 : Int), .int .i64 x3, .int .i64 x4, .int .i64 x5], .agg #[.int .i64 y0, .int .i64 y1, .int .u32 (y2 : Int), .int .i64 y3, .int .i64 y4, .int .i64 y5]] W fun e w' => e = .returned (.int .i64 (cmpR ⟨x0, x1, x2, x3, x4, x5⟩ ⟨y0, y1, y2, y3, y4, y5⟩)) ∧ Bx3 w w' ⟨a0, a1, a2, a3, a4, a5⟩ ⟨b0, b1, b2, b3, b4, b5⟩ ⟨c0, c1, c2, c3, c4, c5⟩) := Lib.hid fun W x0 x1 x2 x3 x4 x5 y0 y1 y2 y3 y4 y5 hB => (compare_below W ⟨x0, x1, x2, x3, x4, x5⟩ ⟨y0, y1, y2, y3, y4, y5⟩).mono fun e w' ⟨he, k⟩ => ⟨he, hB.next k⟩
  generalize ((w.alloc (.cells #[.int .i64 a0, .int .i64 a1, .int .u32 (a2 : Int), .int .i64 a3, .int .i64 a4, .int .i64 a5] 26)).alloc (.cells #[.int .i64 b0, .int .i64 b1, .int .u32 (b2 : Int), .int .i64 b3, .int .i64 b4, .int .i64 b5] 26)).alloc (.cells #[.int .i64 c0, .int .i64 c1, .int .u32 (c2 : Int), .int .i64 c3, .int .i64 c4, .int .i64 c5] 26) = w3 at *
  have hB1 := HB0.out.drew
  have hS1 := hB1.cells
  go_region_held3 (fun w' => w'.cell? ⟨w.heap.size, 0, none⟩ = some (.int .i64 a0) ∧ w'.cell? ⟨w.heap.size, 1, none⟩ = some (.int .i64 a1) ∧ w'.cell? ⟨w.heap.size, 2, none⟩ = some (.int .u32 (a2 : Int)) ∧ w'.cell? ⟨w.heap.size, 3, none⟩ = some (.int .i64 a3) ∧ w'.cell? ⟨w.heap.size, 4, none⟩ = some (.int .i64 a4) ∧ w'.cell? ⟨w.heap.size, 5, none⟩ = some (.int .i64 a5) ∧ w'.cell? ⟨w.heap.size + 1, 0, none⟩ = some (.int .i64 b0) ∧ w'.cell? ⟨w.heap.size + 1, 1, none⟩ = some (.int .i64 b1) ∧ w'.cell? ⟨w.heap.size + 1, 2, none⟩ = some (.int .u32 (b2 : Int)) ∧ w'.cell? ⟨w.heap.size + 1, 3, none⟩ = some (.int .i64 b3) ∧ w'.cell? ⟨w.heap.size + 1, 4, none⟩ = some (.int .i64 b4) ∧ w'.cell? ⟨w.heap.size + 1, 5, none⟩ = some (.int .i64 b5) ∧ w'.cell? ⟨w.heap.size + 2, 0, none⟩ = some (.int .i64 c0) ∧ w'.cell? ⟨w.heap.size + 2, 1, none⟩ = some (.int .i64 c1) ∧ w'.cell? ⟨w.heap.size + 2, 2, none⟩ = some (.int .u32 (c2 : Int)) ∧ w'.cell? ⟨w.heap.size + 2, 3, none⟩ = some (.int .i64 c3) ∧ w'.cell? ⟨w.heap.size + 2, 4, none⟩ = some (.int .i64 c4) ∧ w'.cell? ⟨w.heap.size + 2, 5, none⟩ = some (.int .i64 c5)) (first | assumption | exact (Bx3.cells (by assumption)))
    (first | (go_at_call 15; refine Calls.mono (HC.out _ _ _ _ _ _ _ _ _ _ _ _ _ (by assumption)) ?_; rintro e w' ⟨rfl, hB⟩; have hS := hB.cells))
  clear hS1 hB1
  have hBz := hB
  rcases HR.out with hx | hx | hx
  · have hba : cmpR ⟨b0, b1, b2, b3, b4, b5⟩ ⟨a0, a1, a2, a3, a4, a5⟩ = 1 := by rw [HBAC.out, hx]; rfl
    have hda : aheadR ⟨a0, a1, a2, a3, a4, a5⟩ ⟨b0, b1, b2, b3, b4, b5⟩ = true := by rw [← HDA.out, hx]; rfl
    have haa := HAA.out
    have HTX := Lib.hid (show cmpR ⟨b0, b1, b2, b3, b4, b5⟩ ⟨c0, c1, c2, c3, c4, c5⟩ < 0 → cmpR ⟨a0, a1, a2, a3, a4, a5⟩ ⟨c0, c1, c2, c3, c4, c5⟩ < 0 from fun h => HTR.out (by rw [hx]; decide) h)
    rw [hx]
    generalize cmpR ⟨b0, b1, b2, b3, b4, b5⟩ ⟨c0, c1, c2, c3, c4, c5⟩ = y at *
    generalize cmpR ⟨a0, a1, a2, a3, a4, a5⟩ ⟨c0, c1, c2, c3, c4, c5⟩ = z at *
    go_wp2_with (fail)
    refine Calls.mono (HC.out _ _ _ _ _ _ _ _ _ _ _ _ _ (by assumption)) ?_
    rintro e w4 ⟨he, hB4⟩
    rw [hba] at he
    subst he
    have hS4 := hB4.cells
    go_wp2_with (fail)
    refine Calls.mono (HC.out _ _ _ _ _ _ _ _ _ _ _ _ _ hB4) ?_
    rintro e w5 ⟨he, hB5⟩
    rw [haa] at he
    subst he
    have hS5 := hB5.cells
    go_wp2_with (fail)
    refine Calls.mono (HAH.out _) ?_
    rintro e w6 ⟨he, k6⟩
    rw [hda] at he
    subst he
    have K6 := Lib.hid (hB5.kept.trans (k6.mono hB5.kept.size))
    go_wp2_with (fail)
    refine Calls.mono (awake11_calls _) ?_
    rintro e w7 ⟨he, k7⟩
    subst he
    have K7 := Lib.hid (K6.out.trans (k7.mono K6.out.size))
    by_cases hy : 0 ≤ y
    · go_wp2_with (fail)
      go_ret
      exact ⟨rfl, K7.out⟩
    · have hzz := HTX.out (by omega)
      go_wp2_with (fail)
      go_ret
      exact ⟨rfl, K7.out⟩
  · have hba : cmpR ⟨b0, b1, b2, b3, b4, b5⟩ ⟨a0, a1, a2, a3, a4, a5⟩ = 0 := by rw [HBAC.out, hx]; rfl
    obtain ⟨hi0, hp0⟩ := HZ.out hx
    subst hi0
    subst hp0
    have hda : aheadR ⟨a0, a1, a2, a3, a4, a5⟩ ⟨a0, b1, b2, b3, a4, b5⟩ = false := by rw [← HDA.out, hx]; rfl
    have haa := HAA.out
    rw [hx]
    generalize cmpR ⟨a0, b1, b2, b3, a4, b5⟩ ⟨c0, c1, c2, c3, c4, c5⟩ = y at *
    generalize cmpR ⟨a0, a1, a2, a3, a4, a5⟩ ⟨c0, c1, c2, c3, c4, c5⟩ = z at *
    go_wp2_with (fail)
    refine Calls.mono (HC.out _ _ _ _ _ _ _ _ _ _ _ _ _ (by assumption)) ?_
    rintro e w4 ⟨he, hB4⟩
    rw [hba] at he
    subst he
    have hS4 := hB4.cells
    go_wp2_with (fail)
    refine Calls.mono (HC.out _ _ _ _ _ _ _ _ _ _ _ _ _ hB4) ?_
    rintro e w5 ⟨he, hB5⟩
    rw [haa] at he
    subst he
    have hS5 := hB5.cells
    go_wp2_with (fail)
    refine Calls.mono (HAH.out _) ?_
    rintro e w6 ⟨he, k6⟩
    rw [hda] at he
    subst he
    have K6 := Lib.hid (hB5.kept.trans (k6.mono hB5.kept.size))
    go_wp2_with (fail)
    refine Calls.mono (awake11_calls _) ?_
    rintro e w7 ⟨he, k7⟩
    subst he
    have K7 := Lib.hid (K6.out.trans (k7.mono K6.out.size))
    go_wp2_with (fail)
    go_ret
    exact ⟨rfl, K7.out⟩
  · have hba : cmpR ⟨b0, b1, b2, b3, b4, b5⟩ ⟨a0, a1, a2, a3, a4, a5⟩ = -1 := by rw [HBAC.out, hx]
    have hda : aheadR ⟨a0, a1, a2, a3, a4, a5⟩ ⟨b0, b1, b2, b3, b4, b5⟩ = false := by rw [← HDA.out, hx]; rfl
    have haa := HAA.out
    rw [hx]
    generalize cmpR ⟨b0, b1, b2, b3, b4, b5⟩ ⟨c0, c1, c2, c3, c4, c5⟩ = y at *
    generalize cmpR ⟨a0, a1, a2, a3, a4, a5⟩ ⟨c0, c1, c2, c3, c4, c5⟩ = z at *
    go_wp2_with (fail)
    refine Calls.mono (HC.out _ _ _ _ _ _ _ _ _ _ _ _ _ (by assumption)) ?_
    rintro e w4 ⟨he, hB4⟩
    rw [hba] at he
    subst he
    have hS4 := hB4.cells
    go_wp2_with (fail)
    refine Calls.mono (HC.out _ _ _ _ _ _ _ _ _ _ _ _ _ hB4) ?_
    rintro e w5 ⟨he, hB5⟩
    rw [haa] at he
    subst he
    have hS5 := hB5.cells
    go_wp2_with (fail)
    refine Calls.mono (HAH.out _) ?_
    rintro e w6 ⟨he, k6⟩
    rw [hda] at he
    subst he
    have K6 := Lib.hid (hB5.kept.trans (k6.mono hB5.kept.size))
    go_wp2_with (fail)
    refine Calls.mono (awake11_calls _) ?_
    rintro e w7 ⟨he, k7⟩
    subst he
    have K7 := Lib.hid (K6.out.trans (k7.mono K6.out.size))
    go_wp2_with (fail)
    go_ret
    exact ⟨rfl, K7.out⟩

theorem orders_row (u v x : Value) (hu : ArgRl u) (hv : ArgRl v) (hx : ArgRl x) (w : World) : Calls Try.prog 3 #[u, v, x] w fun e w' => e = .returned (.bool true) ∧ Below w.heap.size w w' := by
  obtain ⟨a, _, _, _, _, _, _, rfl⟩ := hu
  obtain ⟨b, _, _, _, _, _, _, rfl⟩ := hv
  obtain ⟨c, _, _, _, _, _, _, rfl⟩ := hx
  exact orders_calls w a b c
end Go.Proofs.Ytiedhjmnjpkcoaa
