/- Rules: their order, and the walks of Compare and of the document's Ahead. -/
import Derived.Test.YtjoblahedgpgbaaGreatCid
import Derived.Deep.RegionHeld3
import Derived.Sort.Grow
import Derived.Sort.Statements
namespace Go.Proofs.YtjoblahedgpgbaaGreat
set_option linter.unusedVariables false
set_option linter.unusedSimpArgs false
open Go.RowKit

structure Rl where
  id : Int
  dev : Int
  addr : Nat
  bits : Int
  prio : Int
  out : Int
deriving DecidableEq
def Rl.cells (r : Rl) : List Value := [.int .i64 r.id, .int .i64 r.dev, .int .u32 (r.addr : Int), .int .i64 r.bits, .int .i64 r.prio, .int .i64 r.out]
def Rl.val (r : Rl) : Value := .agg #[.int .i64 r.id, .int .i64 r.dev, .int .u32 (r.addr : Int), .int .i64 r.bits, .int .i64 r.prio, .int .i64 r.out]
def Rl.dst (r : Rl) : Pf := ⟨r.addr, r.bits⟩

def cmpI (x y : Int) : Int := if x < y then -1 else if y < x then 1 else 0
def or3 (a b c : Int) : Int := if a ≠ 0 then a else if b ≠ 0 then b else c
/-- Which of two rules is asked first. -/
def cmpR (a b : Rl) : Int := or3 (cmpI b.prio a.prio) (cmpI b.bits a.bits) (cmpI a.id b.id)
/-- The document's. -/
def aheadR (a b : Rl) : Bool := if a.prio ≠ b.prio then decide (b.prio < a.prio) else if a.bits ≠ b.bits then decide (b.bits < a.bits) else decide (a.id < b.id)

theorem cmpI_neg (x y : Int) : cmpI y x = -cmpI x y := by unfold cmpI; split <;> split <;> omega
theorem cmpI_self (x : Int) : cmpI x x = 0 := by simp [cmpI]
theorem cmpI_zero {x y : Int} : cmpI x y = 0 ↔ x = y := by unfold cmpI; split <;> (try split) <;> omega
theorem cmpI_lt {x y : Int} : cmpI x y < 0 ↔ x < y := by unfold cmpI; split <;> (try split) <;> omega
theorem cmpR_ahead (a b : Rl) : decide (cmpR a b < 0) = aheadR a b := by
  unfold cmpR or3 aheadR
  by_cases h1 : a.prio = b.prio
  · rw [h1, cmpI_self]
    by_cases h2 : a.bits = b.bits
    · rw [h2, cmpI_self]
      simp [cmpI_lt]
    · have : cmpI b.bits a.bits ≠ 0 := fun h => h2 (cmpI_zero.1 h).symm
      simp [h2, this, cmpI_lt]
  · have : cmpI b.prio a.prio ≠ 0 := fun h => h1 (cmpI_zero.1 h).symm
    simp [h1, this, cmpI_lt]
theorem ahead_iff (a b : Rl) : aheadR a b = true ↔ (b.prio < a.prio ∨ (a.prio = b.prio ∧ (b.bits < a.bits ∨ (a.bits = b.bits ∧ a.id < b.id)))) := by
  unfold aheadR
  by_cases h1 : a.prio = b.prio
  · by_cases h2 : a.bits = b.bits
    · simp [h1, h2]
    · simp [h1, h2]
  · simp [h1]
theorem ahead_false (a b : Rl) : aheadR a b = false ↔ ¬ (b.prio < a.prio ∨ (a.prio = b.prio ∧ (b.bits < a.bits ∨ (a.bits = b.bits ∧ a.id < b.id)))) := by
  rw [← ahead_iff]; simp

theorem isNaN_calls (w : World) (x : Int) : Calls Tryz.prog 189 #[.int .i64 x] w fun e w' => e = .returned (.bool false) ∧ w' = w := by
  go_enter Tryz.func189, Tryz.ntmps189
  go_wp2
  go_ret
  exact ⟨by simp, rfl⟩

theorem cmpI_calls (w : World) (x y : Int) : Calls Tryz.prog 114 #[.int .i64 x, .int .i64 y] w fun e w' => e = .returned (.int .i64 (cmpI x y)) ∧ w' = w := by
  have HN := Lib.hid isNaN_calls
  unfold cmpI
  by_cases h : x < y
  · rw [if_pos h]
    go_enter Tryz.func114, Tryz.ntmps114
    go_wp2_with (go_at_call 189; refine (HN.out _ _).mono ?_; rintro e w' ⟨rfl, rfl⟩)
    go_ret
    exact ⟨rfl, rfl⟩
  · rw [if_neg h]
    by_cases h2 : y < x
    · rw [if_pos h2]
      go_enter Tryz.func114, Tryz.ntmps114
      go_wp2_with (go_at_call 189; refine (HN.out _ _).mono ?_; rintro e w' ⟨rfl, rfl⟩)
      go_ret
      exact ⟨rfl, rfl⟩
    · rw [if_neg h2]
      go_enter Tryz.func114, Tryz.ntmps114
      go_wp2_with (go_at_call 189; refine (HN.out _ _).mono ?_; rintro e w' ⟨rfl, rfl⟩)
      go_ret
      exact ⟨rfl, rfl⟩

set_option maxRecDepth 100000 in
theorem or3_calls (w : World) (g : Nat) (a b c : Int) (h0 : w.cell? ⟨g, 0, none⟩ = some (.int .i64 a)) (h1 : w.cell? ⟨g, 1, none⟩ = some (.int .i64 b)) (h2 : w.cell? ⟨g, 2, none⟩ = some (.int .i64 c)) :
    Calls Tryz.prog 258 #[.slice (some ⟨g, 0, none⟩) 3 3] w fun e w' => e = .returned (.int .i64 (or3 a b c)) ∧ w' = w := by
  unfold or3
  by_cases ha : a = 0
  · by_cases hb : b = 0
    · by_cases hc : c = 0
      · subst ha hb hc
        rw [if_neg (by simp), if_neg (by simp)]
        go_enter Tryz.func258, Tryz.ntmps258
        go_wp2_with (refine wp_loop_rounds 4 ?_)
        repeat (rw [rounds_succ]; go_wp2_with (fail))
        go_ret
        exact ⟨rfl, rfl⟩
      · have t : (c != 0) = true := by rw [bne_iff_ne]; exact hc
        subst ha hb
        rw [if_neg (by simp), if_neg (by simp)]
        go_enter Tryz.func258, Tryz.ntmps258
        go_wp2_with (refine wp_loop_rounds 4 ?_)
        repeat (rw [rounds_succ]; go_wp2_with (fail))
        go_ret
        exact ⟨rfl, rfl⟩
    · have t : (b != 0) = true := by rw [bne_iff_ne]; exact hb
      subst ha
      rw [if_neg (by simp), if_pos hb]
      go_enter Tryz.func258, Tryz.ntmps258
      go_wp2_with (refine wp_loop_rounds 4 ?_)
      repeat (rw [rounds_succ]; go_wp2_with (fail))
      go_ret
      exact ⟨rfl, rfl⟩
  · have t : (a != 0) = true := by rw [bne_iff_ne]; exact ha
    rw [if_pos ha]
    go_enter Tryz.func258, Tryz.ntmps258
    go_wp2_with (refine wp_loop_rounds 4 ?_)
    repeat (rw [rounds_succ]; go_wp2_with (fail))
    go_ret
    exact ⟨rfl, rfl⟩

def RBx (w : World) (b : Nat) (r : Rl) : Prop := w.heap[b]? = some (.cells #[.int .i64 r.id, .int .i64 r.dev, .int .u32 (r.addr : Int), .int .i64 r.bits, .int .i64 r.prio, .int .i64 r.out] 89 (0, 0))
theorem RBx.cells {w : World} {b : Nat} {r : Rl} (h : RBx w b r) : w.cell? ⟨b, 0, none⟩ = some (.int .i64 r.id) ∧ w.cell? ⟨b, 1, none⟩ = some (.int .i64 r.dev) ∧ w.cell? ⟨b, 2, none⟩ = some (.int .u32 (r.addr : Int)) ∧
    w.cell? ⟨b, 3, none⟩ = some (.int .i64 r.bits) ∧ w.cell? ⟨b, 4, none⟩ = some (.int .i64 r.prio) ∧ w.cell? ⟨b, 5, none⟩ = some (.int .i64 r.out) := by
  unfold RBx at h
  exact ⟨cell_of h 0, cell_of h 1, cell_of h 2, cell_of h 3, cell_of h 4, cell_of h 5⟩

theorem cells3 {W : World} {k : Nat} {x y z : Value} {t : TypeId} (hk : k = W.heap.size) : (W.alloc (.cells #[x, y, z] t)).drew.cell? ⟨k, 0, none⟩ = some x ∧ (W.alloc (.cells #[x, y, z] t)).drew.cell? ⟨k, 1, none⟩ = some y ∧ (W.alloc (.cells #[x, y, z] t)).drew.cell? ⟨k, 2, none⟩ = some z := by
  subst hk
  have h := blk_drew (heap_alloc_new W (.cells #[x, y, z] t))
  exact ⟨cell_of h 0, cell_of h 1, cell_of h 2⟩
set_option maxRecDepth 100000 in
set_option maxHeartbeats 1000000 in
theorem compare_calls (w : World) (a b : Rl) : Calls Tryz.prog 246 #[a.val, b.val] w fun e w' => e = .returned (.int .i64 (cmpR a b)) ∧ ∃ q os, w' = Sort.grow (w.drewN q) os := by
  have HC := Lib.hid cmpI_calls
  have HO := Lib.hid or3_calls
  have hcmp : cmpR a b = or3 (cmpI b.prio a.prio) (cmpI b.bits a.bits) (cmpI a.id b.id) := rfl
  have HCMP := Lib.hid hcmp
  obtain ⟨a0, a1, a2, a3, a4, a5⟩ := a
  obtain ⟨b0, b1, b2, b3, b4, b5⟩ := b
  unfold Rl.val
  simp only at *
  clear hcmp
  go_enter Tryz.func246, Tryz.ntmps246
  go_wp2_with (fail)
  go_region_held3 (fun w' => w'.cell? ⟨w.heap.size, 0, none⟩ = some (.int .i64 a0) ∧ w'.cell? ⟨w.heap.size, 3, none⟩ = some (.int .i64 a3) ∧ w'.cell? ⟨w.heap.size, 4, none⟩ = some (.int .i64 a4) ∧
      w'.cell? ⟨w.heap.size + 1, 0, none⟩ = some (.int .i64 b0) ∧ w'.cell? ⟨w.heap.size + 1, 3, none⟩ = some (.int .i64 b3) ∧ w'.cell? ⟨w.heap.size + 1, 4, none⟩ = some (.int .i64 b4)) (go_simp)
    (first | (go_at_call 114; refine Calls.mono (HC.out _ _ _) ?_; rintro e w' ⟨rfl, rfl⟩) | (go_at_call 258; refine Calls.mono (HO.out _ _ _ _ _ (cells3 (by simp)).1 (cells3 (by simp)).2.1 (cells3 (by simp)).2.2) ?_; rintro e w' ⟨rfl, rfl⟩))
  all_goals
    go_wp2
    go_ret
    exact ⟨by rw [HCMP.out]; rfl, 1, _, by rw [Sort.alloc_eq_grow, Sort.alloc_eq_grow, Sort.alloc_eq_grow, Sort.grow_grow, Sort.grow_grow, Sort.drew_grow]; rfl⟩

/-- The document's Ahead. -/
theorem ahead_calls (w : World) (a b : Rl) : Calls Tryz.prog 185 #[a.val, b.val] w fun e w' => e = .returned (.bool (aheadR a b)) ∧ Below w.heap.size w w' := by
  have HB := Lib.hid (show Below w.heap.size w ((w.alloc (.cells a.cells.toArray 89)).alloc (.cells b.cells.toArray 89)) from ((Below.refl _ _).alloc (Nat.le_refl _) _).alloc (by simp) _)
  unfold Rl.val
  unfold Rl.cells at HB
  have hr : aheadR a b = if a.prio ≠ b.prio then decide (b.prio < a.prio) else if a.bits ≠ b.bits then decide (b.bits < a.bits) else decide (a.id < b.id) := rfl
  obtain ⟨a0, a1, a2, a3, a4, a5⟩ := a
  obtain ⟨b0, b1, b2, b3, b4, b5⟩ := b
  simp only at *
  rw [hr]
  clear hr
  by_cases h1 : a4 = b4
  · subst h1
    rw [if_neg (by simp)]
    by_cases h2 : a3 = b3
    · subst h2
      rw [if_neg (by simp)]
      have t1 : (a4 != a4) = false := by simp
      have t2 : (a3 != a3) = false := by simp
      go_enter Tryz.func185, Tryz.ntmps185
      go_wp2
      go_ret
      exact ⟨rfl, HB.out⟩
    · rw [if_pos h2]
      have t1 : (a4 != a4) = false := by simp
      have t2 : (a3 != b3) = true := by rw [bne_iff_ne]; exact h2
      go_enter Tryz.func185, Tryz.ntmps185
      go_wp2
      go_ret
      exact ⟨rfl, HB.out⟩
  · rw [if_pos h1]
    have t1 : (a4 != b4) = true := by rw [bne_iff_ne]; exact h1
    go_enter Tryz.func185, Tryz.ntmps185
    go_wp2
    go_ret
    exact ⟨rfl, HB.out⟩

end Go.Proofs.YtjoblahedgpgbaaGreat
