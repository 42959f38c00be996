/- The document's example of layer 8. -/
import Derived.Test.YtakgghhmecphmaaDownB
namespace Go.Proofs.Ytakgghhmecphmaa
set_option linter.unusedVariables false
set_option linter.unusedSimpArgs false
open Go.RowKit Go.Maps

set_option maxRecDepth 100000 in
theorem pow_calls (w : World) (n : Nat) (hn : n < 128) : Calls Try.prog 25 #[.int .i64 (n : Int)] w fun e w' => e = .returned (cval (2 ^ n)) ∧ Below w.heap.size w w' := by
  have OF := fun w' => of_calls w' 1 (by omega)
  have UP := fun w' => up_calls w' 1 n (by rw [Nat.one_mul]; exact Nat.pow_lt_pow_right (by omega) hn) hn
  rw [Nat.one_mul] at UP
  generalize cval 1 = v at *
  have ecv : cval (2 ^ n) = .agg #[.int .u64 ((2 ^ n / 18446744073709551616 : Nat) : Int), .int .u64 ((2 ^ n % 18446744073709551616 : Nat) : Int)] := rfl
  simp only [ecv] at UP ⊢
  generalize (2 ^ n / 18446744073709551616 : Nat) = x0 at *
  generalize (2 ^ n % 18446744073709551616 : Nat) = y0 at *
  have OF := Lib.hid OF
  have UP := Lib.hid UP
  clear ecv
  go_enter Try.func25, Try.ntmps25
  go_wp2_with (fail)
  have B1 := (Below.refl w.heap.size w).alloc (Nat.le_refl _) (.cells #[.int .u64 0, .int .u64 0] 44)
  have Y1 := heap_alloc_new w (.cells #[.int .u64 0, .int .u64 0] 44)
  refine (OF.out _).mono ?_
  rintro e w2 ⟨he, k2⟩
  subst he
  have K2 := Lib.hid ((Kept.of_below (S := [w.heap.size]) B1).trans (Kept.of_below (S := []) k2) (by simp))
  have Y2 := Lib.hid ((k2.block _ (lt_of_block Y1)).trans Y1)
  clear Y1 B1 k2
  go_wp2_with (fail)
  refine (UP.out _).mono ?_
  rintro e w3 ⟨he, k3⟩
  subst he
  have K3 := Lib.hid (K2.out.trans (Kept.of_below (S := []) k3) (by simp))
  have Y3 := (k3.block _ (lt_of_block Y2.out)).trans Y2.out
  have ds := And.intro (cell_of Y3 0) (cell_of Y3 1)
  simp only [List.getElem?_toArray, List.getElem?_cons_zero, List.getElem?_cons_succ] at ds
  have fz := And.intro (unfrozen_of Y3 0) (unfrozen_of Y3 1)
  have HY3 := Lib.hid Y3
  clear Y3 K2 Y2 k3
  go_wp2_with (fail)
  have E0 := set_block HY3.out 0 (.int .u64 (x0 : Int))
  have E1 := set_block E0 1 (.int .u64 (y0 : Int))
  have q0 := cell_of E0 0
  have q1 := cell_of E1 1
  simp at q0 q1
  simp [bodyPost, results, Try.results25, go_sem, q0, q1]
  exact Kept.below ((K3.out.setCell ⟨w.heap.size, 0, none⟩ (.int .u64 (x0 : Int)) (Or.inr (Nat.le_refl _))).setCell ⟨w.heap.size, 1, none⟩ (.int .u64 (y0 : Int)) (Or.inr (Nat.le_refl _))) (Nat.le_refl _) (by simp)

def A8 : Arn := ⟨[⟨104, 0, 0⟩, ⟨104, 0, 0⟩, ⟨0, 0, 1⟩], 100⟩
theorem awake8_1 : cubeF (newF 100) [(0, true)] = (some 2, A8) := by decide +kernel
theorem A8_ok : A8.OK := by
  have h := (cubeF_ok (newF_ok (most := 100) (by omega) (by omega)) (rise_one (v := 0) (by omega) true)).1
  rw [awake8_1] at h
  exact h
theorem A8_in (b : Nat → Bool) : inA A8 b 2 = b 0 := by
  have h := cube1_sem (newF_ok (most := 100) (by omega) (by omega)) (v := 0) (on := true) (by omega) awake8_1 b
  rw [h]
  cases b 0 <;> rfl
theorem A8_cnt : cntA A8 2 = 2 ^ 103 := by
  unfold cntA
  rw [ways_congr 104 (G := fun b => agree b [(0, true)]) (fun b => by rw [A8_in]; simp [agree])]
  exact (ways_agree 104 [(0, true)] (Nat.le_refl _) (by simp) (by simp)).2
theorem A8_least {h : Hd} (hl : Least A8 2 false h) : h = ⟨2147483648, 0, 0, 0, 0⟩ := by
  obtain ⟨hw, h1, h2⟩ := hl
  rw [A8_in] at h1
  have tw : (⟨2147483648, 0, 0, 0, 0⟩ : Hd).Wf := ⟨by decide, by decide, by decide, by decide, by decide⟩
  have tb : ∀ v, (⟨2147483648, 0, 0, 0, 0⟩ : Hd).bit v = decide (v = 0) := by
    intro v
    have e : (⟨2147483648, 0, 0, 0, 0⟩ : Hd) = hdZ.flip 0 := by decide
    rw [e, Hd.flip_bit hdZ (by omega)]
    by_cases hv : v = 0
    · rw [if_pos hv, hdZ_bit]; simp [hv]
    · rw [if_neg hv, hdZ_bit]; simp [hv]
  rcases h2 (⟨2147483648, 0, 0, 0, 0⟩ : Hd).bit (by rw [A8_in, tb]; rfl) with p | ⟨j, hj, _, p1, p2⟩
  · exact (Hd.eq_of tw hw p).symm
  · rw [tb] at p2
    have : j = 0 := by simpa using p2
    subst this
    rw [h1] at p1
    cases p1

set_option maxRecDepth 100000 in
set_option maxHeartbeats 1000000 in
theorem awake08_calls (w : World) : Calls Try.prog 21 #[] w fun e w' => e = .returned (.bool true) ∧ Below w.heap.size w w' := by
  go_enter Try.func21, Try.ntmps21
  go_wp2_with (fail)
  refine (AR.new (Below.refl _ _) 100 (by omega) (by omega)).mono ?_
  rintro e w2 ⟨p, g, mb, he, H2⟩
  subst he
  have H2 := Lib.hid H2
  go_wp2_with (fail)
  refine (H2.out.post A8_ok (by have := var_calls H2.out.2.2.2.1 H2.out.2.2.2.2.1 0 (by omega); rw [awake8_1] at this; exact this)).mono ?_
  rintro e w3 ⟨he, g3, hg3, H3, K3⟩
  subst he
  have H3 := Lib.hid H3
  clear hg3 K3 H2
  simp only [resV, Option.getD_some, Option.isSome_some, if_true]
  go_wp2_with (fail)
  refine (least_calls H3.out.2.2.2.1 A8_ok 2 (by decide) (by omega)).mono ?_
  rintro e w4 ⟨⟨hd, hl, he⟩, k4⟩
  obtain rfl := A8_least hl
  subst he
  have H4 := Lib.hid (H3.out.below k4)
  clear k4 hl
  unfold Hd.val
  go_wp2_with (fail)
  have Y4 := heap_alloc_new w4 (.cells #[.int .u32 2147483648, .int .u32 0, .int .u8 0, .int .u16 0, .int .u16 0] 25)
  have H4a := Lib.hid (H4.out.below ((Below.refl w4.heap.size w4).alloc (Nat.le_refl _) (.cells #[.int .u32 2147483648, .int .u32 0, .int .u8 0, .int .u16 0, .int .u16 0] 25)))
  generalize w4.alloc (.cells #[.int .u32 2147483648, .int .u32 0, .int .u8 0, .int .u16 0, .int .u16 0] 25) = w4a at *
  have CC := Count_calls H4a.out.2.2.2.1 A8_ok 2 (by decide)
  rw [A8_cnt, show cval (2 ^ 103) = .agg #[.int .u64 549755813888, .int .u64 0] from by kernel_rfl] at CC
  refine CC.mono ?_
  rintro e w5 ⟨he, k5⟩
  subst he
  have H5 := Lib.hid (H4a.out.below k5)
  have Y5 := (k5.block _ (lt_of_block Y4)).trans Y4
  clear CC k5 Y4 H4 H4a
  go_wp2_with (fail)
  have CP := pow_calls w5 103 (by omega)
  rw [show cval (2 ^ 103) = .agg #[.int .u64 549755813888, .int .u64 0] from by kernel_rfl] at CP
  refine CP.mono ?_
  rintro e w6 ⟨he, k6⟩
  subst he
  have H6 := Lib.hid (H5.out.below k6)
  have Y6 := (k6.block _ (lt_of_block Y5)).trans Y5
  have dy := And.intro (cell_of Y6 0) (And.intro (cell_of Y6 1) (And.intro (cell_of Y6 2) (And.intro (cell_of Y6 3) (cell_of Y6 4))))
  simp only [List.getElem?_toArray, List.getElem?_cons_zero, List.getElem?_cons_succ] at dy
  clear CP k6 Y5 Y6
  go_wp2_with (fail)
  go_ret
  exact ⟨rfl, H6.out.2.2.2.2.2⟩

end Go.Proofs.Ytakgghhmecphmaa
