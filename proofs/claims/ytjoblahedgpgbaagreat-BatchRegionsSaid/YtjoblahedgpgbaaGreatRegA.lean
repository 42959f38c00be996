/- Regions, plainly: which ones have an address of a prefix, by numbers and by prefixes. · Regions: the walks of the program's and of the document's functions. · Regions that a prefix touches: the walks. · The walk of region's All: the regions that some of several prefixes touch. -/
import Derived.Test.YtjoblahedgpgbaaGreatCid
import Derived.Test.YtjoblahedgpgbaaGreatTrie
import Derived.Test.YtjoblahedgpgbaaGreatArena
import Derived.Deep.CutRange
import Derived.Deep.Onto
import Derived.Deep.RegionHeld3
namespace Go.Proofs.YtjoblahedgpgbaaGreat
set_option linter.unusedVariables false
set_option linter.unusedSimpArgs false
open Go.RowKit

def rcount (s : Int) : Nat := if s = 0 then 1 else if s = 1 then 2 else if s = 2 then 4 else if s = 3 then 8 else 0
theorem rcount_pow {s : Nat} (h : s ≤ 3) : rcount (s : Int) = 2 ^ s := by
  have : s = 0 ∨ s = 1 ∨ s = 2 ∨ s = 3 := by omega
  rcases this with rfl | rfl | rfl | rfl <;> rfl
theorem rcount_ne {s : Int} (h : rcount s ≠ 0) : ∃ n : Nat, s = n ∧ n ≤ 3 := by
  unfold rcount at h
  split at h
  · exact ⟨0, by omega, by omega⟩
  · split at h
    · exact ⟨1, by omega, by omega⟩
    · split at h
      · exact ⟨2, by omega, by omega⟩
      · split at h
        · exact ⟨3, by omega, by omega⟩
        · exact absurd rfl h
/-- The region of an address. -/
def ridx (s a : Nat) : Nat := a / 2 ^ (32 - s)
/-- Has a region an address of a prefix? -/
def tchB (s : Nat) (p : Pf) (i : Nat) : Bool := rtB p && meetN p.addr p.bits.toNat (i * 2 ^ (32 - s)) s
theorem div_pow_sub {a n s : Nat} (h : n ≤ s) (hs : s ≤ 32) : a / 2 ^ (32 - s) / 2 ^ (s - n) = a / 2 ^ (32 - n) := by
  rw [Nat.div_div_eq_div_mul, ← Nat.pow_add, show 32 - s + (s - n) = 32 - n by omega]
theorem ridx_lt {s a : Nat} (hs : s ≤ 32) (ha : a < 2 ^ 32) : ridx s a < 2 ^ s := by
  unfold ridx
  rw [Nat.div_lt_iff_lt_mul (Nat.two_pow_pos _), ← Nat.pow_add, show s + (32 - s) = 32 by omega]
  exact ha
/-- A prefix touches just the regions from that of its first to that of its last address. -/
theorem tch_iff {s : Nat} (hs : s ≤ 32) {p : Pf} (hp : p.addr < 2 ^ 32) (hr : rtB p = true) (i : Nat) : tchB s p i = true ↔ ridx s p.addr ≤ i ∧ i ≤ ridx s (lastN p.addr p.bits.toNat) := by
  obtain ⟨h0, h1, h2⟩ := (rtB_iff p).1 hr
  obtain ⟨a, b⟩ := p
  simp only at *
  obtain ⟨n, rfl⟩ : ∃ n : Nat, b = n := ⟨b.toNat, by omega⟩
  have hn : n ≤ 32 := by omega
  rw [Int.toNat_natCast] at *
  unfold tchB meetN ridx lastN hasN
  simp only [Int.toNat_natCast]
  rw [hr, Bool.true_and, Bool.or_eq_true, Bool.and_eq_true, Bool.and_eq_true, decide_eq_true_iff, decide_eq_true_iff, beq_iff_eq, beq_iff_eq]
  have hps := Nat.two_pow_pos (32 - s)
  have hpn := Nat.two_pow_pos (32 - n)
  rw [Nat.mul_div_cancel _ hps]
  have hm := Nat.div_add_mod a (2 ^ (32 - n))
  rw [h2, Nat.add_zero] at hm
  generalize hq : a / 2 ^ (32 - n) = m at *
  rcases (Nat.lt_or_ge n s).symm with hsn | hsn
  · -- the prefix lies in one region
    have e1 : (a + 2 ^ (32 - n) - 1) / 2 ^ (32 - s) = a / 2 ^ (32 - s) := by
      rw [← div_pow_sub (a := a + 2 ^ (32 - n) - 1) hsn hn, ← div_pow_sub (a := a) hsn hn]
      congr 1
      rw [hq, ← hm, Nat.mul_comm, show m * 2 ^ (32 - n) + 2 ^ (32 - n) - 1 = (2 ^ (32 - n) - 1) + m * 2 ^ (32 - n) by omega, Nat.add_mul_div_right _ _ hpn, Nat.div_eq_of_lt (by omega), Nat.zero_add]
    rw [e1]
    constructor
    · rintro (⟨_, h⟩ | ⟨h, h'⟩)
      · omega
      · obtain rfl : n = s := by omega
        rw [Nat.mul_div_cancel _ hps] at h'
        omega
    · intro h
      exact Or.inl ⟨hsn, by omega⟩
  · -- it has whole regions
    have e2 : i * 2 ^ (32 - s) / 2 ^ (32 - n) = i / 2 ^ (s - n) := by
      rw [← div_pow_sub (a := i * 2 ^ (32 - s)) (Nat.le_of_lt hsn) hs, Nat.mul_div_cancel _ hps]
    have hk := Nat.two_pow_pos (s - n)
    have e3 : 2 ^ (32 - n) = 2 ^ (s - n) * 2 ^ (32 - s) := by rw [← Nat.pow_add, show s - n + (32 - s) = 32 - n by omega]
    have e4 : a / 2 ^ (32 - s) = m * 2 ^ (s - n) := by
      rw [← hm, e3, Nat.mul_comm (2 ^ (s - n) * 2 ^ (32 - s)) m, ← Nat.mul_assoc, Nat.mul_div_cancel _ hps]
    have e5 : (a + 2 ^ (32 - n) - 1) / 2 ^ (32 - s) = (m + 1) * 2 ^ (s - n) - 1 := by
      have h9 : a + 2 ^ (32 - n) - 1 = (2 ^ (32 - s) - 1) + ((m + 1) * 2 ^ (s - n) - 1) * 2 ^ (32 - s) := by
        rw [Nat.sub_mul, ← hm, Nat.mul_comm _ m, e3, Nat.one_mul, Nat.add_mul, Nat.one_mul, Nat.add_mul, ← Nat.mul_assoc]
        have h8 : 2 ^ (32 - s) ≤ 2 ^ (s - n) * 2 ^ (32 - s) := Nat.le_mul_of_pos_left _ hk
        generalize m * 2 ^ (s - n) * 2 ^ (32 - s) = z
        generalize 2 ^ (s - n) * 2 ^ (32 - s) = y at *
        omega
      rw [h9, Nat.add_mul_div_right _ _ hps, Nat.div_eq_of_lt (by omega), Nat.zero_add]
    rw [e2, e4, e5, Nat.add_mul, Nat.one_mul]
    have hd := Nat.div_add_mod i (2 ^ (s - n))
    have hl := Nat.mod_lt i hk
    generalize i / 2 ^ (s - n) = x at *
    generalize i % 2 ^ (s - n) = y at *
    generalize 2 ^ (s - n) = k at *
    constructor
    · rintro (⟨h, _⟩ | ⟨_, h⟩)
      · omega
      · subst h
        rw [Nat.mul_comm] at hd
        omega
    · rintro ⟨h, h'⟩
      refine Or.inr ⟨Nat.le_of_lt hsn, ?_⟩
      rw [Nat.mul_comm] at hd
      have h1 : x < m + 1 := by
        refine Nat.lt_of_not_le fun hle => ?_
        have := Nat.mul_le_mul_right k hle
        rw [Nat.add_mul, Nat.one_mul] at this
        omega
      have h2 : m < x + 1 := by
        refine Nat.lt_of_not_le fun hle => ?_
        have := Nat.mul_le_mul_right k hle
        rw [Nat.add_mul, Nat.one_mul] at this
        omega
      omega
/-- The region of an address that a prefix has is touched. -/
theorem tch_of_has {s : Nat} (hs : s ≤ 32) {p : Pf} (hp : p.addr < 2 ^ 32) (hr : rtB p = true) {a : Nat} (h : hasN p.addr p.bits.toNat a = true) : tchB s p (ridx s a) = true := by
  obtain ⟨h0, h1, h2⟩ := (rtB_iff p).1 hr
  rw [tch_iff hs hp hr]
  unfold hasN at h
  rw [beq_iff_eq] at h
  have hk := Nat.two_pow_pos (32 - p.bits.toNat)
  have hm := Nat.div_add_mod p.addr (2 ^ (32 - p.bits.toNat))
  rw [h2, Nat.add_zero] at hm
  have ha := Nat.div_add_mod a (2 ^ (32 - p.bits.toNat))
  have hl := Nat.mod_lt a hk
  rw [h, hm] at ha
  unfold ridx lastN
  exact ⟨Nat.div_le_div_right (by omega), Nat.div_le_div_right (by omega)⟩
/-- The regions that some of several prefixes touch. -/
def allR (s : Nat) (ps : List Pf) : List Nat := (List.range (2 ^ s)).filter fun i => ps.any fun p => tchB s p i
end Go.Proofs.YtjoblahedgpgbaaGreat

namespace Go.Proofs.YtjoblahedgpgbaaGreat
set_option linter.unusedVariables false
set_option linter.unusedSimpArgs false
open Go.RowKit

set_option maxRecDepth 100000 in
theorem rgcount_calls (w : World) (s : Int) : Calls Tryz.prog 16 #[.int .i64 s] w fun e w' => e = .returned (.int .i64 (rcount s : Int)) ∧ w' = w := by
  obtain ⟨r, hr⟩ : ∃ r, r = rcount s := ⟨_, rfl⟩
  rw [← hr]
  unfold rcount at hr
  go_enter Tryz.func16, Tryz.ntmps16
  by_cases h0 : s = 0
  · rw [if_pos h0] at hr
    subst hr
    subst h0
    go_wp2_with (fail)
    go_ret
    exact ⟨rfl, rfl⟩
  · rw [if_neg h0] at hr
    have h0' : (s == 0) = false := beq_eq_false_iff_ne.2 h0
    by_cases h1 : s = 1
    · rw [if_pos h1] at hr
      subst hr
      subst h1
      clear h0 h0'
      go_wp2_with (fail)
      go_ret
      exact ⟨rfl, rfl⟩
    · rw [if_neg h1] at hr
      have h1' : (s == 1) = false := beq_eq_false_iff_ne.2 h1
      by_cases h2 : s = 2
      · rw [if_pos h2] at hr
        subst hr
        subst h2
        clear h0 h0' h1 h1'
        go_wp2_with (fail)
        go_ret
        exact ⟨rfl, rfl⟩
      · rw [if_neg h2] at hr
        have h2' : (s == 2) = false := beq_eq_false_iff_ne.2 h2
        by_cases h3 : s = 3
        · rw [if_pos h3] at hr
          subst hr
          subst h3
          clear h0 h0' h1 h1' h2 h2'
          go_wp2_with (fail)
          go_ret
          exact ⟨rfl, rfl⟩
        · rw [if_neg h3] at hr
          have h3' : (s == 3) = false := beq_eq_false_iff_ne.2 h3
          subst hr
          go_wp2_with (fail)
          go_ret
          exact ⟨rfl, rfl⟩
set_option maxRecDepth 100000 in
theorem prright_calls (w : World) (s : Int) : Calls Tryz.prog 103 #[.int .i64 s] w fun e w' => e = .returned (.bool (decide (0 ≤ s ∧ s ≤ 3))) ∧ w' = w := by
  obtain ⟨r, hr⟩ : ∃ r, r = decide (0 ≤ s ∧ s ≤ 3) := ⟨_, rfl⟩
  rw [← hr]
  go_enter Tryz.func103, Tryz.ntmps103
  by_cases h0 : 0 ≤ s
  · by_cases h1 : s ≤ 3
    · rw [decide_eq_true ⟨h0, h1⟩] at hr
      subst hr
      go_wp2_with (fail)
      go_ret
      exact ⟨rfl, rfl⟩
    · rw [decide_eq_false (fun h => h1 h.2)] at hr
      subst hr
      go_wp2_with (fail)
      go_ret
      exact ⟨rfl, rfl⟩
  · rw [decide_eq_false (fun h => h0 h.1)] at hr
    subst hr
    go_wp2_with (fail)
    go_ret
    exact ⟨rfl, rfl⟩
theorem rcount_out {s : Int} (h : ¬ (0 ≤ s ∧ s ≤ 3)) : rcount s = 0 := by
  unfold rcount
  rw [if_neg (by omega), if_neg (by omega), if_neg (by omega), if_neg (by omega)]
set_option maxRecDepth 100000 in
theorem prcount_calls (w : World) (s : Int) : Calls Tryz.prog 90 #[.int .i64 s] w fun e w' => e = .returned (.int .i64 (rcount s : Int)) ∧ w' = w := by
  have HR := Lib.hid (prright_calls w s)
  obtain ⟨r, hr⟩ : ∃ r, r = rcount s := ⟨_, rfl⟩
  rw [← hr]
  by_cases h : 0 ≤ s ∧ s ≤ 3
  · rw [decide_eq_true h] at HR
    have hs : s = 0 ∨ s = 1 ∨ s = 2 ∨ s = 3 := by omega
    clear h
    rcases hs with rfl | rfl | rfl | rfl
    all_goals
      have hr2 : r = rcount _ := hr
      rw [show rcount _ = _ from rfl] at hr2
      subst hr
      go_enter Tryz.func90, Tryz.ntmps90
      go_wp2_with (fail)
      refine Calls.mono HR.out ?_
      rintro e w' ⟨rfl, rfl⟩
      go_wp2_with (fail)
      go_ret
      exact ⟨rfl, rfl⟩
  · rw [decide_eq_false h] at HR
    rw [rcount_out h] at hr
    subst hr
    clear h
    go_enter Tryz.func90, Tryz.ntmps90
    go_wp2_with (fail)
    refine Calls.mono HR.out ?_
    rintro e w' ⟨rfl, rfl⟩
    go_wp2_with (fail)
    go_ret
    exact ⟨rfl, rfl⟩
theorem reg_cases {s i : Nat} (hs : s ≤ 3) (hi : i < 2 ^ s) : (s = 0 ∧ i = 0) ∨ (s = 1 ∧ i = 0) ∨ (s = 1 ∧ i = 1) ∨ (s = 2 ∧ i = 0) ∨ (s = 2 ∧ i = 1) ∨ (s = 2 ∧ i = 2) ∨ (s = 2 ∧ i = 3) ∨ (s = 3 ∧ i = 0) ∨ (s = 3 ∧ i = 1) ∨ (s = 3 ∧ i = 2) ∨ (s = 3 ∧ i = 3) ∨ (s = 3 ∧ i = 4) ∨ (s = 3 ∧ i = 5) ∨ (s = 3 ∧ i = 6) ∨ (s = 3 ∧ i = 7) := by
  have h : s = 0 ∨ s = 1 ∨ s = 2 ∨ s = 3 := by omega
  rcases h with rfl | rfl | rfl | rfl
  · have h1 : i < 1 := by simpa using hi
    obtain rfl : i = 0 := by omega
    simp
  · have h1 : i < 2 := by simpa using hi
    have : i = 0 ∨ i = 1 := by omega
    rcases this with rfl | rfl <;> simp
  · have h1 : i < 4 := by simpa using hi
    have : i = 0 ∨ i = 1 ∨ i = 2 ∨ i = 3 := by omega
    rcases this with rfl | rfl | rfl | rfl <;> simp
  · have h1 : i < 8 := by simpa using hi
    have : i = 0 ∨ i = 1 ∨ i = 2 ∨ i = 3 ∨ i = 4 ∨ i = 5 ∨ i = 6 ∨ i = 7 := by omega
    rcases this with rfl | rfl | rfl | rfl | rfl | rfl | rfl | rfl <;> simp
set_option maxRecDepth 100000 in
set_option maxHeartbeats 4000000 in
theorem prprefix_calls (w : World) (s i : Nat) (hs : s ≤ 3) (hi : i < 2 ^ s) : Calls Tryz.prog 93 #[.int .i64 (s : Int), .int .i64 (i : Int)] w fun e w' => e = .returned (.agg #[.int .u32 ((i * 2 ^ (32 - s) : Nat) : Int), .int .i64 (s : Int)]) ∧ Below w.heap.size w w' := by
  have HC := Lib.hid (prcount_calls (w.alloc (.cells #[.int .u32 0, .int .i64 0] 48)) (s : Int))
  have HO : Hid (∀ X (A S : Int), A = ((i * 2 ^ (32 - s) : Nat) : Int) → S = (s : Int) → Calls Tryz.prog 162 #[.int .u32 A, .int .i64 S] X fun e w' => e = .returned (.agg #[.int .u32 A, .int .i64 S]) ∧ Below X.heap.size X w') := Lib.hid fun X A S hA hS => by
    have h := cof_calls X (i * 2 ^ (32 - s)) s (by
      have : i * 2 ^ (32 - s) < 2 ^ s * 2 ^ (32 - s) := Nat.mul_lt_mul_of_pos_right hi (Nat.two_pow_pos _)
      rw [← Nat.pow_add, show s + (32 - s) = 32 by omega] at this
      exact this) (by omega)
    rw [Nat.mul_div_cancel _ (Nat.two_pow_pos _)] at h
    rw [hA, hS]
    exact h
  have HX := Lib.hid (heap_alloc_new w (.cells #[.int .u32 0, .int .i64 0] 48))
  have HK := Lib.hid ((Below.refl w.heap.size w).alloc (Nat.le_refl _) (.cells #[.int .u32 0, .int .i64 0] 48))
  rcases reg_cases hs hi with ⟨rfl, rfl⟩ | ⟨rfl, rfl⟩ | ⟨rfl, rfl⟩ | ⟨rfl, rfl⟩ | ⟨rfl, rfl⟩ | ⟨rfl, rfl⟩ | ⟨rfl, rfl⟩ | ⟨rfl, rfl⟩ | ⟨rfl, rfl⟩ | ⟨rfl, rfl⟩ | ⟨rfl, rfl⟩ | ⟨rfl, rfl⟩ | ⟨rfl, rfl⟩ | ⟨rfl, rfl⟩ | ⟨rfl, rfl⟩
  -- BULLETS
  · simp only [rcount] at HC
    clear hs hi
    go_enter Tryz.func93, Tryz.ntmps93
    go_wp2_with (go_at_call 90; refine Calls.mono HC.out ?_; rintro e w' ⟨rfl, rfl⟩)
    refine Calls.mono (HO.out _ _ _ (by rfl) (by rfl)) ?_
    rintro e w' ⟨he, k⟩
    subst he
    have HX2 := Lib.hid ((k.block _ (lt_of_block HX.out)).trans HX.out)
    have HK2 := Lib.hid (HK.out.trans (k.mono HK.out.size))
    clear k
    have z0 := And.intro (cell_of HX2.out 0) (unfrozen_of HX2.out 0)
    have z1 := And.intro (cell_of HX2.out 1) (unfrozen_of HX2.out 1)
    simp only [List.getElem?_toArray, List.getElem?_cons_zero, List.getElem?_cons_succ] at z0 z1
    go_wp2_with (fail)
    exact bodyPost_ret (v := .agg #[.int .u32 0, .int .i64 0]) (by simp [results, Tryz.results93, go_sem, z0, z1]) rfl ⟨rfl, (HK2.out.setCell (by simp) _).setCell (by simp) _⟩
  · simp only [rcount] at HC
    clear hs hi
    go_enter Tryz.func93, Tryz.ntmps93
    go_wp2_with (go_at_call 90; refine Calls.mono HC.out ?_; rintro e w' ⟨rfl, rfl⟩)
    refine Calls.mono (HO.out _ _ _ (by rfl) (by rfl)) ?_
    rintro e w' ⟨he, k⟩
    subst he
    have HX2 := Lib.hid ((k.block _ (lt_of_block HX.out)).trans HX.out)
    have HK2 := Lib.hid (HK.out.trans (k.mono HK.out.size))
    clear k
    have z0 := And.intro (cell_of HX2.out 0) (unfrozen_of HX2.out 0)
    have z1 := And.intro (cell_of HX2.out 1) (unfrozen_of HX2.out 1)
    simp only [List.getElem?_toArray, List.getElem?_cons_zero, List.getElem?_cons_succ] at z0 z1
    go_wp2_with (fail)
    exact bodyPost_ret (v := .agg #[.int .u32 0, .int .i64 1]) (by simp [results, Tryz.results93, go_sem, z0, z1]) rfl ⟨rfl, (HK2.out.setCell (by simp) _).setCell (by simp) _⟩
  · simp only [rcount] at HC
    clear hs hi
    go_enter Tryz.func93, Tryz.ntmps93
    go_wp2_with (go_at_call 90; refine Calls.mono HC.out ?_; rintro e w' ⟨rfl, rfl⟩)
    refine Calls.mono (HO.out _ _ _ (by rfl) (by rfl)) ?_
    rintro e w' ⟨he, k⟩
    subst he
    have HX2 := Lib.hid ((k.block _ (lt_of_block HX.out)).trans HX.out)
    have HK2 := Lib.hid (HK.out.trans (k.mono HK.out.size))
    clear k
    have z0 := And.intro (cell_of HX2.out 0) (unfrozen_of HX2.out 0)
    have z1 := And.intro (cell_of HX2.out 1) (unfrozen_of HX2.out 1)
    simp only [List.getElem?_toArray, List.getElem?_cons_zero, List.getElem?_cons_succ] at z0 z1
    go_wp2_with (fail)
    exact bodyPost_ret (v := .agg #[.int .u32 2147483648, .int .i64 1]) (by simp [results, Tryz.results93, go_sem, z0, z1]) rfl ⟨rfl, (HK2.out.setCell (by simp) _).setCell (by simp) _⟩
  · simp only [rcount] at HC
    clear hs hi
    go_enter Tryz.func93, Tryz.ntmps93
    go_wp2_with (go_at_call 90; refine Calls.mono HC.out ?_; rintro e w' ⟨rfl, rfl⟩)
    refine Calls.mono (HO.out _ _ _ (by rfl) (by rfl)) ?_
    rintro e w' ⟨he, k⟩
    subst he
    have HX2 := Lib.hid ((k.block _ (lt_of_block HX.out)).trans HX.out)
    have HK2 := Lib.hid (HK.out.trans (k.mono HK.out.size))
    clear k
    have z0 := And.intro (cell_of HX2.out 0) (unfrozen_of HX2.out 0)
    have z1 := And.intro (cell_of HX2.out 1) (unfrozen_of HX2.out 1)
    simp only [List.getElem?_toArray, List.getElem?_cons_zero, List.getElem?_cons_succ] at z0 z1
    go_wp2_with (fail)
    exact bodyPost_ret (v := .agg #[.int .u32 0, .int .i64 2]) (by simp [results, Tryz.results93, go_sem, z0, z1]) rfl ⟨rfl, (HK2.out.setCell (by simp) _).setCell (by simp) _⟩
  · simp only [rcount] at HC
    clear hs hi
    go_enter Tryz.func93, Tryz.ntmps93
    go_wp2_with (go_at_call 90; refine Calls.mono HC.out ?_; rintro e w' ⟨rfl, rfl⟩)
    refine Calls.mono (HO.out _ _ _ (by rfl) (by rfl)) ?_
    rintro e w' ⟨he, k⟩
    subst he
    have HX2 := Lib.hid ((k.block _ (lt_of_block HX.out)).trans HX.out)
    have HK2 := Lib.hid (HK.out.trans (k.mono HK.out.size))
    clear k
    have z0 := And.intro (cell_of HX2.out 0) (unfrozen_of HX2.out 0)
    have z1 := And.intro (cell_of HX2.out 1) (unfrozen_of HX2.out 1)
    simp only [List.getElem?_toArray, List.getElem?_cons_zero, List.getElem?_cons_succ] at z0 z1
    go_wp2_with (fail)
    exact bodyPost_ret (v := .agg #[.int .u32 1073741824, .int .i64 2]) (by simp [results, Tryz.results93, go_sem, z0, z1]) rfl ⟨rfl, (HK2.out.setCell (by simp) _).setCell (by simp) _⟩
  · simp only [rcount] at HC
    clear hs hi
    go_enter Tryz.func93, Tryz.ntmps93
    go_wp2_with (go_at_call 90; refine Calls.mono HC.out ?_; rintro e w' ⟨rfl, rfl⟩)
    refine Calls.mono (HO.out _ _ _ (by rfl) (by rfl)) ?_
    rintro e w' ⟨he, k⟩
    subst he
    have HX2 := Lib.hid ((k.block _ (lt_of_block HX.out)).trans HX.out)
    have HK2 := Lib.hid (HK.out.trans (k.mono HK.out.size))
    clear k
    have z0 := And.intro (cell_of HX2.out 0) (unfrozen_of HX2.out 0)
    have z1 := And.intro (cell_of HX2.out 1) (unfrozen_of HX2.out 1)
    simp only [List.getElem?_toArray, List.getElem?_cons_zero, List.getElem?_cons_succ] at z0 z1
    go_wp2_with (fail)
    exact bodyPost_ret (v := .agg #[.int .u32 2147483648, .int .i64 2]) (by simp [results, Tryz.results93, go_sem, z0, z1]) rfl ⟨rfl, (HK2.out.setCell (by simp) _).setCell (by simp) _⟩
  · simp only [rcount] at HC
    clear hs hi
    go_enter Tryz.func93, Tryz.ntmps93
    go_wp2_with (go_at_call 90; refine Calls.mono HC.out ?_; rintro e w' ⟨rfl, rfl⟩)
    refine Calls.mono (HO.out _ _ _ (by rfl) (by rfl)) ?_
    rintro e w' ⟨he, k⟩
    subst he
    have HX2 := Lib.hid ((k.block _ (lt_of_block HX.out)).trans HX.out)
    have HK2 := Lib.hid (HK.out.trans (k.mono HK.out.size))
    clear k
    have z0 := And.intro (cell_of HX2.out 0) (unfrozen_of HX2.out 0)
    have z1 := And.intro (cell_of HX2.out 1) (unfrozen_of HX2.out 1)
    simp only [List.getElem?_toArray, List.getElem?_cons_zero, List.getElem?_cons_succ] at z0 z1
    go_wp2_with (fail)
    exact bodyPost_ret (v := .agg #[.int .u32 3221225472, .int .i64 2]) (by simp [results, Tryz.results93, go_sem, z0, z1]) rfl ⟨rfl, (HK2.out.setCell (by simp) _).setCell (by simp) _⟩
  · simp only [rcount] at HC
    clear hs hi
    go_enter Tryz.func93, Tryz.ntmps93
    go_wp2_with (go_at_call 90; refine Calls.mono HC.out ?_; rintro e w' ⟨rfl, rfl⟩)
    refine Calls.mono (HO.out _ _ _ (by rfl) (by rfl)) ?_
    rintro e w' ⟨he, k⟩
    subst he
    have HX2 := Lib.hid ((k.block _ (lt_of_block HX.out)).trans HX.out)
    have HK2 := Lib.hid (HK.out.trans (k.mono HK.out.size))
    clear k
    have z0 := And.intro (cell_of HX2.out 0) (unfrozen_of HX2.out 0)
    have z1 := And.intro (cell_of HX2.out 1) (unfrozen_of HX2.out 1)
    simp only [List.getElem?_toArray, List.getElem?_cons_zero, List.getElem?_cons_succ] at z0 z1
    go_wp2_with (fail)
    exact bodyPost_ret (v := .agg #[.int .u32 0, .int .i64 3]) (by simp [results, Tryz.results93, go_sem, z0, z1]) rfl ⟨rfl, (HK2.out.setCell (by simp) _).setCell (by simp) _⟩
  · simp only [rcount] at HC
    clear hs hi
    go_enter Tryz.func93, Tryz.ntmps93
    go_wp2_with (go_at_call 90; refine Calls.mono HC.out ?_; rintro e w' ⟨rfl, rfl⟩)
    refine Calls.mono (HO.out _ _ _ (by rfl) (by rfl)) ?_
    rintro e w' ⟨he, k⟩
    subst he
    have HX2 := Lib.hid ((k.block _ (lt_of_block HX.out)).trans HX.out)
    have HK2 := Lib.hid (HK.out.trans (k.mono HK.out.size))
    clear k
    have z0 := And.intro (cell_of HX2.out 0) (unfrozen_of HX2.out 0)
    have z1 := And.intro (cell_of HX2.out 1) (unfrozen_of HX2.out 1)
    simp only [List.getElem?_toArray, List.getElem?_cons_zero, List.getElem?_cons_succ] at z0 z1
    go_wp2_with (fail)
    exact bodyPost_ret (v := .agg #[.int .u32 536870912, .int .i64 3]) (by simp [results, Tryz.results93, go_sem, z0, z1]) rfl ⟨rfl, (HK2.out.setCell (by simp) _).setCell (by simp) _⟩
  · simp only [rcount] at HC
    clear hs hi
    go_enter Tryz.func93, Tryz.ntmps93
    go_wp2_with (go_at_call 90; refine Calls.mono HC.out ?_; rintro e w' ⟨rfl, rfl⟩)
    refine Calls.mono (HO.out _ _ _ (by rfl) (by rfl)) ?_
    rintro e w' ⟨he, k⟩
    subst he
    have HX2 := Lib.hid ((k.block _ (lt_of_block HX.out)).trans HX.out)
    have HK2 := Lib.hid (HK.out.trans (k.mono HK.out.size))
    clear k
    have z0 := And.intro (cell_of HX2.out 0) (unfrozen_of HX2.out 0)
    have z1 := And.intro (cell_of HX2.out 1) (unfrozen_of HX2.out 1)
    simp only [List.getElem?_toArray, List.getElem?_cons_zero, List.getElem?_cons_succ] at z0 z1
    go_wp2_with (fail)
    exact bodyPost_ret (v := .agg #[.int .u32 1073741824, .int .i64 3]) (by simp [results, Tryz.results93, go_sem, z0, z1]) rfl ⟨rfl, (HK2.out.setCell (by simp) _).setCell (by simp) _⟩
  · simp only [rcount] at HC
    clear hs hi
    go_enter Tryz.func93, Tryz.ntmps93
    go_wp2_with (go_at_call 90; refine Calls.mono HC.out ?_; rintro e w' ⟨rfl, rfl⟩)
    refine Calls.mono (HO.out _ _ _ (by rfl) (by rfl)) ?_
    rintro e w' ⟨he, k⟩
    subst he
    have HX2 := Lib.hid ((k.block _ (lt_of_block HX.out)).trans HX.out)
    have HK2 := Lib.hid (HK.out.trans (k.mono HK.out.size))
    clear k
    have z0 := And.intro (cell_of HX2.out 0) (unfrozen_of HX2.out 0)
    have z1 := And.intro (cell_of HX2.out 1) (unfrozen_of HX2.out 1)
    simp only [List.getElem?_toArray, List.getElem?_cons_zero, List.getElem?_cons_succ] at z0 z1
    go_wp2_with (fail)
    exact bodyPost_ret (v := .agg #[.int .u32 1610612736, .int .i64 3]) (by simp [results, Tryz.results93, go_sem, z0, z1]) rfl ⟨rfl, (HK2.out.setCell (by simp) _).setCell (by simp) _⟩
  · simp only [rcount] at HC
    clear hs hi
    go_enter Tryz.func93, Tryz.ntmps93
    go_wp2_with (go_at_call 90; refine Calls.mono HC.out ?_; rintro e w' ⟨rfl, rfl⟩)
    refine Calls.mono (HO.out _ _ _ (by rfl) (by rfl)) ?_
    rintro e w' ⟨he, k⟩
    subst he
    have HX2 := Lib.hid ((k.block _ (lt_of_block HX.out)).trans HX.out)
    have HK2 := Lib.hid (HK.out.trans (k.mono HK.out.size))
    clear k
    have z0 := And.intro (cell_of HX2.out 0) (unfrozen_of HX2.out 0)
    have z1 := And.intro (cell_of HX2.out 1) (unfrozen_of HX2.out 1)
    simp only [List.getElem?_toArray, List.getElem?_cons_zero, List.getElem?_cons_succ] at z0 z1
    go_wp2_with (fail)
    exact bodyPost_ret (v := .agg #[.int .u32 2147483648, .int .i64 3]) (by simp [results, Tryz.results93, go_sem, z0, z1]) rfl ⟨rfl, (HK2.out.setCell (by simp) _).setCell (by simp) _⟩
  · simp only [rcount] at HC
    clear hs hi
    go_enter Tryz.func93, Tryz.ntmps93
    go_wp2_with (go_at_call 90; refine Calls.mono HC.out ?_; rintro e w' ⟨rfl, rfl⟩)
    refine Calls.mono (HO.out _ _ _ (by rfl) (by rfl)) ?_
    rintro e w' ⟨he, k⟩
    subst he
    have HX2 := Lib.hid ((k.block _ (lt_of_block HX.out)).trans HX.out)
    have HK2 := Lib.hid (HK.out.trans (k.mono HK.out.size))
    clear k
    have z0 := And.intro (cell_of HX2.out 0) (unfrozen_of HX2.out 0)
    have z1 := And.intro (cell_of HX2.out 1) (unfrozen_of HX2.out 1)
    simp only [List.getElem?_toArray, List.getElem?_cons_zero, List.getElem?_cons_succ] at z0 z1
    go_wp2_with (fail)
    exact bodyPost_ret (v := .agg #[.int .u32 2684354560, .int .i64 3]) (by simp [results, Tryz.results93, go_sem, z0, z1]) rfl ⟨rfl, (HK2.out.setCell (by simp) _).setCell (by simp) _⟩
  · simp only [rcount] at HC
    clear hs hi
    go_enter Tryz.func93, Tryz.ntmps93
    go_wp2_with (go_at_call 90; refine Calls.mono HC.out ?_; rintro e w' ⟨rfl, rfl⟩)
    refine Calls.mono (HO.out _ _ _ (by rfl) (by rfl)) ?_
    rintro e w' ⟨he, k⟩
    subst he
    have HX2 := Lib.hid ((k.block _ (lt_of_block HX.out)).trans HX.out)
    have HK2 := Lib.hid (HK.out.trans (k.mono HK.out.size))
    clear k
    have z0 := And.intro (cell_of HX2.out 0) (unfrozen_of HX2.out 0)
    have z1 := And.intro (cell_of HX2.out 1) (unfrozen_of HX2.out 1)
    simp only [List.getElem?_toArray, List.getElem?_cons_zero, List.getElem?_cons_succ] at z0 z1
    go_wp2_with (fail)
    exact bodyPost_ret (v := .agg #[.int .u32 3221225472, .int .i64 3]) (by simp [results, Tryz.results93, go_sem, z0, z1]) rfl ⟨rfl, (HK2.out.setCell (by simp) _).setCell (by simp) _⟩
  · simp only [rcount] at HC
    clear hs hi
    go_enter Tryz.func93, Tryz.ntmps93
    go_wp2_with (go_at_call 90; refine Calls.mono HC.out ?_; rintro e w' ⟨rfl, rfl⟩)
    refine Calls.mono (HO.out _ _ _ (by rfl) (by rfl)) ?_
    rintro e w' ⟨he, k⟩
    subst he
    have HX2 := Lib.hid ((k.block _ (lt_of_block HX.out)).trans HX.out)
    have HK2 := Lib.hid (HK.out.trans (k.mono HK.out.size))
    clear k
    have z0 := And.intro (cell_of HX2.out 0) (unfrozen_of HX2.out 0)
    have z1 := And.intro (cell_of HX2.out 1) (unfrozen_of HX2.out 1)
    simp only [List.getElem?_toArray, List.getElem?_cons_zero, List.getElem?_cons_succ] at z0 z1
    go_wp2_with (fail)
    exact bodyPost_ret (v := .agg #[.int .u32 3758096384, .int .i64 3]) (by simp [results, Tryz.results93, go_sem, z0, z1]) rfl ⟨rfl, (HK2.out.setCell (by simp) _).setCell (by simp) _⟩
  -- END
set_option maxRecDepth 100000 in
theorem rgsize_calls (w : World) (s : Nat) (hs : s ≤ 3) : Calls Tryz.prog 82 #[.int .i64 (s : Int)] w fun e w' => e = .returned (.int .u64 ((2 ^ (32 - s) : Nat) : Int)) ∧ w' = w := by
  have HC := Lib.hid (rgcount_calls w (s : Int))
  have h : s = 0 ∨ s = 1 ∨ s = 2 ∨ s = 3 := by omega
  rcases h with rfl | rfl | rfl | rfl
  all_goals
    simp only [rcount] at HC
    go_enter Tryz.func82, Tryz.ntmps82
    go_wp2_with (go_at_call 16; refine Calls.mono HC.out ?_; rintro e w' ⟨rfl, rfl⟩)
    go_ret
    exact ⟨rfl, rfl⟩
set_option maxRecDepth 100000 in
theorem rgindex_calls (w : World) (s a : Nat) (hs : s ≤ 3) (ha : a < 2 ^ 32) : Calls Tryz.prog 24 #[.int .i64 (s : Int), .int .u32 (a : Int)] w fun e w' => e = .returned (.int .i64 (ridx s a : Int)) ∧ w' = w := by
  have HC := Lib.hid (rgcount_calls w (s : Int))
  rw [rcount_pow hs] at HC
  have HS := Lib.hid (rgsize_calls w s hs)
  have hz0 := Nat.two_pow_pos (32 - s)
  have hz1 : 2 ^ (32 - s) ≤ 2 ^ 32 := Nat.pow_le_pow_right (by omega) (by omega)
  have hc0 := Nat.two_pow_pos s
  obtain ⟨r, hr⟩ : ∃ r, r = ridx s a := ⟨_, rfl⟩
  rw [← hr]
  unfold ridx at hr
  have hra : r ≤ a := by rw [hr]; exact Nat.div_le_self _ _
  generalize 2 ^ (32 - s) = z at *
  generalize 2 ^ s = c at *
  have hw1 : IntKind.u64.wrap (a : Int) = (a : Int) := in64 a (by omega)
  have htd : (a : Int).tdiv (z : Int) = (r : Int) := by rw [hr]; rfl
  have hzn : ((z : Int) == 0) = false := beq_eq_false_iff_ne.2 (by omega)
  have hzn2 : ¬ (z : Int) = 0 := by omega
  have hcn : ((c : Int) == 0) = false := beq_eq_false_iff_ne.2 (by omega)
  have hw2 : IntKind.u64.wrap (r : Int) = (r : Int) := in64 r (by omega)
  have hw3 : IntKind.i64.wrap (r : Int) = (r : Int) := IntWalk.i64_in _ (by omega)
  clear hr hz0 hz1 hc0
  go_enter Tryz.func24, Tryz.ntmps24
  go_wp2_with (first | (go_at_call 16; refine Calls.mono HC.out ?_; rintro e w' ⟨rfl, rfl⟩) | (go_at_call 82; refine Calls.mono HS.out ?_; rintro e w' ⟨rfl, rfl⟩))
  go_ret
  exact ⟨rfl, rfl⟩
end Go.Proofs.YtjoblahedgpgbaaGreat

namespace Go.Proofs.YtjoblahedgpgbaaGreat
set_option linter.unusedVariables false
set_option linter.unusedSimpArgs false
open Go.RowKit

/-- The regions from one on. -/
def runN (lo k : Nat) : List Nat := (List.range k).map (lo + ·)
theorem runN_succ (lo k : Nat) : runN lo (k + 1) = runN lo k ++ [lo + k] := by
  unfold runN
  rw [List.range_succ, List.map_append]
  rfl
theorem runN_length (lo k : Nat) : (runN lo k).length = k := by simp [runN]
/-- The document's regions of a prefix. -/
def tchL (s : Nat) (p : Pf) : List Nat := if rtB p then runN (ridx s p.addr) (ridx s (lastN p.addr p.bits.toNat) + 1 - ridx s p.addr) else []
def IntsPost (w : World) (l : List Nat) (e : Ending) (w' : World) : Prop := ∃ vo, e = .returned vo ∧ w'.ownsRow w.heap.size 3 1 vo l.length (l.map nat64) ∧ Below w.heap.size w w'
set_option maxRecDepth 100000 in
set_option maxHeartbeats 4000000 in
theorem rgtouched_calls (w : World) (s : Nat) (hs : s ≤ 3) (p : Pf) (hp : p.addr < 2 ^ 32) : Calls Tryz.prog 22 #[.int .i64 (s : Int), p.val] w (IntsPost w (tchL s p)) := by
  obtain ⟨i0, hi, hz0, hz1, hz2⟩ := info_parts int_infoT
  have HX := Lib.hid (heap_alloc_new w (.cells #[.int .u32 (p.addr : Int), .int .i64 p.bits] 48))
  have HK := Lib.hid ((Below.refl w.heap.size w).alloc (Nat.le_refl _) (.cells #[.int .u32 (p.addr : Int), .int .i64 p.bits] 48))
  have HRT := Lib.hid (fun X => rright_calls X p hp)
  have HCT := Lib.hid (fun X => rgcount_calls X (s : Int))
  rw [rcount_pow hs] at HCT
  have hc0 := Nat.two_pow_pos s
  have hcn : (((2 ^ s : Nat) : Int) == 0) = false := beq_eq_false_iff_ne.2 (by omega)
  generalize 2 ^ s = c at *
  cases hr : rtB p with
  | false =>
    have hL : tchL s p = [] := by unfold tchL; rw [hr]; rfl
    rw [hr] at HRT
    rw [hL]
    obtain ⟨a, b⟩ := p
    clear hr hp hL hc0
    unfold Pf.val at *
    simp only at *
    go_enter Tryz.func22, Tryz.ntmps22
    go_upto_region 2 with (fail)
    generalize w.alloc (.cells #[.int .u32 (a : Int), .int .i64 b] 48) = w1 at *
    have c0 := cell_of HX.out 0
    have c1 := cell_of HX.out 1
    simp only [List.getElem?_toArray, List.getElem?_cons_zero, List.getElem?_cons_succ] at c0 c1
    go_wp2_with (go_at_call 79; refine Calls.mono (HRT.out _) ?_; rintro e w2 ⟨he, k2⟩; subst he; have HK2 := Lib.hid (HK.out.trans (k2.mono HK.out.size)); clear k2)
    exact bodyPost_ret (v := .slice none 0 0) (by simp [results, Tryz.results22, go_sem]) rfl ⟨_, rfl, World.ownsRow_nil _ _ _ _, HK2.out⟩
  | true =>
    obtain ⟨hb0, hb1, hb2⟩ := (rtB_iff p).1 hr
    obtain ⟨a, b⟩ := p
    simp only at hb0 hb1 hb2 hp
    obtain ⟨n, rfl⟩ : ∃ n : Nat, b = n := ⟨b.toNat, by omega⟩
    have hn : n ≤ 32 := by omega
    rw [Int.toNat_natCast] at hb2
    have hlast := right_last hp hn hb2
    have hll : lastN a n < 2 ^ 32 := by unfold lastN; have := Nat.two_pow_pos (32 - n); omega
    have hge : a ≤ lastN a n := by unfold lastN; have := Nat.two_pow_pos (32 - n); omega
    have HLA := Lib.hid (fun X => rlast_calls X a n hp hn hb2)
    have HI1 := Lib.hid (fun X => rgindex_calls X s a hs hp)
    have HI2 := Lib.hid (fun X => rgindex_calls X s (lastN a n) hs hll)
    have hlo := ridx_lt (s := s) (by omega) hp
    have hhi := ridx_lt (s := s) (by omega) hll
    have hle : ridx s a ≤ ridx s (lastN a n) := Nat.div_le_div_right hge
    have hpow : 2 ^ s ≤ 2 ^ 3 := Nat.pow_le_pow_right (by omega) hs
    have hL : tchL s ⟨a, n⟩ = runN (ridx s a) (ridx s (lastN a n) + 1 - ridx s a) := by unfold tchL; rw [hr]; rfl
    rw [hr] at HRT
    rw [hL]
    generalize lastN a n = la at *
    generalize ridx s a = lo at *
    generalize ridx s la = hx at *
    have hb8 : hx < 8 := by omega
    clear hr hL hc0 hb0 hb1 hb2 hlast hge hp hlo hhi hpow hll
    unfold Pf.val at *
    simp only at *
    go_enter Tryz.func22, Tryz.ntmps22
    go_upto_region 2 with (fail)
    generalize w.alloc (.cells #[.int .u32 (a : Int), .int .i64 (n : Int)] 48) = w1 at *
    have c0 := cell_of HX.out 0
    have c1 := cell_of HX.out 1
    simp only [List.getElem?_toArray, List.getElem?_cons_zero, List.getElem?_cons_succ] at c0 c1
    go_wp2_with (first | (go_at_call 79; refine Calls.mono (HRT.out _) ?_; rintro e w2 ⟨he, k2⟩; subst he; have HK2 := Lib.hid (HK.out.trans (k2.mono HK.out.size)); have HX2 := Lib.hid ((k2.block _ (lt_of_block HX.out)).trans HX.out); clear k2 c0 c1; have c0 := cell_of HX2.out 0; have c1 := cell_of HX2.out 1; simp only [List.getElem?_toArray, List.getElem?_cons_zero, List.getElem?_cons_succ] at c0 c1) | (go_at_call 16; refine Calls.mono (HCT.out _) ?_; rintro e w' ⟨rfl, rfl⟩) | (go_at_call 24; refine Calls.mono (HI1.out _) ?_; rintro e w' ⟨rfl, rfl⟩))
    clear c0 c1
    go_loopg [5, 6] (hx + 1 - lo) (fun gk vo vi wr => ∃ k : Nat, k + gk = hx + 1 - lo ∧ vi = .int .i64 ((lo + k : Nat) : Int) ∧ wr.ownsRow (w.heap.size + 1) 3 1 vo k ((runN lo k).map nat64) ∧ Below w.heap.size w wr ∧ wr.heap[w.heap.size]? = some (.cells #[.int .u32 (a : Int), .int .i64 (n : Int)] 48 (0, 0)))
    case atStart => exact ⟨0, by omega, rfl, World.ownsRow_nil _ _ _ _, HK2.out, HX2.out⟩
    case round =>
      obtain ⟨k, hgk, rfl, how, hK, hX⟩ := hrel
      have HOW := Lib.hid how
      have HKR := Lib.hid hK
      have HXR := Lib.hid hX
      have HGK := Lib.hid hgk
      have c0 := cell_of hX 0
      have c1 := cell_of hX 1
      simp only [List.getElem?_toArray, List.getElem?_cons_zero, List.getElem?_cons_succ] at c0 c1
      have hk8 : k ≤ 8 := by omega
      clear how hK hX
      by_cases hlt : lo + k ≤ hx
      · have hw1 : IntKind.i64.wrap (((lo + k : Nat) : Int) + 1) = ((lo + (k + 1) : Nat) : Int) := by rw [IntWalk.i64_in _ (by omega)]; omega
        have HLK : Hid (lo + k ≤ 16) := Lib.hid (by omega)
        have HG0 : Hid (0 < gk) := Lib.hid (by omega)
        clear hgk
        generalize hik : lo + k = ik at *
        have HIK := Lib.hid hik
        clear hik
        go_upto_region 7 with (first | (go_at_call 80; (refine Calls.mono (HLA.out _) ?_; rintro e w4 ⟨he, k4⟩; subst he; have HK4 := Lib.hid (HKR.out.trans (k4.mono HKR.out.size)); have HX4 := Lib.hid ((k4.block _ (lt_of_block HXR.out)).trans HXR.out); have HW4 := Lib.hid (own_kept HOW.out (Kept.of_below (S := []) k4) (by simp)); clear k4 c0 c1)) | (go_at_call 24; refine Calls.mono (HI2.out _) ?_; rintro e w6 ⟨he, hw⟩; subst he; have hw := hw.symm; subst hw))
        go_wp2_with (at_builtin; go_must (refine wpList_append_lies _ rfl (.tmp 28) (.tmp 30) 22 rfl (w.heap.size + 1) 3 i0 _ 1 8 Tryz.underlying22 hi hz0 hz1 hz2 rfl (by decide) _ k ((runN lo k).map nat64) rfl ?_ ⟨w4.heap.size, 0, none⟩ 1 1 [.int .i64 (ik : Int)] rfl rfl ?_ ?_ (by omega) ?_ ?_ ?_ _ rfl ?_); (· exact own_kept HW4.out ((Kept.refl [] _).alloc _) (by simp)); (· exact news_atT (by simp)); (· simp [Value.oneCell']); (· unfold maxLen; omega); (· omega); (· have := lt_of_block HX4.out; simp; omega); intro g9 cap9 w9 how9 hgr9 hat9 hlt9; have HOW9 := Lib.hid how9; have HGR9 := Lib.hid hgr9; clear how9 hgr9 hat9 hlt9)
        go_roundg (gk - 1)
        case measure => have := HG0.out; omega
        case rel =>
          have hkg := Kept.grown_rowT (S := []) ((Kept.of_below (S := []) HK4.out).alloc (.cells #[.int .i64 (ik : Int)] 3)) HGR9.out (fun g hg => Or.inr (by have := own_pastT HW4.out g hg; omega))
          refine ⟨k + 1, by have := HGK.out; have := HG0.out; omega, rfl, ?_, hkg.below (Nat.le_refl _) (by simp), ?_⟩
          · have h9 := HOW9.out
            rw [runN_succ, List.map_append, HIK.out]
            exact h9
          · exact (HGR9.out.block _ (by have := lt_of_block HX4.out; simp; omega) (fun e => by have := own_pastT HW4.out _ e.symm; omega)).trans (blk_alloc HX4.out _)
      · have h1 : decide (((lo + k : Nat) : Int) ≤ (hx : Int)) = false := decide_eq_false (by omega)
        have hke : k = hx + 1 - lo := by omega
        clear hgk hlt
        go_wp2_with (first | (go_at_call 80; go_loud (refine Calls.mono (HLA.out _) ?_; rintro e w4 ⟨he, k4⟩; subst he; have HFIN4 : Hid (IntsPost w (runN lo (hx + 1 - lo)) (.returned u5) w4) := Lib.hid ⟨u5, rfl, by rw [runN_length, ← hke]; exact own_kept (World.ownsRow.mono HOW.out (by omega)) (Kept.of_below (S := []) k4) (by simp), HKR.out.trans (k4.mono HKR.out.size)⟩; clear k4 c0 c1)) | (go_at_call 24; refine Calls.mono (HI2.out _) ?_; rintro e w6 ⟨he, hw⟩; subst he; have hw := hw.symm; subst hw))
        exact bodyPost_ret (v := u5) (by simp [results, Tryz.results22, go_sem]) rfl HFIN4.out
end Go.Proofs.YtjoblahedgpgbaaGreat

namespace Go.Proofs.YtjoblahedgpgbaaGreat
set_option linter.unusedVariables false
set_option linter.unusedSimpArgs false
open Go.RowKit

def pfCells (l : List Pf) : List Value := l.flatMap fun p => [.int .u32 (p.addr : Int), .int .i64 p.bits]
theorem pfCells_length (l : List Pf) : (pfCells l).length = l.length * 2 := by
  induction l with
  | nil => rfl
  | cons a l ih => unfold pfCells at *; rw [List.flatMap_cons, List.length_append, ih, List.length_cons]; simp; omega
theorem pfCells_snoc (l : List Pf) (p : Pf) : pfCells (l ++ [p]) = pfCells l ++ [.int .u32 (p.addr : Int), .int .i64 p.bits] := by
  unfold pfCells
  rw [List.flatMap_append]
  rfl
theorem pfCells_at : ∀ (l : List Pf) (i : Nat) (h : i < l.length), (pfCells l)[i * 2]? = some (.int .u32 (l[i].addr : Int)) ∧ (pfCells l)[i * 2 + 1]? = some (.int .i64 l[i].bits)
  | [], i, h => absurd h (Nat.not_lt_zero _)
  | p :: l, 0, _ => ⟨rfl, rfl⟩
  | p :: l, i + 1, h => by
    have ih := pfCells_at l i (by simpa using h)
    rw [show (i + 1) * 2 = i * 2 + 1 + 1 by omega]
    exact ih
/-- A row of prefixes, read. -/
def PfRow (w : World) (B : Nat) (v : Value) (l : List Pf) : Prop := (∀ p ∈ l, p.addr < 2 ^ 32 ∧ rtB p = true) ∧ w.ownsRow B 48 2 v l.length (pfCells l)
theorem PfRow.shape {w : World} {B : Nat} {v : Value} {l : List Pf} (h : PfRow w B v l) : ∃ ao cap, v = .slice ao l.length cap ∧ ∀ i, i < l.length → ∃ g, ao = some ⟨g, 0, none⟩ := by
  rcases h.2.2 with ⟨h0, h1⟩ | ⟨g', cap', cur, h0, _⟩
  · exact ⟨none, 0, by rw [h0, h1], fun i hi => by omega⟩
  · exact ⟨_, cap', h0, fun _ _ => ⟨g', rfl⟩⟩
/-- The regions below i that some prefix touches. -/
def allTo (s : Nat) (ps : List Pf) (i : Nat) : List Nat := (List.range i).filter fun i => ps.any fun p => tchB s p i
theorem allTo_succ (s : Nat) (ps : List Pf) (i : Nat) : allTo s ps (i + 1) = if (ps.any fun p => tchB s p i) = true then allTo s ps i ++ [i] else allTo s ps i := by
  unfold allTo
  rw [List.range_succ, List.filter_append, List.filter_cons, List.filter_nil]
  split <;> simp
theorem allTo_le (s : Nat) (ps : List Pf) (i : Nat) : (allTo s ps i).length ≤ i := by
  have := List.length_filter_le (fun i => ps.any fun p => tchB s p i) (List.range i)
  rw [List.length_range] at this
  exact this
set_option maxRecDepth 100000 in
set_option maxHeartbeats 8000000 in
theorem prall_calls {w : World} {B : Nat} {v : Value} {l : List Pf} (h : PfRow w B v l) (hB : l.length ≤ 1000) (s : Nat) (hs : s ≤ 3) : Calls Tryz.prog 81 #[.int .i64 (s : Int), v] w (IntsPost w (allR s l)) := by
  obtain ⟨i0, hi, hz0, hz1, hz2⟩ := info_parts int_infoT
  obtain ⟨ao, cap, rfl, hao⟩ := h.shape
  have HCT := Lib.hid (prcount_calls w (s : Int))
  rw [rcount_pow hs] at HCT
  have HPR := Lib.hid (fun X i hi => prprefix_calls X s i hs hi)
  have HL := Lib.hid h
  have HAO := Lib.hid hao
  have hc8 : 2 ^ s ≤ 2 ^ 3 := Nat.pow_le_pow_right (by omega) hs
  have hc8 : 2 ^ s ≤ 8 := hc8
  have HFA : Hid (allR s l = allTo s l (2 ^ s)) := Lib.hid rfl
  obtain ⟨c, hc⟩ : ∃ c, c = 2 ^ s := ⟨_, rfl⟩
  rw [← hc] at HCT HPR HFA hc8
  have HC0 := Lib.hid hc
  clear h hao hc
  go_enter Tryz.func81, Tryz.ntmps81
  go_wp2_with (go_at_call 90; refine Calls.mono HCT.out ?_; rintro e w6 ⟨he, hw⟩; subst he; have hw := hw.symm; subst hw)
  go_loopg [5, 11] c (fun gk vo vi wr => ∃ i : Nat, i + gk = c ∧ vi = .int .i64 (i : Int) ∧ wr.ownsRow w.heap.size 3 1 vo (allTo s l i).length ((allTo s l i).map nat64) ∧ Below w.heap.size w wr)
  case atStart => exact ⟨0, by omega, rfl, World.ownsRow_nil _ _ _ _, Below.refl _ _⟩
  case round =>
    obtain ⟨i, hgk, rfl, how, hK⟩ := hrel
    have HOW := Lib.hid how
    have HKR := Lib.hid hK
    have HGK := Lib.hid hgk
    have HLE := Lib.hid (allTo_le s l i)
    clear how hK
    by_cases hlt : i < c
    · have hw1 : IntKind.i64.wrap ((i : Int) + 1) = ((i + 1 : Nat) : Int) := by rw [IntWalk.i64_in _ (by omega)]; omega
      have HPI := Lib.hid (fun X => HPR.out X i hlt)
      have HG0 : Hid (0 < gk) := Lib.hid (by omega)
      have HLT := Lib.hid hlt
      clear hgk
      generalize u5 = vo at *
      generalize wr = wo at *
      generalize gk = go at *
      go_wp2_with (fail)
      go_loopg [5, 16] l.length (fun gk v5 vj wr => ∃ j : Nat, j + gk = l.length ∧ vj = .int .i64 (j : Int) ∧ v5 = vo ∧ Below wo.heap.size wo wr ∧ (l.take j).any (fun p => tchB s p i) = false)
      case atStart => exact ⟨0, by omega, rfl, rfl, Below.refl _ _, rfl⟩
      case round =>
        obtain ⟨j, hgj, rfl, rfl, hKJ, hno⟩ := hrel
        have HKJ := Lib.hid hKJ
        have HNO := Lib.hid hno
        have HGJ := Lib.hid hgj
        clear hno
        by_cases hlj : j < l.length
        · obtain ⟨g, hg⟩ := HAO.out j hlj
          subst hg
          have hcc := pfCells_at l j hlj
          have hrow := own_kept HL.out.2 (Kept.of_below (S := []) (HKR.out.trans (hKJ.mono HKR.out.size))) (by simp)
          have d0 := (hrow.cellAt (j * 2) (by omega)).trans hcc.1
          have d1 := (hrow.cellAt (j * 2 + 1) (by omega)).trans hcc.2
          obtain ⟨hp, hr⟩ := HL.out.1 _ (List.getElem_mem hlj)
          have htk : (l.take (j + 1)).any (fun p => tchB s p i) = tchB s l[j] i := by
            rw [List.take_add_one, List.getElem?_eq_getElem hlj, Option.toList_some, List.any_append, HNO.out]
            simp
          have hev : tchB s l[j] i = true → (l.any fun p => tchB s p i) = true := fun h => List.any_eq_true.2 ⟨_, List.getElem_mem hlj, h⟩
          have HTK := Lib.hid htk
          have HEV := Lib.hid hev
          clear htk hev hrow hcc hKJ
          generalize l[j] = p at *
          have HRT := Lib.hid (fun X => cright_calls X p hp)
          obtain ⟨a, b⟩ := p
          simp only at d0 d1 hp
          have HR0 := Lib.hid hr
          have HHP := Lib.hid hp
          have HXB := Lib.hid (heap_alloc_new wr (.cells #[.int .u32 (a : Int), .int .i64 b] 48))
          have HKB := Lib.hid ((Below.refl wr.heap.size wr).alloc (Nat.le_refl _) (.cells #[.int .u32 (a : Int), .int .i64 b] 48))
          have hjl := hlj
          have hw2 : IntKind.i64.wrap ((j : Int) + 1) = ((j + 1 : Nat) : Int) := by rw [IntWalk.i64_in _ (by omega)]; omega
          have HJ0 : Hid (0 < gk) := Lib.hid (by omega)
          clear hgj hp hr
          unfold Pf.val at HRT
          simp only at HRT
          go_upto_region 8 with (fail)
          generalize wr.alloc (.cells #[.int .u32 (a : Int), .int .i64 b] 48) = w3 at *
          clear d0 d1
          have c0 := cell_of HXB.out 0
          have c1 := cell_of HXB.out 1
          simp only [List.getElem?_toArray, List.getElem?_cons_zero, List.getElem?_cons_succ] at c0 c1
          have HCELL : Hid (∀ X, Below w3.heap.size w3 X → X.cell? ⟨wr.heap.size, 0, none⟩ = some (.int .u32 (a : Int)) ∧ X.cell? ⟨wr.heap.size, 1, none⟩ = some (.int .i64 b)) := Lib.hid (fun X k => by
            have h := (k.block _ (lt_of_block HXB.out)).trans HXB.out
            exact ⟨cell_of h 0, cell_of h 1⟩)
          have hr := HR0.out
          obtain ⟨hb0, hb1, hb2⟩ := (rtB_iff ⟨a, b⟩).1 hr
          simp only at hb0 hb1 hb2
          obtain ⟨n, rfl⟩ : ∃ n : Nat, b = n := ⟨b.toNat, by omega⟩
          have hn : n ≤ 32 := by omega
          have hpi : i * 2 ^ (32 - s) < 2 ^ 32 := by
            have h1 := HLT.out
            have h2 := HC0.out
            rw [h2] at h1
            have : i * 2 ^ (32 - s) < 2 ^ s * 2 ^ (32 - s) := Nat.mul_lt_mul_of_pos_right h1 (Nat.two_pow_pos _)
            rw [← Nat.pow_add, show s + (32 - s) = 32 by omega] at this
            exact this
          have HME := Lib.hid (fun X => cmeet_calls X a n (i * 2 ^ (32 - s)) s HHP.out hpi hn (by omega))
          have ht : tchB s ⟨a, n⟩ i = meetN a n (i * 2 ^ (32 - s)) s := by unfold tchB; rw [hr]; rfl
          rw [ht] at HTK HEV
          rw [hr] at HRT
          clear hr ht hb0 hb1 hb2 hpi hn
          generalize meetN a n (i * 2 ^ (32 - s)) s = me at *
          generalize ((i * 2 ^ (32 - s) : Nat) : Int) = ri at *
          go_region_held3 (fun X => X.cell? ⟨wr.heap.size, 0, none⟩ = some (.int .u32 (a : Int)) ∧ X.cell? ⟨wr.heap.size, 1, none⟩ = some (.int .i64 (n : Int))) (first | assumption | go_keep) (first | (go_at_call 149; refine Calls.mono (HRT.out _) ?_; rintro e w4 ⟨he, k4⟩; subst he; have hb4 : Below w3.heap.size w3 w4 := (by first | exact k4 | exact (Below.refl w3.heap.size w3).drew.trans k4); have HB4 := Lib.hid hb4; obtain ⟨s1, s2⟩ := HCELL.out _ hb4; clear k4 hb4) | (go_at_call 93; refine Calls.mono (HPI.out _) ?_; rintro e w5 ⟨he, k5⟩; subst he; have hb5 : Below w3.heap.size w3 w5 := HB4.out.trans (k5.mono HB4.out.size); have HB5 := Lib.hid hb5; obtain ⟨s3, s4⟩ := HCELL.out _ hb5; clear k5 hb5) | (go_at_call 150; refine Calls.mono (HME.out _) ?_; rintro e w6 ⟨he, k6⟩; subst he; have hb6 : Below w3.heap.size w3 w6 := HB5.out.trans (k6.mono HB5.out.size); have HB6 := Lib.hid hb6; obtain ⟨s5, s6⟩ := HCELL.out _ hb6; clear k6 hb6))
          all_goals
            cases me with
            | false =>
              go_wp2_with (fail)
              go_roundg (gk - 1)
              case measure => have := HJ0.out; omega
              case rel => exact ⟨j + 1, by have := HGJ.out; have := HJ0.out; omega, rfl, rfl, HKJ.out.trans ((HKB.out.trans (HB6.out.mono HKB.out.size)).mono HKJ.out.size), HTK.out⟩
            | true =>
              have hkw := HKJ.out.trans ((HKB.out.trans (HB6.out.mono HKB.out.size)).mono HKJ.out.size)
              have HKW := Lib.hid (HKR.out.trans (hkw.mono HKR.out.size))
              have HW6 := Lib.hid (own_kept HOW.out (Kept.of_below (S := []) hkw) (by simp))
              have HZ6 := Lib.hid (Nat.le_trans HKR.out.size hkw.size)
              have hle := HLE.out
              clear hkw
              go_wp2_with (at_builtin; go_must (refine wpList_append_lies _ rfl (.tmp 29) (.tmp 31) 22 rfl w.heap.size 3 i0 _ 1 8 Tryz.underlying22 hi hz0 hz1 hz2 rfl (by decide) _ (allTo s l i).length ((allTo s l i).map nat64) rfl ?_ ⟨w6.heap.size, 0, none⟩ 1 1 [.int .i64 (i : Int)] rfl rfl ?_ ?_ (by omega) ?_ ?_ ?_ _ rfl ?_); (· exact own_kept HW6.out ((Kept.refl [] _).alloc _) (by simp)); (· exact news_atT (by simp)); (· simp [Value.oneCell']); (· unfold maxLen; omega); (· omega); (· have := HZ6.out; simp; omega); intro g9 cap9 w9 how9 hgr9 hat9 hlt9; have HOW9 := Lib.hid how9; have HGR9 := Lib.hid hgr9; clear how9 hgr9 hat9 hlt9)
              go_roundg (go - 1)
              case measure => have := HG0.out; omega
              case rel =>
                have hkg := Kept.grown_rowT (S := []) ((Kept.of_below (S := []) HKW.out).alloc (.cells #[.int .i64 (i : Int)] 3)) HGR9.out (fun g hg => Or.inr (own_pastT HW6.out g hg))
                have hsu := allTo_succ s l i
                rw [if_pos (HEV.out trivial)] at hsu
                refine ⟨i + 1, by have := HGK.out; have := HG0.out; omega, rfl, ?_, hkg.below (Nat.le_refl _) (by simp)⟩
                have h9 := HOW9.out
                rw [hsu, List.map_append, List.length_append]
                exact h9
        · obtain rfl : j = l.length := by omega
          have hno := HNO.out
          rw [List.take_length] at hno
          have hsu := allTo_succ s l i
          rw [if_neg (by rw [hno]; decide)] at hsu
          have HSU := Lib.hid hsu
          have HKW := Lib.hid (HKR.out.trans (hKJ.mono HKR.out.size))
          have HW6 := Lib.hid (own_kept HOW.out (Kept.of_below (S := []) hKJ) (by simp))
          clear hno hsu hgj hKJ
          go_wp2_with (fail)
          go_roundg (go - 1)
          case measure => have := HG0.out; omega
          case rel => exact ⟨i + 1, by have := HGK.out; have := HG0.out; omega, rfl, by rw [HSU.out]; exact HW6.out, HKW.out⟩
    · obtain rfl : i = c := by omega
      have HFIN : Hid (IntsPost w (allR s l) (.returned u5) wr) := Lib.hid ⟨u5, rfl, by rw [HFA.out]; exact HOW.out, HKR.out⟩
      clear hgk
      go_wp2_with (fail)
      exact bodyPost_ret (v := u5) (by simp [results, Tryz.results81, go_sem]) rfl HFIN.out
end Go.Proofs.YtjoblahedgpgbaaGreat
