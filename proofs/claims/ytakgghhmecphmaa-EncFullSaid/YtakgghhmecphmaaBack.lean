/- The document's number, Back and with: bits made a header again. -/
import Derived.Test.YtakgghhmecphmaaBits
import Derived.Test.YtakgghhmecphmaaHeldP
namespace Go.Proofs.Ytakgghhmecphmaa
set_option linter.unusedVariables false
set_option linter.unusedSimpArgs false
open Go.RowKit Go.Maps

def numB (l : List Bool) : Nat := l.foldl (fun n b => n * 2 + b.toNat) 0
theorem numB_snoc (l : List Bool) (b : Bool) : numB (l ++ [b]) = numB l * 2 + b.toNat := by simp [numB]
theorem numB_lt (l : List Bool) : numB l < 2 ^ l.length := by
  rw [← List.reverse_reverse l]
  induction l.reverse with
  | nil => simp [numB]
  | cons b r ih =>
    rw [List.reverse_cons, numB_snoc, List.length_append, List.length_singleton, Nat.pow_succ]
    have : b.toNat ≤ 1 := by cases b <;> simp
    omega
theorem numB_bit : ∀ (r : List Bool) (i : Nat), i < r.length → (numB r.reverse).testBit i = r.getD i false
  | [], i, h => by simp at h
  | b :: r, 0, _ => by
    rw [List.reverse_cons, numB_snoc, Nat.testBit_zero]
    cases b <;> simp
  | b :: r, i + 1, h => by
    rw [List.reverse_cons, numB_snoc, Nat.testBit_succ]
    have : (numB r.reverse * 2 + b.toNat) / 2 = numB r.reverse := by cases b <;> simp <;> omega
    rw [this, numB_bit r i (by simpa using h)]
    simp
theorem numB_at (l : List Bool) (j : Nat) (h : j < l.length) : (numB l).testBit (l.length - 1 - j) = l.getD j false := by
  have := numB_bit l.reverse (l.length - 1 - j) (by simp; omega)
  rw [List.reverse_reverse] at this
  rw [this, List.getD_eq_getElem?_getD, List.getD_eq_getElem?_getD, List.getElem?_reverse (by omega)]
  congr 2
  omega
/-- The bits from a place on. -/
def cutB (l : List Bool) (at_ long : Nat) : List Bool := (l.drop at_).take long
theorem cutB_length {l : List Bool} {a n : Nat} (h : a + n ≤ l.length) : (cutB l a n).length = n := by simp [cutB]; omega
theorem cutB_succ {l : List Bool} {a t : Nat} (h : a + t < l.length) : cutB l a (t + 1) = cutB l a t ++ [l.getD (a + t) false] := by
  unfold cutB
  rw [List.take_add_one, List.getElem?_drop, List.getD_eq_getElem?_getD, List.getElem?_eq_getElem h]
  rfl
theorem cutB_at {l : List Bool} {a n j : Nat} (hj : j < n) : (cutB l a n).getD j false = l.getD (a + j) false := by
  unfold cutB
  rw [List.getD_eq_getElem?_getD, List.getD_eq_getElem?_getD, List.getElem?_take_of_lt hj, List.getElem?_drop]
theorem numC_lt {l : List Bool} {a n : Nat} (h : a + n ≤ l.length) : numB (cutB l a n) < 2 ^ n := by
  have := numB_lt (cutB l a n)
  rwa [cutB_length h] at this
theorem numC_bit {l : List Bool} {a n j : Nat} (h : a + n ≤ l.length) (hj : j < n) : (numB (cutB l a n)).testBit (n - 1 - j) = l.getD (a + j) false := by
  have := numB_at (cutB l a n) j (by rw [cutB_length h]; exact hj)
  rw [cutB_length h] at this
  rw [this, cutB_at hj]

/-- The header of bits. -/
def backH (l : List Bool) : Hd := ⟨numB (cutB l 0 32), numB (cutB l 32 32), numB (cutB l 64 8), numB (cutB l 72 16), numB (cutB l 88 16)⟩
theorem backH_wf {l : List Bool} (h : l.length = 104) : (backH l).Wf :=
  ⟨numC_lt (by omega), numC_lt (by omega), numC_lt (by omega), numC_lt (by omega), numC_lt (by omega)⟩
theorem backH_bit {l : List Bool} (h : l.length = 104) (i : Nat) : (backH l).bit i = l.getD i false := by
  unfold Hd.bit backH
  simp only
  split
  · rename_i h1
    have := numC_bit (l := l) (a := 0) (n := 32) (j := i) (by omega) h1
    rw [Nat.zero_add] at this
    rw [← this]
  split
  · have := numC_bit (l := l) (a := 32) (n := 32) (j := i - 32) (by omega) (by omega)
    rw [show 32 + (i - 32) = i by omega, show 32 - 1 - (i - 32) = 63 - i by omega] at this
    exact this
  split
  · have := numC_bit (l := l) (a := 64) (n := 8) (j := i - 64) (by omega) (by omega)
    rw [show 64 + (i - 64) = i by omega, show 8 - 1 - (i - 64) = 71 - i by omega] at this
    exact this
  split
  · have := numC_bit (l := l) (a := 72) (n := 16) (j := i - 72) (by omega) (by omega)
    rw [show 72 + (i - 72) = i by omega, show 16 - 1 - (i - 72) = 87 - i by omega] at this
    exact this
  split
  · have := numC_bit (l := l) (a := 88) (n := 16) (j := i - 88) (by omega) (by omega)
    rw [show 88 + (i - 88) = i by omega, show 16 - 1 - (i - 88) = 103 - i by omega] at this
    exact this
  · rw [List.getD_eq_getElem?_getD, List.getElem?_eq_none (by omega)]
    rfl
/-- All bits of a header, as a list. -/
def bitsB (h : Hd) : List Bool := (List.range 104).map h.bit
theorem bitsB_length (h : Hd) : (bitsB h).length = 104 := by simp [bitsB]
theorem bitsB_at (h : Hd) {i : Nat} (hi : i < 104) : (bitsB h)[i]? = some (h.bit i) := by simp [bitsB, hi]
theorem range_split (f : Nat → Value) (a b : Nat) : (List.range (a + b)).map f = (List.range a).map f ++ (List.range b).map fun j => f (a + j) := by
  rw [List.range_add, List.map_append, List.map_map]; rfl
theorem bitsH_eq (h : Hd) : bitsH h = (bitsB h).map Value.bool := by
  unfold bitsB
  rw [List.map_map, show (104 : Nat) = 32 + 32 + 8 + 16 + 16 from rfl, range_split, range_split, range_split, range_split]
  unfold bitsH addN
  refine congr (congrArg _ (congr (congrArg _ (congr (congrArg _ (congr (congrArg _ ?_) ?_)) ?_)) ?_)) ?_ <;>
  · refine List.map_congr_left fun j hj => ?_
    have := List.mem_range.1 hj
    simp only [Function.comp, Hd.bit]
    refine congrArg Value.bool ?_
    first
      | (rw [if_pos (by omega)]; done)
      | (rw [if_pos (by omega)]; congr 1; omega)
      | (rw [if_neg (by omega), if_pos (by omega)]; congr 1; omega)
      | (rw [if_neg (by omega), if_neg (by omega), if_pos (by omega)]; congr 1; omega)
      | (rw [if_neg (by omega), if_neg (by omega), if_neg (by omega), if_pos (by omega)]; congr 1; omega)
      | (rw [if_neg (by omega), if_neg (by omega), if_neg (by omega), if_neg (by omega), if_pos (by omega)]; congr 1; omega)
theorem updB_bits (h : Hd) (v : Nat) (hv : v < 104) (x : Bool) : (backH ((bitsB h).set v x)).bit = updB h.bit v x := by
  funext i
  rw [backH_bit (by simp [bitsB_length]), List.getD_eq_getElem?_getD]
  unfold updB
  by_cases e : i = v
  · subst e
    rw [List.getElem?_set_self (by rw [bitsB_length]; exact hv), if_pos rfl]
    rfl
  · rw [List.getElem?_set_ne (by omega), if_neg e]
    by_cases hi : i < 104
    · rw [bitsB_at h hi]; rfl
    · rw [List.getElem?_eq_none (by rw [bitsB_length]; omega)]
      unfold Hd.bit
      simp [show ¬ i < 32 by omega, show ¬ i < 64 by omega, show ¬ i < 72 by omega, show ¬ i < 88 by omega, hi]

/-- Bits that lie in memory. -/
def BoolsAt (w : World) (g off : Nat) (xs : List Bool) : Prop := ∀ i, i < xs.length → w.cell? ⟨g, off + i, none⟩ = some (.bool (xs.getD i false))
theorem BoolsAt.kept {S : List Nat} {w w' : World} {g off : Nat} {xs : List Bool} (h : BoolsAt w g off xs) (k : Kept S w w') (hg : g ∉ S) : BoolsAt w' g off xs :=
  fun i hi => k.cell (h i hi) hg
theorem BoolsAt.below {w w' : World} {g off : Nat} {xs : List Bool} (h : BoolsAt w g off xs) (k : Below w.heap.size w w') : BoolsAt w' g off xs := h.kept (Kept.of_below (S := []) k) (by simp)
theorem BoolsAt.set {w : World} {g : Nat} {xs : List Bool} (h : BoolsAt w g 0 xs) (v : Nat) (on : Bool) : BoolsAt (w.setCell ⟨g, v, none⟩ (.bool on)) g 0 (xs.set v on) := by
  intro i hi
  rw [List.length_set] at hi
  have hc := h i hi
  rw [Nat.zero_add] at hc ⊢
  rw [List.getD_eq_getElem?_getD]
  by_cases e : i = v
  · subst e
    rw [World.cell?_setCell_same (h := hc), List.getElem?_set_self hi]
    rfl
  · have hne : (⟨g, v, none⟩ : Addr) ≠ ⟨g, i, none⟩ := by
      intro h1
      injection h1 with _ h2
      omega
    rw [World.cell?_setCell_other (h := hne), List.getElem?_set_ne (by omega), ← List.getD_eq_getElem?_getD]
    exact hc
theorem BoolsAt.of_own {w : World} {base g n cap : Nat} {xs : List Bool} (h : w.ownsRow base 4 1 (.slice (some ⟨g, 0, none⟩) n cap) n (xs.map Value.bool)) : BoolsAt w g 0 xs := by
  intro i hi
  have hl := h.1
  simp at hl
  rw [Nat.zero_add, h.cellAt i (by omega), List.getElem?_map, List.getD_eq_getElem?_getD, List.getElem?_eq_getElem hi]
  rfl

theorem own_bools {w : World} {base k : Nat} {vo : Value} {xs : List Bool} (h : w.ownsRow base 4 1 vo k (xs.map Value.bool)) (h0 : 0 < k) : ∃ g cap, vo = .slice (some ⟨g, 0, none⟩) k cap ∧ BoolsAt w g 0 xs ∧ base ≤ g ∧ g < w.heap.size := by
  obtain ⟨g, cap, rfl, hb, hz⟩ := h.form h0
  exact ⟨g, cap, rfl, BoolsAt.of_own h, hb, hz⟩

set_option maxRecDepth 100000 in
set_option maxHeartbeats 1000000 in
theorem number_calls (w : World) (g off n cap : Nat) (xs : List Bool) (at_ long : Nat) (ai li : Int) (hai : ai = (at_ : Int)) (hli : li = (long : Int)) (hx : xs.length ≤ n) (hn : n ≤ 1000000) (h : at_ + long ≤ xs.length) (hl : long ≤ 32) (hc : BoolsAt w g off xs) :
    Calls Try.prog 89 #[.slice (some ⟨g, off, none⟩) n cap, .int .i64 ai, .int .i64 li] w fun e w' => e = .returned (.int .u32 (numB (cutB xs at_ long) : Int)) ∧ w = w' := by
  subst hai hli
  go_enter Try.func89, Try.ntmps89
  go_wp2_with (fail)
  have HC := Lib.hid hc
  clear hc
  go_loopg [7, 8] long (fun gk v vi wr => ∃ t : Nat, t + gk = long ∧ vi = .int .i64 (t : Int) ∧ v = .int .u32 (numB (cutB xs at_ t) : Int) ∧ w = wr)
  case atStart => exact ⟨0, by omega, rfl, rfl, rfl⟩
  case round =>
    obtain ⟨t, ht, rfl, rfl, rfl⟩ := hrel
    by_cases hlt : t < long
    · have hcell := HC.out (at_ + t) (by omega)
      have hs := cutB_succ (l := xs) (a := at_) (t := t) (by omega)
      have hb := numC_lt (l := xs) (a := at_) (n := t) (by omega)
      have hp : 2 ^ t ≤ 2 ^ 31 := Nat.pow_le_pow_right (by omega) (by omega)
      have h31 : numB (cutB xs at_ t) < 2147483648 := by omega
      have HS := Lib.hid hs
      clear hs hb hp
      generalize xs.getD (at_ + t) false = bv at *
      have HM := Lib.hid (congrArg numB HS.out)
      rw [numB_snoc] at HM
      generalize numB (cutB xs at_ t) = m at *
      cases bv
      · go_wp2_with (fail)
        go_roundg (gk - 1)
        case measure => omega
        case rel =>
          refine ⟨t + 1, by omega, by go_num, ?_, rfl⟩
          rw [HM.out]
          simp
      · go_wp2_with (fail)
        go_roundg (gk - 1)
        case measure => omega
        case rel =>
          refine ⟨t + 1, by omega, by go_num, ?_, rfl⟩
          rw [HM.out]
          simp
    · obtain rfl : t = long := by omega
      go_wp2_with (fail)
      go_ret
      exact ⟨rfl, rfl⟩

set_option maxRecDepth 100000 in
set_option maxHeartbeats 1000000 in
theorem back_calls (w : World) (g off n cap : Nat) (xs : List Bool) (hx : xs.length = 104) (hn1 : 104 ≤ n) (hn : n ≤ 1000000) (hc : BoolsAt w g off xs) :
    Calls Try.prog 75 #[.slice (some ⟨g, off, none⟩) n cap] w fun e w' => e = .returned (backH xs).val ∧ Below w.heap.size w w' := by
  have b0 := numC_lt (l := xs) (a := 0) (n := 32) (by omega)
  have b1 := numC_lt (l := xs) (a := 32) (n := 32) (by omega)
  have b2 := numC_lt (l := xs) (a := 64) (n := 8) (by omega)
  have b3 := numC_lt (l := xs) (a := 72) (n := 16) (by omega)
  have b4 := numC_lt (l := xs) (a := 88) (n := 16) (by omega)
  have HC := Lib.hid (fun w' (k : Below w.heap.size w w') => hc.below k)
  have HN := Lib.hid (fun w' at_ long ai li e1 e2 => number_calls w' g off n cap xs at_ long ai li e1 e2 (by omega) hn)
  have HX := Lib.hid hx
  unfold backH Hd.val
  simp only
  generalize hz0 : numB (cutB xs 0 32) = z0 at *
  generalize hz1 : numB (cutB xs 32 32) = z1 at *
  generalize hz2 : numB (cutB xs 64 8) = z2 at *
  generalize hz3 : numB (cutB xs 72 16) = z3 at *
  generalize hz4 : numB (cutB xs 88 16) = z4 at *
  have HZ := Lib.hid (And.intro hz0 (And.intro hz1 (And.intro hz2 (And.intro hz3 hz4))))
  simp at b0 b1 b2 b3 b4
  clear hc hz0 hz1 hz2 hz3 hz4 hx hn
  go_enter Try.func75, Try.ntmps75
  go_wp2_with (fail)
  refine (HN.out _ 0 32 0 32 rfl rfl (by rw [HX.out]; omega) (by omega) (HC.out _ ((Below.refl _ _).alloc (Nat.le_refl _) _))).mono ?_
  rintro e w' ⟨he, hw⟩
  subst he hw
  rw [HZ.out.1]
  go_wp2_with (fail)
  refine (HN.out _ 32 32 32 32 rfl rfl (by rw [HX.out]; omega) (by omega) (HC.out _ ((Below.refl _ _).alloc (Nat.le_refl _) _))).mono ?_
  rintro e w' ⟨he, hw⟩
  subst he hw
  rw [HZ.out.2.1]
  go_wp2_with (fail)
  refine (HN.out _ 64 8 64 8 rfl rfl (by rw [HX.out]; omega) (by omega) (HC.out _ ((Below.refl _ _).alloc (Nat.le_refl _) _))).mono ?_
  rintro e w' ⟨he, hw⟩
  subst he hw
  rw [HZ.out.2.2.1]
  go_wp2_with (fail)
  refine (HN.out _ 72 16 72 16 rfl rfl (by rw [HX.out]; omega) (by omega) (HC.out _ ((Below.refl _ _).alloc (Nat.le_refl _) _))).mono ?_
  rintro e w' ⟨he, hw⟩
  subst he hw
  rw [HZ.out.2.2.2.1]
  go_wp2_with (fail)
  refine (HN.out _ 88 16 88 16 rfl rfl (by rw [HX.out]; omega) (by omega) (HC.out _ ((Below.refl _ _).alloc (Nat.le_refl _) _))).mono ?_
  rintro e w' ⟨he, hw⟩
  subst he hw
  rw [HZ.out.2.2.2.2]
  go_wp2_with (fail)
  simp [bodyPost, results, Try.results75, go_sem]
  exact (Below.refl _ _).alloc (Nat.le_refl _) _

set_option maxRecDepth 100000 in
set_option maxHeartbeats 1000000 in
theorem with_calls (w : World) (h : Hd) (hw : h.Wf) (v : Nat) (hv : v < 104) (on : Bool) :
    Calls Try.prog 62 #[h.val, .int .i64 (v : Int), .bool on] w fun e w' => e = .returned (backH ((bitsB h).set v on)).val ∧ Below w.heap.size w w' := by
  have HBT := Lib.hid (fun w' => bits_calls w' h hw)
  have HBK := Lib.hid back_calls
  generalize hR : (backH ((bitsB h).set v on)).val = R
  have HR := Lib.hid hR
  obtain ⟨d, s, p, sp, dp⟩ := h
  unfold Hd.val at *
  simp only at *
  clear hw hR
  go_enter Try.func62, Try.ntmps62
  go_wp2_with (fail)
  refine (HBT.out _).mono ?_
  rintro e w1 ⟨vb, he, hob, kb⟩
  subst he
  rw [bitsH_eq] at hob
  obtain ⟨gb, capb, rfl, hgB, hgb, hgz⟩ := own_bools hob (by omega)
  have cb := hob.cellAt v (by omega)
  rw [List.getElem?_map, bitsB_at _ hv] at cb
  simp only [Option.map_some] at cb
  have fb := hob.frozenAt v
  generalize Hd.bit ⟨d, s, p, sp, dp⟩ v = old at cb
  have k0 := ((Below.refl w.heap.size w).alloc (Nat.le_refl _) (.cells #[.int .u32 (d : Int), .int .u32 (s : Int), .int .u8 (p : Int), .int .u16 (sp : Int), .int .u16 (dp : Int)] 25)).alloc (by simp) (.cells #[.int .u32 0, .int .u32 0, .int .u8 0, .int .u16 0, .int .u16 0] 25)
  have hX := heap_alloc_new (w.alloc (.cells #[.int .u32 (d : Int), .int .u32 (s : Int), .int .u8 (p : Int), .int .u16 (sp : Int), .int .u16 (dp : Int)] 25)) (.cells #[.int .u32 0, .int .u32 0, .int .u8 0, .int .u16 0, .int .u16 0] 25)
  rw [show (w.alloc (.cells #[.int .u32 (d : Int), .int .u32 (s : Int), .int .u8 (p : Int), .int .u16 (sp : Int), .int .u16 (dp : Int)] 25)).heap.size = w.heap.size + 1 by simp] at hX
  have hzz : ((w.alloc (.cells #[.int .u32 (d : Int), .int .u32 (s : Int), .int .u8 (p : Int), .int .u16 (sp : Int), .int .u16 (dp : Int)] 25)).alloc (.cells #[.int .u32 0, .int .u32 0, .int .u8 0, .int .u16 0, .int .u16 0] 25)).heap.size = w.heap.size + 2 := by simp
  rw [hzz] at hgb
  have hX1 := (kb.block _ (by rw [hzz]; omega)).trans hX
  have HK1 := Lib.hid (k0.trans (kb.mono (by rw [hzz]; omega)))
  have HX1 := Lib.hid hX1
  have HGB := Lib.hid hgB
  have hz1 := HK1.out.size
  have hx1 := lt_of_block hX1
  clear k0 hX kb hX1 hgB hob HBT hzz
  go_wp2_with (fail)
  have HG2 := HGB.out.set v on
  have HK2 := Lib.hid (((Kept.refl [gb] w1).setCell ⟨gb, v, none⟩ (.bool on) (by simp)))
  refine (HBK.out _ gb 0 104 capb _ (by simp [bitsB_length]) (by omega) (by omega) HG2).mono ?_
  rintro e w2 ⟨he, k2⟩
  subst he
  have HX2 := Lib.hid ((k2.block _ (by simp; omega)).trans (blk_setCell HX1.out (by show w.heap.size + 1 ≠ gb; omega) _))
  have HK3 := Lib.hid (Kept.trans (S := []) (Kept.of_below HK1.out) (HK2.out.trans (Kept.of_below (S := []) k2) (by simp)) (by simp; omega))
  generalize backH ((bitsB ⟨d, s, p, sp, dp⟩).set v on) = BH at *
  obtain ⟨b0, b1, b2, b3, b4⟩ := BH
  simp only at HR
  have dx := And.intro (cell_of HX2.out 0) (And.intro (cell_of HX2.out 1) (And.intro (cell_of HX2.out 2) (And.intro (cell_of HX2.out 3) (cell_of HX2.out 4))))
  simp only [List.getElem?_toArray, List.getElem?_cons_zero, List.getElem?_cons_succ] at dx
  have fx := And.intro (unfrozen_of HX2.out 0) (And.intro (unfrozen_of HX2.out 1) (And.intro (unfrozen_of HX2.out 2) (And.intro (unfrozen_of HX2.out 3) (unfrozen_of HX2.out 4))))
  clear k2 HK1 HK2 HG2 HGB cb fb
  go_wp2_with (fail)
  have E0 := set_block HX2.out 0 (.int .u32 (b0 : Int))
  have q0 := cell_of E0 0
  have E1 := set_block E0 1 (.int .u32 (b1 : Int))
  have q1 := cell_of E1 1
  have E2 := set_block E1 2 (.int .u8 (b2 : Int))
  have q2 := cell_of E2 2
  have E3 := set_block E2 3 (.int .u16 (b3 : Int))
  have q3 := cell_of E3 3
  have E4 := set_block E3 4 (.int .u16 (b4 : Int))
  have q4 := cell_of E4 4
  simp at q0 q1 q2 q3 q4
  clear E0 E1 E2 E3 E4
  simp [bodyPost, results, Try.results62, go_sem, q0, q1, q2, q3, q4]
  refine ⟨HR.out, (HK3.out.trans (((((Kept.refl [w.heap.size + 1] w2).setCell _ _ (by simp)).setCell _ _ (by simp)).setCell _ _ (by simp)).setCell _ _ (by simp) |>.setCell _ _ (by simp)) (by simp)).below (Nat.le_refl _) (by simp)⟩

end Go.Proofs.Ytakgghhmecphmaa
