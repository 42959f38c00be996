/- The walk of sat.count. -/
import Derived.Test.YtakgghhmecphmaaWide
import Derived.Test.YtakgghhmecphmaaSem
import Derived.Test.YtakgghhmecphmaaLimit
import Derived.Deep.RegionHeld3
namespace Go.Proofs.Ytakgghhmecphmaa
set_option linter.unusedVariables false
set_option linter.unusedSimpArgs false
open Go.RowKit Go.Maps

/-- What has been counted. -/
def SC (A : Arn) (S : Nat → Option Nat) : Prop := ∀ f c, S f = some c → c = waysA A f
theorem ways_lt (A : Arn) (f : Nat) : waysA A f ≤ 2 ^ (104 - A.lv f) := ways_le _ _

theorem part_le {a L l : Nat} (h : a ≤ 2 ^ (104 - L)) (h1 : l < L) (h2 : L ≤ 104) : a * 2 ^ (L - l - 1) ≤ 2 ^ 103 := by
  have h3 := Nat.mul_le_mul_right (2 ^ (L - l - 1)) h
  rw [← Nat.pow_add] at h3
  exact Nat.le_trans h3 (Nat.pow_le_pow_right (by omega) (by omega))
theorem nodeF_at {A : Arn} (hA : A.OK) {f : Nat} (hf : f < A.nodes.length) (h2 : 2 ≤ f) : nodeF A (f : Int) = ((A.lv f : Int), ((A.nd f).low : Int), ((A.nd f).high : Int)) := by
  unfold nodeF
  rw [if_pos (by omega), if_neg (by omega), Int.toNat_natCast]
  rfl
theorem nodeF_top {A : Arn} (hA : A.OK) {f : Nat} (hf : f < A.nodes.length) : ∃ a b : Int, nodeF A (f : Int) = ((A.lv f : Int), a, b) := by
  rcases Nat.lt_or_ge f 2 with h | h
  · refine ⟨f, f, ?_⟩
    unfold nodeF
    rw [if_pos (by omega), if_pos (by omega)]
    obtain rfl | rfl : f = 0 ∨ f = 1 := by omega
    · rw [hA.lv_zero]; rfl
    · rw [hA.lv_one]; rfl
  · exact ⟨_, _, nodeF_at hA hf h⟩

set_option maxRecDepth 100000 in
set_option maxHeartbeats 4000000 in
theorem count_calls {p g mb sb : Nat} {A : Arn} (hO : A.OK) (hsp : sb ≠ p) (hsg : sb ≠ g) (hsm : sb ≠ mb) : ∀ (d f : Nat), f ≤ d → f < A.nodes.length → ∀ (w : World) (n : Nat) (S : Nat → Option Nat), ArenaAt w p g mb A →
    IsMapOf Try.prog 3 nat64 cval w sb n S → SC A S →
    Calls Try.prog 57 #[.pointer (some ⟨p, 0, none⟩), .int .i64 (f : Int), .map (some sb)] w fun e w' => e = .returned (cval (waysA A f)) ∧ ∃ n' S', IsMapOf Try.prog 3 nat64 cval w' sb n' S' ∧ SC A S' ∧ Kept [sb] w w' := by
  intro d
  induction d with
  | zero =>
    intro f h0 hf w n S HA HM HS
    obtain rfl : f = 0 := by omega
    have HM := Lib.hid HM
    have HS := Lib.hid HS
    clear HA
    rw [waysA_zero hO]
    go_enter Try.func57, Try.ntmps57
    go_wp2
    simp [bodyPost, results, Try.results57, go_sem]
    refine ⟨rfl, n, S, HM.out.of_block (Below.heap_alloc _ _ _ HM.out.lt), HS.out, Kept.of_alloc _ _⟩
  | succ d ih =>
    intro f hfd hf w n S HA HM HS
    have HA := Lib.hid HA
    have HM := Lib.hid HM
    have HS := Lib.hid HS
    have IH := Lib.hid ih
    clear ih
    rcases Nat.lt_or_ge f 2 with h2 | h2
    · obtain rfl | rfl : f = 0 ∨ f = 1 := by omega
      · rw [waysA_zero hO]
        go_enter Try.func57, Try.ntmps57
        go_wp2
        simp [bodyPost, results, Try.results57, go_sem]
        refine ⟨rfl, n, S, HM.out.of_block (Below.heap_alloc _ _ _ HM.out.lt), HS.out, Kept.of_alloc _ _⟩
      · rw [waysA_one hO]
        go_enter Try.func57, Try.ntmps57
        rw [show ((1 : Nat) : Int) = 1 from rfl]
        go_wp2_with (fail)
        have HF := of_calls (w.alloc (.cells #[.int .u64 0, .int .u64 0] 44)) 1 (by omega)
        rw [show cval 1 = .agg #[.int .u64 0, .int .u64 1] from rfl] at HF
        refine HF.mono ?_
        rintro e w5 ⟨he, k5⟩
        subst he
        have C5 := (k5.block w.heap.size (by simp)).trans (heap_alloc_new w (.cells #[.int .u64 0, .int .u64 0] 44))
        have ds10 := And.intro (cell_of C5 0) (cell_of C5 1)
        simp only [List.getElem?_toArray, List.getElem?_cons_zero, List.getElem?_cons_succ] at ds10
        have gz0 := unfrozen_of C5 0
        have gz1 := unfrozen_of C5 1
        have K5 := Lib.hid (((Kept.refl [sb] w).alloc (.cells #[.int .u64 0, .int .u64 0] 44)).trans (Kept.of_below (S := []) k5) (by simp))
        have M5 := Lib.hid (HM.out.of_block ((k5.block sb (by have := HM.out.lt; simp; omega)).trans (Below.heap_alloc _ _ _ HM.out.lt)))
        have HC5 := Lib.hid C5
        clear C5 k5 HF
        go_wp2_with (fail)
        have E0 := set_block HC5.out 0 (.int .u64 0)
        have E1 := set_block E0 1 (.int .u64 1)
        have q0 := cell_of E0 0
        have q1 := cell_of E1 1
        simp at q0 q1
        simp [bodyPost, results, Try.results57, go_sem, q0, q1]
        have hsbx : sb ≠ w.heap.size := by have := HM.out.lt; omega
        have M11 := M5.out.of_block (Below.heap_setCell w5 ⟨w.heap.size, 0, none⟩ (.int .u64 0) sb hsbx)
        have M12 := M11.of_block (Below.heap_setCell _ ⟨w.heap.size, 1, none⟩ (.int .u64 1) sb hsbx)
        exact ⟨rfl, _, _, M12, HS.out, (K5.out.setCell ⟨w.heap.size, 0, none⟩ (.int .u64 0) (Or.inr (Nat.le_refl _))).setCell ⟨w.heap.size, 1, none⟩ (.int .u64 1) (Or.inr (Nat.le_refl _))⟩
    · have t1 : ((f : Int) == 0) = false := by simp; omega
      have t2 : ((f : Int) == 1) = false := by simp; omega
      have hkey := nat64_key (x := f) (by have := hO.len; have := hO.most; omega)
      rcases hs : S f with _ | c
      · have hlk : ∀ o, (Instr.lookup 102 (.map (some sb)) (.int .i64 (f : Int)) true).run Try.prog (w.alloc o) = .ok (.tuple #[.agg #[.int .u64 0, .int .u64 0], .bool false]) (w.alloc o) := by
          intro o
          have := (HM.out.of_block (Below.heap_alloc w o sb HM.out.lt)).look intKeyed nat64_inj Try.underlying102 (z := cval 0) (by kernel_rfl) f hkey true
          rw [hs] at this
          exact this
        go_enter Try.func57, Try.ntmps57
        go_wp2_with (fail)
        have k1 : Below w.heap.size w ((w.alloc (.cells #[.int .u64 0, .int .u64 0] 44)).alloc (.cells #[.int .u64 0, .int .u64 0] 44)) := ((Below.refl _ _).alloc (Nat.le_refl _) _).alloc (by simp) _
        have c0 : ((w.alloc (.cells #[.int .u64 0, .int .u64 0] 44)).alloc (.cells #[.int .u64 0, .int .u64 0] 44)).heap[w.heap.size]? = some (.cells #[.int .u64 0, .int .u64 0] 44 (0, 0)) := blk_alloc (heap_alloc_new w _) _
        generalize (w.alloc (.cells #[.int .u64 0, .int .u64 0] 44)).alloc (.cells #[.int .u64 0, .int .u64 0] 44) = w1 at *
        obtain ⟨a, b, c', dd, e1, e2⟩ := hO.at_ hf h2
        have hN := node_calls (HA.out.below k1) (f : Int)
        rw [nodeF_at hO hf h2] at hN
        refine hN.mono ?_
        clear hN
        rintro e w2 ⟨he, k2⟩
        subst he
        have K2 := Lib.hid (k1.trans (k2.mono k1.size))
        have c2 := (k2.block _ (lt_of_block c0)).trans c0
        have HA2 := Lib.hid (HA.out.below K2.out)
        have HM2 := Lib.hid (HM.out.of_block (K2.out.block sb HM.out.lt))
        have hsz2 := K2.out.size
        have hne := Nat.lt_of_lt_of_le (lt_of_block c0) k2.size
        have hsw := HM.out.lt
        have hps := HA.out.lt
        clear k1 k2 c0 hlk HA HM
        have C2 := Lib.hid c2
        have hw := waysA_node hO hf h2
        have hlf := hO.lv_le f
        have hll := hO.lv_le (A.nd f).low
        have hlh := hO.lv_le (A.nd f).high
        have bl := ways_lt A (A.nd f).low
        have bh := ways_lt A (A.nd f).high
        obtain ⟨nl1, nl2, nel⟩ := nodeF_top hO (f := (A.nd f).low) (by omega)
        obtain ⟨nh1, nh2, neh⟩ := nodeF_top hO (f := (A.nd f).high) (by omega)
        have HNL := Lib.hid (fun w' (R : ArenaAt w' p g mb A) => by have := node_calls R ((A.nd f).low : Int); rw [nel] at this; exact this)
        have HNH := Lib.hid (fun w' (R : ArenaAt w' p g mb A) => by have := node_calls R ((A.nd f).high : Int); rw [neh] at this; exact this)
        have hlo : (A.nd f).low < A.nodes.length := by omega
        have hhi : (A.nd f).high < A.nodes.length := by omega
        have hld : (A.nd f).low ≤ d := by omega
        have hhd : (A.nd f).high ≤ d := by omega
        clear nel neh c2 dd a
        generalize (A.nd f).low = lo at *
        generalize (A.nd f).high = hi at *
        generalize hll' : A.lv lo = llo at *
        generalize hlh' : A.lv hi = lhi at *
        generalize hlf' : A.lv f = lf at *
        have PL : waysA A lo * 2 ^ (llo - lf - 1) ≤ 2 ^ 103 := part_le bl e1 hll
        have PH : waysA A hi * 2 ^ (lhi - lf - 1) ≤ 2 ^ 103 := part_le bh e2 hlh
        go_wp2_with (fail)
        have K3 := Lib.hid (K2.out.alloc K2.out.size (.cells #[.int .u64 0, .int .u64 0] 44))
        have HA3 := Lib.hid (HA2.out.below ((Below.refl _ _).alloc (Nat.le_refl _) (.cells #[.int .u64 0, .int .u64 0] 44)))
        have HM3 := Lib.hid (HM2.out.of_block (Below.heap_alloc w2 (.cells #[.int .u64 0, .int .u64 0] 44) sb HM2.out.lt))
        have C3 := Lib.hid (blk_alloc C2.out (.cells #[.int .u64 0, .int .u64 0] 44))
        have B3 := Lib.hid (heap_alloc_new w2 (.cells #[.int .u64 0, .int .u64 0] 44))
        have hz3 : w2.heap.size < (w2.alloc (.cells #[.int .u64 0, .int .u64 0] 44)).heap.size := by simp
        clear HA2 HM2 C2
        generalize w2.alloc (.cells #[.int .u64 0, .int .u64 0] 44) = w3 at *
        generalize w2.heap.size = bx at *
        go_loopw [43] (fun vi wr => ∃ (i n' c : Nat) (S' : Nat → Option Nat), i ≤ 2 ∧ vi = .int .i64 (i : Int) ∧ (i = 0 → c = 0) ∧ (i = 1 → c = 2 ^ (llo - lf - 1) * waysA A lo) ∧ (i = 2 → c = waysA A f) ∧
          IsMapOf Try.prog 3 nat64 cval wr sb n' S' ∧ SC A S' ∧ wr.heap[bx]? = some (.cells #[.int .u64 ((c / 18446744073709551616 : Nat) : Int), .int .u64 ((c % 18446744073709551616 : Nat) : Int)] 44 (0, 0)) ∧ Kept [sb, bx] w3 wr) (fun vi _ => 2 - (intOf vi).toNat)
        case atStart => exact ⟨0, n, 0, S, by omega, rfl, fun _ => rfl, fun h => by omega, fun h => by omega, HM3.out, HS.out, B3.out, Kept.refl _ _⟩
        case round =>
          obtain ⟨i, n', c, S', hi2, rfl, hc0, hc1, hc2, hM, hS, hB, hK⟩ := hrel
          have HM4 := Lib.hid hM
          have HS4 := Lib.hid hS
          have HB4 := Lib.hid hB
          have HK4 := Lib.hid hK
          have HA4 := Lib.hid (HA3.out.kept hK (by simp; omega) (by simp; omega) (by simp; omega))
          clear hM hS hB hK
          have hcase : i = 0 ∨ i = 1 ∨ i = 2 := by omega
          rcases hcase with rfl | rfl | rfl
          · rw [show ((0 : Nat) : Int) = 0 from rfl]
            have i0 : ∀ w, (Instr.index 124 (.agg #[.int .i64 (lo : Int), .int .i64 (hi : Int)]) (.int .i64 0)).run Try.prog w = .ok (.int .i64 (lo : Int)) w := fun _ => by kernel_rfl
            have HCC := Lib.hid (And.intro hc0 (And.intro hc1 hc2))
            have hcle : c ≤ 2 ^ 103 := by rw [hc0 rfl]; exact Nat.zero_le _
            clear hc0 hc1 hc2
            go_wp2_with (fail)
            clear i0
            refine (HNL.out _ HA4.out).mono ?_
            rintro e w5 ⟨he, k5⟩
            subst he
            have hbx4 := lt_of_block HB4.out
            have hsb4 := HM4.out.lt
            have HA5 := Lib.hid (HA4.out.below k5)
            have HB5 := Lib.hid ((k5.block bx hbx4).trans HB4.out)
            have HM5 := Lib.hid (HM4.out.of_block (k5.block sb hsb4))
            have HK5 := Lib.hid (HK4.out.trans (Kept.of_below (S := []) k5) (by simp))
            clear k5 HA4 HB4 HM4 HK4
            go_wp2_with (fail)
            have hw1 : IntKind.i64.wrap ((llo : Int) - (lf : Int)) = ((llo - lf : Nat) : Int) := by rw [IntKind.wrap_i64]; omega
            have hw2 : IntKind.i64.wrap (((llo - lf : Nat) : Int) - 1) = ((llo - lf - 1 : Nat) : Int) := by rw [IntKind.wrap_i64]; omega
            have ADD := Lib.hid (fun w' => cadd_calls w' c (waysA A lo * 2 ^ (llo - lf - 1)) (by omega))
            have UP := Lib.hid (fun w' => up_calls w' (waysA A lo) (llo - lf - 1) (by omega) (by omega))
            have CNT := Lib.hid (IH.out lo (by assumption) (by assumption) w5.drew _ _ (HA5.out.kept ((Kept.refl [] w5).drew) (by simp) (by simp) (by simp)) (HM5.out.of_block rfl) HS4.out)
            generalize hu : cval (waysA A lo * 2 ^ (llo - lf - 1)) = u at *
            generalize hv : cval (waysA A lo) = v at *
            unfold cval at ADD
            generalize hx0 : (c / 18446744073709551616 : Nat) = x0 at *
            generalize hy0 : (c % 18446744073709551616 : Nat) = y0 at *
            generalize hx1 : ((c + waysA A lo * 2 ^ (llo - lf - 1)) / 18446744073709551616 : Nat) = x1 at *
            generalize hy1 : ((c + waysA A lo * 2 ^ (llo - lf - 1)) % 18446744073709551616 : Nat) = y1 at *
            have HX1 := Lib.hid hx1
            have HY1 := Lib.hid hy1
            clear hu hv hx0 hy0 hx1 hy1
            have cs5 : w5.drew.cell? ⟨bx, 0, none⟩ = some (.int .u64 (x0 : Int)) ∧ w5.drew.cell? ⟨bx, 1, none⟩ = some (.int .u64 (y0 : Int)) := ⟨cell_of HB5.out 0, cell_of HB5.out 1⟩
            go_region_law (first | (go_simp; go_at_call 57; refine Calls.mono CNT.out ?_; rintro e w6 ⟨he, n6, S6, M6, Sc6, K6⟩; subst he; have HM6 := Lib.hid M6; have HS6 := Lib.hid Sc6; have HK6 := Lib.hid K6; have HB6 := Lib.hid ((K6.block bx (lt_of_block (show w5.drew.heap[bx]? = _ from HB5.out)) (by simp; omega)).trans HB5.out); have cs6 := And.intro (cell_of HB6.out 0) (cell_of HB6.out 1); simp at cs6; clear M6 Sc6 K6) | (go_simp; go_at_call 58; refine Calls.mono (UP.out _) ?_; rintro e w7 ⟨he, K7⟩; subst he; have HK7 := Lib.hid K7; have HB7 := Lib.hid ((K7.block bx (lt_of_block HB6.out)).trans HB6.out); have cs7 := And.intro (cell_of HB7.out 0) (cell_of HB7.out 1); simp at cs7; clear K7) | (go_simp; go_at_call 48; refine Calls.mono (ADD.out _) ?_; rintro e w8 ⟨he, K8⟩; subst he; have HK8 := Lib.hid K8; have HB8 := Lib.hid ((K8.block bx (lt_of_block HB7.out)).trans HB7.out); have cs8 := And.intro (cell_of HB8.out 0) (cell_of HB8.out 1); simp at cs8; have fz0 := unfrozen_of HB8.out 0; have fz1 := unfrozen_of HB8.out 1; clear K8))
            all_goals
              go_wp2
              go_roundw
              case measure => simp [intOf]
              case rel =>
                have hsbx : sb ≠ bx := by omega
                have M7 := HM6.out.of_block (HK7.out.block sb HM6.out.lt)
                have M8 := M7.of_block (HK8.out.block sb M7.lt)
                have M9 := M8.of_block (Below.heap_setCell w8 ⟨bx, 0, none⟩ (.int .u64 (x1 : Int)) sb hsbx)
                have M10 := M9.of_block (Below.heap_setCell _ ⟨bx, 1, none⟩ (.int .u64 (y1 : Int)) sb hsbx)
                refine ⟨0 + 1, n6, c + waysA A lo * 2 ^ (llo - lf - 1), S6, by omega, rfl, fun h => by omega, fun _ => by rw [HCC.out.1 (by simp), Nat.zero_add, Nat.mul_comm], fun h => by omega, M10, HS6.out, ?_, ?_⟩
                · have := set_block (set_block HB8.out 0 (.int .u64 (x1 : Int))) 1 (.int .u64 (y1 : Int))
                  rw [HX1.out, HY1.out]
                  simpa using this
                · exact (((((HK5.out.drew).trans HK6.out (by simp)).trans (Kept.of_below (S := []) HK7.out) (by simp)).trans (Kept.of_below (S := []) HK8.out) (by simp)).setCell ⟨bx, 0, none⟩ (.int .u64 (x1 : Int)) (Or.inl (by simp))).setCell ⟨bx, 1, none⟩ (.int .u64 (y1 : Int)) (Or.inl (by simp))
          · rw [show ((1 : Nat) : Int) = 1 from rfl]
            have i0 : ∀ w, (Instr.index 124 (.agg #[.int .i64 (lo : Int), .int .i64 (hi : Int)]) (.int .i64 1)).run Try.prog w = .ok (.int .i64 (hi : Int)) w := fun _ => by kernel_rfl
            have HCC := Lib.hid (And.intro hc0 (And.intro hc1 hc2))
            have hcle : c ≤ 2 ^ 103 := by rw [hc1 rfl, Nat.mul_comm]; exact PL
            clear hc0 hc1 hc2
            go_wp2_with (fail)
            clear i0
            refine (HNH.out _ HA4.out).mono ?_
            rintro e w5 ⟨he, k5⟩
            subst he
            have hbx4 := lt_of_block HB4.out
            have hsb4 := HM4.out.lt
            have HA5 := Lib.hid (HA4.out.below k5)
            have HB5 := Lib.hid ((k5.block bx hbx4).trans HB4.out)
            have HM5 := Lib.hid (HM4.out.of_block (k5.block sb hsb4))
            have HK5 := Lib.hid (HK4.out.trans (Kept.of_below (S := []) k5) (by simp))
            clear k5 HA4 HB4 HM4 HK4
            go_wp2_with (fail)
            have hw1 : IntKind.i64.wrap ((lhi : Int) - (lf : Int)) = ((lhi - lf : Nat) : Int) := by rw [IntKind.wrap_i64]; omega
            have hw2 : IntKind.i64.wrap (((lhi - lf : Nat) : Int) - 1) = ((lhi - lf - 1 : Nat) : Int) := by rw [IntKind.wrap_i64]; omega
            have ADD := Lib.hid (fun w' => cadd_calls w' c (waysA A hi * 2 ^ (lhi - lf - 1)) (by omega))
            have UP := Lib.hid (fun w' => up_calls w' (waysA A hi) (lhi - lf - 1) (by omega) (by omega))
            have CNT := Lib.hid (IH.out hi (by assumption) (by assumption) w5.drew _ _ (HA5.out.kept ((Kept.refl [] w5).drew) (by simp) (by simp) (by simp)) (HM5.out.of_block rfl) HS4.out)
            generalize hu : cval (waysA A hi * 2 ^ (lhi - lf - 1)) = u at *
            generalize hv : cval (waysA A hi) = v at *
            unfold cval at ADD
            generalize hx0 : (c / 18446744073709551616 : Nat) = x0 at *
            generalize hy0 : (c % 18446744073709551616 : Nat) = y0 at *
            generalize hx1 : ((c + waysA A hi * 2 ^ (lhi - lf - 1)) / 18446744073709551616 : Nat) = x1 at *
            generalize hy1 : ((c + waysA A hi * 2 ^ (lhi - lf - 1)) % 18446744073709551616 : Nat) = y1 at *
            have HX1 := Lib.hid hx1
            have HY1 := Lib.hid hy1
            clear hu hv hx0 hy0 hx1 hy1
            have cs5 : w5.drew.cell? ⟨bx, 0, none⟩ = some (.int .u64 (x0 : Int)) ∧ w5.drew.cell? ⟨bx, 1, none⟩ = some (.int .u64 (y0 : Int)) := ⟨cell_of HB5.out 0, cell_of HB5.out 1⟩
            go_region_law (first | (go_simp; go_at_call 57; refine Calls.mono CNT.out ?_; rintro e w6 ⟨he, n6, S6, M6, Sc6, K6⟩; subst he; have HM6 := Lib.hid M6; have HS6 := Lib.hid Sc6; have HK6 := Lib.hid K6; have HB6 := Lib.hid ((K6.block bx (lt_of_block (show w5.drew.heap[bx]? = _ from HB5.out)) (by simp; omega)).trans HB5.out); have cs6 := And.intro (cell_of HB6.out 0) (cell_of HB6.out 1); simp at cs6; clear M6 Sc6 K6) | (go_simp; go_at_call 58; refine Calls.mono (UP.out _) ?_; rintro e w7 ⟨he, K7⟩; subst he; have HK7 := Lib.hid K7; have HB7 := Lib.hid ((K7.block bx (lt_of_block HB6.out)).trans HB6.out); have cs7 := And.intro (cell_of HB7.out 0) (cell_of HB7.out 1); simp at cs7; clear K7) | (go_simp; go_at_call 48; refine Calls.mono (ADD.out _) ?_; rintro e w8 ⟨he, K8⟩; subst he; have HK8 := Lib.hid K8; have HB8 := Lib.hid ((K8.block bx (lt_of_block HB7.out)).trans HB7.out); have cs8 := And.intro (cell_of HB8.out 0) (cell_of HB8.out 1); simp at cs8; have fz0 := unfrozen_of HB8.out 0; have fz1 := unfrozen_of HB8.out 1; clear K8))
            all_goals
              go_wp2
              go_roundw
              case measure => simp [intOf]
              case rel =>
                have hsbx : sb ≠ bx := by omega
                have M7 := HM6.out.of_block (HK7.out.block sb HM6.out.lt)
                have M8 := M7.of_block (HK8.out.block sb M7.lt)
                have M9 := M8.of_block (Below.heap_setCell w8 ⟨bx, 0, none⟩ (.int .u64 (x1 : Int)) sb hsbx)
                have M10 := M9.of_block (Below.heap_setCell _ ⟨bx, 1, none⟩ (.int .u64 (y1 : Int)) sb hsbx)
                refine ⟨1 + 1, n6, c + waysA A hi * 2 ^ (lhi - lf - 1), S6, by omega, rfl, fun h => by omega, fun h => by omega, fun _ => by have := HCC.out.2.1 (by simp); rw [hw, this, Nat.mul_comm (waysA A hi)], M10, HS6.out, ?_, ?_⟩
                · have := set_block (set_block HB8.out 0 (.int .u64 (x1 : Int))) 1 (.int .u64 (y1 : Int))
                  rw [HX1.out, HY1.out]
                  simpa using this
                · exact (((((HK5.out.drew).trans HK6.out (by simp)).trans (Kept.of_below (S := []) HK7.out) (by simp)).trans (Kept.of_below (S := []) HK8.out) (by simp)).setCell ⟨bx, 0, none⟩ (.int .u64 (x1 : Int)) (Or.inl (by simp))).setCell ⟨bx, 1, none⟩ (.int .u64 (y1 : Int)) (Or.inl (by simp))
          · have hcw := hc2 rfl
            clear hc0 hc1 hc2
            have HCW := Lib.hid hcw
            clear hcw
            rw [show ((2 : Nat) : Int) = 2 from rfl]
            generalize hx0 : (c / 18446744073709551616 : Nat) = x0 at *
            generalize hy0 : (c % 18446744073709551616 : Nat) = y0 at *
            have HCV := Lib.hid (show Value.agg #[.int .u64 (x0 : Int), .int .u64 (y0 : Int)] = cval c by rw [← hx0, ← hy0]; rfl)
            clear hx0 hy0
            have cs4 := And.intro (cell_of HB4.out 0) (cell_of HB4.out 1)
            simp only [List.getElem?_toArray, List.getElem?_cons_zero, List.getElem?_cons_succ] at cs4
            have C4 := (HK4.out.block w.heap.size (lt_of_block C3.out) (by simp; omega)).trans C3.out
            have fz0 := unfrozen_of C4 0
            have fz1 := unfrozen_of C4 1
            go_wp2_with (at_mapUpdate; refine wpList_put _ rfl _ _ _ 102 44 rfl intKeyed nat64_inj Try.underlying102 HM4.out f c hkey rfl rfl HCV.out ?_; intro w10 M10 hg10; have M10 := Lib.hid M10; have HG10 := Lib.hid hg10; have B10 := blk_grown HB4.out hg10 (by omega); have C10 := blk_grown C4 hg10 (by omega); have cs10 := And.intro (cell_of B10 0) (cell_of B10 1); simp only [List.getElem?_toArray, List.getElem?_cons_zero, List.getElem?_cons_succ] at cs10; have ds10 := And.intro (cell_of C10 0) (cell_of C10 1); simp only [List.getElem?_toArray, List.getElem?_cons_zero, List.getElem?_cons_succ] at ds10; have gz0 := unfrozen_of C10 0; have gz1 := unfrozen_of C10 1; have C10 := Lib.hid C10; have B10 := Lib.hid B10; clear hg10)
            have E0 := set_block C10.out 0 (.int .u64 (x0 : Int))
            have E1 := set_block E0 1 (.int .u64 (y0 : Int))
            have q0 := cell_of E0 0
            have q1 := cell_of E1 1
            simp at q0 q1
            simp [bodyPost, results, Try.results57, go_sem, q0, q1]
            have hsbx : sb ≠ w.heap.size := by omega
            have M11 := M10.out.of_block (Below.heap_setCell w10 ⟨w.heap.size, 0, none⟩ (.int .u64 (x0 : Int)) sb hsbx)
            have M12 := M11.of_block (Below.heap_setCell _ ⟨w.heap.size, 1, none⟩ (.int .u64 (y0 : Int)) sb hsbx)
            refine ⟨by rw [HCV.out, HCW.out], _, _, M12, ?_, ?_⟩
            · intro f' c' h
              unfold upd at h
              split at h
              · rename_i e
                rw [e, ← Option.some.inj h]
                exact HCW.out
              · exact HS4.out f' c' h
            · have hbx : w.heap.size ≤ bx := by omega
              have hk := ((Kept.of_below (S := [sb]) K3.out).trans HK4.out (by simp; omega)).trans (Kept.of_grown HG10.out) (by simp)
              exact (hk.setCell ⟨w.heap.size, 0, none⟩ (.int .u64 (x0 : Int)) (Or.inr (Nat.le_refl _))).setCell ⟨w.heap.size, 1, none⟩ (.int .u64 (y0 : Int)) (Or.inr (Nat.le_refl _))
      · obtain rfl := HS.out f c hs
        have hlk : ∀ o, (Instr.lookup 102 (.map (some sb)) (.int .i64 (f : Int)) true).run Try.prog (w.alloc o) = .ok (.tuple #[.agg #[.int .u64 ((waysA A f / 18446744073709551616 : Nat) : Int), .int .u64 ((waysA A f % 18446744073709551616 : Nat) : Int)], .bool true]) (w.alloc o) := by
          intro o
          have := (HM.out.of_block (Below.heap_alloc w o sb HM.out.lt)).look intKeyed nat64_inj Try.underlying102 (z := cval 0) (by kernel_rfl) f hkey true
          rw [hs] at this
          exact this
        have ecv : cval (waysA A f) = .agg #[.int .u64 ((waysA A f / 18446744073709551616 : Nat) : Int), .int .u64 ((waysA A f % 18446744073709551616 : Nat) : Int)] := rfl
        rw [ecv]
        clear ecv
        generalize hx0 : (waysA A f / 18446744073709551616 : Nat) = x0 at *
        generalize hy0 : (waysA A f % 18446744073709551616 : Nat) = y0 at *
        clear hx0 hy0 hs
        go_enter Try.func57, Try.ntmps57
        go_wp2_with (fail)
        simp [bodyPost, results, Try.results57, go_sem]
        exact ⟨n, S, HM.out.of_block ((Below.heap_alloc _ _ _ (by have := HM.out.lt; simp; omega)).trans (Below.heap_alloc _ _ _ HM.out.lt)), HS.out, ((Kept.refl [sb] w).alloc _).alloc _⟩

end Go.Proofs.Ytakgghhmecphmaa
