/- The walk of cidr's Blocks. -/
import Derived.Test.YtakgghhmecphmaaLitsW
namespace Go.Proofs.Ytakgghhmecphmaa
set_option linter.unusedVariables false
set_option linter.unusedSimpArgs false
open Go.RowKit

theorem blk_info : (Try.prog.info? 141).map (fun i => (i.zero, i.size, i.bytes)) = some (some (.agg #[.int .u16 0, .int .i64 0]), 2, 16) := by kernel_rfl
def BlocksPost (w : World) (lo hi : Nat) (e : Ending) (w' : World) : Prop := ∃ vo bs, e = .returned vo ∧ Chain lo bs (hi + 1) ∧ w'.ownsRow w.heap.size 141 2 vo bs.length (blCells bs) ∧ Below w.heap.size w w'
set_option maxRecDepth 100000 in
set_option maxHeartbeats 8000000 in
theorem blocks_calls (w : World) (lo hi : Nat) (hlh : lo ≤ hi) (hh : hi < 65536) : Calls Try.prog 88 #[.agg #[.int .u16 (lo : Int), .int .u16 (hi : Int)]] w (BlocksPost w lo hi) := by
  obtain ⟨i0, hi0, hz0, hz1, hz2⟩ := info_parts blk_info
  have HX := Lib.hid (heap_alloc_new w (.cells #[.int .u16 (lo : Int), .int .u16 (hi : Int)] 75))
  have HK := Lib.hid ((Below.refl w.heap.size w).alloc (Nat.le_refl _) (.cells #[.int .u16 (lo : Int), .int .u16 (hi : Int)] 75))
  go_enter Try.func88, Try.ntmps88
  go_upto_region 2 with (fail)
  generalize w.alloc (.cells #[.int .u16 (lo : Int), .int .u16 (hi : Int)] 75) = w1 at *
  have c0 := cell_of HX.out 0
  have c1 := cell_of HX.out 1
  simp only [List.getElem?_toArray, List.getElem?_cons_zero, List.getElem?_cons_succ] at c0 c1
  have hlw : IntKind.i64.wrap (lo : Int) = (lo : Int) := IntWalk.i64_in _ (by omega)
  have hhw : IntKind.i64.wrap (hi : Int) = (hi : Int) := IntWalk.i64_in _ (by omega)
  go_quiet (fail)
  have hk2 : Below w.heap.size w (w1.drewN nq) := ((Kept.of_below (S := []) HK.out).drewN nq).below (Nat.le_refl _) (by simp)
  have HK2 := Lib.hid hk2
  clear hk2 c0 c1 HX
  generalize w1.drewN nq = w2 at *
  go_wp2_with (fail)
  go_loopg [3, 4] (hi + 1 - lo) (fun gk vo vm wr => ∃ (m : Nat) (bs : List (Nat × Nat)), m + gk = hi + 1 ∧ vm = .int .i64 (m : Int) ∧ Chain lo bs m ∧ wr.ownsRow w.heap.size 141 2 vo bs.length (blCells bs) ∧ Below w.heap.size w wr)
  case atStart => exact ⟨lo, [], by omega, rfl, rfl, World.ownsRow_nil _ _ _ _, HK2.out⟩
  case round =>
    obtain ⟨m, bs, hgk, rfl, hch, how, hK⟩ := hrel
    have HCH := Lib.hid hch
    have HOW := Lib.hid how
    have HKR := Lib.hid hK
    have HGK := Lib.hid hgk
    have HLE : Hid (bs.length ≤ 65536) := Lib.hid (by have := hch.le; omega)
    clear hch how hK
    by_cases hlt : m ≤ hi
    · have hmi : decide ((m : Int) ≤ (hi : Int)) = true := decide_eq_true (by omega)
      have hmm : m < 65536 := by omega
      clear hgk
      generalize u3 = vo at *
      generalize wr = wo at *
      generalize gk = go at *
      go_wp2_with (fail)
      go_loopg [6] 17 (fun gk vs wr => ∃ k s : Nat, k + gk = 17 ∧ vs = .int .i64 (s : Int) ∧ s = 2 ^ k ∧ m % s = 0 ∧ m + s ≤ hi + 1 ∧ wo = wr)
      case atStart => exact ⟨0, 1, by omega, rfl, rfl, Nat.mod_one m, by omega, rfl⟩
      case round =>
        obtain ⟨k, s, hgj, rfl, hs, hms, hmh, rfl⟩ := hrel
        have HS := Lib.hid hs
        have HMS := Lib.hid hms
        have HGJ := Lib.hid hgj
        have hk16 : k ≤ 16 := by
          rcases Nat.lt_or_ge 16 k with h | h
          · have : 2 ^ 17 ≤ 2 ^ k := Nat.pow_le_pow_right (by omega) h
            omega
          · exact h
        have hs0 : 0 < s := by rw [hs]; exact Nat.two_pow_pos k
        clear hs hms hgj
        have hw2 : IntKind.i64.wrap (2 * (s : Int)) = 2 * (s : Int) := IntWalk.i64_in _ (by omega)
        have hw3 : IntKind.i64.wrap ((s : Int) * 2) = ((s * 2 : Nat) : Int) := by rw [IntWalk.i64_in _ (by omega)]; omega
        have hw4 : IntKind.i64.wrap ((m : Int) + 2 * (s : Int)) = (m : Int) + 2 * (s : Int) := IntWalk.i64_in _ (by omega)
        have hw5 : IntKind.i64.wrap ((m : Int) + 2 * (s : Int) - 1) = (m : Int) + 2 * (s : Int) - 1 := IntWalk.i64_in _ (by omega)
        have hne : ((2 * (s : Int)) == 0) = false := beq_eq_false_iff_ne.2 (by omega)
        have hne2 : ¬ (2 * (s : Int)) = 0 := by omega
        obtain ⟨z, hz⟩ : ∃ z, z = m % (s * 2) := ⟨_, rfl⟩
        have htm : (m : Int).tmod (2 * (s : Int)) = (z : Int) := by
          rw [Int.tmod_eq_emod_of_nonneg (by omega), show (2 * (s : Int)) = ((s * 2 : Nat) : Int) by omega, hz]
          exact (Int.natCast_emod m (s * 2)).symm
        have HZ := Lib.hid hz
        clear hz
        by_cases hc : z = 0 ∧ m + 2 * s ≤ hi + 1
        · obtain ⟨rfl, hc2⟩ := hc
          have h2 : decide ((m : Int) + 2 * (s : Int) - 1 ≤ (hi : Int)) = true := decide_eq_true (by omega)
          have h3 : (m : Int) + 2 * (s : Int) - 1 ≤ (hi : Int) := by omega
          have HC := Lib.hid hc2
          clear hc2
          go_wp2_with (fail)
          go_roundg (gk - 1)
          case measure => have := HGJ.out; omega
          case rel => exact ⟨k + 1, s * 2, by have := HGJ.out; omega, rfl, by rw [Nat.pow_succ, ← HS.out], HZ.out.symm, by have := HC.out; omega, rfl⟩
        · have HTAIL : Hid (Chain lo (bs ++ [(m, 16 - k)]) (m + s)) := Lib.hid (by
            have h := HCH.out.snoc (n := 16 - k) (by omega) (by rw [show 16 - (16 - k) = k by omega, ← HS.out]; exact HMS.out)
            rwa [show 16 - (16 - k) = k by omega, ← HS.out] at h)
          by_cases hzz : z = 0
          · subst hzz
            have h2 : decide ((m : Int) + 2 * (s : Int) - 1 ≤ (hi : Int)) = false := decide_eq_false (by omega)
            have h3 : ¬ (m : Int) + 2 * (s : Int) - 1 ≤ (hi : Int) := by omega
            go_wp2_with (fail)
            go_loopg [7, 8] k (fun gk vn vs wr => ∃ t q : Nat, t + gk = k ∧ vn = .int .i64 ((16 - t : Nat) : Int) ∧ vs = .int .i64 (q : Int) ∧ q = 2 ^ (k - t) ∧ wo = wr)
            case atStart => exact ⟨0, s, by omega, rfl, rfl, by rw [HS.out, Nat.sub_zero], rfl⟩
            case round =>
              obtain ⟨t, q, hgt, rfl, rfl, hq, rfl⟩ := hrel
              have HGT := Lib.hid hgt
              have hq16 : q ≤ 65536 := by
                rw [hq]
                have h16 : 2 ^ (k - t) ≤ 2 ^ 16 := Nat.pow_le_pow_right (by omega) (by omega)
                have e16 : (2 : Nat) ^ 16 = 65536 := rfl
                omega
              by_cases htk : t < k
              · have hn1 : IntKind.i64.wrap (((16 - t : Nat) : Int) - 1) = ((16 - (t + 1) : Nat) : Int) := by rw [IntWalk.i64_in _ (by omega)]; omega
                have hq2 : q = 2 * 2 ^ (k - (t + 1)) := by rw [hq, show k - t = (k - (t + 1)) + 1 by omega, Nat.pow_succ, Nat.mul_comm]
                have hp := Nat.two_pow_pos (k - (t + 1))
                have h1 : decide ((1 : Int) < (q : Int)) = true := decide_eq_true (by omega)
                have h1' : (1 : Int) < (q : Int) := by omega
                have htd : (q : Int).tdiv 2 = ((q / 2 : Nat) : Int) := rfl
                have HQ2 := Lib.hid hq2
                clear hq hq2 hp hgt
                generalize hnt : ((16 - t : Nat) : Int) = nt at *
                clear hnt
                generalize hqh : q / 2 = qh at *
                have hqw : IntKind.i64.wrap (qh : Int) = (qh : Int) := IntWalk.i64_in _ (by omega)
                have HQH := Lib.hid hqh
                clear hqh
                go_wp2_with (fail)
                go_roundg (gk - 1)
                case measure => have := HGT.out; omega
                case rel => exact ⟨t + 1, qh, by have := HGT.out; omega, congrArg (fun x : Nat => Value.int .i64 (x : Int)) (by omega), rfl, by have := HQ2.out; rw [← HQH.out]; omega, rfl⟩
              · obtain rfl : t = k := by omega
                obtain rfl : q = 1 := by rw [hq, Nat.sub_self]
                have h1 : decide ((1 : Int) < 1) = false := rfl
                have hmu : IntKind.u16.wrap (m : Int) = (m : Int) := by
                  unfold IntKind.wrap
                  simp only [show IntKind.u16.signed = false from rfl, Bool.false_and, Bool.false_eq_true, if_false]
                  exact Int.emod_eq_of_lt (by omega) (by rw [show IntKind.u16.bits = 16 from rfl]; omega)
                have hms : IntKind.i64.wrap ((m : Int) + (s : Int)) = ((m + s : Nat) : Int) := by rw [IntWalk.i64_in _ (by omega)]; omega
                have HSP := Lib.hid (And.intro hs0 hmh)
                clear hq hgt
                generalize hnt : ((16 - t : Nat) : Int) = nt at *
                have HNT := Lib.hid hnt
                clear hnt
                go_wp2_with (at_builtin; refine wpList_append_lies _ rfl (.tmp 41) (.tmp 46) 138 rfl w.heap.size 141 i0 _ 2 16 Try.underlying138 hi0 hz0 hz1 hz2 rfl (by decide) _ bs.length (blCells bs) rfl ?_ ⟨wo.heap.size, 0, none⟩ 1 1 [.int .u16 (m : Int), .int .i64 nt] rfl rfl ?_ ?_ (by omega) ?_ ?_ ?_ _ rfl ?_; (· exact own_kept HOW.out ((Kept.refl [] _).alloc _) (by simp)); (· exact news_at (by simp)); (· simp [Value.oneCell']); (· have := HLE.out; unfold maxLen; omega); (· have := HLE.out; omega); (· simp; have := HKR.out.size; omega); intro g9 cap9 w9 how9 hgr9 hat9 hlt9; have HOW9 := Lib.hid how9; have HGR9 := Lib.hid hgr9; clear how9 hgr9 hat9 hlt9)
                go_roundg (go - s)
                case measure => have := HGK.out; have := HSP.out; omega
                case rel =>
                  refine ⟨m + s, bs ++ [(m, 16 - t)], by have := HGK.out; have := HSP.out; omega, rfl, HTAIL.out, ?_, (Kept.grown_row (S := []) ((Kept.of_below (S := []) HKR.out).alloc _) HGR9.out (fun g hg => Or.inr (own_past HOW.out g hg))).below (Nat.le_refl _) (by simp)⟩
                  have h9 := HOW9.out
                  rw [← HNT.out] at h9
                  rw [blCells_snoc, List.length_append]
                  exact h9
          · have h1 : ((z : Int) == 0) = false := beq_eq_false_iff_ne.2 (by omega)
            have h1' : ¬ (z : Int) = 0 := by omega
            go_wp2_with (fail)
            go_loopg [7, 8] k (fun gk vn vs wr => ∃ t q : Nat, t + gk = k ∧ vn = .int .i64 ((16 - t : Nat) : Int) ∧ vs = .int .i64 (q : Int) ∧ q = 2 ^ (k - t) ∧ wo = wr)
            case atStart => exact ⟨0, s, by omega, rfl, rfl, by rw [HS.out, Nat.sub_zero], rfl⟩
            case round =>
              obtain ⟨t, q, hgt, rfl, rfl, hq, rfl⟩ := hrel
              have HGT := Lib.hid hgt
              have hq16 : q ≤ 65536 := by
                rw [hq]
                have h16 : 2 ^ (k - t) ≤ 2 ^ 16 := Nat.pow_le_pow_right (by omega) (by omega)
                have e16 : (2 : Nat) ^ 16 = 65536 := rfl
                omega
              by_cases htk : t < k
              · have hn1 : IntKind.i64.wrap (((16 - t : Nat) : Int) - 1) = ((16 - (t + 1) : Nat) : Int) := by rw [IntWalk.i64_in _ (by omega)]; omega
                have hq2 : q = 2 * 2 ^ (k - (t + 1)) := by rw [hq, show k - t = (k - (t + 1)) + 1 by omega, Nat.pow_succ, Nat.mul_comm]
                have hp := Nat.two_pow_pos (k - (t + 1))
                have h1 : decide ((1 : Int) < (q : Int)) = true := decide_eq_true (by omega)
                have h1' : (1 : Int) < (q : Int) := by omega
                have htd : (q : Int).tdiv 2 = ((q / 2 : Nat) : Int) := rfl
                have HQ2 := Lib.hid hq2
                clear hq hq2 hp hgt
                generalize hnt : ((16 - t : Nat) : Int) = nt at *
                clear hnt
                generalize hqh : q / 2 = qh at *
                have hqw : IntKind.i64.wrap (qh : Int) = (qh : Int) := IntWalk.i64_in _ (by omega)
                have HQH := Lib.hid hqh
                clear hqh
                go_wp2_with (fail)
                go_roundg (gk - 1)
                case measure => have := HGT.out; omega
                case rel => exact ⟨t + 1, qh, by have := HGT.out; omega, congrArg (fun x : Nat => Value.int .i64 (x : Int)) (by omega), rfl, by have := HQ2.out; rw [← HQH.out]; omega, rfl⟩
              · obtain rfl : t = k := by omega
                obtain rfl : q = 1 := by rw [hq, Nat.sub_self]
                have h1 : decide ((1 : Int) < 1) = false := rfl
                have hmu : IntKind.u16.wrap (m : Int) = (m : Int) := by
                  unfold IntKind.wrap
                  simp only [show IntKind.u16.signed = false from rfl, Bool.false_and, Bool.false_eq_true, if_false]
                  exact Int.emod_eq_of_lt (by omega) (by rw [show IntKind.u16.bits = 16 from rfl]; omega)
                have hms : IntKind.i64.wrap ((m : Int) + (s : Int)) = ((m + s : Nat) : Int) := by rw [IntWalk.i64_in _ (by omega)]; omega
                have HSP := Lib.hid (And.intro hs0 hmh)
                clear hq hgt
                generalize hnt : ((16 - t : Nat) : Int) = nt at *
                have HNT := Lib.hid hnt
                clear hnt
                go_wp2_with (at_builtin; refine wpList_append_lies _ rfl (.tmp 41) (.tmp 46) 138 rfl w.heap.size 141 i0 _ 2 16 Try.underlying138 hi0 hz0 hz1 hz2 rfl (by decide) _ bs.length (blCells bs) rfl ?_ ⟨wo.heap.size, 0, none⟩ 1 1 [.int .u16 (m : Int), .int .i64 nt] rfl rfl ?_ ?_ (by omega) ?_ ?_ ?_ _ rfl ?_; (· exact own_kept HOW.out ((Kept.refl [] _).alloc _) (by simp)); (· exact news_at (by simp)); (· simp [Value.oneCell']); (· have := HLE.out; unfold maxLen; omega); (· have := HLE.out; omega); (· simp; have := HKR.out.size; omega); intro g9 cap9 w9 how9 hgr9 hat9 hlt9; have HOW9 := Lib.hid how9; have HGR9 := Lib.hid hgr9; clear how9 hgr9 hat9 hlt9)
                go_roundg (go - s)
                case measure => have := HGK.out; have := HSP.out; omega
                case rel =>
                  refine ⟨m + s, bs ++ [(m, 16 - t)], by have := HGK.out; have := HSP.out; omega, rfl, HTAIL.out, ?_, (Kept.grown_row (S := []) ((Kept.of_below (S := []) HKR.out).alloc _) HGR9.out (fun g hg => Or.inr (own_past HOW.out g hg))).below (Nat.le_refl _) (by simp)⟩
                  have h9 := HOW9.out
                  rw [← HNT.out] at h9
                  rw [blCells_snoc, List.length_append]
                  exact h9
    · obtain rfl : m = hi + 1 := by omega
      have hmi : decide (((hi + 1 : Nat) : Int) ≤ (hi : Int)) = false := decide_eq_false (by omega)
      have hret := HOW.out
      have HRET := Lib.hid hret
      clear hret hgk
      go_wp2_with (fail)
      exact bodyPost_ret (v := u3) (by simp [results, Try.results88, go_sem]) rfl ⟨u3, bs, rfl, HCH.out, HRET.out, HKR.out⟩
end Go.Proofs.Ytakgghhmecphmaa
