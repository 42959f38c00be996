/- The walk of Make. -/
import Derived.Test.YtakgghhmecphmaaMakeA
namespace Go.Proofs.Ytakgghhmecphmaa
set_option linter.unusedVariables false
set_option linter.unusedSimpArgs false
open Go.RowKit Go.Maps

set_option maxRecDepth 100000 in
set_option maxHeartbeats 4000000 in
theorem make_calls {w : World} {p g mb : Nat} {A : Arn} (h : ArenaAt w p g mb A) (hOK : A.OK) (b off cap n : Nat) (l : List Ex) (hn : l.length = n) (hnm : n ≤ 60) (hL : ExsAt w b off l) (hR : ∀ i x, l[i]? = some x → ¬ BadE x i) (hbp : b ≠ p) (hbg : b ≠ g) (hbm : b ≠ mb) :
    Calls Try.prog 31 #[.pointer (some ⟨p, 0, none⟩), .slice (some ⟨b, off, none⟩) n cap] w (MakePost w p g mb (makeGo A [] l)) := by
  obtain ⟨i0, hi, hz0, hz1, hz2⟩ := info_parts int_info
  obtain ⟨hpz, hgz, hmz⟩ := h.lt
  have HA := Lib.hid h
  have HO := Lib.hid hOK
  have HL := Lib.hid hL
  have HR := Lib.hid hR
  have HN := Lib.hid hn
  clear h hOK hL hR hn
  go_enter Try.func31, Try.ntmps31
  go_wp2
  go_loopg [6, 13] n (fun gk vo vi wr => MakeRel w p g mb n A l gk vo vi wr)
  case atStart => exact ⟨0, g, A, [], by omega, rfl, rfl, World.ownsRow_nil _ _ _ _, Or.inl rfl, HA.out, Kept.refl _ _, HO.out, Ext.refl A, by simp, rfl⟩
  case round =>
    obtain ⟨k, g', A', out, hk, rfl, hol, how, hg', hA', hK', hO', hE', hf', hgo⟩ := hrel
    have HOW := Lib.hid how
    have HA' := Lib.hid hA'
    have HK' := Lib.hid hK'
    have HO' := Lib.hid hO'
    have HE' := Lib.hid hE'
    have HF' := Lib.hid hf'
    have HG' := Lib.hid hgo
    have HOL := Lib.hid hol
    have HKG := Lib.hid hk
    have hkn : k ≤ n := by omega
    clear how hA' hK' hO' hE' hf' hgo hol hk
    by_cases hlt : k < n
    · have hx : l[k]? = some (l[k]'(by have := HN.out; omega)) := List.getElem?_eq_getElem _
      generalize l[k]'(by have := HN.out; omega) = x at hx
      obtain ⟨k0, k1, k2, k3, k4, k5⟩ := (HL.out.kept HK'.out (by simp [hbp, hbg, hbm])).at_ hx
      have hb := HR.out k x hx
      obtain ⟨xk, xa, xb, xc, xv, xo⟩ := x
      simp only at k0 k1 k2 k3 k4 k5
      have HX := Lib.hid hx
      have HB := Lib.hid hb
      obtain ⟨hpz', hgz', hmz'⟩ := HA'.out.lt
      unfold BadE at hb
      simp only at hb
      have hwr := HK'.out.size
      have hlen := Nat.le_trans HO'.out.len HO'.out.most
      clear hx
      have hcases : xk = 0 ∨ xk = 1 ∨ xk = 2 ∨ xk = 3 ∨ xk = 4 ∨ xk = 5 ∨ xk = 6 ∨ xk = 7 ∨ xk = 8 ∨ xk = 9 := by omega
      rcases hcases with rfl | rfl | rfl | rfl | rfl | rfl | rfl | rfl | rfl | rfl
      · have hs : stepE A' out ⟨0, xa, xb, xc, xv, xo⟩ = (some 0, A') := by simp [stepE]
        have HS := Lib.hid hs
        have hown := own_kept HOW.out ((Kept.refl [] wr).alloc (.cells #[.int .i64 0, .int .i64 xa, .int .i64 xb, .int .i64 xc, .int .i64 xv, .bool xo] 105)) (by simp)
        have HOWN := Lib.hid hown
        clear hs hown hb
        go_wp2_with (at_builtin; refine wpList_append_lies _ rfl (.tmp 111) (.tmp 113) 53 rfl w.heap.size 3 i0 _ 1 8 Try.underlying53 hi hz0 hz1 hz2 rfl (by decide) _ k (out.map nat64) rfl ?_ ⟨wr.heap.size + 1, 0, none⟩ 1 1 [.int .i64 (0)] rfl rfl ?_ ?_ (by omega) ?_ ?_ ?_ _ rfl ?_; (· exact own_kept HOWN.out ((Kept.refl [] _).alloc _) (by simp)); (· exact news_at (by simp)); (· simp [Value.oneCell']); (· unfold maxLen; omega); (· omega); (· simp; omega); intro g9 cap9 w9 how9 hgr9 hat9 hlt9; have HOW9 := Lib.hid how9; have HGR9 := Lib.hid hgr9; clear how9 hgr9 hat9 hlt9)
        go_roundg (gk - 1)
        case measure => have := HKG.out; omega
        case rel => exact make_round HX.out HKG.out HOL.out hlt HS.out HO'.out HB.out HE'.out HF'.out HG'.out (own_kept HOWN.out ((Kept.refl [] _).alloc _) (by simp)) HOW9.out hg' (HA'.out.kept (((Kept.refl [] wr).alloc _).alloc _) (by simp) (by simp) (by simp)) ((HK'.out.alloc _).alloc _) HGR9.out
      · have hs : stepE A' out ⟨1, xa, xb, xc, xv, xo⟩ = (some 1, A') := by simp [stepE]
        have HS := Lib.hid hs
        have hown := own_kept HOW.out ((Kept.refl [] wr).alloc (.cells #[.int .i64 1, .int .i64 xa, .int .i64 xb, .int .i64 xc, .int .i64 xv, .bool xo] 105)) (by simp)
        have HOWN := Lib.hid hown
        clear hs hown hb
        go_wp2_with (at_builtin; refine wpList_append_lies _ rfl (.tmp 111) (.tmp 113) 53 rfl w.heap.size 3 i0 _ 1 8 Try.underlying53 hi hz0 hz1 hz2 rfl (by decide) _ k (out.map nat64) rfl ?_ ⟨wr.heap.size + 1, 0, none⟩ 1 1 [.int .i64 (1)] rfl rfl ?_ ?_ (by omega) ?_ ?_ ?_ _ rfl ?_; (· exact own_kept HOWN.out ((Kept.refl [] _).alloc _) (by simp)); (· exact news_at (by simp)); (· simp [Value.oneCell']); (· unfold maxLen; omega); (· omega); (· simp; omega); intro g9 cap9 w9 how9 hgr9 hat9 hlt9; have HOW9 := Lib.hid how9; have HGR9 := Lib.hid hgr9; clear how9 hgr9 hat9 hlt9)
        go_roundg (gk - 1)
        case measure => have := HKG.out; omega
        case rel => exact make_round HX.out HKG.out HOL.out hlt HS.out HO'.out HB.out HE'.out HF'.out HG'.out (own_kept HOWN.out ((Kept.refl [] _).alloc _) (by simp)) HOW9.out hg' (HA'.out.kept (((Kept.refl [] wr).alloc _).alloc _) (by simp) (by simp) (by simp)) ((HK'.out.alloc _).alloc _) HGR9.out
      · have hs := stepE_2 A' out xa xb xc xv xo
        have HX := HX
        obtain ⟨v, rfl⟩ := Int.eq_ofNat_of_zero_le (show 0 ≤ xv by omega)
        rw [Int.toNat_natCast] at hs
        have hkc : Kept [] wr ((wr.alloc (.cells #[.int .i64 2, .int .i64 xa, .int .i64 xb, .int .i64 xc, .int .i64 (v : Int), .bool xo] 105)).alloc (.cells #[.int .i64 (v : Int), .bool xo] 38)) := ((Kept.refl [] wr).alloc _).alloc _
        have C := Lib.hid (cube_calls (HA'.out.kept hkc (by simp) (by simp) (by simp)) HO'.out (wr.heap.size + 1) 0 1 1 [(v, xo)] rfl (by omega) (by omega) (rise_one (by omega) xo) (lits_new [((v : Int), xo)] (blk_new (by simp))) (by omega) (by omega) (by omega))
        have HKC := Lib.hid hkc
        clear hkc
        rcases hres : cubeF A' [(v, xo)] with ⟨r, A2⟩
        rw [hres] at hs C
        have HS := Lib.hid hs
        clear hs hres hb
        cases r with
        | none =>
          go_wp2_with (fail)
          refine C.out.mono ?_
          rintro e w2 ⟨rfl, g2, hg2, A2a, K2⟩
          have hg2z : g2 = g ∨ w.heap.size ≤ g2 := by have := HKC.out.size; rcases hg2 with h' | h' <;> omega
          have hown2 := own_kept (own_kept HOW.out HKC.out (by simp)) K2 (by intro s hs; have := own_ne_arena HOW.out HA'.out (by decide) (by decide) s hs; simp; omega)
          have K2' := Lib.hid ((Kept.mono (S' := [p, g, mb]) HK'.out (by simp)).trans ((Kept.mono (S' := [p, g', mb]) HKC.out (by simp)).trans K2 (by simp)) (by simp; omega))
          have hwz : w.heap.size ≤ w2.heap.size := K2'.out.size
          have HOWN2 := Lib.hid hown2
          have HA2 := Lib.hid A2a
          clear A2a K2 hg2 hown2
          simp only [resV, Option.getD_some, Option.getD_none, Option.isSome_some, Option.isSome_none, if_true, Bool.false_eq_true, if_false]
          go_wp2
          go_ret2
          have e := make_stop HX.out HS.out HG'.out
          rw [e]
          exact ⟨_, g2, rfl, by rw [show (out, false, A2).1 = out from rfl, HOL.out]; exact HOWN2.out, hg2z, HA2.out, K2'.out⟩
        | some f =>
          go_wp2_with (fail)
          refine C.out.mono ?_
          rintro e w2 ⟨rfl, g2, hg2, A2a, K2⟩
          have hg2z : g2 = g ∨ w.heap.size ≤ g2 := by have := HKC.out.size; rcases hg2 with h' | h' <;> omega
          have hown2 := own_kept (own_kept HOW.out HKC.out (by simp)) K2 (by intro s hs; have := own_ne_arena HOW.out HA'.out (by decide) (by decide) s hs; simp; omega)
          have K2' := Lib.hid ((Kept.mono (S' := [p, g, mb]) HK'.out (by simp)).trans ((Kept.mono (S' := [p, g', mb]) HKC.out (by simp)).trans K2 (by simp)) (by simp; omega))
          have hwz : w.heap.size ≤ w2.heap.size := K2'.out.size
          have HOWN2 := Lib.hid hown2
          have HA2 := Lib.hid A2a
          clear A2a K2 hg2 hown2
          simp only [resV, Option.getD_some, Option.getD_none, Option.isSome_some, Option.isSome_none, if_true, Bool.false_eq_true, if_false]
          go_wp2_with (at_builtin; refine wpList_append_lies _ rfl (.tmp 111) (.tmp 113) 53 rfl w.heap.size 3 i0 _ 1 8 Try.underlying53 hi hz0 hz1 hz2 rfl (by decide) _ k (out.map nat64) rfl ?_ ⟨w2.heap.size, 0, none⟩ 1 1 [.int .i64 ((f : Int))] rfl rfl ?_ ?_ (by omega) ?_ ?_ ?_ _ rfl ?_; (· exact own_kept HOWN2.out ((Kept.refl [] _).alloc _) (by simp)); (· exact news_at (by simp)); (· simp [Value.oneCell']); (· unfold maxLen; omega); (· omega); (· simp; omega); intro g9 cap9 w9 how9 hgr9 hat9 hlt9; have HOW9 := Lib.hid how9; have HGR9 := Lib.hid hgr9; clear how9 hgr9 hat9 hlt9)
          go_roundg (gk - 1)
          case measure => have := HKG.out; omega
          case rel => exact make_round HX.out HKG.out HOL.out hlt HS.out HO'.out HB.out HE'.out HF'.out HG'.out (own_kept HOWN2.out ((Kept.refl [] _).alloc _) (by simp)) HOW9.out hg2z (HA2.out.kept ((Kept.refl [] w2).alloc _) (by simp) (by simp) (by simp)) (K2'.out.alloc _) HGR9.out
      · have hs := stepE_3 A' out xa xb xc xv xo
        have HX := HX
        obtain ⟨s0, cap0, rfl, hsb, hs0⟩ := HOW.out.form (by omega)
        obtain ⟨ia, rfl⟩ := Int.eq_ofNat_of_zero_le (show 0 ≤ xa by omega)
        have ca := out_cell HOW.out (show ia < k by omega)
        have hla := getD_lt HF'.out (by have := HO'.out.two; omega) ia
        have hia : ia < k := by omega
        have hia' : (ia : Int) < (k : Int) := by omega
        rw [Int.toNat_natCast] at hs
        obtain ⟨ib, rfl⟩ := Int.eq_ofNat_of_zero_le (show 0 ≤ xb by omega)
        have cb := out_cell HOW.out (show ib < k by omega)
        have hlb := getD_lt HF'.out (by have := HO'.out.two; omega) ib
        have hib : ib < k := by omega
        have hib' : (ib : Int) < (k : Int) := by omega
        rw [Int.toNat_natCast] at hs
        have hkc : ∀ m, Kept [] wr ((wr.alloc (.cells #[.int .i64 3, .int .i64 (ia : Int), .int .i64 (ib : Int), .int .i64 xc, .int .i64 xv, .bool xo] 105)).drewN m) := fun m => ((Kept.refl [] wr).alloc _).drewN m
        have C := Lib.hid (Join_calls (HA'.out.kept (hkc 1) (by simp) (by simp) (by simp)) HO'.out 0 0 (out.getD ia 0) (out.getD ib 0) rfl (by omega) hla hlb)
        have HKC := Lib.hid (hkc 1)
        clear hkc
        generalize out.getD ia 0 = fa at *
        generalize out.getD ib 0 = fb at *
        rcases hres : joinA A' 0 fa fb with ⟨r, A2⟩
        rw [hres] at hs C
        have HS := Lib.hid hs
        clear hs hres hb
        cases r with
        | none =>
          go_wp2_with (fail)
          refine wp_mid 14 _ 33 (fun a => #[a.eval (.tmp 40), a.eval (.tmp 43), a.eval (.tmp 48), a.eval (.tmp 53)]) (by kernel_rfl) (by kernel_rfl) rfl rfl (by intro a w; simp [go_sem]) ?_
          simp only [List.take_succ_cons, List.take_zero, List.drop_succ_cons, List.drop_zero]
          repeat still_step
          refine wpStill_nil ?_
          refine C.out.mono ?_
          rintro e w2 ⟨rfl, g2, hg2, A2a, K2⟩
          have hg2z : g2 = g ∨ w.heap.size ≤ g2 := by have := HKC.out.size; rcases hg2 with h' | h' <;> omega
          have hown2 := own_kept (own_kept HOW.out HKC.out (by simp)) K2 (by intro s hs; have := own_ne_arena HOW.out HA'.out (by decide) (by decide) s hs; simp; omega)
          have K2' := Lib.hid ((Kept.mono (S' := [p, g, mb]) HK'.out (by simp)).trans ((Kept.mono (S' := [p, g', mb]) HKC.out (by simp)).trans K2 (by simp)) (by simp; omega))
          have hwz : w.heap.size ≤ w2.heap.size := K2'.out.size
          have HOWN2 := Lib.hid hown2
          have HA2 := Lib.hid A2a
          clear A2a K2 hg2 hown2
          simp only [resV, Option.getD_some, Option.getD_none, Option.isSome_some, Option.isSome_none, if_true, Bool.false_eq_true, if_false]
          repeat still_step
          refine wpStill_nil ?_
          go_wp2
          go_ret2
          have e := make_stop HX.out HS.out HG'.out
          rw [e]
          exact ⟨_, g2, rfl, by rw [show (out, false, A2).1 = out from rfl, HOL.out]; exact HOWN2.out, hg2z, HA2.out, K2'.out⟩
        | some f =>
          go_wp2_with (fail)
          refine wp_mid 14 _ 33 (fun a => #[a.eval (.tmp 40), a.eval (.tmp 43), a.eval (.tmp 48), a.eval (.tmp 53)]) (by kernel_rfl) (by kernel_rfl) rfl rfl (by intro a w; simp [go_sem]) ?_
          simp only [List.take_succ_cons, List.take_zero, List.drop_succ_cons, List.drop_zero]
          repeat still_step
          refine wpStill_nil ?_
          refine C.out.mono ?_
          rintro e w2 ⟨rfl, g2, hg2, A2a, K2⟩
          have hg2z : g2 = g ∨ w.heap.size ≤ g2 := by have := HKC.out.size; rcases hg2 with h' | h' <;> omega
          have hown2 := own_kept (own_kept HOW.out HKC.out (by simp)) K2 (by intro s hs; have := own_ne_arena HOW.out HA'.out (by decide) (by decide) s hs; simp; omega)
          have K2' := Lib.hid ((Kept.mono (S' := [p, g, mb]) HK'.out (by simp)).trans ((Kept.mono (S' := [p, g', mb]) HKC.out (by simp)).trans K2 (by simp)) (by simp; omega))
          have hwz : w.heap.size ≤ w2.heap.size := K2'.out.size
          have HOWN2 := Lib.hid hown2
          have HA2 := Lib.hid A2a
          clear A2a K2 hg2 hown2
          simp only [resV, Option.getD_some, Option.getD_none, Option.isSome_some, Option.isSome_none, if_true, Bool.false_eq_true, if_false]
          repeat still_step
          refine wpStill_nil ?_
          go_wp2_with (at_builtin; refine wpList_append_lies _ rfl (.tmp 111) (.tmp 113) 53 rfl w.heap.size 3 i0 _ 1 8 Try.underlying53 hi hz0 hz1 hz2 rfl (by decide) _ k (out.map nat64) rfl ?_ ⟨w2.heap.size, 0, none⟩ 1 1 [.int .i64 ((f : Int))] rfl rfl ?_ ?_ (by omega) ?_ ?_ ?_ _ rfl ?_; (· exact own_kept HOWN2.out ((Kept.refl [] _).alloc _) (by simp)); (· exact news_at (by simp)); (· simp [Value.oneCell']); (· unfold maxLen; omega); (· omega); (· simp; omega); intro g9 cap9 w9 how9 hgr9 hat9 hlt9; have HOW9 := Lib.hid how9; have HGR9 := Lib.hid hgr9; clear how9 hgr9 hat9 hlt9)
          go_roundg (gk - 1)
          case measure => have := HKG.out; omega
          case rel => exact make_round HX.out HKG.out HOL.out hlt HS.out HO'.out HB.out HE'.out HF'.out HG'.out (own_kept HOWN2.out ((Kept.refl [] _).alloc _) (by simp)) HOW9.out hg2z (HA2.out.kept ((Kept.refl [] w2).alloc _) (by simp) (by simp) (by simp)) (K2'.out.alloc _) HGR9.out
      · have hs := stepE_4 A' out xa xb xc xv xo
        have HX := HX
        obtain ⟨s0, cap0, rfl, hsb, hs0⟩ := HOW.out.form (by omega)
        obtain ⟨ia, rfl⟩ := Int.eq_ofNat_of_zero_le (show 0 ≤ xa by omega)
        have ca := out_cell HOW.out (show ia < k by omega)
        have hla := getD_lt HF'.out (by have := HO'.out.two; omega) ia
        have hia : ia < k := by omega
        have hia' : (ia : Int) < (k : Int) := by omega
        rw [Int.toNat_natCast] at hs
        obtain ⟨ib, rfl⟩ := Int.eq_ofNat_of_zero_le (show 0 ≤ xb by omega)
        have cb := out_cell HOW.out (show ib < k by omega)
        have hlb := getD_lt HF'.out (by have := HO'.out.two; omega) ib
        have hib : ib < k := by omega
        have hib' : (ib : Int) < (k : Int) := by omega
        rw [Int.toNat_natCast] at hs
        have hkc : ∀ m, Kept [] wr ((wr.alloc (.cells #[.int .i64 4, .int .i64 (ia : Int), .int .i64 (ib : Int), .int .i64 xc, .int .i64 xv, .bool xo] 105)).drewN m) := fun m => ((Kept.refl [] wr).alloc _).drewN m
        have C := Lib.hid (Join_calls (HA'.out.kept (hkc 1) (by simp) (by simp) (by simp)) HO'.out 1 1 (out.getD ia 0) (out.getD ib 0) rfl (by omega) hla hlb)
        have HKC := Lib.hid (hkc 1)
        clear hkc
        generalize out.getD ia 0 = fa at *
        generalize out.getD ib 0 = fb at *
        rcases hres : joinA A' 1 fa fb with ⟨r, A2⟩
        rw [hres] at hs C
        have HS := Lib.hid hs
        clear hs hres hb
        cases r with
        | none =>
          go_wp2_with (fail)
          refine wp_mid 14 _ 33 (fun a => #[a.eval (.tmp 40), a.eval (.tmp 43), a.eval (.tmp 48), a.eval (.tmp 53)]) (by kernel_rfl) (by kernel_rfl) rfl rfl (by intro a w; simp [go_sem]) ?_
          simp only [List.take_succ_cons, List.take_zero, List.drop_succ_cons, List.drop_zero]
          repeat still_step
          refine wpStill_nil ?_
          refine C.out.mono ?_
          rintro e w2 ⟨rfl, g2, hg2, A2a, K2⟩
          have hg2z : g2 = g ∨ w.heap.size ≤ g2 := by have := HKC.out.size; rcases hg2 with h' | h' <;> omega
          have hown2 := own_kept (own_kept HOW.out HKC.out (by simp)) K2 (by intro s hs; have := own_ne_arena HOW.out HA'.out (by decide) (by decide) s hs; simp; omega)
          have K2' := Lib.hid ((Kept.mono (S' := [p, g, mb]) HK'.out (by simp)).trans ((Kept.mono (S' := [p, g', mb]) HKC.out (by simp)).trans K2 (by simp)) (by simp; omega))
          have hwz : w.heap.size ≤ w2.heap.size := K2'.out.size
          have HOWN2 := Lib.hid hown2
          have HA2 := Lib.hid A2a
          clear A2a K2 hg2 hown2
          simp only [resV, Option.getD_some, Option.getD_none, Option.isSome_some, Option.isSome_none, if_true, Bool.false_eq_true, if_false]
          repeat still_step
          refine wpStill_nil ?_
          go_wp2
          go_ret2
          have e := make_stop HX.out HS.out HG'.out
          rw [e]
          exact ⟨_, g2, rfl, by rw [show (out, false, A2).1 = out from rfl, HOL.out]; exact HOWN2.out, hg2z, HA2.out, K2'.out⟩
        | some f =>
          go_wp2_with (fail)
          refine wp_mid 14 _ 33 (fun a => #[a.eval (.tmp 40), a.eval (.tmp 43), a.eval (.tmp 48), a.eval (.tmp 53)]) (by kernel_rfl) (by kernel_rfl) rfl rfl (by intro a w; simp [go_sem]) ?_
          simp only [List.take_succ_cons, List.take_zero, List.drop_succ_cons, List.drop_zero]
          repeat still_step
          refine wpStill_nil ?_
          refine C.out.mono ?_
          rintro e w2 ⟨rfl, g2, hg2, A2a, K2⟩
          have hg2z : g2 = g ∨ w.heap.size ≤ g2 := by have := HKC.out.size; rcases hg2 with h' | h' <;> omega
          have hown2 := own_kept (own_kept HOW.out HKC.out (by simp)) K2 (by intro s hs; have := own_ne_arena HOW.out HA'.out (by decide) (by decide) s hs; simp; omega)
          have K2' := Lib.hid ((Kept.mono (S' := [p, g, mb]) HK'.out (by simp)).trans ((Kept.mono (S' := [p, g', mb]) HKC.out (by simp)).trans K2 (by simp)) (by simp; omega))
          have hwz : w.heap.size ≤ w2.heap.size := K2'.out.size
          have HOWN2 := Lib.hid hown2
          have HA2 := Lib.hid A2a
          clear A2a K2 hg2 hown2
          simp only [resV, Option.getD_some, Option.getD_none, Option.isSome_some, Option.isSome_none, if_true, Bool.false_eq_true, if_false]
          repeat still_step
          refine wpStill_nil ?_
          go_wp2_with (at_builtin; refine wpList_append_lies _ rfl (.tmp 111) (.tmp 113) 53 rfl w.heap.size 3 i0 _ 1 8 Try.underlying53 hi hz0 hz1 hz2 rfl (by decide) _ k (out.map nat64) rfl ?_ ⟨w2.heap.size, 0, none⟩ 1 1 [.int .i64 ((f : Int))] rfl rfl ?_ ?_ (by omega) ?_ ?_ ?_ _ rfl ?_; (· exact own_kept HOWN2.out ((Kept.refl [] _).alloc _) (by simp)); (· exact news_at (by simp)); (· simp [Value.oneCell']); (· unfold maxLen; omega); (· omega); (· simp; omega); intro g9 cap9 w9 how9 hgr9 hat9 hlt9; have HOW9 := Lib.hid how9; have HGR9 := Lib.hid hgr9; clear how9 hgr9 hat9 hlt9)
          go_roundg (gk - 1)
          case measure => have := HKG.out; omega
          case rel => exact make_round HX.out HKG.out HOL.out hlt HS.out HO'.out HB.out HE'.out HF'.out HG'.out (own_kept HOWN2.out ((Kept.refl [] _).alloc _) (by simp)) HOW9.out hg2z (HA2.out.kept ((Kept.refl [] w2).alloc _) (by simp) (by simp) (by simp)) (K2'.out.alloc _) HGR9.out
      · have hs := stepE_5 A' out xa xb xc xv xo
        have HX := HX
        obtain ⟨s0, cap0, rfl, hsb, hs0⟩ := HOW.out.form (by omega)
        obtain ⟨ia, rfl⟩ := Int.eq_ofNat_of_zero_le (show 0 ≤ xa by omega)
        have ca := out_cell HOW.out (show ia < k by omega)
        have hla := getD_lt HF'.out (by have := HO'.out.two; omega) ia
        have hia : ia < k := by omega
        have hia' : (ia : Int) < (k : Int) := by omega
        rw [Int.toNat_natCast] at hs
        obtain ⟨ib, rfl⟩ := Int.eq_ofNat_of_zero_le (show 0 ≤ xb by omega)
        have cb := out_cell HOW.out (show ib < k by omega)
        have hlb := getD_lt HF'.out (by have := HO'.out.two; omega) ib
        have hib : ib < k := by omega
        have hib' : (ib : Int) < (k : Int) := by omega
        rw [Int.toNat_natCast] at hs
        have hkc : ∀ m, Kept [] wr ((wr.alloc (.cells #[.int .i64 5, .int .i64 (ia : Int), .int .i64 (ib : Int), .int .i64 xc, .int .i64 xv, .bool xo] 105)).drewN m) := fun m => ((Kept.refl [] wr).alloc _).drewN m
        have C := Lib.hid (Join_calls (HA'.out.kept (hkc 1) (by simp) (by simp) (by simp)) HO'.out 2 2 (out.getD ia 0) (out.getD ib 0) rfl (by omega) hla hlb)
        have HKC := Lib.hid (hkc 1)
        clear hkc
        generalize out.getD ia 0 = fa at *
        generalize out.getD ib 0 = fb at *
        rcases hres : joinA A' 2 fa fb with ⟨r, A2⟩
        rw [hres] at hs C
        have HS := Lib.hid hs
        clear hs hres hb
        cases r with
        | none =>
          go_wp2_with (fail)
          refine wp_mid 14 _ 33 (fun a => #[a.eval (.tmp 40), a.eval (.tmp 43), a.eval (.tmp 48), a.eval (.tmp 53)]) (by kernel_rfl) (by kernel_rfl) rfl rfl (by intro a w; simp [go_sem]) ?_
          simp only [List.take_succ_cons, List.take_zero, List.drop_succ_cons, List.drop_zero]
          repeat still_step
          refine wpStill_nil ?_
          refine C.out.mono ?_
          rintro e w2 ⟨rfl, g2, hg2, A2a, K2⟩
          have hg2z : g2 = g ∨ w.heap.size ≤ g2 := by have := HKC.out.size; rcases hg2 with h' | h' <;> omega
          have hown2 := own_kept (own_kept HOW.out HKC.out (by simp)) K2 (by intro s hs; have := own_ne_arena HOW.out HA'.out (by decide) (by decide) s hs; simp; omega)
          have K2' := Lib.hid ((Kept.mono (S' := [p, g, mb]) HK'.out (by simp)).trans ((Kept.mono (S' := [p, g', mb]) HKC.out (by simp)).trans K2 (by simp)) (by simp; omega))
          have hwz : w.heap.size ≤ w2.heap.size := K2'.out.size
          have HOWN2 := Lib.hid hown2
          have HA2 := Lib.hid A2a
          clear A2a K2 hg2 hown2
          simp only [resV, Option.getD_some, Option.getD_none, Option.isSome_some, Option.isSome_none, if_true, Bool.false_eq_true, if_false]
          repeat still_step
          refine wpStill_nil ?_
          go_wp2
          go_ret2
          have e := make_stop HX.out HS.out HG'.out
          rw [e]
          exact ⟨_, g2, rfl, by rw [show (out, false, A2).1 = out from rfl, HOL.out]; exact HOWN2.out, hg2z, HA2.out, K2'.out⟩
        | some f =>
          go_wp2_with (fail)
          refine wp_mid 14 _ 33 (fun a => #[a.eval (.tmp 40), a.eval (.tmp 43), a.eval (.tmp 48), a.eval (.tmp 53)]) (by kernel_rfl) (by kernel_rfl) rfl rfl (by intro a w; simp [go_sem]) ?_
          simp only [List.take_succ_cons, List.take_zero, List.drop_succ_cons, List.drop_zero]
          repeat still_step
          refine wpStill_nil ?_
          refine C.out.mono ?_
          rintro e w2 ⟨rfl, g2, hg2, A2a, K2⟩
          have hg2z : g2 = g ∨ w.heap.size ≤ g2 := by have := HKC.out.size; rcases hg2 with h' | h' <;> omega
          have hown2 := own_kept (own_kept HOW.out HKC.out (by simp)) K2 (by intro s hs; have := own_ne_arena HOW.out HA'.out (by decide) (by decide) s hs; simp; omega)
          have K2' := Lib.hid ((Kept.mono (S' := [p, g, mb]) HK'.out (by simp)).trans ((Kept.mono (S' := [p, g', mb]) HKC.out (by simp)).trans K2 (by simp)) (by simp; omega))
          have hwz : w.heap.size ≤ w2.heap.size := K2'.out.size
          have HOWN2 := Lib.hid hown2
          have HA2 := Lib.hid A2a
          clear A2a K2 hg2 hown2
          simp only [resV, Option.getD_some, Option.getD_none, Option.isSome_some, Option.isSome_none, if_true, Bool.false_eq_true, if_false]
          repeat still_step
          refine wpStill_nil ?_
          go_wp2_with (at_builtin; refine wpList_append_lies _ rfl (.tmp 111) (.tmp 113) 53 rfl w.heap.size 3 i0 _ 1 8 Try.underlying53 hi hz0 hz1 hz2 rfl (by decide) _ k (out.map nat64) rfl ?_ ⟨w2.heap.size, 0, none⟩ 1 1 [.int .i64 ((f : Int))] rfl rfl ?_ ?_ (by omega) ?_ ?_ ?_ _ rfl ?_; (· exact own_kept HOWN2.out ((Kept.refl [] _).alloc _) (by simp)); (· exact news_at (by simp)); (· simp [Value.oneCell']); (· unfold maxLen; omega); (· omega); (· simp; omega); intro g9 cap9 w9 how9 hgr9 hat9 hlt9; have HOW9 := Lib.hid how9; have HGR9 := Lib.hid hgr9; clear how9 hgr9 hat9 hlt9)
          go_roundg (gk - 1)
          case measure => have := HKG.out; omega
          case rel => exact make_round HX.out HKG.out HOL.out hlt HS.out HO'.out HB.out HE'.out HF'.out HG'.out (own_kept HOWN2.out ((Kept.refl [] _).alloc _) (by simp)) HOW9.out hg2z (HA2.out.kept ((Kept.refl [] w2).alloc _) (by simp) (by simp) (by simp)) (K2'.out.alloc _) HGR9.out
      · have hs := stepE_6 A' out xa xb xc xv xo
        have HX := HX
        obtain ⟨s0, cap0, rfl, hsb, hs0⟩ := HOW.out.form (by omega)
        obtain ⟨ia, rfl⟩ := Int.eq_ofNat_of_zero_le (show 0 ≤ xa by omega)
        have ca := out_cell HOW.out (show ia < k by omega)
        have hla := getD_lt HF'.out (by have := HO'.out.two; omega) ia
        have hia : ia < k := by omega
        have hia' : (ia : Int) < (k : Int) := by omega
        rw [Int.toNat_natCast] at hs
        obtain ⟨ib, rfl⟩ := Int.eq_ofNat_of_zero_le (show 0 ≤ xb by omega)
        have cb := out_cell HOW.out (show ib < k by omega)
        have hlb := getD_lt HF'.out (by have := HO'.out.two; omega) ib
        have hib : ib < k := by omega
        have hib' : (ib : Int) < (k : Int) := by omega
        rw [Int.toNat_natCast] at hs
        have hkc : ∀ m, Kept [] wr ((wr.alloc (.cells #[.int .i64 6, .int .i64 (ia : Int), .int .i64 (ib : Int), .int .i64 xc, .int .i64 xv, .bool xo] 105)).drewN m) := fun m => ((Kept.refl [] wr).alloc _).drewN m
        have C := Lib.hid (Join_calls (HA'.out.kept (hkc 1) (by simp) (by simp) (by simp)) HO'.out 3 3 (out.getD ia 0) (out.getD ib 0) rfl (by omega) hla hlb)
        have HKC := Lib.hid (hkc 1)
        clear hkc
        generalize out.getD ia 0 = fa at *
        generalize out.getD ib 0 = fb at *
        rcases hres : joinA A' 3 fa fb with ⟨r, A2⟩
        rw [hres] at hs C
        have HS := Lib.hid hs
        clear hs hres hb
        cases r with
        | none =>
          go_wp2_with (fail)
          refine wp_mid 14 _ 33 (fun a => #[a.eval (.tmp 40), a.eval (.tmp 43), a.eval (.tmp 48), a.eval (.tmp 53)]) (by kernel_rfl) (by kernel_rfl) rfl rfl (by intro a w; simp [go_sem]) ?_
          simp only [List.take_succ_cons, List.take_zero, List.drop_succ_cons, List.drop_zero]
          repeat still_step
          refine wpStill_nil ?_
          refine C.out.mono ?_
          rintro e w2 ⟨rfl, g2, hg2, A2a, K2⟩
          have hg2z : g2 = g ∨ w.heap.size ≤ g2 := by have := HKC.out.size; rcases hg2 with h' | h' <;> omega
          have hown2 := own_kept (own_kept HOW.out HKC.out (by simp)) K2 (by intro s hs; have := own_ne_arena HOW.out HA'.out (by decide) (by decide) s hs; simp; omega)
          have K2' := Lib.hid ((Kept.mono (S' := [p, g, mb]) HK'.out (by simp)).trans ((Kept.mono (S' := [p, g', mb]) HKC.out (by simp)).trans K2 (by simp)) (by simp; omega))
          have hwz : w.heap.size ≤ w2.heap.size := K2'.out.size
          have HOWN2 := Lib.hid hown2
          have HA2 := Lib.hid A2a
          clear A2a K2 hg2 hown2
          simp only [resV, Option.getD_some, Option.getD_none, Option.isSome_some, Option.isSome_none, if_true, Bool.false_eq_true, if_false]
          repeat still_step
          refine wpStill_nil ?_
          go_wp2
          go_ret2
          have e := make_stop HX.out HS.out HG'.out
          rw [e]
          exact ⟨_, g2, rfl, by rw [show (out, false, A2).1 = out from rfl, HOL.out]; exact HOWN2.out, hg2z, HA2.out, K2'.out⟩
        | some f =>
          go_wp2_with (fail)
          refine wp_mid 14 _ 33 (fun a => #[a.eval (.tmp 40), a.eval (.tmp 43), a.eval (.tmp 48), a.eval (.tmp 53)]) (by kernel_rfl) (by kernel_rfl) rfl rfl (by intro a w; simp [go_sem]) ?_
          simp only [List.take_succ_cons, List.take_zero, List.drop_succ_cons, List.drop_zero]
          repeat still_step
          refine wpStill_nil ?_
          refine C.out.mono ?_
          rintro e w2 ⟨rfl, g2, hg2, A2a, K2⟩
          have hg2z : g2 = g ∨ w.heap.size ≤ g2 := by have := HKC.out.size; rcases hg2 with h' | h' <;> omega
          have hown2 := own_kept (own_kept HOW.out HKC.out (by simp)) K2 (by intro s hs; have := own_ne_arena HOW.out HA'.out (by decide) (by decide) s hs; simp; omega)
          have K2' := Lib.hid ((Kept.mono (S' := [p, g, mb]) HK'.out (by simp)).trans ((Kept.mono (S' := [p, g', mb]) HKC.out (by simp)).trans K2 (by simp)) (by simp; omega))
          have hwz : w.heap.size ≤ w2.heap.size := K2'.out.size
          have HOWN2 := Lib.hid hown2
          have HA2 := Lib.hid A2a
          clear A2a K2 hg2 hown2
          simp only [resV, Option.getD_some, Option.getD_none, Option.isSome_some, Option.isSome_none, if_true, Bool.false_eq_true, if_false]
          repeat still_step
          refine wpStill_nil ?_
          go_wp2_with (at_builtin; refine wpList_append_lies _ rfl (.tmp 111) (.tmp 113) 53 rfl w.heap.size 3 i0 _ 1 8 Try.underlying53 hi hz0 hz1 hz2 rfl (by decide) _ k (out.map nat64) rfl ?_ ⟨w2.heap.size, 0, none⟩ 1 1 [.int .i64 ((f : Int))] rfl rfl ?_ ?_ (by omega) ?_ ?_ ?_ _ rfl ?_; (· exact own_kept HOWN2.out ((Kept.refl [] _).alloc _) (by simp)); (· exact news_at (by simp)); (· simp [Value.oneCell']); (· unfold maxLen; omega); (· omega); (· simp; omega); intro g9 cap9 w9 how9 hgr9 hat9 hlt9; have HOW9 := Lib.hid how9; have HGR9 := Lib.hid hgr9; clear how9 hgr9 hat9 hlt9)
          go_roundg (gk - 1)
          case measure => have := HKG.out; omega
          case rel => exact make_round HX.out HKG.out HOL.out hlt HS.out HO'.out HB.out HE'.out HF'.out HG'.out (own_kept HOWN2.out ((Kept.refl [] _).alloc _) (by simp)) HOW9.out hg2z (HA2.out.kept ((Kept.refl [] w2).alloc _) (by simp) (by simp) (by simp)) (K2'.out.alloc _) HGR9.out
      · have hs := stepE_7 A' out xa xb xc xv xo
        have HX := HX
        obtain ⟨s0, cap0, rfl, hsb, hs0⟩ := HOW.out.form (by omega)
        obtain ⟨ia, rfl⟩ := Int.eq_ofNat_of_zero_le (show 0 ≤ xa by omega)
        have ca := out_cell HOW.out (show ia < k by omega)
        have hla := getD_lt HF'.out (by have := HO'.out.two; omega) ia
        have hia : ia < k := by omega
        have hia' : (ia : Int) < (k : Int) := by omega
        rw [Int.toNat_natCast] at hs
        have hkc : Kept [] wr (wr.alloc (.cells #[.int .i64 7, .int .i64 (ia : Int), .int .i64 xb, .int .i64 xc, .int .i64 xv, .bool xo] 105)) := (Kept.refl [] wr).alloc _
        have C := Lib.hid (Not_calls (HA'.out.kept hkc (by simp) (by simp) (by simp)) HO'.out (out.getD ia 0) hla)
        have HKC := Lib.hid hkc
        clear hkc
        generalize out.getD ia 0 = fa at *
        rcases hres : joinA A' 3 1 fa with ⟨r, A2⟩
        rw [hres] at hs C
        have HS := Lib.hid hs
        clear hs hres hb
        cases r with
        | none =>
          go_wp2_with (fail)
          refine C.out.mono ?_
          rintro e w2 ⟨rfl, g2, hg2, A2a, K2⟩
          have hg2z : g2 = g ∨ w.heap.size ≤ g2 := by have := HKC.out.size; rcases hg2 with h' | h' <;> omega
          have hown2 := own_kept (own_kept HOW.out HKC.out (by simp)) K2 (by intro s hs; have := own_ne_arena HOW.out HA'.out (by decide) (by decide) s hs; simp; omega)
          have K2' := Lib.hid ((Kept.mono (S' := [p, g, mb]) HK'.out (by simp)).trans ((Kept.mono (S' := [p, g', mb]) HKC.out (by simp)).trans K2 (by simp)) (by simp; omega))
          have hwz : w.heap.size ≤ w2.heap.size := K2'.out.size
          have HOWN2 := Lib.hid hown2
          have HA2 := Lib.hid A2a
          clear A2a K2 hg2 hown2
          simp only [resV, Option.getD_some, Option.getD_none, Option.isSome_some, Option.isSome_none, if_true, Bool.false_eq_true, if_false]
          go_wp2
          go_ret2
          have e := make_stop HX.out HS.out HG'.out
          rw [e]
          exact ⟨_, g2, rfl, by rw [show (out, false, A2).1 = out from rfl, HOL.out]; exact HOWN2.out, hg2z, HA2.out, K2'.out⟩
        | some f =>
          go_wp2_with (fail)
          refine C.out.mono ?_
          rintro e w2 ⟨rfl, g2, hg2, A2a, K2⟩
          have hg2z : g2 = g ∨ w.heap.size ≤ g2 := by have := HKC.out.size; rcases hg2 with h' | h' <;> omega
          have hown2 := own_kept (own_kept HOW.out HKC.out (by simp)) K2 (by intro s hs; have := own_ne_arena HOW.out HA'.out (by decide) (by decide) s hs; simp; omega)
          have K2' := Lib.hid ((Kept.mono (S' := [p, g, mb]) HK'.out (by simp)).trans ((Kept.mono (S' := [p, g', mb]) HKC.out (by simp)).trans K2 (by simp)) (by simp; omega))
          have hwz : w.heap.size ≤ w2.heap.size := K2'.out.size
          have HOWN2 := Lib.hid hown2
          have HA2 := Lib.hid A2a
          clear A2a K2 hg2 hown2
          simp only [resV, Option.getD_some, Option.getD_none, Option.isSome_some, Option.isSome_none, if_true, Bool.false_eq_true, if_false]
          go_wp2_with (at_builtin; refine wpList_append_lies _ rfl (.tmp 111) (.tmp 113) 53 rfl w.heap.size 3 i0 _ 1 8 Try.underlying53 hi hz0 hz1 hz2 rfl (by decide) _ k (out.map nat64) rfl ?_ ⟨w2.heap.size, 0, none⟩ 1 1 [.int .i64 ((f : Int))] rfl rfl ?_ ?_ (by omega) ?_ ?_ ?_ _ rfl ?_; (· exact own_kept HOWN2.out ((Kept.refl [] _).alloc _) (by simp)); (· exact news_at (by simp)); (· simp [Value.oneCell']); (· unfold maxLen; omega); (· omega); (· simp; omega); intro g9 cap9 w9 how9 hgr9 hat9 hlt9; have HOW9 := Lib.hid how9; have HGR9 := Lib.hid hgr9; clear how9 hgr9 hat9 hlt9)
          go_roundg (gk - 1)
          case measure => have := HKG.out; omega
          case rel => exact make_round HX.out HKG.out HOL.out hlt HS.out HO'.out HB.out HE'.out HF'.out HG'.out (own_kept HOWN2.out ((Kept.refl [] _).alloc _) (by simp)) HOW9.out hg2z (HA2.out.kept ((Kept.refl [] w2).alloc _) (by simp) (by simp) (by simp)) (K2'.out.alloc _) HGR9.out
      · have hs := stepE_8 A' out xa xb xc xv xo
        have HX := HX
        obtain ⟨v, rfl⟩ := Int.eq_ofNat_of_zero_le (show 0 ≤ xv by omega)
        rw [Int.toNat_natCast] at hs
        obtain ⟨s0, cap0, rfl, hsb, hs0⟩ := HOW.out.form (by omega)
        obtain ⟨ia, rfl⟩ := Int.eq_ofNat_of_zero_le (show 0 ≤ xa by omega)
        have ca := out_cell HOW.out (show ia < k by omega)
        have hla := getD_lt HF'.out (by have := HO'.out.two; omega) ia
        have hia : ia < k := by omega
        have hia' : (ia : Int) < (k : Int) := by omega
        rw [Int.toNat_natCast] at hs
        have hkc : ∀ m, Kept [] wr ((wr.alloc (.cells #[.int .i64 8, .int .i64 (ia : Int), .int .i64 xb, .int .i64 xc, .int .i64 (v : Int), .bool xo] 105)).drewN m) := fun m => ((Kept.refl [] wr).alloc _).drewN m
        have C := Lib.hid (Restrict_calls (HA'.out.kept (hkc 1) (by simp) (by simp) (by simp)) HO'.out (out.getD ia 0) v xo hla (by omega))
        have HKC := Lib.hid (hkc 1)
        clear hkc
        generalize out.getD ia 0 = fa at *
        rcases hres : restrictA A' fa v xo with ⟨r, A2⟩
        rw [hres] at hs C
        have HS := Lib.hid hs
        clear hs hres hb
        cases r with
        | none =>
          go_wp2_with (fail)
          refine wp_mid 10 _ 36 (fun a => #[a.eval (.tmp 72), a.eval (.tmp 77), a.eval (.tmp 79), a.eval (.tmp 81)]) (by kernel_rfl) (by kernel_rfl) rfl rfl (by intro a w; simp [go_sem]) ?_
          simp only [List.take_succ_cons, List.take_zero, List.drop_succ_cons, List.drop_zero]
          repeat still_step
          refine wpStill_nil ?_
          refine C.out.mono ?_
          rintro e w2 ⟨rfl, g2, hg2, A2a, K2⟩
          have hg2z : g2 = g ∨ w.heap.size ≤ g2 := by have := HKC.out.size; rcases hg2 with h' | h' <;> omega
          have hown2 := own_kept (own_kept HOW.out HKC.out (by simp)) K2 (by intro s hs; have := own_ne_arena HOW.out HA'.out (by decide) (by decide) s hs; simp; omega)
          have K2' := Lib.hid ((Kept.mono (S' := [p, g, mb]) HK'.out (by simp)).trans ((Kept.mono (S' := [p, g', mb]) HKC.out (by simp)).trans K2 (by simp)) (by simp; omega))
          have hwz : w.heap.size ≤ w2.heap.size := K2'.out.size
          have HOWN2 := Lib.hid hown2
          have HA2 := Lib.hid A2a
          clear A2a K2 hg2 hown2
          simp only [resV, Option.getD_some, Option.getD_none, Option.isSome_some, Option.isSome_none, if_true, Bool.false_eq_true, if_false]
          repeat still_step
          refine wpStill_nil ?_
          go_wp2
          go_ret2
          have e := make_stop HX.out HS.out HG'.out
          rw [e]
          exact ⟨_, g2, rfl, by rw [show (out, false, A2).1 = out from rfl, HOL.out]; exact HOWN2.out, hg2z, HA2.out, K2'.out⟩
        | some f =>
          go_wp2_with (fail)
          refine wp_mid 10 _ 36 (fun a => #[a.eval (.tmp 72), a.eval (.tmp 77), a.eval (.tmp 79), a.eval (.tmp 81)]) (by kernel_rfl) (by kernel_rfl) rfl rfl (by intro a w; simp [go_sem]) ?_
          simp only [List.take_succ_cons, List.take_zero, List.drop_succ_cons, List.drop_zero]
          repeat still_step
          refine wpStill_nil ?_
          refine C.out.mono ?_
          rintro e w2 ⟨rfl, g2, hg2, A2a, K2⟩
          have hg2z : g2 = g ∨ w.heap.size ≤ g2 := by have := HKC.out.size; rcases hg2 with h' | h' <;> omega
          have hown2 := own_kept (own_kept HOW.out HKC.out (by simp)) K2 (by intro s hs; have := own_ne_arena HOW.out HA'.out (by decide) (by decide) s hs; simp; omega)
          have K2' := Lib.hid ((Kept.mono (S' := [p, g, mb]) HK'.out (by simp)).trans ((Kept.mono (S' := [p, g', mb]) HKC.out (by simp)).trans K2 (by simp)) (by simp; omega))
          have hwz : w.heap.size ≤ w2.heap.size := K2'.out.size
          have HOWN2 := Lib.hid hown2
          have HA2 := Lib.hid A2a
          clear A2a K2 hg2 hown2
          simp only [resV, Option.getD_some, Option.getD_none, Option.isSome_some, Option.isSome_none, if_true, Bool.false_eq_true, if_false]
          repeat still_step
          refine wpStill_nil ?_
          go_wp2_with (at_builtin; refine wpList_append_lies _ rfl (.tmp 111) (.tmp 113) 53 rfl w.heap.size 3 i0 _ 1 8 Try.underlying53 hi hz0 hz1 hz2 rfl (by decide) _ k (out.map nat64) rfl ?_ ⟨w2.heap.size, 0, none⟩ 1 1 [.int .i64 ((f : Int))] rfl rfl ?_ ?_ (by omega) ?_ ?_ ?_ _ rfl ?_; (· exact own_kept HOWN2.out ((Kept.refl [] _).alloc _) (by simp)); (· exact news_at (by simp)); (· simp [Value.oneCell']); (· unfold maxLen; omega); (· omega); (· simp; omega); intro g9 cap9 w9 how9 hgr9 hat9 hlt9; have HOW9 := Lib.hid how9; have HGR9 := Lib.hid hgr9; clear how9 hgr9 hat9 hlt9)
          go_roundg (gk - 1)
          case measure => have := HKG.out; omega
          case rel => exact make_round HX.out HKG.out HOL.out hlt HS.out HO'.out HB.out HE'.out HF'.out HG'.out (own_kept HOWN2.out ((Kept.refl [] _).alloc _) (by simp)) HOW9.out hg2z (HA2.out.kept ((Kept.refl [] w2).alloc _) (by simp) (by simp) (by simp)) (K2'.out.alloc _) HGR9.out
      · have hs := stepE_9 A' out xa xb xc xv xo
        have HX := HX
        obtain ⟨s0, cap0, rfl, hsb, hs0⟩ := HOW.out.form (by omega)
        obtain ⟨ia, rfl⟩ := Int.eq_ofNat_of_zero_le (show 0 ≤ xa by omega)
        have ca := out_cell HOW.out (show ia < k by omega)
        have hla := getD_lt HF'.out (by have := HO'.out.two; omega) ia
        have hia : ia < k := by omega
        have hia' : (ia : Int) < (k : Int) := by omega
        rw [Int.toNat_natCast] at hs
        obtain ⟨ib, rfl⟩ := Int.eq_ofNat_of_zero_le (show 0 ≤ xb by omega)
        have cb := out_cell HOW.out (show ib < k by omega)
        have hlb := getD_lt HF'.out (by have := HO'.out.two; omega) ib
        have hib : ib < k := by omega
        have hib' : (ib : Int) < (k : Int) := by omega
        rw [Int.toNat_natCast] at hs
        obtain ⟨ic, rfl⟩ := Int.eq_ofNat_of_zero_le (show 0 ≤ xc by omega)
        have cc := out_cell HOW.out (show ic < k by omega)
        have hlc := getD_lt HF'.out (by have := HO'.out.two; omega) ic
        have hic : ic < k := by omega
        have hic' : (ic : Int) < (k : Int) := by omega
        rw [Int.toNat_natCast] at hs
        have hkc : ∀ m, Kept [] wr ((wr.alloc (.cells #[.int .i64 9, .int .i64 (ia : Int), .int .i64 (ib : Int), .int .i64 (ic : Int), .int .i64 xv, .bool xo] 105)).drewN m) := fun m => ((Kept.refl [] wr).alloc _).drewN m
        have C := Lib.hid (Ite_calls (HA'.out.kept (hkc 1) (by simp) (by simp) (by simp)) HO'.out (out.getD ia 0) (out.getD ib 0) (out.getD ic 0) hla hlb hlc)
        have HKC := Lib.hid (hkc 1)
        clear hkc
        generalize out.getD ia 0 = fa at *
        generalize out.getD ib 0 = fb at *
        generalize out.getD ic 0 = fc at *
        rcases hres : iteA A' fa fb fc with ⟨r, A2⟩
        rw [hres] at hs C
        have HS := Lib.hid hs
        clear hs hres hb
        cases r with
        | none =>
          go_wp2_with (fail)
          refine wp_mid 16 _ 35 (fun a => #[a.eval (.tmp 88), a.eval (.tmp 93), a.eval (.tmp 98), a.eval (.tmp 103)]) (by kernel_rfl) (by kernel_rfl) rfl rfl (by intro a w; simp [go_sem]) ?_
          simp only [List.take_succ_cons, List.take_zero, List.drop_succ_cons, List.drop_zero]
          repeat still_step
          refine wpStill_nil ?_
          refine C.out.mono ?_
          rintro e w2 ⟨rfl, g2, hg2, A2a, K2⟩
          have hg2z : g2 = g ∨ w.heap.size ≤ g2 := by have := HKC.out.size; rcases hg2 with h' | h' <;> omega
          have hown2 := own_kept (own_kept HOW.out HKC.out (by simp)) K2 (by intro s hs; have := own_ne_arena HOW.out HA'.out (by decide) (by decide) s hs; simp; omega)
          have K2' := Lib.hid ((Kept.mono (S' := [p, g, mb]) HK'.out (by simp)).trans ((Kept.mono (S' := [p, g', mb]) HKC.out (by simp)).trans K2 (by simp)) (by simp; omega))
          have hwz : w.heap.size ≤ w2.heap.size := K2'.out.size
          have HOWN2 := Lib.hid hown2
          have HA2 := Lib.hid A2a
          clear A2a K2 hg2 hown2
          simp only [resV, Option.getD_some, Option.getD_none, Option.isSome_some, Option.isSome_none, if_true, Bool.false_eq_true, if_false]
          repeat still_step
          refine wpStill_nil ?_
          go_wp2
          go_ret2
          have e := make_stop HX.out HS.out HG'.out
          rw [e]
          exact ⟨_, g2, rfl, by rw [show (out, false, A2).1 = out from rfl, HOL.out]; exact HOWN2.out, hg2z, HA2.out, K2'.out⟩
        | some f =>
          go_wp2_with (fail)
          refine wp_mid 16 _ 35 (fun a => #[a.eval (.tmp 88), a.eval (.tmp 93), a.eval (.tmp 98), a.eval (.tmp 103)]) (by kernel_rfl) (by kernel_rfl) rfl rfl (by intro a w; simp [go_sem]) ?_
          simp only [List.take_succ_cons, List.take_zero, List.drop_succ_cons, List.drop_zero]
          repeat still_step
          refine wpStill_nil ?_
          refine C.out.mono ?_
          rintro e w2 ⟨rfl, g2, hg2, A2a, K2⟩
          have hg2z : g2 = g ∨ w.heap.size ≤ g2 := by have := HKC.out.size; rcases hg2 with h' | h' <;> omega
          have hown2 := own_kept (own_kept HOW.out HKC.out (by simp)) K2 (by intro s hs; have := own_ne_arena HOW.out HA'.out (by decide) (by decide) s hs; simp; omega)
          have K2' := Lib.hid ((Kept.mono (S' := [p, g, mb]) HK'.out (by simp)).trans ((Kept.mono (S' := [p, g', mb]) HKC.out (by simp)).trans K2 (by simp)) (by simp; omega))
          have hwz : w.heap.size ≤ w2.heap.size := K2'.out.size
          have HOWN2 := Lib.hid hown2
          have HA2 := Lib.hid A2a
          clear A2a K2 hg2 hown2
          simp only [resV, Option.getD_some, Option.getD_none, Option.isSome_some, Option.isSome_none, if_true, Bool.false_eq_true, if_false]
          repeat still_step
          refine wpStill_nil ?_
          go_wp2_with (at_builtin; refine wpList_append_lies _ rfl (.tmp 111) (.tmp 113) 53 rfl w.heap.size 3 i0 _ 1 8 Try.underlying53 hi hz0 hz1 hz2 rfl (by decide) _ k (out.map nat64) rfl ?_ ⟨w2.heap.size, 0, none⟩ 1 1 [.int .i64 ((f : Int))] rfl rfl ?_ ?_ (by omega) ?_ ?_ ?_ _ rfl ?_; (· exact own_kept HOWN2.out ((Kept.refl [] _).alloc _) (by simp)); (· exact news_at (by simp)); (· simp [Value.oneCell']); (· unfold maxLen; omega); (· omega); (· simp; omega); intro g9 cap9 w9 how9 hgr9 hat9 hlt9; have HOW9 := Lib.hid how9; have HGR9 := Lib.hid hgr9; clear how9 hgr9 hat9 hlt9)
          go_roundg (gk - 1)
          case measure => have := HKG.out; omega
          case rel => exact make_round HX.out HKG.out HOL.out hlt HS.out HO'.out HB.out HE'.out HF'.out HG'.out (own_kept HOWN2.out ((Kept.refl [] _).alloc _) (by simp)) HOW9.out hg2z (HA2.out.kept ((Kept.refl [] w2).alloc _) (by simp) (by simp) (by simp)) (K2'.out.alloc _) HGR9.out
    · obtain rfl : k = n := by omega
      have e : makeGo A [] l = (out, true, A') := by
        rw [HG'.out, List.drop_of_length_le (by rw [HN.out]; exact Nat.le_refl _)]
        rfl
      have HE := Lib.hid e
      clear e
      go_wp2
      go_ret2
      rw [HE.out]
      exact ⟨_, g', rfl, by rw [show (out, true, A').1 = out from rfl, HOL.out]; exact HOW.out, hg', HA'.out, HK'.out⟩

end Go.Proofs.Ytakgghhmecphmaa
