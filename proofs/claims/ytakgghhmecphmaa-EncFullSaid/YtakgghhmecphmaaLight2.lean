/- The walk of Light. -/
import Derived.Test.YtakgghhmecphmaaLight
namespace Go.Proofs.Ytakgghhmecphmaa
set_option linter.unusedVariables false
set_option linter.unusedSimpArgs false
open Go.RowKit Go.Maps

def int64 (x : Int) : Value := .int .i64 x
def boolV (x : Bool) : Value := .bool x
theorem int64_inj (x y : Int) (h : int64 x = int64 y) : x = y := by simpa [int64] using h
def setF (s : List Int) : Int → Option Bool := fun x => if x ∈ s then some true else none

/-- The expressions' numbers are int's. -/
def ExsWf (l : List Ex) : Prop := ∀ x ∈ l, (Lit.int .i64 x.var).wf = true

set_option maxRecDepth 100000 in
set_option maxHeartbeats 1000000 in
open Classical in
theorem light_calls {w : World} (b off cap n : Nat) (l : List Ex) (hn : l.length = n) (hnm : n ≤ 140737488355328) (hL : ExsAt w b off l) (hW : ExsWf l) :
    Calls Try.prog 28 #[.slice (some ⟨b, off, none⟩) n cap] w fun e w' => e = .returned (.bool (decide (LightP l))) ∧ Below w.heap.size w w' := by
  have hmm := @run_makeMap Try.prog
  have HL := Lib.hid hL
  have HN := Lib.hid hn
  have HW := Lib.hid hW
  clear hL hn hW
  go_enter Try.func28, Try.ntmps28
  go_wp2
  go_loopw [9] (fun i wr => ∃ k : Nat, k ≤ n ∧ i = .int .i64 (k : Int) ∧ IsMapOf Try.prog 3 int64 boolV wr w.heap.size (dset (varsOf (l.take k))).length (setF (dset (varsOf (l.take k)))) ∧ Kept [] w wr) (fun i _ => n - (intOf i).toNat)
  case atStart => exact ⟨0, Nat.zero_le _, rfl, (IsMapOf.made w Try.prog _ _ _).congr (fun x => by simp [setF, dset, varsOf]), (Kept.refl [] w).alloc _⟩
  case round =>
    obtain ⟨k, hk, rfl, hM, hK⟩ := hrel
    have HK := Lib.hid hK
    have HM := Lib.hid hM
    have hmz := hM.lt
    clear hK hM
    by_cases hlt : k < n
    · have hx : l[k]? = some (l[k]'(by have := HN.out; omega)) := List.getElem?_eq_getElem _
      generalize l[k]'(by have := HN.out; omega) = x at hx
      obtain ⟨k0, k1, k2, k3, k4, k5⟩ := (HL.out.kept HK.out (by simp)).at_ hx
      have hs : varsOf (l.take (k + 1)) = varsOf (l.take k) ++ if x.kind = 2 then [x.var] else [] := by rw [List.take_add_one, hx, Option.toList_some, varsOf_snoc]
      have HS := Lib.hid hs
      have hwx : (Lit.int .i64 x.var).wf = true := HW.out x (List.mem_of_getElem? hx)
      obtain ⟨xk, xa, xb, xc, xv, xo⟩ := x
      simp only at k0 k1 k2 k3 k4 k5 hwx
      have HX := Lib.hid hwx
      clear hx hs hwx
      by_cases h2 : xk = 2
      · have t2 : (xk == 2) = true := by simpa using h2
        have HM1 := Lib.hid (HM.out.of_block (w' := wr.alloc (.cells #[.int .i64 xk, .int .i64 xa, .int .i64 xb, .int .i64 xc, .int .i64 xv, .bool xo] 105)) (Below.heap_alloc _ _ _ hmz))
        have H2 := Lib.hid h2
        clear h2
        go_wp2_with (at_mapUpdate; refine wpList_put _ rfl _ _ _ 103 4 rfl intKeyed int64_inj Try.underlying103 HM1.out xv true ⟨_, keyOf_int_mk Try.underlying3 HX.out⟩ rfl rfl rfl ?_; intro w6 M6 hg6; have M6 := Lib.hid M6; have HG6 := Lib.hid hg6; clear hg6)
        go_roundw
        case rel =>
          refine ⟨k + 1, by omega, by go_num, ?_, ?_⟩
          · have m6 := M6.out
            rw [HS.out, if_pos H2.out, dset_snoc]
            generalize dset (varsOf (l.take k)) = s at *
            by_cases hm : xv ∈ s
            · rw [if_pos hm]
              have e : (setF s xv).isSome = true := by simp [setF, hm]
              rw [if_pos e] at m6
              refine m6.congr (fun y => ?_)
              unfold upd
              split
              · rename_i e; subst e; simp [setF, hm]
              · rfl
            · rw [if_neg hm]
              have e : ¬ (setF s xv).isSome = true := by simp [setF, hm]
              rw [if_neg e] at m6
              rw [List.length_append]
              refine m6.congr (fun y => ?_)
              unfold upd setF
              by_cases hy : y = xv
              · subst hy; simp
              · simp [hy]
          · have k6 := Kept.of_grown HG6.out
            exact (HK.out.alloc _).trans k6 (by simp)
        case measure => simp [intOf]; omega
      · have t2 : (xk == 2) = false := by simpa using h2
        have H2 := Lib.hid h2
        clear h2
        go_wp2
        go_roundw
        case rel =>
          refine ⟨k + 1, by omega, by go_num, ?_, HK.out.alloc _⟩
          have e : varsOf (l.take (k + 1)) = varsOf (l.take k) := by rw [HS.out, if_neg H2.out, List.append_nil]
          rw [e]
          exact HM.out.of_block (Below.heap_alloc _ _ _ hmz)
        case measure => simp [intOf]; omega
    · obtain rfl : k = n := by omega
      have e : l.take k = l := List.take_of_length_le (by rw [HN.out]; exact Nat.le_refl _)
      have hM := HM.out
      rw [e] at hM
      have hlen := hM.len Try.underlying103
      have HR := Lib.hid (right_calls (w := wr) b off cap k l HN.out hnm (HL.out.kept HK.out (by simp)))
      have hend : Below w.heap.size w wr := Kept.below HK.out (Nat.le_refl _) (by simp)
      have HE := Lib.hid hend
      have HP := Lib.hid (show LightP l ↔ k ≤ 60 ∧ (dset (varsOf l)).length ≤ 10 ∧ RightP l by unfold LightP; rw [HN.out])
      clear hend hM e
      generalize (dset (varsOf l)).length = D at *
      by_cases h6 : k ≤ 60
      · by_cases h1 : D ≤ 10
        · go_wp2_with (go_at_call 59; refine HR.out.mono ?_; rintro e w' ⟨rfl, hb⟩; have HB := Lib.hid hb; clear hb)
          go_ret
          refine ⟨?_, HE.out.trans (Kept.below (Kept.of_below (S := []) HB.out) HE.out.size (by simp))⟩
          have : decide (LightP l) = decide (RightP l) := decide_eq_decide.2 (HP.out.trans ⟨fun h => h.2.2, fun h => ⟨h6, h1, h⟩⟩)
          rw [this]
          rfl
        · go_wp2
          go_ret
          refine ⟨?_, HE.out⟩
          rw [decide_eq_false (fun h => h1 (HP.out.1 h).2.1)]
          rfl
      · go_wp2
        go_ret
        refine ⟨?_, HE.out⟩
        rw [decide_eq_false (fun h => h6 (HP.out.1 h).1)]
        rfl

theorem lightP_nil : LightP [] := ⟨by simp, by simp [dset, varsOf], fun i x h => by simp at h, by simp [heldN]⟩

theorem right_nil (w : World) (ao : Option Addr) (cap : Nat) : Calls Try.prog 59 #[.slice ao 0 cap] w fun e w' => e = .returned (.bool true) ∧ w = w' := by
  go_enter Try.func59, Try.ntmps59
  go_wp2
  refine wp_loop_rounds 1 ?_
  rw [rounds_succ]
  go_wp2
  go_ret
  exact ⟨rfl, rfl⟩

theorem light_nil (w : World) (ao : Option Addr) (cap : Nat) : Calls Try.prog 28 #[.slice ao 0 cap] w fun e w' => e = .returned (.bool true) ∧ Below w.heap.size w w' := by
  have hmm := @run_makeMap Try.prog
  have hlen := (IsMapOf.made w Try.prog 3 int64 boolV).len Try.underlying103
  go_enter Try.func28, Try.ntmps28
  go_wp2
  refine wp_loop_rounds 1 ?_
  rw [rounds_succ]
  go_wp2_with (go_at_call 59; refine (right_nil _ _ _).mono ?_; rintro e w' ⟨rfl, rfl⟩)
  go_ret
  exact ⟨rfl, (Below.refl _ _).alloc (Nat.le_refl _) _⟩

end Go.Proofs.Ytakgghhmecphmaa
