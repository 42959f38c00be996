/- The walks of Join, Not and Ite. -/
import Derived.Test.YtakgghhmecphmaaCube2
import Derived.Test.YtakgghhmecphmaaBdd
namespace Go.Proofs.Ytakgghhmecphmaa
set_option linter.unusedVariables false
set_option linter.unusedSimpArgs false
open Go.RowKit Go.Maps

theorem Join_nil (w : World) (k f g : Int) : Calls Try.prog 33 #[.pointer none, .int .i64 k, .int .i64 f, .int .i64 g] w fun e w' => e = .returned (.tuple #[.int .i64 0, .int .i64 2]) ∧ w = w' := by
  go_enter Try.func33, Try.ntmps33
  go_wp2
  go_ret2
  exact ⟨rfl, rfl⟩

theorem Join_bad {w : World} {p g mb : Nat} {A : Arn} (h : ArenaAt w p g mb A) (kind f q : Int) (hb : ¬ (0 ≤ f ∧ f < A.nodes.length) ∨ ¬ (0 ≤ q ∧ q < A.nodes.length) ∨ kind < 0 ∨ 3 < kind) :
    Calls Try.prog 33 #[.pointer (some ⟨p, 0, none⟩), .int .i64 kind, .int .i64 f, .int .i64 q] w fun e w' => e = .returned (.tuple #[.int .i64 0, .int .i64 1]) ∧ w = w' := by
  have H1 := Lib.hid (has_calls h f)
  have H2 := Lib.hid (has_calls h q)
  clear h
  by_cases h1 : 0 ≤ f ∧ f < A.nodes.length
  · have e1 : decide (0 ≤ f ∧ f < A.nodes.length) = true := by simpa using h1
    by_cases h2 : 0 ≤ q ∧ q < A.nodes.length
    · have e2 : decide (0 ≤ q ∧ q < A.nodes.length) = true := by simpa using h2
      by_cases h3 : kind < 0
      · have t3 : decide (kind < 0) = true := decide_eq_true h3
        clear hb h1 h2
        go_enter Try.func33, Try.ntmps33
        go_wp2_with (first | (go_at_call_of 39 (f); refine H1.out.mono ?_; rintro e w' ⟨rfl, rfl⟩; rw [e1]) | (go_at_call_of 39 (q); refine H2.out.mono ?_; rintro e w' ⟨rfl, rfl⟩; rw [e2]))
        go_ret2
        exact ⟨rfl, rfl⟩
      · have h4 : 3 < kind := by
          rcases hb with h | h | h | h
          · exact absurd h1 h
          · exact absurd h2 h
          · exact absurd h h3
          · exact h
        have t3 : decide (kind < 0) = false := decide_eq_false h3
        have t4 : decide (3 < kind) = true := decide_eq_true h4
        clear hb h1 h2
        go_enter Try.func33, Try.ntmps33
        go_wp2_with (first | (go_at_call_of 39 (f); refine H1.out.mono ?_; rintro e w' ⟨rfl, rfl⟩; rw [e1]) | (go_at_call_of 39 (q); refine H2.out.mono ?_; rintro e w' ⟨rfl, rfl⟩; rw [e2]))
        go_ret2
        exact ⟨rfl, rfl⟩
    · have e2 : decide (0 ≤ q ∧ q < A.nodes.length) = false := by simpa using h2
      clear hb h1 h2
      go_enter Try.func33, Try.ntmps33
      go_wp2_with (first | (go_at_call_of 39 (f); refine H1.out.mono ?_; rintro e w' ⟨rfl, rfl⟩; rw [e1]) | (go_at_call_of 39 (q); refine H2.out.mono ?_; rintro e w' ⟨rfl, rfl⟩; rw [e2]))
      go_ret2
      exact ⟨rfl, rfl⟩
  · have e1 : decide (0 ≤ f ∧ f < A.nodes.length) = false := by simpa using h1
    clear hb h1
    go_enter Try.func33, Try.ntmps33
    go_wp2_with (first | (go_at_call_of 39 (f); refine H1.out.mono ?_; rintro e w' ⟨rfl, rfl⟩; rw [e1]))
    go_ret2
    exact ⟨rfl, rfl⟩

set_option maxRecDepth 100000 in
set_option maxHeartbeats 1000000 in
theorem Join_calls {w : World} {p g mb : Nat} {A : Arn} (h : ArenaAt w p g mb A) (hOK : A.OK) (kind : Int) (k f q : Nat) (hk : kind = k) (h3 : k ≤ 3) (hf : f < A.nodes.length) (hq : q < A.nodes.length) :
    Calls Try.prog 33 #[.pointer (some ⟨p, 0, none⟩), .int .i64 kind, .int .i64 (f : Int), .int .i64 (q : Int)] w (ArenaPost w p g mb (joinA A k f q).1 (joinA A k f q).2) := by
  have hmm := @run_makeMap Try.prog
  have hlt := h.lt
  have H1 := Lib.hid (has_calls h (f : Int))
  have H2 := Lib.hid (has_calls h (q : Int))
  have HL := Lib.hid (len_calls h)
  have e1 : decide (0 ≤ (f : Int) ∧ (f : Int) < A.nodes.length) = true := by simp; omega
  have e2 : decide (0 ≤ (q : Int) ∧ (q : Int) < A.nodes.length) = true := by simp; omega
  have t3 : decide (kind < 0) = false := decide_eq_false (by omega)
  have t4 : decide (3 < kind) = false := decide_eq_false (by omega)
  have HJ := Lib.hid (join_calls (p := p) (mb := mb) (sb := w.heap.size) kind hk h3 (by omega) (by omega) 106 (w.alloc (.map #[] 0)) g 0 A (fun _ => none) f q (h.kept ((Kept.refl [] w).alloc _) (by simp) (by simp) (by simp)) hOK (IsMapOf.made w Try.prog _ _ _) (SV.none A) (by omega) hf hq (by omega))
  have HB := joinF_ok 106 k A (fun _ => none) f q h3 hOK (SV.none A) hf hq
  have hA : joinA A k f q = match joinF 106 k A (fun _ => none) f q with | (none, _, _) => (none, A) | (some x, A', _) => (some x, A') := rfl
  rw [hA]
  rcases e : joinF 106 k A (fun _ => none) f q with ⟨r, A', S'⟩
  rw [e] at HJ HB
  have HB1 := Lib.hid HB.1
  have HE := Lib.hid HB.2.1
  have H2K := Lib.hid hOK.two
  clear h hOK HB hA e hk
  cases r with
  | none =>
    go_enter Try.func33, Try.ntmps33
    go_wp2_with (first | (go_at_call_of 39 (f); refine H1.out.mono ?_; rintro e w' ⟨rfl, rfl⟩; rw [e1]) | (go_at_call_of 39 (q); refine H2.out.mono ?_; rintro e w' ⟨rfl, rfl⟩; rw [e2]) | (go_at_call 30; refine HL.out.mono ?_; rintro e w' ⟨rfl, rfl⟩))
    refine HJ.out.mono ?_
    rintro e w2 ⟨rfl, g2, n2, hg2, A2, _, K2⟩
    have C := Lib.hid (cut_calls A2 HB1.out (A.nodes.length : Int) A.nodes.length (by have := H2K.out; omega))
    have hg2z : g2 = g ∨ w.heap.size ≤ g2 := by simp at hg2; omega
    have K2' := Lib.hid (((Kept.refl [p, g, mb] w).alloc (.map #[] 0)).trans K2 (by simp))
    clear A2 K2 hg2
    simp only [resV, Option.getD_none, Option.isSome_none, Bool.false_eq_true, if_false]
    go_wp2_with (go_at_call 41; refine C.out.mono ?_; rintro e w3 ⟨rfl, A3, K3⟩; have A3 := Lib.hid A3; have K3 := Lib.hid K3)
    go_ret2
    have ec : upTo A' A.nodes.length = A := HE.out.cut H2K.out
    have A3' := A3.out
    rw [ec] at A3'
    exact ⟨rfl, g2, hg2z, A3', K2'.out.trans K3.out (by simp; omega)⟩
  | some x =>
    go_enter Try.func33, Try.ntmps33
    go_wp2_with (first | (go_at_call_of 39 (f); refine H1.out.mono ?_; rintro e w' ⟨rfl, rfl⟩; rw [e1]) | (go_at_call_of 39 (q); refine H2.out.mono ?_; rintro e w' ⟨rfl, rfl⟩; rw [e2]) | (go_at_call 30; refine HL.out.mono ?_; rintro e w' ⟨rfl, rfl⟩))
    refine HJ.out.mono ?_
    rintro e w2 ⟨rfl, g2, n2, hg2, A2, _, K2⟩
    have hg2z : g2 = g ∨ w.heap.size ≤ g2 := by simp at hg2; omega
    have K2' := Lib.hid (((Kept.refl [p, g, mb] w).alloc (.map #[] 0)).trans K2 (by simp))
    have A2 := Lib.hid A2
    clear K2 hg2
    simp only [resV, Option.getD_some, Option.isSome_some, if_true]
    go_wp2
    go_ret2
    exact ⟨rfl, g2, hg2z, A2.out, K2'.out⟩

theorem Not_nil (w : World) (f : Int) : Calls Try.prog 34 #[.pointer none, .int .i64 f] w fun e w' => e = .returned (.tuple #[.int .i64 0, .int .i64 2]) ∧ w = w' := by
  go_enter Try.func34, Try.ntmps34
  go_wp2_with (go_at_call 33; refine (Join_nil _ _ _ _).mono ?_; rintro e w' ⟨rfl, rfl⟩)
  go_ret2
  exact ⟨rfl, rfl⟩

theorem Not_calls {w : World} {p g mb : Nat} {A : Arn} (h : ArenaAt w p g mb A) (hOK : A.OK) (f : Nat) (hf : f < A.nodes.length) :
    Calls Try.prog 34 #[.pointer (some ⟨p, 0, none⟩), .int .i64 (f : Int)] w (ArenaPost w p g mb (joinA A 3 1 f).1 (joinA A 3 1 f).2) := by
  have HJ := Lib.hid (Join_calls h hOK 3 3 1 f rfl (by omega) (by have := hOK.two; omega) hf)
  generalize joinA A 3 1 f = R at *
  obtain ⟨r, A'⟩ := R
  clear h hOK
  go_enter Try.func34, Try.ntmps34
  go_wp2_with (fail)
  refine HJ.out.mono ?_
  rintro e w2 ⟨rfl, g2, hg2, A2, K2⟩
  have A2 := Lib.hid A2
  have K2 := Lib.hid K2
  cases r with
  | none =>
    simp only [resV, Option.getD_none, Option.isSome_none, Bool.false_eq_true, if_false]
    go_wp2
    go_ret2
    exact ⟨rfl, g2, hg2, A2.out, K2.out⟩
  | some x =>
    simp only [resV, Option.getD_some, Option.isSome_some, if_true]
    go_wp2
    go_ret2
    exact ⟨rfl, g2, hg2, A2.out, K2.out⟩

end Go.Proofs.Ytakgghhmecphmaa
