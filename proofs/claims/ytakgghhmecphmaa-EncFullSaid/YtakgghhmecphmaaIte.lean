/- The walks of Ite. -/
import Derived.Test.YtakgghhmecphmaaJoin2
namespace Go.Proofs.Ytakgghhmecphmaa
set_option linter.unusedVariables false
set_option linter.unusedSimpArgs false
open Go.RowKit Go.Maps

theorem Ite_nil (w : World) (f g h : Int) : Calls Try.prog 35 #[.pointer none, .int .i64 f, .int .i64 g, .int .i64 h] w fun e w' => e = .returned (.tuple #[.int .i64 0, .int .i64 2]) ∧ w = w' := by
  go_enter Try.func35, Try.ntmps35
  go_wp2_with (first | (go_at_call 39; refine (has_nil_calls _ _).mono ?_; rintro e w' ⟨rfl, rfl⟩) | (go_at_call 30; refine (len_nil_calls _).mono ?_; rintro e w' ⟨rfl, rfl⟩) | (go_at_call 33; refine (Join_nil _ _ _ _).mono ?_; rintro e w' ⟨rfl, rfl⟩) | (go_at_call 41; refine (cut_nil _ _).mono ?_; rintro e w' ⟨rfl, rfl⟩))
  go_ret2
  exact ⟨rfl, rfl⟩

theorem Ite_bad {w : World} {p g mb : Nat} {A : Arn} (h : ArenaAt w p g mb A) (f q r : Int) (hb : ¬ (0 ≤ r ∧ r < A.nodes.length)) :
    Calls Try.prog 35 #[.pointer (some ⟨p, 0, none⟩), .int .i64 f, .int .i64 q, .int .i64 r] w fun e w' => e = .returned (.tuple #[.int .i64 0, .int .i64 1]) ∧ w = w' := by
  have H1 := Lib.hid (has_calls h r)
  have e1 : decide (0 ≤ r ∧ r < A.nodes.length) = false := by simpa using hb
  clear h hb
  go_enter Try.func35, Try.ntmps35
  go_wp2_with (go_at_call 39; refine H1.out.mono ?_; rintro e w' ⟨rfl, rfl⟩; rw [e1])
  go_ret2
  exact ⟨rfl, rfl⟩

set_option maxRecDepth 100000 in
set_option maxHeartbeats 1000000 in
theorem ite_w1 {w : World} {p g mb : Nat} {A A1 : Arn} {f q r x y z : Nat} (HA : Hid (ArenaAt w p g mb A)) (hpz : p < w.heap.size) (hmz : mb < w.heap.size)
    (HH : Hid (Calls Try.prog 39 #[.pointer (some ⟨p, 0, none⟩), .int .i64 (r : Int)] w fun e w' => e = .returned (.bool true) ∧ w = w'))
    (HL : Hid (Calls Try.prog 30 #[.pointer (some ⟨p, 0, none⟩)] w fun e w' => e = .returned (.int .i64 (A.nodes.length : Int)) ∧ w = w'))
    (J1 : Hid (∀ W g, ArenaAt W p g mb A → Calls Try.prog 33 #[.pointer (some ⟨p, 0, none⟩), .int .i64 0, .int .i64 (f : Int), .int .i64 (q : Int)] W (ArenaPost W p g mb (none) A1)))
    (C : Hid (∀ W g, ArenaAt W p g mb A1 → Calls Try.prog 41 #[.pointer (some ⟨p, 0, none⟩), .int .i64 (A.nodes.length : Int)] W fun e w' => e = .returned (.tuple #[]) ∧ ArenaAt w' p g mb A ∧ Kept [p, g, mb] W w')) :
    Calls Try.prog 35 #[.pointer (some ⟨p, 0, none⟩), .int .i64 (f : Int), .int .i64 (q : Int), .int .i64 (r : Int)] w (ArenaPost w p g mb none A) := by
  go_enter Try.func35, Try.ntmps35
  go_wp2_with (first | (go_at_call 39; refine HH.out.mono ?_; rintro e w' ⟨rfl, rfl⟩) | (go_at_call 30; refine HL.out.mono ?_; rintro e w' ⟨rfl, rfl⟩))
  refine (J1.out _ g HA.out).mono ?_
  rintro e w1 ⟨rfl, g1, hg1, A1', K1⟩
  have A1' := Lib.hid A1'
  have K1 := Lib.hid K1
  simp only [resV, Option.getD_some, Option.getD_none, Option.isSome_some, Option.isSome_none, if_true, Bool.false_eq_true, if_false]
  go_wp2_with (go_at_call 41; refine (C.out _ g1 A1'.out).mono ?_; rintro e w9 ⟨rfl, A9, K9⟩; have A9 := Lib.hid A9; have K9 := Lib.hid K9)
  go_ret2
  exact ⟨rfl, g1, hg1, A9.out, K1.out.trans K9.out (by simp; omega)⟩

set_option maxRecDepth 100000 in
set_option maxHeartbeats 1000000 in
theorem ite_w2 {w : World} {p g mb : Nat} {A A1 A2 : Arn} {f q r x y z : Nat} (HA : Hid (ArenaAt w p g mb A)) (hpz : p < w.heap.size) (hmz : mb < w.heap.size)
    (HH : Hid (Calls Try.prog 39 #[.pointer (some ⟨p, 0, none⟩), .int .i64 (r : Int)] w fun e w' => e = .returned (.bool true) ∧ w = w'))
    (HL : Hid (Calls Try.prog 30 #[.pointer (some ⟨p, 0, none⟩)] w fun e w' => e = .returned (.int .i64 (A.nodes.length : Int)) ∧ w = w'))
    (J1 : Hid (∀ W g, ArenaAt W p g mb A → Calls Try.prog 33 #[.pointer (some ⟨p, 0, none⟩), .int .i64 0, .int .i64 (f : Int), .int .i64 (q : Int)] W (ArenaPost W p g mb (some x) A1)))
    (J2 : Hid (∀ W g, ArenaAt W p g mb A1 → Calls Try.prog 33 #[.pointer (some ⟨p, 0, none⟩), .int .i64 3, .int .i64 (r : Int), .int .i64 (f : Int)] W (ArenaPost W p g mb (none) A2)))
    (C : Hid (∀ W g, ArenaAt W p g mb A2 → Calls Try.prog 41 #[.pointer (some ⟨p, 0, none⟩), .int .i64 (A.nodes.length : Int)] W fun e w' => e = .returned (.tuple #[]) ∧ ArenaAt w' p g mb A ∧ Kept [p, g, mb] W w')) :
    Calls Try.prog 35 #[.pointer (some ⟨p, 0, none⟩), .int .i64 (f : Int), .int .i64 (q : Int), .int .i64 (r : Int)] w (ArenaPost w p g mb none A) := by
  go_enter Try.func35, Try.ntmps35
  go_wp2_with (first | (go_at_call 39; refine HH.out.mono ?_; rintro e w' ⟨rfl, rfl⟩) | (go_at_call 30; refine HL.out.mono ?_; rintro e w' ⟨rfl, rfl⟩))
  refine (J1.out _ g HA.out).mono ?_
  rintro e w1 ⟨rfl, g1, hg1, A1', K1⟩
  have A1' := Lib.hid A1'
  have K1 := Lib.hid K1
  simp only [resV, Option.getD_some, Option.getD_none, Option.isSome_some, Option.isSome_none, if_true, Bool.false_eq_true, if_false]
  go_wp2_with (fail)
  refine (J2.out _ g1 A1'.out).mono ?_
  rintro e w2 ⟨rfl, g2, hg2', A2', K2'⟩
  have hg2 : g2 = g ∨ w.heap.size ≤ g2 := by have := K1.out.size; rcases hg2' with h' | h' <;> omega
  have K2 := Lib.hid (K1.out.trans K2' (by simp; omega))
  have A2' := Lib.hid A2'
  clear K2' hg2'
  simp only [resV, Option.getD_some, Option.getD_none, Option.isSome_some, Option.isSome_none, if_true, Bool.false_eq_true, if_false]
  go_wp2_with (go_at_call 41; refine (C.out _ g2 A2'.out).mono ?_; rintro e w9 ⟨rfl, A9, K9⟩; have A9 := Lib.hid A9; have K9 := Lib.hid K9)
  go_ret2
  exact ⟨rfl, g2, hg2, A9.out, K2.out.trans K9.out (by simp; omega)⟩

set_option maxRecDepth 100000 in
set_option maxHeartbeats 1000000 in
theorem ite_w3 {w : World} {p g mb : Nat} {A A1 A2 A3 : Arn} {f q r x y z : Nat} (HA : Hid (ArenaAt w p g mb A)) (hpz : p < w.heap.size) (hmz : mb < w.heap.size)
    (HH : Hid (Calls Try.prog 39 #[.pointer (some ⟨p, 0, none⟩), .int .i64 (r : Int)] w fun e w' => e = .returned (.bool true) ∧ w = w'))
    (HL : Hid (Calls Try.prog 30 #[.pointer (some ⟨p, 0, none⟩)] w fun e w' => e = .returned (.int .i64 (A.nodes.length : Int)) ∧ w = w'))
    (J1 : Hid (∀ W g, ArenaAt W p g mb A → Calls Try.prog 33 #[.pointer (some ⟨p, 0, none⟩), .int .i64 0, .int .i64 (f : Int), .int .i64 (q : Int)] W (ArenaPost W p g mb (some x) A1)))
    (J2 : Hid (∀ W g, ArenaAt W p g mb A1 → Calls Try.prog 33 #[.pointer (some ⟨p, 0, none⟩), .int .i64 3, .int .i64 (r : Int), .int .i64 (f : Int)] W (ArenaPost W p g mb (some y) A2)))
    (J3 : Hid (∀ W g, ArenaAt W p g mb A2 → Calls Try.prog 33 #[.pointer (some ⟨p, 0, none⟩), .int .i64 1, .int .i64 (x : Int), .int .i64 (y : Int)] W (ArenaPost W p g mb (none) A3)))
    (C : Hid (∀ W g, ArenaAt W p g mb A3 → Calls Try.prog 41 #[.pointer (some ⟨p, 0, none⟩), .int .i64 (A.nodes.length : Int)] W fun e w' => e = .returned (.tuple #[]) ∧ ArenaAt w' p g mb A ∧ Kept [p, g, mb] W w')) :
    Calls Try.prog 35 #[.pointer (some ⟨p, 0, none⟩), .int .i64 (f : Int), .int .i64 (q : Int), .int .i64 (r : Int)] w (ArenaPost w p g mb none A) := by
  go_enter Try.func35, Try.ntmps35
  go_wp2_with (first | (go_at_call 39; refine HH.out.mono ?_; rintro e w' ⟨rfl, rfl⟩) | (go_at_call 30; refine HL.out.mono ?_; rintro e w' ⟨rfl, rfl⟩))
  refine (J1.out _ g HA.out).mono ?_
  rintro e w1 ⟨rfl, g1, hg1, A1', K1⟩
  have A1' := Lib.hid A1'
  have K1 := Lib.hid K1
  simp only [resV, Option.getD_some, Option.getD_none, Option.isSome_some, Option.isSome_none, if_true, Bool.false_eq_true, if_false]
  go_wp2_with (fail)
  refine (J2.out _ g1 A1'.out).mono ?_
  rintro e w2 ⟨rfl, g2, hg2', A2', K2'⟩
  have hg2 : g2 = g ∨ w.heap.size ≤ g2 := by have := K1.out.size; rcases hg2' with h' | h' <;> omega
  have K2 := Lib.hid (K1.out.trans K2' (by simp; omega))
  have A2' := Lib.hid A2'
  clear K2' hg2'
  simp only [resV, Option.getD_some, Option.getD_none, Option.isSome_some, Option.isSome_none, if_true, Bool.false_eq_true, if_false]
  go_wp2_with (fail)
  refine (J3.out _ g2 A2'.out).mono ?_
  rintro e w3 ⟨rfl, g3, hg3', A3', K3'⟩
  have hg3 : g3 = g ∨ w.heap.size ≤ g3 := by have := K2.out.size; rcases hg3' with h' | h' <;> omega
  have K3 := Lib.hid (K2.out.trans K3' (by simp; omega))
  have A3' := Lib.hid A3'
  clear K3' hg3'
  simp only [resV, Option.getD_some, Option.getD_none, Option.isSome_some, Option.isSome_none, if_true, Bool.false_eq_true, if_false]
  go_wp2_with (go_at_call 41; refine (C.out _ g3 A3'.out).mono ?_; rintro e w9 ⟨rfl, A9, K9⟩; have A9 := Lib.hid A9; have K9 := Lib.hid K9)
  go_ret2
  exact ⟨rfl, g3, hg3, A9.out, K3.out.trans K9.out (by simp; omega)⟩

set_option maxRecDepth 100000 in
set_option maxHeartbeats 1000000 in
theorem ite_w4 {w : World} {p g mb : Nat} {A A1 A2 A3 : Arn} {f q r x y z : Nat} (HA : Hid (ArenaAt w p g mb A)) (hpz : p < w.heap.size) (hmz : mb < w.heap.size)
    (HH : Hid (Calls Try.prog 39 #[.pointer (some ⟨p, 0, none⟩), .int .i64 (r : Int)] w fun e w' => e = .returned (.bool true) ∧ w = w'))
    (HL : Hid (Calls Try.prog 30 #[.pointer (some ⟨p, 0, none⟩)] w fun e w' => e = .returned (.int .i64 (A.nodes.length : Int)) ∧ w = w'))
    (J1 : Hid (∀ W g, ArenaAt W p g mb A → Calls Try.prog 33 #[.pointer (some ⟨p, 0, none⟩), .int .i64 0, .int .i64 (f : Int), .int .i64 (q : Int)] W (ArenaPost W p g mb (some x) A1)))
    (J2 : Hid (∀ W g, ArenaAt W p g mb A1 → Calls Try.prog 33 #[.pointer (some ⟨p, 0, none⟩), .int .i64 3, .int .i64 (r : Int), .int .i64 (f : Int)] W (ArenaPost W p g mb (some y) A2)))
    (J3 : Hid (∀ W g, ArenaAt W p g mb A2 → Calls Try.prog 33 #[.pointer (some ⟨p, 0, none⟩), .int .i64 1, .int .i64 (x : Int), .int .i64 (y : Int)] W (ArenaPost W p g mb (some z) A3))) :
    Calls Try.prog 35 #[.pointer (some ⟨p, 0, none⟩), .int .i64 (f : Int), .int .i64 (q : Int), .int .i64 (r : Int)] w (ArenaPost w p g mb (some z) A3) := by
  go_enter Try.func35, Try.ntmps35
  go_wp2_with (first | (go_at_call 39; refine HH.out.mono ?_; rintro e w' ⟨rfl, rfl⟩) | (go_at_call 30; refine HL.out.mono ?_; rintro e w' ⟨rfl, rfl⟩))
  refine (J1.out _ g HA.out).mono ?_
  rintro e w1 ⟨rfl, g1, hg1, A1', K1⟩
  have A1' := Lib.hid A1'
  have K1 := Lib.hid K1
  simp only [resV, Option.getD_some, Option.getD_none, Option.isSome_some, Option.isSome_none, if_true, Bool.false_eq_true, if_false]
  go_wp2_with (fail)
  refine (J2.out _ g1 A1'.out).mono ?_
  rintro e w2 ⟨rfl, g2, hg2', A2', K2'⟩
  have hg2 : g2 = g ∨ w.heap.size ≤ g2 := by have := K1.out.size; rcases hg2' with h' | h' <;> omega
  have K2 := Lib.hid (K1.out.trans K2' (by simp; omega))
  have A2' := Lib.hid A2'
  clear K2' hg2'
  simp only [resV, Option.getD_some, Option.getD_none, Option.isSome_some, Option.isSome_none, if_true, Bool.false_eq_true, if_false]
  go_wp2_with (fail)
  refine (J3.out _ g2 A2'.out).mono ?_
  rintro e w3 ⟨rfl, g3, hg3', A3', K3'⟩
  have hg3 : g3 = g ∨ w.heap.size ≤ g3 := by have := K2.out.size; rcases hg3' with h' | h' <;> omega
  have K3 := Lib.hid (K2.out.trans K3' (by simp; omega))
  have A3' := Lib.hid A3'
  clear K3' hg3'
  simp only [resV, Option.getD_some, Option.getD_none, Option.isSome_some, Option.isSome_none, if_true, Bool.false_eq_true, if_false]
  go_wp2
  go_ret2
  exact ⟨rfl, g3, hg3, A3'.out, K3.out⟩

theorem Ite_calls {w : World} {p g mb : Nat} {A : Arn} (h : ArenaAt w p g mb A) (hOK : A.OK) (f q r : Nat) (hf : f < A.nodes.length) (hq : q < A.nodes.length) (hr : r < A.nodes.length) :
    Calls Try.prog 35 #[.pointer (some ⟨p, 0, none⟩), .int .i64 (f : Int), .int .i64 (q : Int), .int .i64 (r : Int)] w (ArenaPost w p g mb (iteA A f q r).1 (iteA A f q r).2) := by
  obtain ⟨hpz, _, hmz⟩ := h.lt
  have h2 := hOK.two
  have HH := has_calls h (r : Int)
  rw [show decide (0 ≤ (r : Int) ∧ (r : Int) < A.nodes.length) = true by simp; omega] at HH
  have HL := len_calls h
  have C : ∀ B, B.OK → Ext A B → ∀ W g, ArenaAt W p g mb B → Calls Try.prog 41 #[.pointer (some ⟨p, 0, none⟩), .int .i64 (A.nodes.length : Int)] W fun e w' => e = .returned (.tuple #[]) ∧ ArenaAt w' p g mb A ∧ Kept [p, g, mb] W w' := by
    intro B hB hE W g hW
    refine (cut_calls hW hB (A.nodes.length : Int) A.nodes.length (by omega)).mono ?_
    rintro e w' ⟨rfl, a, b⟩
    have e : upTo B A.nodes.length = A := hE.cut h2
    rw [e] at a
    exact ⟨rfl, a, b⟩
  have J1 := fun W g hW => Join_calls (w := W) (p := p) (g := g) (mb := mb) (A := A) hW hOK 0 0 f q rfl (by omega) hf hq
  have j1 := joinA_ok hOK (k := 0) (by omega) hf hq
  unfold iteA
  rcases e1 : joinA A 0 f q with ⟨r1, A1⟩
  rw [e1] at j1 J1
  obtain ⟨o1, x1, v1⟩ := j1
  cases r1 with
  | none => exact ite_w1 (x := 0) (y := 0) (z := 0) h hpz hmz HH HL J1 (C A1 o1 x1)
  | some x =>
    simp only at o1 x1 v1 J1 ⊢
    have l1 := x1.len
    have J2 := fun W g hW => Join_calls (w := W) (p := p) (g := g) (mb := mb) (A := A1) hW o1 3 3 r f rfl (by omega) (by omega) (by omega)
    have j2 := joinA_ok o1 (k := 3) (f := r) (g := f) (by omega) (by omega) (by omega)
    rcases e2 : joinA A1 3 r f with ⟨r2, A2⟩
    rw [e2] at j2 J2
    obtain ⟨o2, x2, v2⟩ := j2
    cases r2 with
    | none => exact ite_w2 (x := x) (y := 0) (z := 0) h hpz hmz HH HL J1 J2 (C A2 o2 (x1.trans x2))
    | some y =>
      simp only at o2 x2 v2 J2 ⊢
      have l2 := x2.len
      have hx := v1 x rfl
      have J3 := fun W g hW => Join_calls (w := W) (p := p) (g := g) (mb := mb) (A := A2) hW o2 1 1 x y rfl (by omega) (by omega) (v2 y rfl)
      have j3 := joinA_ok o2 (k := 1) (f := x) (g := y) (by omega) (by omega) (v2 y rfl)
      rcases e3 : joinA A2 1 x y with ⟨r3, A3⟩
      rw [e3] at j3 J3
      obtain ⟨o3, x3, v3⟩ := j3
      cases r3 with
      | none => exact ite_w3 (x := x) (y := y) (z := 0) h hpz hmz HH HL J1 J2 J3 (C A3 o3 ((x1.trans x2).trans x3))
      | some z => exact ite_w4 (x := x) (y := y) (z := z) h hpz hmz HH HL J1 J2 J3

end Go.Proofs.Ytakgghhmecphmaa
