/- The walks of limit and Restrict. -/
import Derived.Test.YtakgghhmecphmaaIte
namespace Go.Proofs.Ytakgghhmecphmaa
set_option linter.unusedVariables false
set_option linter.unusedSimpArgs false
open Go.RowKit Go.Maps

theorem intKeyed : Keyed Try.prog 3 := int_keyed Try.underlying3
theorem nat64_inj (x y : Nat) (h : nat64 x = nat64 y) : x = y := by
  simp [nat64] at h
  omega
theorem nat64_key {x : Nat} (h : x < 1048576) : ∃ l, keyOf Try.prog 3 (nat64 x) = some l := ⟨_, keyOf_int_mk Try.underlying3 (wf64 (by omega) (by omega))⟩

/-- A map that remembers sets with the bit held. -/
abbrev SeenLAt (w : World) (sb n : Nat) (S : SeenL) : Prop := IsMapOf Try.prog 3 nat64 nat64 w sb n S

def LimitPost (w : World) (p g mb sb : Nat) (r : Option Nat) (A' : Arn) (S' : SeenL) : Ending → World → Prop := fun e w' =>
  e = .returned (resV r) ∧ ∃ g' n', (g' = g ∨ w.heap.size ≤ g') ∧ ArenaAt w' p g' mb A' ∧ SeenLAt w' sb n' S' ∧ Kept [p, g, mb, sb] w w'

theorem limit_above {w : World} {p g sb cap : Nat} {A : Arn} {f a f0 f1 i : Nat} {on : Bool}
    (kf : w.cell? ⟨g, f * 3, none⟩ = some (.int .i64 (a : Int))) (kf1 : w.cell? ⟨g, f * 3 + 1, none⟩ = some (.int .i64 (f0 : Int))) (kf2 : w.cell? ⟨g, f * 3 + 2, none⟩ = some (.int .i64 (f1 : Int))) (c0 : w.cell? ⟨p, 0, none⟩ = some (.slice (some ⟨g, 0, none⟩) A.nodes.length cap))
    (hf2 : (f : Int) < A.nodes.length) (hlen : A.nodes.length ≤ 262144) (hpz : p < w.heap.size) (hgz : g < w.heap.size)
    (hl : i < a) :
    Calls Try.prog 61 #[.pointer (some ⟨p, 0, none⟩), .int .i64 (f : Int), .int .i64 (i : Int), .bool on, .map (some sb)] w fun e w' => e = .returned (resV (some (f))) ∧ Below w.heap.size w w' := by
  go_enter Try.func61, Try.ntmps61
  go_wp2
  go_ret2
  exact ⟨rfl, (Below.refl _ _).alloc (Nat.le_refl _) _⟩

theorem limit_at {w : World} {p g sb cap : Nat} {A : Arn} {f f0 f1 i : Nat} (on : Bool)
    (kf : w.cell? ⟨g, f * 3, none⟩ = some (.int .i64 (i : Int))) (kf1 : w.cell? ⟨g, f * 3 + 1, none⟩ = some (.int .i64 (f0 : Int))) (kf2 : w.cell? ⟨g, f * 3 + 2, none⟩ = some (.int .i64 (f1 : Int))) (c0 : w.cell? ⟨p, 0, none⟩ = some (.slice (some ⟨g, 0, none⟩) A.nodes.length cap))
    (hf2 : (f : Int) < A.nodes.length) (hlen : A.nodes.length ≤ 262144) (hpz : p < w.heap.size) (hgz : g < w.heap.size) :
    Calls Try.prog 61 #[.pointer (some ⟨p, 0, none⟩), .int .i64 (f : Int), .int .i64 (i : Int), .bool on, .map (some sb)] w fun e w' => e = .returned (resV (some (if on then f1 else f0))) ∧ Below w.heap.size w w' := by
  cases on
  · go_enter Try.func61, Try.ntmps61
    go_wp2
    go_ret2
    exact ⟨rfl, (Below.refl _ _).alloc (Nat.le_refl _) _⟩
  · go_enter Try.func61, Try.ntmps61
    go_wp2
    go_ret2
    exact ⟨rfl, (Below.refl _ _).alloc (Nat.le_refl _) _⟩

theorem limit_seen {w : World} {p g sb cap : Nat} {A : Arn} {f a f0 f1 i : Nat} {on : Bool}
    (kf : w.cell? ⟨g, f * 3, none⟩ = some (.int .i64 (a : Int))) (kf1 : w.cell? ⟨g, f * 3 + 1, none⟩ = some (.int .i64 (f0 : Int))) (kf2 : w.cell? ⟨g, f * 3 + 2, none⟩ = some (.int .i64 (f1 : Int))) (c0 : w.cell? ⟨p, 0, none⟩ = some (.slice (some ⟨g, 0, none⟩) A.nodes.length cap))
    (hf2 : (f : Int) < A.nodes.length) (hlen : A.nodes.length ≤ 262144) (hpz : p < w.heap.size) (hgz : g < w.heap.size)
    {x : Nat} (hl : ¬ i < a) (hne : ((a : Int) == (i : Int)) = false) (hlk : ∀ o, (Instr.lookup 109 (.map (some sb)) (.int .i64 (f : Int)) true).run Try.prog (w.alloc o) = .ok (.tuple #[.int .i64 (x : Int), .bool true]) (w.alloc o)) :
    Calls Try.prog 61 #[.pointer (some ⟨p, 0, none⟩), .int .i64 (f : Int), .int .i64 (i : Int), .bool on, .map (some sb)] w fun e w' => e = .returned (resV (some (x))) ∧ Below w.heap.size w w' := by
  go_enter Try.func61, Try.ntmps61
  go_wp2
  go_ret2
  exact ⟨rfl, (Below.refl _ _).alloc (Nat.le_refl _) _⟩

set_option maxRecDepth 100000 in
set_option maxHeartbeats 1000000 in
theorem limit_w1 {w : World} {p g mb sb n cap : Nat} {A A1  : Arn} {S S1 S2 : SeenL} {f a f0 f1 i lo hi x : Nat} {on : Bool}
    (kf : w.cell? ⟨g, f * 3, none⟩ = some (.int .i64 (a : Int))) (kf1 : w.cell? ⟨g, f * 3 + 1, none⟩ = some (.int .i64 (f0 : Int))) (kf2 : w.cell? ⟨g, f * 3 + 2, none⟩ = some (.int .i64 (f1 : Int))) (c0 : w.cell? ⟨p, 0, none⟩ = some (.slice (some ⟨g, 0, none⟩) A.nodes.length cap))
    (hf2 : (f : Int) < A.nodes.length) (hlen : A.nodes.length ≤ 262144) (hpz : p < w.heap.size) (hgz : g < w.heap.size) (hmz : mb < w.heap.size) (hsz : sb < w.heap.size) (hsp : sb ≠ p) (hsm : sb ≠ mb) (hsg : sb ≠ g)
    (hl : ¬ i < a) (hne : ((a : Int) == (i : Int)) = false) (hlk : ∀ o, (Instr.lookup 109 (.map (some sb)) (.int .i64 (f : Int)) true).run Try.prog (w.alloc o) = .ok (.tuple #[.int .i64 0, .bool false]) (w.alloc o))
    (HA : Hid (ArenaAt w p g mb A)) (HSS : Hid (SeenLAt w sb n S))
    (J1 : Hid (∀ W, ArenaAt W p g mb A → SeenLAt W sb n S → Calls Try.prog 61 #[.pointer (some ⟨p, 0, none⟩), .int .i64 (f0 : Int), .int .i64 (i : Int), .bool on, .map (some sb)] W (LimitPost W p g mb sb (none) A1 S1))) :
    Calls Try.prog 61 #[.pointer (some ⟨p, 0, none⟩), .int .i64 (f : Int), .int .i64 (i : Int), .bool on, .map (some sb)] w (LimitPost w p g mb sb none A1 S1) := by
  have Q0 := Lib.hid (heap_alloc_new w (.cells #[.int .i64 (a : Int), .int .i64 (f0 : Int), .int .i64 (f1 : Int)] 94))
  have K0 := Lib.hid ((Kept.refl [] w).alloc (.cells #[.int .i64 (a : Int), .int .i64 (f0 : Int), .int .i64 (f1 : Int)] 94))
  go_enter Try.func61, Try.ntmps61
  go_wp2_with (fail)
  refine (J1.out _ (HA.out.kept K0.out (by simp) (by simp) (by simp)) (HSS.out.of_block (K0.out.block _ hsz (by simp)))).mono ?_
  rintro e w3 ⟨rfl, g3, n3, hg3, A3, S3, K3⟩
  have hw2 := lt_of_block Q0.out
  have hg3' : sb ≠ g3 := by have := K0.out.size; rcases hg3 with h' | h' <;> omega
  have hg3s : w.heap.size ≠ g3 := by rcases hg3 with h' | h' <;> omega
  have hg3z : g3 = g ∨ w.heap.size ≤ g3 := by have := K0.out.size; rcases hg3 with h' | h' <;> omega
  have K3' := Lib.hid ((Kept.mono K0.out (by simp)).trans (S := [p, g, mb, sb]) K3 (by simp))
  have q3 := (K3.block w.heap.size hw2 (by simp; omega)).trans Q0.out
  have h30 : w3.cell? ⟨w.heap.size, 0, none⟩ = some (.int .i64 (a : Int)) := cell_of q3 0
  have h32 : w3.cell? ⟨w.heap.size, 2, none⟩ = some (.int .i64 (f1 : Int)) := cell_of q3 2
  have Q3 := Lib.hid q3
  have A3 := Lib.hid A3
  have S3 := Lib.hid S3
  clear K3 hg3 q3
  simp only [resV, Option.getD_some, Option.getD_none, Option.isSome_some, Option.isSome_none, if_true, Bool.false_eq_true, if_false]
  go_wp2
  go_ret2
  exact ⟨rfl, g3, n3, hg3z, A3.out, S3.out, K3'.out⟩

set_option maxRecDepth 100000 in
set_option maxHeartbeats 1000000 in
theorem limit_w2 {w : World} {p g mb sb n cap : Nat} {A A1 A2 : Arn} {S S1 S2 : SeenL} {f a f0 f1 i lo hi x : Nat} {on : Bool}
    (kf : w.cell? ⟨g, f * 3, none⟩ = some (.int .i64 (a : Int))) (kf1 : w.cell? ⟨g, f * 3 + 1, none⟩ = some (.int .i64 (f0 : Int))) (kf2 : w.cell? ⟨g, f * 3 + 2, none⟩ = some (.int .i64 (f1 : Int))) (c0 : w.cell? ⟨p, 0, none⟩ = some (.slice (some ⟨g, 0, none⟩) A.nodes.length cap))
    (hf2 : (f : Int) < A.nodes.length) (hlen : A.nodes.length ≤ 262144) (hpz : p < w.heap.size) (hgz : g < w.heap.size) (hmz : mb < w.heap.size) (hsz : sb < w.heap.size) (hsp : sb ≠ p) (hsm : sb ≠ mb) (hsg : sb ≠ g)
    (hl : ¬ i < a) (hne : ((a : Int) == (i : Int)) = false) (hlk : ∀ o, (Instr.lookup 109 (.map (some sb)) (.int .i64 (f : Int)) true).run Try.prog (w.alloc o) = .ok (.tuple #[.int .i64 0, .bool false]) (w.alloc o))
    (HA : Hid (ArenaAt w p g mb A)) (HSS : Hid (SeenLAt w sb n S))
    (J1 : Hid (∀ W, ArenaAt W p g mb A → SeenLAt W sb n S → Calls Try.prog 61 #[.pointer (some ⟨p, 0, none⟩), .int .i64 (f0 : Int), .int .i64 (i : Int), .bool on, .map (some sb)] W (LimitPost W p g mb sb (some lo) A1 S1)))
    (J2 : Hid (∀ W g n, ArenaAt W p g mb A1 → SeenLAt W sb n S1 → sb ≠ g → Calls Try.prog 61 #[.pointer (some ⟨p, 0, none⟩), .int .i64 (f1 : Int), .int .i64 (i : Int), .bool on, .map (some sb)] W (LimitPost W p g mb sb (none) A2 S2))) :
    Calls Try.prog 61 #[.pointer (some ⟨p, 0, none⟩), .int .i64 (f : Int), .int .i64 (i : Int), .bool on, .map (some sb)] w (LimitPost w p g mb sb none A2 S2) := by
  have Q0 := Lib.hid (heap_alloc_new w (.cells #[.int .i64 (a : Int), .int .i64 (f0 : Int), .int .i64 (f1 : Int)] 94))
  have K0 := Lib.hid ((Kept.refl [] w).alloc (.cells #[.int .i64 (a : Int), .int .i64 (f0 : Int), .int .i64 (f1 : Int)] 94))
  go_enter Try.func61, Try.ntmps61
  go_wp2_with (fail)
  refine (J1.out _ (HA.out.kept K0.out (by simp) (by simp) (by simp)) (HSS.out.of_block (K0.out.block _ hsz (by simp)))).mono ?_
  rintro e w3 ⟨rfl, g3, n3, hg3, A3, S3, K3⟩
  have hw2 := lt_of_block Q0.out
  have hg3' : sb ≠ g3 := by have := K0.out.size; rcases hg3 with h' | h' <;> omega
  have hg3s : w.heap.size ≠ g3 := by rcases hg3 with h' | h' <;> omega
  have hg3z : g3 = g ∨ w.heap.size ≤ g3 := by have := K0.out.size; rcases hg3 with h' | h' <;> omega
  have K3' := Lib.hid ((Kept.mono K0.out (by simp)).trans (S := [p, g, mb, sb]) K3 (by simp))
  have q3 := (K3.block w.heap.size hw2 (by simp; omega)).trans Q0.out
  have h30 : w3.cell? ⟨w.heap.size, 0, none⟩ = some (.int .i64 (a : Int)) := cell_of q3 0
  have h32 : w3.cell? ⟨w.heap.size, 2, none⟩ = some (.int .i64 (f1 : Int)) := cell_of q3 2
  have Q3 := Lib.hid q3
  have A3 := Lib.hid A3
  have S3 := Lib.hid S3
  clear K3 hg3 q3
  simp only [resV, Option.getD_some, Option.getD_none, Option.isSome_some, Option.isSome_none, if_true, Bool.false_eq_true, if_false]
  go_wp2_with (fail)
  refine (J2.out _ g3 n3 A3.out S3.out hg3').mono ?_
  rintro e w4 ⟨rfl, g4, n4, hg4, A4', S4, K4⟩
  have hw3 := lt_of_block Q3.out
  have hg4' : sb ≠ g4 := by have := K3'.out.size; rcases hg4 with h' | h' <;> omega
  have hg4s : w.heap.size ≠ g4 := by rcases hg4 with h' | h' <;> omega
  have hg4z : g4 = g ∨ w.heap.size ≤ g4 := by have := K3'.out.size; rcases hg4 with h' | h' <;> omega
  have K4' := Lib.hid (K3'.out.trans K4 (by simp; omega))
  have q4 := (K4.block w.heap.size hw3 (by simp; omega)).trans Q3.out
  have h40 : w4.cell? ⟨w.heap.size, 0, none⟩ = some (.int .i64 (a : Int)) := cell_of q4 0
  have Q4 := Lib.hid q4
  have A4' := Lib.hid A4'
  have S4 := Lib.hid S4
  clear K4 hg4 q4
  simp only [resV, Option.getD_some, Option.getD_none, Option.isSome_some, Option.isSome_none, if_true, Bool.false_eq_true, if_false]
  go_wp2
  go_ret2
  exact ⟨rfl, g4, n4, hg4z, A4'.out, S4.out, K4'.out⟩

set_option maxRecDepth 100000 in
set_option maxHeartbeats 1000000 in
theorem limit_w3 {w : World} {p g mb sb n cap : Nat} {A A1 A2 A4 : Arn} {S S1 S2 : SeenL} {f a f0 f1 i lo hi x : Nat} {on : Bool}
    (kf : w.cell? ⟨g, f * 3, none⟩ = some (.int .i64 (a : Int))) (kf1 : w.cell? ⟨g, f * 3 + 1, none⟩ = some (.int .i64 (f0 : Int))) (kf2 : w.cell? ⟨g, f * 3 + 2, none⟩ = some (.int .i64 (f1 : Int))) (c0 : w.cell? ⟨p, 0, none⟩ = some (.slice (some ⟨g, 0, none⟩) A.nodes.length cap))
    (hf2 : (f : Int) < A.nodes.length) (hlen : A.nodes.length ≤ 262144) (hpz : p < w.heap.size) (hgz : g < w.heap.size) (hmz : mb < w.heap.size) (hsz : sb < w.heap.size) (hsp : sb ≠ p) (hsm : sb ≠ mb) (hsg : sb ≠ g)
    (hl : ¬ i < a) (hne : ((a : Int) == (i : Int)) = false) (hlk : ∀ o, (Instr.lookup 109 (.map (some sb)) (.int .i64 (f : Int)) true).run Try.prog (w.alloc o) = .ok (.tuple #[.int .i64 0, .bool false]) (w.alloc o))
    (HA : Hid (ArenaAt w p g mb A)) (HSS : Hid (SeenLAt w sb n S))
    (J1 : Hid (∀ W, ArenaAt W p g mb A → SeenLAt W sb n S → Calls Try.prog 61 #[.pointer (some ⟨p, 0, none⟩), .int .i64 (f0 : Int), .int .i64 (i : Int), .bool on, .map (some sb)] W (LimitPost W p g mb sb (some lo) A1 S1)))
    (J2 : Hid (∀ W g n, ArenaAt W p g mb A1 → SeenLAt W sb n S1 → sb ≠ g → Calls Try.prog 61 #[.pointer (some ⟨p, 0, none⟩), .int .i64 (f1 : Int), .int .i64 (i : Int), .bool on, .map (some sb)] W (LimitPost W p g mb sb (some hi) A2 S2)))
    (M : Hid (∀ W g, ArenaAt W p g mb A2 → Calls Try.prog 55 #[.pointer (some ⟨p, 0, none⟩), .int .i64 (a : Int), .int .i64 (lo : Int), .int .i64 (hi : Int)] W (ArenaPost W p g mb (none) A4))) :
    Calls Try.prog 61 #[.pointer (some ⟨p, 0, none⟩), .int .i64 (f : Int), .int .i64 (i : Int), .bool on, .map (some sb)] w (LimitPost w p g mb sb none A4 S2) := by
  have Q0 := Lib.hid (heap_alloc_new w (.cells #[.int .i64 (a : Int), .int .i64 (f0 : Int), .int .i64 (f1 : Int)] 94))
  have K0 := Lib.hid ((Kept.refl [] w).alloc (.cells #[.int .i64 (a : Int), .int .i64 (f0 : Int), .int .i64 (f1 : Int)] 94))
  go_enter Try.func61, Try.ntmps61
  go_wp2_with (fail)
  refine (J1.out _ (HA.out.kept K0.out (by simp) (by simp) (by simp)) (HSS.out.of_block (K0.out.block _ hsz (by simp)))).mono ?_
  rintro e w3 ⟨rfl, g3, n3, hg3, A3, S3, K3⟩
  have hw2 := lt_of_block Q0.out
  have hg3' : sb ≠ g3 := by have := K0.out.size; rcases hg3 with h' | h' <;> omega
  have hg3s : w.heap.size ≠ g3 := by rcases hg3 with h' | h' <;> omega
  have hg3z : g3 = g ∨ w.heap.size ≤ g3 := by have := K0.out.size; rcases hg3 with h' | h' <;> omega
  have K3' := Lib.hid ((Kept.mono K0.out (by simp)).trans (S := [p, g, mb, sb]) K3 (by simp))
  have q3 := (K3.block w.heap.size hw2 (by simp; omega)).trans Q0.out
  have h30 : w3.cell? ⟨w.heap.size, 0, none⟩ = some (.int .i64 (a : Int)) := cell_of q3 0
  have h32 : w3.cell? ⟨w.heap.size, 2, none⟩ = some (.int .i64 (f1 : Int)) := cell_of q3 2
  have Q3 := Lib.hid q3
  have A3 := Lib.hid A3
  have S3 := Lib.hid S3
  clear K3 hg3 q3
  simp only [resV, Option.getD_some, Option.getD_none, Option.isSome_some, Option.isSome_none, if_true, Bool.false_eq_true, if_false]
  go_wp2_with (fail)
  refine (J2.out _ g3 n3 A3.out S3.out hg3').mono ?_
  rintro e w4 ⟨rfl, g4, n4, hg4, A4', S4, K4⟩
  have hw3 := lt_of_block Q3.out
  have hg4' : sb ≠ g4 := by have := K3'.out.size; rcases hg4 with h' | h' <;> omega
  have hg4s : w.heap.size ≠ g4 := by rcases hg4 with h' | h' <;> omega
  have hg4z : g4 = g ∨ w.heap.size ≤ g4 := by have := K3'.out.size; rcases hg4 with h' | h' <;> omega
  have K4' := Lib.hid (K3'.out.trans K4 (by simp; omega))
  have q4 := (K4.block w.heap.size hw3 (by simp; omega)).trans Q3.out
  have h40 : w4.cell? ⟨w.heap.size, 0, none⟩ = some (.int .i64 (a : Int)) := cell_of q4 0
  have Q4 := Lib.hid q4
  have A4' := Lib.hid A4'
  have S4 := Lib.hid S4
  clear K4 hg4 q4
  simp only [resV, Option.getD_some, Option.getD_none, Option.isSome_some, Option.isSome_none, if_true, Bool.false_eq_true, if_false]
  go_wp2_with (fail)
  refine (M.out _ g4 A4'.out).mono ?_
  rintro e w5 ⟨rfl, g5, hg5, A5, K5⟩
  have hg5' : sb ≠ g5 := by have := K4'.out.size; rcases hg5 with h' | h' <;> omega
  have hg5z : g5 = g ∨ w.heap.size ≤ g5 := by have := K4'.out.size; rcases hg5 with h' | h' <;> omega
  have K5' := Lib.hid (K4'.out.trans K5 (by simp; omega))
  have S5 := Lib.hid (S4.out.of_block (K5.block sb S4.out.lt (by simp; omega)))
  have A5 := Lib.hid A5
  clear K5 hg5
  simp only [resV, Option.getD_some, Option.getD_none, Option.isSome_some, Option.isSome_none, if_true, Bool.false_eq_true, if_false]
  go_wp2
  go_ret2
  exact ⟨rfl, g5, n4, hg5z, A5.out, S5.out, K5'.out⟩

set_option maxRecDepth 100000 in
set_option maxHeartbeats 1000000 in
theorem limit_w4 {w : World} {p g mb sb n cap : Nat} {A A1 A2 A4 : Arn} {S S1 S2 : SeenL} {f a f0 f1 i lo hi x : Nat} {on : Bool}
    (kf : w.cell? ⟨g, f * 3, none⟩ = some (.int .i64 (a : Int))) (kf1 : w.cell? ⟨g, f * 3 + 1, none⟩ = some (.int .i64 (f0 : Int))) (kf2 : w.cell? ⟨g, f * 3 + 2, none⟩ = some (.int .i64 (f1 : Int))) (c0 : w.cell? ⟨p, 0, none⟩ = some (.slice (some ⟨g, 0, none⟩) A.nodes.length cap))
    (hf2 : (f : Int) < A.nodes.length) (hlen : A.nodes.length ≤ 262144) (hpz : p < w.heap.size) (hgz : g < w.heap.size) (hmz : mb < w.heap.size) (hsz : sb < w.heap.size) (hsp : sb ≠ p) (hsm : sb ≠ mb) (hsg : sb ≠ g)
    (hl : ¬ i < a) (hne : ((a : Int) == (i : Int)) = false) (hlk : ∀ o, (Instr.lookup 109 (.map (some sb)) (.int .i64 (f : Int)) true).run Try.prog (w.alloc o) = .ok (.tuple #[.int .i64 0, .bool false]) (w.alloc o))
    (HA : Hid (ArenaAt w p g mb A)) (HSS : Hid (SeenLAt w sb n S))
    (J1 : Hid (∀ W, ArenaAt W p g mb A → SeenLAt W sb n S → Calls Try.prog 61 #[.pointer (some ⟨p, 0, none⟩), .int .i64 (f0 : Int), .int .i64 (i : Int), .bool on, .map (some sb)] W (LimitPost W p g mb sb (some lo) A1 S1)))
    (J2 : Hid (∀ W g n, ArenaAt W p g mb A1 → SeenLAt W sb n S1 → sb ≠ g → Calls Try.prog 61 #[.pointer (some ⟨p, 0, none⟩), .int .i64 (f1 : Int), .int .i64 (i : Int), .bool on, .map (some sb)] W (LimitPost W p g mb sb (some hi) A2 S2)))
    (M : Hid (∀ W g, ArenaAt W p g mb A2 → Calls Try.prog 55 #[.pointer (some ⟨p, 0, none⟩), .int .i64 (a : Int), .int .i64 (lo : Int), .int .i64 (hi : Int)] W (ArenaPost W p g mb (some x) A4))) :
    Calls Try.prog 61 #[.pointer (some ⟨p, 0, none⟩), .int .i64 (f : Int), .int .i64 (i : Int), .bool on, .map (some sb)] w (LimitPost w p g mb sb (some x) A4 (seeL S2 f x)) := by
  have Q0 := Lib.hid (heap_alloc_new w (.cells #[.int .i64 (a : Int), .int .i64 (f0 : Int), .int .i64 (f1 : Int)] 94))
  have K0 := Lib.hid ((Kept.refl [] w).alloc (.cells #[.int .i64 (a : Int), .int .i64 (f0 : Int), .int .i64 (f1 : Int)] 94))
  go_enter Try.func61, Try.ntmps61
  go_wp2_with (fail)
  refine (J1.out _ (HA.out.kept K0.out (by simp) (by simp) (by simp)) (HSS.out.of_block (K0.out.block _ hsz (by simp)))).mono ?_
  rintro e w3 ⟨rfl, g3, n3, hg3, A3, S3, K3⟩
  have hw2 := lt_of_block Q0.out
  have hg3' : sb ≠ g3 := by have := K0.out.size; rcases hg3 with h' | h' <;> omega
  have hg3s : w.heap.size ≠ g3 := by rcases hg3 with h' | h' <;> omega
  have hg3z : g3 = g ∨ w.heap.size ≤ g3 := by have := K0.out.size; rcases hg3 with h' | h' <;> omega
  have K3' := Lib.hid ((Kept.mono K0.out (by simp)).trans (S := [p, g, mb, sb]) K3 (by simp))
  have q3 := (K3.block w.heap.size hw2 (by simp; omega)).trans Q0.out
  have h30 : w3.cell? ⟨w.heap.size, 0, none⟩ = some (.int .i64 (a : Int)) := cell_of q3 0
  have h32 : w3.cell? ⟨w.heap.size, 2, none⟩ = some (.int .i64 (f1 : Int)) := cell_of q3 2
  have Q3 := Lib.hid q3
  have A3 := Lib.hid A3
  have S3 := Lib.hid S3
  clear K3 hg3 q3
  simp only [resV, Option.getD_some, Option.getD_none, Option.isSome_some, Option.isSome_none, if_true, Bool.false_eq_true, if_false]
  go_wp2_with (fail)
  refine (J2.out _ g3 n3 A3.out S3.out hg3').mono ?_
  rintro e w4 ⟨rfl, g4, n4, hg4, A4', S4, K4⟩
  have hw3 := lt_of_block Q3.out
  have hg4' : sb ≠ g4 := by have := K3'.out.size; rcases hg4 with h' | h' <;> omega
  have hg4s : w.heap.size ≠ g4 := by rcases hg4 with h' | h' <;> omega
  have hg4z : g4 = g ∨ w.heap.size ≤ g4 := by have := K3'.out.size; rcases hg4 with h' | h' <;> omega
  have K4' := Lib.hid (K3'.out.trans K4 (by simp; omega))
  have q4 := (K4.block w.heap.size hw3 (by simp; omega)).trans Q3.out
  have h40 : w4.cell? ⟨w.heap.size, 0, none⟩ = some (.int .i64 (a : Int)) := cell_of q4 0
  have Q4 := Lib.hid q4
  have A4' := Lib.hid A4'
  have S4 := Lib.hid S4
  clear K4 hg4 q4
  simp only [resV, Option.getD_some, Option.getD_none, Option.isSome_some, Option.isSome_none, if_true, Bool.false_eq_true, if_false]
  go_wp2_with (fail)
  refine (M.out _ g4 A4'.out).mono ?_
  rintro e w5 ⟨rfl, g5, hg5, A5, K5⟩
  have hg5' : sb ≠ g5 := by have := K4'.out.size; rcases hg5 with h' | h' <;> omega
  have hg5z : g5 = g ∨ w.heap.size ≤ g5 := by have := K4'.out.size; rcases hg5 with h' | h' <;> omega
  have K5' := Lib.hid (K4'.out.trans K5 (by simp; omega))
  have S5 := Lib.hid (S4.out.of_block (K5.block sb S4.out.lt (by simp; omega)))
  have A5 := Lib.hid A5
  clear K5 hg5
  simp only [resV, Option.getD_some, Option.getD_none, Option.isSome_some, Option.isSome_none, if_true, Bool.false_eq_true, if_false]
  go_wp2_with (at_mapUpdate; refine wpList_put _ rfl _ _ _ 109 3 rfl intKeyed nat64_inj Try.underlying109 S5.out f x (nat64_key (by omega)) rfl rfl rfl ?_; intro w6 S6 hg6; have S6 := Lib.hid S6; have HG6 := Lib.hid hg6; clear hg6)
  go_ret2
  have k6 := Kept.of_grown HG6.out
  exact ⟨rfl, g5, _, hg5z, A5.out.kept k6 (by simp; omega) (by simp; omega) (by simp; omega), S6.out, K5'.out.trans k6 (by simp)⟩

theorem limit_calls {p mb sb : Nat} (i : Nat) (on : Bool) (hi : i < 104) (hsp : sb ≠ p) (hsm : sb ≠ mb) (d : Nat) :
    ∀ (w : World) (g n : Nat) (A : Arn) (S : SeenL) (f : Nat), ArenaAt w p g mb A → A.OK → SeenLAt w sb n S → SVL A S → sb ≠ g → f < A.nodes.length → 104 < d + A.lv f →
      Calls Try.prog 61 #[.pointer (some ⟨p, 0, none⟩), .int .i64 (f : Int), .int .i64 (i : Int), .bool on, .map (some sb)] w (LimitPost w p g mb sb (limitF d A S f i on).1 (limitF d A S f i on).2.1 (limitF d A S f i on).2.2) := by
  induction d with
  | zero =>
    intro w g n A S f _ hOK _ _ _ _ hd
    have := hOK.lv_le f
    omega
  | succ d ih =>
    intro w g n A S f hA hOK hS hV hsg hf hd
    have hlen := Nat.le_trans hOK.len hOK.most
    obtain ⟨kf, kf1, kf2⟩ := hA.nd (nd_get hf)
    obtain ⟨cap, c0⟩ : ∃ cap, w.cell? ⟨p, 0, none⟩ = some (.slice (some ⟨g, 0, none⟩) A.nodes.length cap) := by
      obtain ⟨cap, n, b1, _⟩ := hA
      exact ⟨cap, cell_of b1 0⟩
    obtain ⟨hpz, hgz, hmz⟩ := hA.lt
    have hlvdef : (A.nd f).level = A.lv f := rfl
    by_cases h1 : i < (A.nd f).level
    · refine (limit_above kf kf1 kf2 c0 (by omega) hlen hpz hgz h1).mono ?_
      rintro e w' ⟨rfl, hb⟩
      have e : limitF (d + 1) A S f i on = (some f, A, S) := by unfold limitF; rw [if_pos h1]
      rw [e]
      exact ⟨rfl, g, n, Or.inl rfl, hA.below hb, hS.of_block (hb.block _ hS.lt), Kept.of_below hb⟩
    · by_cases h2 : (A.nd f).level = i
      · have e : limitF (d + 1) A S f i on = (some (if on then (A.nd f).high else (A.nd f).low), A, S) := by unfold limitF; rw [if_neg h1, if_pos h2]
        rw [e]
        rw [h2] at kf
        refine (limit_at (sb := sb) on kf kf1 kf2 c0 (by omega) hlen hpz hgz).mono ?_
        rintro e w' ⟨rfl, hb⟩
        exact ⟨rfl, g, n, Or.inl rfl, hA.below hb, hS.of_block (hb.block _ hS.lt), Kept.of_below hb⟩
      · have hne : (((A.nd f).level : Int) == (i : Int)) = false := by simp; omega
        cases hx : S f with
        | some x =>
          have hlk : ∀ o, (Instr.lookup 109 (.map (some sb)) (.int .i64 (f : Int)) true).run Try.prog (w.alloc o) = .ok (.tuple #[.int .i64 (x : Int), .bool true]) (w.alloc o) := by
            intro o
            have k := hS.of_block (w' := w.alloc o) (Below.heap_alloc w o sb hS.lt)
            have := k.look intKeyed nat64_inj Try.underlying109 (zero3 _) f (hS.key hx) true
            rw [hx] at this
            exact this
          refine (limit_seen kf kf1 kf2 c0 (by omega) hlen hpz hgz h1 hne hlk).mono ?_
          rintro e w' ⟨rfl, hb⟩
          have e : limitF (d + 1) A S f i on = (some x, A, S) := by unfold limitF; rw [if_neg h1, if_neg h2]; simp only [hx]
          rw [e]
          exact ⟨rfl, g, n, Or.inl rfl, hA.below hb, hS.of_block (hb.block _ hS.lt), Kept.of_below hb⟩
        | none =>
          have hlk : ∀ o, (Instr.lookup 109 (.map (some sb)) (.int .i64 (f : Int)) true).run Try.prog (w.alloc o) = .ok (.tuple #[.int .i64 0, .bool false]) (w.alloc o) := by
            intro o
            have k := hS.of_block (w' := w.alloc o) (Below.heap_alloc w o sb hS.lt)
            have := k.look intKeyed nat64_inj Try.underlying109 (zero3 _) f (nat64_key (by omega)) true
            rw [hx] at this
            exact this
          have hf2 := two_of_lv hOK (f := f) (by omega)
          obtain ⟨t1, t2, t3, t4, t5, t6⟩ := hOK.at_ hf hf2
          have hunf : limitF (d + 1) A S f i on = match limitF d A S (A.nd f).low i on with
              | (none, A1, S1) => (none, A1, S1)
              | (some lo, A1, S1) =>
                match limitF d A1 S1 (A.nd f).high i on with
                | (none, A2, S2) => (none, A2, S2)
                | (some hi, A2, S2) =>
                  match mkF A2 (A.nd f).level lo hi with
                  | (none, A3) => (none, A3, S2)
                  | (some x, A3) => (some x, A3, seeL S2 f x) := by
            conv => lhs; unfold limitF
            rw [if_neg h1, if_neg h2]
            simp only [hx]
            rfl
          rw [hunf]
          have j1 := limitF_ok d A S (A.nd f).low i on hOK hV (by omega) hi
          have J1 := fun W hW hSW => ih W g n A S (A.nd f).low hW hOK hSW hV hsg (by omega) (by omega)
          rcases e1 : limitF d A S (A.nd f).low i on with ⟨r1, A1, S1⟩
          rw [e1] at j1 J1
          obtain ⟨o1, x1, s1, v1⟩ := j1
          cases r1 with
          | none => exact limit_w1 (S2 := S) (lo := 0) (hi := 0) (x := 0) kf kf1 kf2 c0 (by omega) hlen hpz hgz hmz hS.lt hsp hsm hsg h1 hne hlk hA hS J1
          | some lo =>
            simp only at o1 x1 s1 v1 J1 ⊢
            obtain ⟨hlo, vlo⟩ := v1 lo rfl
            have hl1 := x1.len
            have j2 := limitF_ok d A1 S1 (A.nd f).high i on o1 s1 (by omega) hi
            have J2 := fun W g n hW hSW hsg => ih W g n A1 S1 (A.nd f).high hW o1 hSW s1 hsg (by omega) (by rw [x1.lv (show (A.nd f).high < A.nodes.length by omega)]; omega)
            rcases e2 : limitF d A1 S1 (A.nd f).high i on with ⟨r2, A2, S2⟩
            rw [e2] at j2 J2
            obtain ⟨o2, x2, s2, v2⟩ := j2
            cases r2 with
            | none => exact limit_w2 (lo := lo) (hi := 0) (x := 0) kf kf1 kf2 c0 (by omega) hlen hpz hgz hmz hS.lt hsp hsm hsg h1 hne hlk hA hS J1 J2
            | some hi' =>
              simp only at o2 x2 s2 v2 J2 ⊢
              obtain ⟨hhi, vhi⟩ := v2 hi' rfl
              have hl2 := x2.len
              have hlen2 := Nat.le_trans o2.len o2.most
              have M := fun W g hW => mk_calls (w := W) (p := p) (g := g) (mb := mb) (A := A2) hW o2 (A.nd f).level lo hi' (by omega) (by omega) (by omega)
              rcases e3 : mkF A2 (A.nd f).level lo hi' with ⟨r3, A3⟩
              rw [e3] at M
              cases r3 with
              | none => exact limit_w3 (x := 0) kf kf1 kf2 c0 (by omega) hlen hpz hgz hmz hS.lt hsp hsm hsg h1 hne hlk hA hS J1 J2 M
              | some x => exact limit_w4 kf kf1 kf2 c0 (by omega) hlen hpz hgz hmz hS.lt hsp hsm hsg h1 hne hlk hA hS J1 J2 M

theorem Restrict_nil (w : World) (f i : Int) (on : Bool) : Calls Try.prog 36 #[.pointer none, .int .i64 f, .int .i64 i, .bool on] w fun e w' => e = .returned (.tuple #[.int .i64 0, .int .i64 2]) ∧ w = w' := by
  go_enter Try.func36, Try.ntmps36
  go_wp2
  go_ret2
  exact ⟨rfl, rfl⟩

theorem Restrict_bad {w : World} {p g mb : Nat} {A : Arn} (h : ArenaAt w p g mb A) (f i : Int) (on : Bool) (hb : ¬ (0 ≤ f ∧ f < A.nodes.length) ∨ i < 0 ∨ 104 ≤ i) :
    Calls Try.prog 36 #[.pointer (some ⟨p, 0, none⟩), .int .i64 f, .int .i64 i, .bool on] w fun e w' => e = .returned (.tuple #[.int .i64 0, .int .i64 1]) ∧ w = w' := by
  have H1 := Lib.hid (has_calls h f)
  clear h
  by_cases h1 : 0 ≤ f ∧ f < A.nodes.length
  · have e1 : decide (0 ≤ f ∧ f < A.nodes.length) = true := by simpa using h1
    by_cases h2 : i < 0
    · have t3 : decide (i < 0) = true := decide_eq_true h2
      clear hb h1
      go_enter Try.func36, Try.ntmps36
      go_wp2_with (go_at_call 39; refine H1.out.mono ?_; rintro e w' ⟨rfl, rfl⟩; rw [e1])
      go_ret2
      exact ⟨rfl, rfl⟩
    · have h3 : 104 ≤ i := by
        rcases hb with h | h | h
        · exact absurd h1 h
        · exact absurd h h2
        · exact h
      have t3 : decide (i < 0) = false := decide_eq_false h2
      have t4 : decide (104 ≤ i) = true := decide_eq_true h3
      clear hb h1
      go_enter Try.func36, Try.ntmps36
      go_wp2_with (go_at_call 39; refine H1.out.mono ?_; rintro e w' ⟨rfl, rfl⟩; rw [e1])
      go_ret2
      exact ⟨rfl, rfl⟩
  · have e1 : decide (0 ≤ f ∧ f < A.nodes.length) = false := by simpa using h1
    clear hb h1
    go_enter Try.func36, Try.ntmps36
    go_wp2_with (go_at_call 39; refine H1.out.mono ?_; rintro e w' ⟨rfl, rfl⟩; rw [e1])
    go_ret2
    exact ⟨rfl, rfl⟩

set_option maxRecDepth 100000 in
set_option maxHeartbeats 1000000 in
theorem Restrict_calls {w : World} {p g mb : Nat} {A : Arn} (h : ArenaAt w p g mb A) (hOK : A.OK) (f i : Nat) (on : Bool) (hf : f < A.nodes.length) (hi : i < 104) :
    Calls Try.prog 36 #[.pointer (some ⟨p, 0, none⟩), .int .i64 (f : Int), .int .i64 (i : Int), .bool on] w (ArenaPost w p g mb (restrictA A f i on).1 (restrictA A f i on).2) := by
  have hmm := @run_makeMap Try.prog
  have hlt := h.lt
  have H1 := Lib.hid (has_calls h (f : Int))
  have HL := Lib.hid (len_calls h)
  have e1 : decide (0 ≤ (f : Int) ∧ (f : Int) < A.nodes.length) = true := by simp; omega
  have t3 : ¬ 104 ≤ i := by omega
  have HJ := Lib.hid (limit_calls (p := p) (mb := mb) (sb := w.heap.size) i on hi (by omega) (by omega) 106 (w.alloc (.map #[] 0)) g 0 A (fun _ => none) f (h.kept ((Kept.refl [] w).alloc _) (by simp) (by simp) (by simp)) hOK (IsMapOf.made w Try.prog _ _ _) (SVL.none A) (by omega) hf (by omega))
  have HB := limitF_ok 106 A (fun _ => none) f i on hOK (SVL.none A) hf hi
  have hA : restrictA A f i on = match limitF 106 A (fun _ => none) f i on with | (none, _, _) => (none, A) | (some x, A', _) => (some x, A') := rfl
  rw [hA]
  rcases e : limitF 106 A (fun _ => none) f i on with ⟨r, A', S'⟩
  rw [e] at HJ HB
  have HB1 := Lib.hid HB.1
  have HE := Lib.hid HB.2.1
  have H2K := Lib.hid hOK.two
  clear h hOK HB hA e
  cases r with
  | none =>
    go_enter Try.func36, Try.ntmps36
    go_wp2_with (first | (go_at_call 39; refine H1.out.mono ?_; rintro e w' ⟨rfl, rfl⟩; rw [e1]) | (go_at_call 30; refine HL.out.mono ?_; rintro e w' ⟨rfl, rfl⟩))
    refine HJ.out.mono ?_
    rintro e w2 ⟨rfl, g2, n2, hg2, A2, _, K2⟩
    have C := Lib.hid (cut_calls A2 HB1.out (A.nodes.length : Int) A.nodes.length (by have := H2K.out; omega))
    have hg2z : g2 = g ∨ w.heap.size ≤ g2 := by simp at hg2; omega
    have K2' := Lib.hid (((Kept.refl [p, g, mb] w).alloc (.map #[] 0)).trans K2 (by simp))
    clear A2 K2 hg2
    simp only [resV, Option.getD_none, Option.isSome_none, Bool.false_eq_true, if_false]
    go_wp2_with (go_at_call 41; refine C.out.mono ?_; rintro e w3 ⟨rfl, A3, K3⟩; have A3 := Lib.hid A3; have K3 := Lib.hid K3)
    go_ret2
    have ec : upTo A' A.nodes.length = A := HE.out.cut H2K.out
    have A3' := A3.out
    rw [ec] at A3'
    exact ⟨rfl, g2, hg2z, A3', K2'.out.trans K3.out (by simp; omega)⟩
  | some x =>
    go_enter Try.func36, Try.ntmps36
    go_wp2_with (first | (go_at_call 39; refine H1.out.mono ?_; rintro e w' ⟨rfl, rfl⟩; rw [e1]) | (go_at_call 30; refine HL.out.mono ?_; rintro e w' ⟨rfl, rfl⟩))
    refine HJ.out.mono ?_
    rintro e w2 ⟨rfl, g2, n2, hg2, A2, _, K2⟩
    have hg2z : g2 = g ∨ w.heap.size ≤ g2 := by simp at hg2; omega
    have K2' := Lib.hid (((Kept.refl [p, g, mb] w).alloc (.map #[] 0)).trans K2 (by simp))
    have A2 := Lib.hid A2
    clear K2 hg2
    simp only [resV, Option.getD_some, Option.isSome_some, if_true]
    go_wp2
    go_ret2
    exact ⟨rfl, g2, hg2z, A2.out, K2'.out⟩

end Go.Proofs.Ytakgghhmecphmaa
