/- The walk of an arena's join. -/
import Derived.Test.YtakgghhmecphmaaJoin
namespace Go.Proofs.Ytakgghhmecphmaa
set_option linter.unusedVariables false
set_option linter.unusedSimpArgs false
open Go.RowKit Go.Maps

def prv (x : Nat × Nat) : Value := .agg #[.int .i64 (x.1 : Int), .int .i64 (x.2 : Int)]
theorem prv_inj (x y : Nat × Nat) (h : prv x = prv y) : x = y := by
  cases x; cases y
  simp [prv] at h
  simp
  omega
theorem prKeyed : Keyed Try.prog 124 := Keyed.of_law (deep_law_laid (m := 3) (by kernel_rfl) (by omega) (of_decide_eq_true (by kernel_rfl)) (by kernel_rfl) (by kernel_rfl))
theorem pr_keyType : Try.prog.keyType 124 = true := by kernel_rfl
theorem pr_cells : Try.prog.cellsOf 124 = 2 := by kernel_rfl
theorem pr_key_of {a b : Int} (h0 : (Lit.int .i64 a).wf = true) (h1 : (Lit.int .i64 b).wf = true) : ∃ l, keyOf Try.prog 124 (.agg #[.int .i64 a, .int .i64 b]) = some l := by
  obtain ⟨m, hm⟩ := types_size
  unfold keyOf
  simp only [Try.underlying124]
  rw [if_pos (by simp [pr_keyType, Value.formed, Try.underlying124, pr_cells]), hm]
  unfold Program.keyLits
  simp only [Try.underlying124, Value.cells]
  rw [if_pos (by rw [pr_cells]; rfl), show List.range 2 = [0, 1] from rfl]
  simp [List.mapM_cons, int_cells, keyLits_int Try.underlying3, h0, h1]
theorem pr_key {x : Nat × Nat} (h0 : x.1 < 1048576) (h1 : x.2 < 1048576) : ∃ l, keyOf Try.prog 124 (prv x) = some l :=
  pr_key_of (wf64 (by omega) (by omega)) (wf64 (by omega) (by omega))

/-- A map that remembers joins. -/
abbrev SeenAt (w : World) (sb n : Nat) (S : Seen) : Prop := IsMapOf Try.prog 124 prv nat64 w sb n S

/-- What join leaves. -/
def JoinPost (w : World) (p g mb sb : Nat) (r : Option Nat) (A' : Arn) (S' : Seen) : Ending → World → Prop := fun e w' =>
  e = .returned (resV r) ∧ ∃ g' n', (g' = g ∨ w.heap.size ≤ g') ∧ ArenaAt w' p g' mb A' ∧ SeenAt w' sb n' S' ∧ Kept [p, g, mb, sb] w w'

theorem join_short {w : World} {p sb : Nat} {k f g x : Nat} (kind : Int) (hk : kind = k) (h3 : k ≤ 3) (hs : shortF k f g = some x) :
    Calls Try.prog 60 #[.pointer (some ⟨p, 0, none⟩), .int .i64 kind, .int .i64 (f : Int), .int .i64 (g : Int), .map (some sb)] w fun e w' => e = .returned (resV (some x)) ∧ w = w' := by
  have HS := Lib.hid (short_calls k f g kind hk h3 w)
  rw [hs] at HS
  clear hk hs
  go_enter Try.func60, Try.ntmps60
  go_wp2_with (go_at_call 85; refine HS.out.mono ?_; rintro e w' ⟨rfl, rfl⟩)
  go_ret2
  exact ⟨rfl, rfl⟩

theorem join_seen {w : World} {p sb n : Nat} {S : Seen} {k f g x : Nat} (kind : Int) (hk : kind = k) (h3 : k ≤ 3) (hs : shortF k f g = none) (hS : SeenAt w sb n S) (hx : S (f, g) = some x) :
    Calls Try.prog 60 #[.pointer (some ⟨p, 0, none⟩), .int .i64 kind, .int .i64 (f : Int), .int .i64 (g : Int), .map (some sb)] w fun e w' => e = .returned (resV (some x)) ∧ Below w.heap.size w w' := by
  have HS := Lib.hid (short_calls k f g kind hk h3 w)
  rw [hs] at HS
  have hlk : ∀ o, (Instr.lookup 107 (.map (some sb)) (.agg #[.int .i64 (f : Int), .int .i64 (g : Int)]) true).run Try.prog (w.alloc o) = .ok (.tuple #[.int .i64 (x : Int), .bool true]) (w.alloc o) := by
    intro o
    have k := hS.of_block (w' := w.alloc o) (Below.heap_alloc w o sb hS.lt)
    have := k.look prKeyed prv_inj Try.underlying107 (zero3 _) (f, g) (hS.key hx) true
    rw [hx] at this
    exact this
  clear hk hs hS hx
  go_enter Try.func60, Try.ntmps60
  go_wp2_with (go_at_call 85; refine HS.out.mono ?_; rintro e w' ⟨rfl, rfl⟩)
  go_ret2
  exact ⟨rfl, (Below.refl _ _).alloc (Nat.le_refl _) _⟩

set_option maxRecDepth 100000 in
set_option maxHeartbeats 1000000 in
theorem join_w1 {w : World} {p g mb sb n cap : Nat} {A A1 : Arn} {S S1 : Seen} {f h f0 f1 h0 h1 L a b : Nat} {kind : Int}
    (HS : Hid (Calls Try.prog 85 #[.int .i64 kind, .int .i64 (f : Int), .int .i64 (h : Int)] w fun e w' => e = .returned (.tuple #[.int .i64 0, .bool false]) ∧ w = w'))
    (hlk : ∀ o, (Instr.lookup 107 (.map (some sb)) (.agg #[.int .i64 (f : Int), .int .i64 (h : Int)]) true).run Try.prog (w.alloc o) = .ok (.tuple #[.int .i64 0, .bool false]) (w.alloc o))
    (kf : w.cell? ⟨g, f * 3, none⟩ = some (.int .i64 (a : Int))) (kh : w.cell? ⟨g, h * 3, none⟩ = some (.int .i64 (b : Int))) (c0 : w.cell? ⟨p, 0, none⟩ = some (.slice (some ⟨g, 0, none⟩) A.nodes.length cap))
    (hf2 : (f : Int) < A.nodes.length) (hh2 : (h : Int) < A.nodes.length) (hlen : A.nodes.length ≤ 262144) (hpz : p < w.heap.size) (hgz : g < w.heap.size) (hmz : mb < w.heap.size) (hsz : sb < w.heap.size) (hsp : sb ≠ p) (hsm : sb ≠ mb) (hsg : sb ≠ g)
    (hmin : (if b < a then (b : Int) else (a : Int)) = (L : Int))
    (P1 : Hid (∀ W, ArenaAt W p g mb A → ∀ lvl : Int, lvl = L → Calls Try.prog 86 #[.pointer (some ⟨p, 0, none⟩), .int .i64 (f : Int), .int .i64 lvl] W fun e w' => e = .returned (.tuple #[.int .i64 (f0 : Int), .int .i64 (f1 : Int)]) ∧ Below W.heap.size W w'))
    (P2 : Hid (∀ W, ArenaAt W p g mb A → ∀ lvl : Int, lvl = L → Calls Try.prog 86 #[.pointer (some ⟨p, 0, none⟩), .int .i64 (h : Int), .int .i64 lvl] W fun e w' => e = .returned (.tuple #[.int .i64 (h0 : Int), .int .i64 (h1 : Int)]) ∧ Below W.heap.size W w'))
    (HA : Hid (ArenaAt w p g mb A)) (HSS : Hid (SeenAt w sb n S))
    (J1 : Hid (∀ W, ArenaAt W p g mb A → SeenAt W sb n S → Calls Try.prog 60 #[.pointer (some ⟨p, 0, none⟩), .int .i64 kind, .int .i64 (f0 : Int), .int .i64 (h0 : Int), .map (some sb)] W (JoinPost W p g mb sb (none) A1 S1))) :
    Calls Try.prog 60 #[.pointer (some ⟨p, 0, none⟩), .int .i64 kind, .int .i64 (f : Int), .int .i64 (h : Int), .map (some sb)] w (JoinPost w p g mb sb none A1 S1) := by
  go_enter Try.func60, Try.ntmps60
  go_wp2_with (go_at_call 85; refine HS.out.mono ?_; rintro e w' ⟨rfl, rfl⟩)
  go_quiet (fail)
  go_wp2_with (fail)
  refine (P1.out _ (HA.out.kept (((Kept.refl [] w).alloc _).drewN _) (by simp) (by simp) (by simp)) _ rfl).mono ?_
  rintro e w1 ⟨rfl, hb1⟩
  have K1 := Lib.hid ((((Kept.refl [] w).alloc _).drewN _).trans (Kept.of_below (S := []) hb1) (by simp))
  have Q1 := Lib.hid ((hb1.block w.heap.size (by simp [World.drewN])).trans (heap_alloc_new w (.cells #[.int .i64 (f : Int), .int .i64 (h : Int)] 124)))
  clear hb1
  go_wp2_with (fail)
  refine (P2.out _ (HA.out.kept K1.out (by simp) (by simp) (by simp)) _ rfl).mono ?_
  rintro e w2 ⟨rfl, hb2⟩
  have K2 := Lib.hid (K1.out.trans (Kept.of_below (S := []) hb2) (by simp))
  have Q2 := Lib.hid ((hb2.block w.heap.size (lt_of_block Q1.out)).trans Q1.out)
  clear hb2
  go_wp2_with (fail)
  refine (J1.out _ (HA.out.kept K2.out (by simp) (by simp) (by simp)) (HSS.out.of_block (K2.out.block _ hsz (by simp)))).mono ?_
  rintro e w3 ⟨rfl, g3, n3, hg3, A3, S3, K3⟩
  have hw2 := lt_of_block Q2.out
  have hg3' : sb ≠ g3 := by rcases hg3 with h' | h' <;> omega
  have hg3s : w.heap.size ≠ g3 := by rcases hg3 with h' | h' <;> omega
  have hg3z : g3 = g ∨ w.heap.size ≤ g3 := by rcases hg3 with h' | h' <;> omega
  have K3' := Lib.hid ((Kept.mono K2.out (by simp)).trans (S := [p, g, mb, sb]) K3 (by simp))
  have Q3 := Lib.hid ((K3.block w.heap.size hw2 (by simp; omega)).trans Q2.out)
  have A3 := Lib.hid A3
  have S3 := Lib.hid S3
  clear K3 hg3
  simp only [resV, Option.getD_some, Option.getD_none, Option.isSome_some, Option.isSome_none, if_true, Bool.false_eq_true, if_false]
  have e0 : ((20 : Int) != 0) = true := by decide
  go_wp2
  go_ret2
  exact ⟨rfl, g3, n3, hg3z, A3.out, S3.out, K3'.out⟩

set_option maxRecDepth 100000 in
set_option maxHeartbeats 1000000 in
theorem join_w2 {w : World} {p g mb sb n cap : Nat} {A A1 : Arn} {S S1 : Seen} {f h f0 f1 h0 h1 L a b : Nat} {kind : Int}
    (HS : Hid (Calls Try.prog 85 #[.int .i64 kind, .int .i64 (f : Int), .int .i64 (h : Int)] w fun e w' => e = .returned (.tuple #[.int .i64 0, .bool false]) ∧ w = w'))
    (hlk : ∀ o, (Instr.lookup 107 (.map (some sb)) (.agg #[.int .i64 (f : Int), .int .i64 (h : Int)]) true).run Try.prog (w.alloc o) = .ok (.tuple #[.int .i64 0, .bool false]) (w.alloc o))
    (kf : w.cell? ⟨g, f * 3, none⟩ = some (.int .i64 (a : Int))) (kh : w.cell? ⟨g, h * 3, none⟩ = some (.int .i64 (b : Int))) (c0 : w.cell? ⟨p, 0, none⟩ = some (.slice (some ⟨g, 0, none⟩) A.nodes.length cap))
    (hf2 : (f : Int) < A.nodes.length) (hh2 : (h : Int) < A.nodes.length) (hlen : A.nodes.length ≤ 262144) (hpz : p < w.heap.size) (hgz : g < w.heap.size) (hmz : mb < w.heap.size) (hsz : sb < w.heap.size) (hsp : sb ≠ p) (hsm : sb ≠ mb) (hsg : sb ≠ g)
    (hmin : (if b < a then (b : Int) else (a : Int)) = (L : Int))
    (P1 : Hid (∀ W, ArenaAt W p g mb A → ∀ lvl : Int, lvl = L → Calls Try.prog 86 #[.pointer (some ⟨p, 0, none⟩), .int .i64 (f : Int), .int .i64 lvl] W fun e w' => e = .returned (.tuple #[.int .i64 (f0 : Int), .int .i64 (f1 : Int)]) ∧ Below W.heap.size W w'))
    (P2 : Hid (∀ W, ArenaAt W p g mb A → ∀ lvl : Int, lvl = L → Calls Try.prog 86 #[.pointer (some ⟨p, 0, none⟩), .int .i64 (h : Int), .int .i64 lvl] W fun e w' => e = .returned (.tuple #[.int .i64 (h0 : Int), .int .i64 (h1 : Int)]) ∧ Below W.heap.size W w'))
    (HA : Hid (ArenaAt w p g mb A)) (HSS : Hid (SeenAt w sb n S))
    {A2 : Arn} {S2 : Seen} {lo : Nat}
    (J1 : Hid (∀ W, ArenaAt W p g mb A → SeenAt W sb n S → Calls Try.prog 60 #[.pointer (some ⟨p, 0, none⟩), .int .i64 kind, .int .i64 (f0 : Int), .int .i64 (h0 : Int), .map (some sb)] W (JoinPost W p g mb sb (some lo) A1 S1)))
    (J2 : Hid (∀ W g n, ArenaAt W p g mb A1 → SeenAt W sb n S1 → sb ≠ g → Calls Try.prog 60 #[.pointer (some ⟨p, 0, none⟩), .int .i64 kind, .int .i64 (f1 : Int), .int .i64 (h1 : Int), .map (some sb)] W (JoinPost W p g mb sb (none) A2 S2))) :
    Calls Try.prog 60 #[.pointer (some ⟨p, 0, none⟩), .int .i64 kind, .int .i64 (f : Int), .int .i64 (h : Int), .map (some sb)] w (JoinPost w p g mb sb none A2 S2) := by
  go_enter Try.func60, Try.ntmps60
  go_wp2_with (go_at_call 85; refine HS.out.mono ?_; rintro e w' ⟨rfl, rfl⟩)
  go_quiet (fail)
  go_wp2_with (fail)
  refine (P1.out _ (HA.out.kept (((Kept.refl [] w).alloc _).drewN _) (by simp) (by simp) (by simp)) _ rfl).mono ?_
  rintro e w1 ⟨rfl, hb1⟩
  have K1 := Lib.hid ((((Kept.refl [] w).alloc _).drewN _).trans (Kept.of_below (S := []) hb1) (by simp))
  have Q1 := Lib.hid ((hb1.block w.heap.size (by simp [World.drewN])).trans (heap_alloc_new w (.cells #[.int .i64 (f : Int), .int .i64 (h : Int)] 124)))
  clear hb1
  go_wp2_with (fail)
  refine (P2.out _ (HA.out.kept K1.out (by simp) (by simp) (by simp)) _ rfl).mono ?_
  rintro e w2 ⟨rfl, hb2⟩
  have K2 := Lib.hid (K1.out.trans (Kept.of_below (S := []) hb2) (by simp))
  have Q2 := Lib.hid ((hb2.block w.heap.size (lt_of_block Q1.out)).trans Q1.out)
  clear hb2
  go_wp2_with (fail)
  refine (J1.out _ (HA.out.kept K2.out (by simp) (by simp) (by simp)) (HSS.out.of_block (K2.out.block _ hsz (by simp)))).mono ?_
  rintro e w3 ⟨rfl, g3, n3, hg3, A3, S3, K3⟩
  have hw2 := lt_of_block Q2.out
  have hg3' : sb ≠ g3 := by rcases hg3 with h' | h' <;> omega
  have hg3s : w.heap.size ≠ g3 := by rcases hg3 with h' | h' <;> omega
  have hg3z : g3 = g ∨ w.heap.size ≤ g3 := by rcases hg3 with h' | h' <;> omega
  have K3' := Lib.hid ((Kept.mono K2.out (by simp)).trans (S := [p, g, mb, sb]) K3 (by simp))
  have Q3 := Lib.hid ((K3.block w.heap.size hw2 (by simp; omega)).trans Q2.out)
  have A3 := Lib.hid A3
  have S3 := Lib.hid S3
  clear K3 hg3
  simp only [resV, Option.getD_some, Option.getD_none, Option.isSome_some, Option.isSome_none, if_true, Bool.false_eq_true, if_false]
  go_wp2_with (fail)
  refine (J2.out _ g3 n3 A3.out S3.out hg3').mono ?_
  rintro e w4 ⟨rfl, g4, n4, hg4, A4', S4, K4⟩
  have hw3 := lt_of_block Q3.out
  have hg4' : sb ≠ g4 := by have := K3'.out.size; rcases hg4 with h' | h' <;> omega
  have hg4s : w.heap.size ≠ g4 := by rcases hg4 with h' | h' <;> omega
  have hg4z : g4 = g ∨ w.heap.size ≤ g4 := by have := K3'.out.size; rcases hg4 with h' | h' <;> omega
  have K4' := Lib.hid (K3'.out.trans K4 (by simp; omega))
  have Q4 := Lib.hid ((K4.block w.heap.size hw3 (by simp; omega)).trans Q3.out)
  have A4' := Lib.hid A4'
  have S4 := Lib.hid S4
  clear K4 hg4
  simp only [resV, Option.getD_some, Option.getD_none, Option.isSome_some, Option.isSome_none, if_true, Bool.false_eq_true, if_false]
  have e0 : ((20 : Int) != 0) = true := by decide
  go_wp2
  go_ret2
  exact ⟨rfl, g4, n4, hg4z, A4'.out, S4.out, K4'.out⟩

set_option maxRecDepth 100000 in
set_option maxHeartbeats 1000000 in
theorem join_w3 {w : World} {p g mb sb n cap : Nat} {A A1 : Arn} {S S1 : Seen} {f h f0 f1 h0 h1 L a b : Nat} {kind : Int}
    (HS : Hid (Calls Try.prog 85 #[.int .i64 kind, .int .i64 (f : Int), .int .i64 (h : Int)] w fun e w' => e = .returned (.tuple #[.int .i64 0, .bool false]) ∧ w = w'))
    (hlk : ∀ o, (Instr.lookup 107 (.map (some sb)) (.agg #[.int .i64 (f : Int), .int .i64 (h : Int)]) true).run Try.prog (w.alloc o) = .ok (.tuple #[.int .i64 0, .bool false]) (w.alloc o))
    (kf : w.cell? ⟨g, f * 3, none⟩ = some (.int .i64 (a : Int))) (kh : w.cell? ⟨g, h * 3, none⟩ = some (.int .i64 (b : Int))) (c0 : w.cell? ⟨p, 0, none⟩ = some (.slice (some ⟨g, 0, none⟩) A.nodes.length cap))
    (hf2 : (f : Int) < A.nodes.length) (hh2 : (h : Int) < A.nodes.length) (hlen : A.nodes.length ≤ 262144) (hpz : p < w.heap.size) (hgz : g < w.heap.size) (hmz : mb < w.heap.size) (hsz : sb < w.heap.size) (hsp : sb ≠ p) (hsm : sb ≠ mb) (hsg : sb ≠ g)
    (hmin : (if b < a then (b : Int) else (a : Int)) = (L : Int))
    (P1 : Hid (∀ W, ArenaAt W p g mb A → ∀ lvl : Int, lvl = L → Calls Try.prog 86 #[.pointer (some ⟨p, 0, none⟩), .int .i64 (f : Int), .int .i64 lvl] W fun e w' => e = .returned (.tuple #[.int .i64 (f0 : Int), .int .i64 (f1 : Int)]) ∧ Below W.heap.size W w'))
    (P2 : Hid (∀ W, ArenaAt W p g mb A → ∀ lvl : Int, lvl = L → Calls Try.prog 86 #[.pointer (some ⟨p, 0, none⟩), .int .i64 (h : Int), .int .i64 lvl] W fun e w' => e = .returned (.tuple #[.int .i64 (h0 : Int), .int .i64 (h1 : Int)]) ∧ Below W.heap.size W w'))
    (HA : Hid (ArenaAt w p g mb A)) (HSS : Hid (SeenAt w sb n S))
    {A2 A4 : Arn} {S2 : Seen} {lo hi : Nat}
    (J1 : Hid (∀ W, ArenaAt W p g mb A → SeenAt W sb n S → Calls Try.prog 60 #[.pointer (some ⟨p, 0, none⟩), .int .i64 kind, .int .i64 (f0 : Int), .int .i64 (h0 : Int), .map (some sb)] W (JoinPost W p g mb sb (some lo) A1 S1)))
    (J2 : Hid (∀ W g n, ArenaAt W p g mb A1 → SeenAt W sb n S1 → sb ≠ g → Calls Try.prog 60 #[.pointer (some ⟨p, 0, none⟩), .int .i64 kind, .int .i64 (f1 : Int), .int .i64 (h1 : Int), .map (some sb)] W (JoinPost W p g mb sb (some hi) A2 S2)))
    (M : Hid (∀ W g, ArenaAt W p g mb A2 → Calls Try.prog 55 #[.pointer (some ⟨p, 0, none⟩), .int .i64 (L : Int), .int .i64 (lo : Int), .int .i64 (hi : Int)] W (ArenaPost W p g mb (none) A4))) :
    Calls Try.prog 60 #[.pointer (some ⟨p, 0, none⟩), .int .i64 kind, .int .i64 (f : Int), .int .i64 (h : Int), .map (some sb)] w (JoinPost w p g mb sb none A4 S2) := by
  go_enter Try.func60, Try.ntmps60
  go_wp2_with (go_at_call 85; refine HS.out.mono ?_; rintro e w' ⟨rfl, rfl⟩)
  go_quiet (fail)
  go_wp2_with (fail)
  refine (P1.out _ (HA.out.kept (((Kept.refl [] w).alloc _).drewN _) (by simp) (by simp) (by simp)) _ rfl).mono ?_
  rintro e w1 ⟨rfl, hb1⟩
  have K1 := Lib.hid ((((Kept.refl [] w).alloc _).drewN _).trans (Kept.of_below (S := []) hb1) (by simp))
  have Q1 := Lib.hid ((hb1.block w.heap.size (by simp [World.drewN])).trans (heap_alloc_new w (.cells #[.int .i64 (f : Int), .int .i64 (h : Int)] 124)))
  clear hb1
  go_wp2_with (fail)
  refine (P2.out _ (HA.out.kept K1.out (by simp) (by simp) (by simp)) _ rfl).mono ?_
  rintro e w2 ⟨rfl, hb2⟩
  have K2 := Lib.hid (K1.out.trans (Kept.of_below (S := []) hb2) (by simp))
  have Q2 := Lib.hid ((hb2.block w.heap.size (lt_of_block Q1.out)).trans Q1.out)
  clear hb2
  go_wp2_with (fail)
  refine (J1.out _ (HA.out.kept K2.out (by simp) (by simp) (by simp)) (HSS.out.of_block (K2.out.block _ hsz (by simp)))).mono ?_
  rintro e w3 ⟨rfl, g3, n3, hg3, A3, S3, K3⟩
  have hw2 := lt_of_block Q2.out
  have hg3' : sb ≠ g3 := by rcases hg3 with h' | h' <;> omega
  have hg3s : w.heap.size ≠ g3 := by rcases hg3 with h' | h' <;> omega
  have hg3z : g3 = g ∨ w.heap.size ≤ g3 := by rcases hg3 with h' | h' <;> omega
  have K3' := Lib.hid ((Kept.mono K2.out (by simp)).trans (S := [p, g, mb, sb]) K3 (by simp))
  have Q3 := Lib.hid ((K3.block w.heap.size hw2 (by simp; omega)).trans Q2.out)
  have A3 := Lib.hid A3
  have S3 := Lib.hid S3
  clear K3 hg3
  simp only [resV, Option.getD_some, Option.getD_none, Option.isSome_some, Option.isSome_none, if_true, Bool.false_eq_true, if_false]
  go_wp2_with (fail)
  refine (J2.out _ g3 n3 A3.out S3.out hg3').mono ?_
  rintro e w4 ⟨rfl, g4, n4, hg4, A4', S4, K4⟩
  have hw3 := lt_of_block Q3.out
  have hg4' : sb ≠ g4 := by have := K3'.out.size; rcases hg4 with h' | h' <;> omega
  have hg4s : w.heap.size ≠ g4 := by rcases hg4 with h' | h' <;> omega
  have hg4z : g4 = g ∨ w.heap.size ≤ g4 := by have := K3'.out.size; rcases hg4 with h' | h' <;> omega
  have K4' := Lib.hid (K3'.out.trans K4 (by simp; omega))
  have Q4 := Lib.hid ((K4.block w.heap.size hw3 (by simp; omega)).trans Q3.out)
  have A4' := Lib.hid A4'
  have S4 := Lib.hid S4
  clear K4 hg4
  simp only [resV, Option.getD_some, Option.getD_none, Option.isSome_some, Option.isSome_none, if_true, Bool.false_eq_true, if_false]
  go_wp2_with (fail)
  refine (M.out _ g4 A4'.out).mono ?_
  rintro e w5 ⟨rfl, g5, hg5, A5, K5⟩
  have hw4 := lt_of_block Q4.out
  have hg5' : sb ≠ g5 := by have := K4'.out.size; rcases hg5 with h' | h' <;> omega
  have hg5z : g5 = g ∨ w.heap.size ≤ g5 := by have := K4'.out.size; rcases hg5 with h' | h' <;> omega
  have K5' := Lib.hid (K4'.out.trans K5 (by simp; omega))
  have q5 := (K5.block w.heap.size hw4 (by simp; omega)).trans Q4.out
  have S5 := Lib.hid (S4.out.of_block (K5.block sb S4.out.lt (by simp; omega)))
  have A5 := Lib.hid A5
  have hq0 : w5.cell? ⟨w.heap.size, 0, none⟩ = some (.int .i64 (f : Int)) := cell_of q5 0
  have hq1 : w5.cell? ⟨w.heap.size, 1, none⟩ = some (.int .i64 (h : Int)) := cell_of q5 1
  clear K5 hg5 q5
  simp only [resV, Option.getD_some, Option.getD_none, Option.isSome_some, Option.isSome_none, if_true, Bool.false_eq_true, if_false]
  have e0 : ((20 : Int) != 0) = true := by decide
  go_wp2
  go_ret2
  exact ⟨rfl, g5, n4, hg5z, A5.out, S5.out, K5'.out⟩

set_option maxRecDepth 100000 in
set_option maxHeartbeats 1000000 in
theorem join_w4 {w : World} {p g mb sb n cap : Nat} {A A1 : Arn} {S S1 : Seen} {f h f0 f1 h0 h1 L a b : Nat} {kind : Int}
    (HS : Hid (Calls Try.prog 85 #[.int .i64 kind, .int .i64 (f : Int), .int .i64 (h : Int)] w fun e w' => e = .returned (.tuple #[.int .i64 0, .bool false]) ∧ w = w'))
    (hlk : ∀ o, (Instr.lookup 107 (.map (some sb)) (.agg #[.int .i64 (f : Int), .int .i64 (h : Int)]) true).run Try.prog (w.alloc o) = .ok (.tuple #[.int .i64 0, .bool false]) (w.alloc o))
    (kf : w.cell? ⟨g, f * 3, none⟩ = some (.int .i64 (a : Int))) (kh : w.cell? ⟨g, h * 3, none⟩ = some (.int .i64 (b : Int))) (c0 : w.cell? ⟨p, 0, none⟩ = some (.slice (some ⟨g, 0, none⟩) A.nodes.length cap))
    (hf2 : (f : Int) < A.nodes.length) (hh2 : (h : Int) < A.nodes.length) (hlen : A.nodes.length ≤ 262144) (hpz : p < w.heap.size) (hgz : g < w.heap.size) (hmz : mb < w.heap.size) (hsz : sb < w.heap.size) (hsp : sb ≠ p) (hsm : sb ≠ mb) (hsg : sb ≠ g)
    (hmin : (if b < a then (b : Int) else (a : Int)) = (L : Int))
    (P1 : Hid (∀ W, ArenaAt W p g mb A → ∀ lvl : Int, lvl = L → Calls Try.prog 86 #[.pointer (some ⟨p, 0, none⟩), .int .i64 (f : Int), .int .i64 lvl] W fun e w' => e = .returned (.tuple #[.int .i64 (f0 : Int), .int .i64 (f1 : Int)]) ∧ Below W.heap.size W w'))
    (P2 : Hid (∀ W, ArenaAt W p g mb A → ∀ lvl : Int, lvl = L → Calls Try.prog 86 #[.pointer (some ⟨p, 0, none⟩), .int .i64 (h : Int), .int .i64 lvl] W fun e w' => e = .returned (.tuple #[.int .i64 (h0 : Int), .int .i64 (h1 : Int)]) ∧ Below W.heap.size W w'))
    (HA : Hid (ArenaAt w p g mb A)) (HSS : Hid (SeenAt w sb n S))
    {A2 A4 : Arn} {S2 : Seen} {lo hi x : Nat}
    (J1 : Hid (∀ W, ArenaAt W p g mb A → SeenAt W sb n S → Calls Try.prog 60 #[.pointer (some ⟨p, 0, none⟩), .int .i64 kind, .int .i64 (f0 : Int), .int .i64 (h0 : Int), .map (some sb)] W (JoinPost W p g mb sb (some lo) A1 S1)))
    (J2 : Hid (∀ W g n, ArenaAt W p g mb A1 → SeenAt W sb n S1 → sb ≠ g → Calls Try.prog 60 #[.pointer (some ⟨p, 0, none⟩), .int .i64 kind, .int .i64 (f1 : Int), .int .i64 (h1 : Int), .map (some sb)] W (JoinPost W p g mb sb (some hi) A2 S2)))
    (M : Hid (∀ W g, ArenaAt W p g mb A2 → Calls Try.prog 55 #[.pointer (some ⟨p, 0, none⟩), .int .i64 (L : Int), .int .i64 (lo : Int), .int .i64 (hi : Int)] W (ArenaPost W p g mb (some x) A4))) :
    Calls Try.prog 60 #[.pointer (some ⟨p, 0, none⟩), .int .i64 kind, .int .i64 (f : Int), .int .i64 (h : Int), .map (some sb)] w (JoinPost w p g mb sb (some x) A4 (seeJ S2 f h x)) := by
  go_enter Try.func60, Try.ntmps60
  go_wp2_with (go_at_call 85; refine HS.out.mono ?_; rintro e w' ⟨rfl, rfl⟩)
  go_quiet (fail)
  go_wp2_with (fail)
  refine (P1.out _ (HA.out.kept (((Kept.refl [] w).alloc _).drewN _) (by simp) (by simp) (by simp)) _ rfl).mono ?_
  rintro e w1 ⟨rfl, hb1⟩
  have K1 := Lib.hid ((((Kept.refl [] w).alloc _).drewN _).trans (Kept.of_below (S := []) hb1) (by simp))
  have Q1 := Lib.hid ((hb1.block w.heap.size (by simp [World.drewN])).trans (heap_alloc_new w (.cells #[.int .i64 (f : Int), .int .i64 (h : Int)] 124)))
  clear hb1
  go_wp2_with (fail)
  refine (P2.out _ (HA.out.kept K1.out (by simp) (by simp) (by simp)) _ rfl).mono ?_
  rintro e w2 ⟨rfl, hb2⟩
  have K2 := Lib.hid (K1.out.trans (Kept.of_below (S := []) hb2) (by simp))
  have Q2 := Lib.hid ((hb2.block w.heap.size (lt_of_block Q1.out)).trans Q1.out)
  clear hb2
  go_wp2_with (fail)
  refine (J1.out _ (HA.out.kept K2.out (by simp) (by simp) (by simp)) (HSS.out.of_block (K2.out.block _ hsz (by simp)))).mono ?_
  rintro e w3 ⟨rfl, g3, n3, hg3, A3, S3, K3⟩
  have hw2 := lt_of_block Q2.out
  have hg3' : sb ≠ g3 := by rcases hg3 with h' | h' <;> omega
  have hg3s : w.heap.size ≠ g3 := by rcases hg3 with h' | h' <;> omega
  have hg3z : g3 = g ∨ w.heap.size ≤ g3 := by rcases hg3 with h' | h' <;> omega
  have K3' := Lib.hid ((Kept.mono K2.out (by simp)).trans (S := [p, g, mb, sb]) K3 (by simp))
  have Q3 := Lib.hid ((K3.block w.heap.size hw2 (by simp; omega)).trans Q2.out)
  have A3 := Lib.hid A3
  have S3 := Lib.hid S3
  clear K3 hg3
  simp only [resV, Option.getD_some, Option.getD_none, Option.isSome_some, Option.isSome_none, if_true, Bool.false_eq_true, if_false]
  go_wp2_with (fail)
  refine (J2.out _ g3 n3 A3.out S3.out hg3').mono ?_
  rintro e w4 ⟨rfl, g4, n4, hg4, A4', S4, K4⟩
  have hw3 := lt_of_block Q3.out
  have hg4' : sb ≠ g4 := by have := K3'.out.size; rcases hg4 with h' | h' <;> omega
  have hg4s : w.heap.size ≠ g4 := by rcases hg4 with h' | h' <;> omega
  have hg4z : g4 = g ∨ w.heap.size ≤ g4 := by have := K3'.out.size; rcases hg4 with h' | h' <;> omega
  have K4' := Lib.hid (K3'.out.trans K4 (by simp; omega))
  have Q4 := Lib.hid ((K4.block w.heap.size hw3 (by simp; omega)).trans Q3.out)
  have A4' := Lib.hid A4'
  have S4 := Lib.hid S4
  clear K4 hg4
  simp only [resV, Option.getD_some, Option.getD_none, Option.isSome_some, Option.isSome_none, if_true, Bool.false_eq_true, if_false]
  go_wp2_with (fail)
  refine (M.out _ g4 A4'.out).mono ?_
  rintro e w5 ⟨rfl, g5, hg5, A5, K5⟩
  have hw4 := lt_of_block Q4.out
  have hg5' : sb ≠ g5 := by have := K4'.out.size; rcases hg5 with h' | h' <;> omega
  have hg5z : g5 = g ∨ w.heap.size ≤ g5 := by have := K4'.out.size; rcases hg5 with h' | h' <;> omega
  have K5' := Lib.hid (K4'.out.trans K5 (by simp; omega))
  have q5 := (K5.block w.heap.size hw4 (by simp; omega)).trans Q4.out
  have S5 := Lib.hid (S4.out.of_block (K5.block sb S4.out.lt (by simp; omega)))
  have A5 := Lib.hid A5
  have hq0 : w5.cell? ⟨w.heap.size, 0, none⟩ = some (.int .i64 (f : Int)) := cell_of q5 0
  have hq1 : w5.cell? ⟨w.heap.size, 1, none⟩ = some (.int .i64 (h : Int)) := cell_of q5 1
  clear K5 hg5 q5
  simp only [resV, Option.getD_some, Option.getD_none, Option.isSome_some, Option.isSome_none, if_true, Bool.false_eq_true, if_false]
  go_wp2_with (at_mapUpdate; refine wpList_put _ rfl _ _ _ 107 3 rfl prKeyed prv_inj Try.underlying107 S5.out (f, h) x (pr_key (by simp only; omega) (by simp only; omega)) rfl rfl rfl ?_; intro w6 S6 hg6; have S6 := Lib.hid S6; have HG6 := Lib.hid hg6; clear hg6)
  go_ret2
  have k6 := Kept.of_grown HG6.out
  exact ⟨rfl, g5, _, hg5z, A5.out.kept k6 (by simp; omega) (by simp; omega) (by simp; omega), S6.out, K5'.out.trans k6 (by simp)⟩

theorem join_step {w : World} {p g mb sb n : Nat} {A : Arn} {S : Seen} {k f h : Nat} (kind : Int) (hk : kind = k) (h3 : k ≤ 3) (hs : shortF k f h = none)
    (hA : ArenaAt w p g mb A) (hOK : A.OK) (hS : SeenAt w sb n S) (hV : SV A S) (hx : S (f, h) = none) (hf : f < A.nodes.length) (hh : h < A.nodes.length) (hsp : sb ≠ p) (hsm : sb ≠ mb) (hsg : sb ≠ g) (d : Nat)
    (ih : ∀ (w : World) (g n : Nat) (A : Arn) (S : Seen) (f h : Nat), ArenaAt w p g mb A → A.OK → SeenAt w sb n S → SV A S → sb ≠ g → f < A.nodes.length → h < A.nodes.length → 104 < d + min (A.lv f) (A.lv h) →
      Calls Try.prog 60 #[.pointer (some ⟨p, 0, none⟩), .int .i64 kind, .int .i64 (f : Int), .int .i64 (h : Int), .map (some sb)] w (JoinPost w p g mb sb (joinF d k A S f h).1 (joinF d k A S f h).2.1 (joinF d k A S f h).2.2))
    (hd : 104 < d + 1 + min (A.lv f) (A.lv h)) :
    Calls Try.prog 60 #[.pointer (some ⟨p, 0, none⟩), .int .i64 kind, .int .i64 (f : Int), .int .i64 (h : Int), .map (some sb)] w (JoinPost w p g mb sb (joinF (d + 1) k A S f h).1 (joinF (d + 1) k A S f h).2.1 (joinF (d + 1) k A S f h).2.2) := by
  have hlen := Nat.le_trans hOK.len hOK.most
  have HS := short_calls k f h kind hk h3 w
  rw [hs] at HS
  have hlk : ∀ o, (Instr.lookup 107 (.map (some sb)) (.agg #[.int .i64 (f : Int), .int .i64 (h : Int)]) true).run Try.prog (w.alloc o) = .ok (.tuple #[.int .i64 0, .bool false]) (w.alloc o) := by
    intro o
    have k := hS.of_block (w' := w.alloc o) (Below.heap_alloc w o sb hS.lt)
    have := k.look prKeyed prv_inj Try.underlying107 (zero3 _) (f, h) (pr_key (by simp only; omega) (by simp only; omega)) true
    rw [hx] at this
    exact this
  obtain ⟨kf, _⟩ := hA.nd (nd_get hf)
  obtain ⟨kh, _⟩ := hA.nd (nd_get hh)
  obtain ⟨cap, c0⟩ : ∃ cap, w.cell? ⟨p, 0, none⟩ = some (.slice (some ⟨g, 0, none⟩) A.nodes.length cap) := by
    obtain ⟨cap, n, b1, _⟩ := hA
    exact ⟨cap, cell_of b1 0⟩
  obtain ⟨hpz, hgz, hmz⟩ := hA.lt
  have hlv := min_lv hOK hf hh (short_none h3 hs)
  obtain ⟨pf0, pf1, lf0, lf1⟩ := parts_ok hOK (lv := min (A.lv f) (A.lv h)) hf hlv (Nat.min_le_left _ _)
  obtain ⟨ph0, ph1, lh0, lh1⟩ := parts_ok hOK (lv := min (A.lv f) (A.lv h)) hh hlv (Nat.min_le_right _ _)
  have hunf : joinF (d + 1) k A S f h = match joinF d k A S (partsF A f (min (A.lv f) (A.lv h))).1 (partsF A h (min (A.lv f) (A.lv h))).1 with
          | (none, A1, S1) => (none, A1, S1)
          | (some lo, A1, S1) =>
            match joinF d k A1 S1 (partsF A f (min (A.lv f) (A.lv h))).2 (partsF A h (min (A.lv f) (A.lv h))).2 with
            | (none, A2, S2) => (none, A2, S2)
            | (some hi, A2, S2) =>
              match mkF A2 (min (A.lv f) (A.lv h)) lo hi with
              | (none, A3) => (none, A3, S2)
              | (some x, A3) => (some x, A3, seeJ S2 f h x) := by
    conv => lhs; unfold joinF
    rw [hs]
    simp only [hx]
    rfl
  rw [hunf]
  obtain ⟨L, hL⟩ : ∃ L, min (A.lv f) (A.lv h) = L := ⟨_, rfl⟩
  have hmin : (if (A.nd h).level < (A.nd f).level then ((A.nd h).level : Int) else ((A.nd f).level : Int)) = (L : Int) := by
    have e : min (A.nd f).level (A.nd h).level = L := hL
    split <;> omega
  rw [hL] at pf0 pf1 lf0 lf1 ph0 ph1 lh0 lh1 hlv hd ⊢
  have P1 := fun W hW lvl hl => parts_calls (w := W) (p := p) (g := g) (mb := mb) (A := A) hW f L lvl hl hf
  have P2 := fun W hW lvl hl => parts_calls (w := W) (p := p) (g := g) (mb := mb) (A := A) hW h L lvl hl hh
  generalize partsF A f L = F at *
  generalize partsF A h L = H at *
  obtain ⟨f0, f1⟩ := F
  obtain ⟨h0, h1⟩ := H
  simp only at P1 P2 pf0 pf1 lf0 lf1 ph0 ph1 lh0 lh1 ⊢
  have j1 := joinF_ok d k A S f0 h0 h3 hOK hV pf0 ph0
  have J1 := fun W hW hSW => ih W g n A S f0 h0 hW hOK hSW hV hsg pf0 ph0 (by omega)
  rcases e1 : joinF d k A S f0 h0 with ⟨r1, A1, S1⟩
  rw [e1] at j1 J1
  obtain ⟨o1, x1, s1, v1⟩ := j1
  cases r1 with
  | none => exact join_w1 HS hlk kf kh c0 (by omega) (by omega) hlen hpz hgz hmz hS.lt hsp hsm hsg hmin P1 P2 hA hS J1
  | some lo =>
    simp only at o1 x1 s1 v1 J1 ⊢
    obtain ⟨hlo, vlo⟩ := v1 lo rfl
    have hl1 := x1.len
    have j2 := joinF_ok d k A1 S1 f1 h1 h3 o1 s1 (by omega) (by omega)
    have J2 := fun W g n hW hSW hsg => ih W g n A1 S1 f1 h1 hW o1 hSW s1 hsg (by omega) (by omega) (by rw [x1.lv pf1, x1.lv ph1]; omega)
    rcases e2 : joinF d k A1 S1 f1 h1 with ⟨r2, A2, S2⟩
    rw [e2] at j2 J2
    obtain ⟨o2, x2, s2, v2⟩ := j2
    cases r2 with
    | none => exact join_w2 HS hlk kf kh c0 (by omega) (by omega) hlen hpz hgz hmz hS.lt hsp hsm hsg hmin P1 P2 hA hS J1 J2
    | some hi =>
      simp only at o2 x2 s2 v2 J2 ⊢
      obtain ⟨hhi, vhi⟩ := v2 hi rfl
      have hl2 := x2.len
      have hlen2 := Nat.le_trans o2.len o2.most
      have M := fun W g hW => mk_calls (w := W) (p := p) (g := g) (mb := mb) (A := A2) hW o2 L lo hi (by omega) (by omega) (by omega)
      rcases e3 : mkF A2 L lo hi with ⟨r3, A3⟩
      rw [e3] at M
      cases r3 with
      | none => exact join_w3 HS hlk kf kh c0 (by omega) (by omega) hlen hpz hgz hmz hS.lt hsp hsm hsg hmin P1 P2 hA hS J1 J2 M
      | some x => exact join_w4 HS hlk kf kh c0 (by omega) (by omega) hlen hpz hgz hmz hS.lt hsp hsm hsg hmin P1 P2 hA hS J1 J2 M

theorem join_calls {p mb sb : Nat} {k : Nat} (kind : Int) (hk : kind = k) (h3 : k ≤ 3) (hsp : sb ≠ p) (hsm : sb ≠ mb) (d : Nat) :
    ∀ (w : World) (g n : Nat) (A : Arn) (S : Seen) (f h : Nat), ArenaAt w p g mb A → A.OK → SeenAt w sb n S → SV A S → sb ≠ g → f < A.nodes.length → h < A.nodes.length → 104 < d + min (A.lv f) (A.lv h) →
      Calls Try.prog 60 #[.pointer (some ⟨p, 0, none⟩), .int .i64 kind, .int .i64 (f : Int), .int .i64 (h : Int), .map (some sb)] w (JoinPost w p g mb sb (joinF d k A S f h).1 (joinF d k A S f h).2.1 (joinF d k A S f h).2.2) := by
  induction d with
  | zero =>
    intro w g n A S f h _ hOK _ _ _ _ _ hd
    have := hOK.lv_le f
    omega
  | succ d ih =>
    intro w g n A S f h hA hOK hS hV hsg hf hh hd
    cases hs : shortF k f h with
    | some x =>
      refine (join_short kind hk h3 hs).mono ?_
      rintro e w' ⟨rfl, rfl⟩
      have e : joinF (d + 1) k A S f h = (some x, A, S) := by unfold joinF; rw [hs]
      rw [e]
      exact ⟨rfl, g, n, Or.inl rfl, hA, hS, Kept.refl _ _⟩
    | none =>
      cases hx : S (f, h) with
      | some x =>
        refine (join_seen kind hk h3 hs hS hx).mono ?_
        rintro e w' ⟨rfl, hb⟩
        have e : joinF (d + 1) k A S f h = (some x, A, S) := by unfold joinF; rw [hs]; simp only [hx]
        rw [e]
        exact ⟨rfl, g, n, Or.inl rfl, hA.below hb, hS.of_block (hb.block _ hS.lt), Kept.of_below hb⟩
      | none => exact join_step kind hk h3 hs hA hOK hS hV hx hf hh hsp hsm hsg d ih hd

end Go.Proofs.Ytakgghhmecphmaa
