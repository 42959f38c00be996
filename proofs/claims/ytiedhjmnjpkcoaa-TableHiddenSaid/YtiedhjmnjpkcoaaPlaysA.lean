/- What the end of the law TablePlays keeps. -/
import Derived.Test.YtiedhjmnjpkcoaaMade
import Derived.Test.YtiedhjmnjpkcoaaTabL
import Derived.Test.YtiedhjmnjpkcoaaTabSame
import Derived.Test.YtiedhjmnjpkcoaaAwake11
import Derived.Deep.RegionHeld3
namespace Go.Proofs.Ytiedhjmnjpkcoaa
set_option linter.unusedVariables false
set_option linter.unusedSimpArgs false
open Go.RowKit

def Own (w : World) (v : Value) (l : List Rl) : Prop := ∃ b, w.ownsRow b 26 6 v l.length (rlCells l)
theorem Own.below {w w' : World} {v : Value} {l : List Rl} (h : Own w v l) (k : Below w.heap.size w w') : Own w' v l := by
  obtain ⟨b, h⟩ := h
  exact ⟨b, own_kept h (Kept.of_below (S := []) k) (by simp)⟩

structure Fin (w0 w : World) (B p mb : Nat) (v : Value) (F : List Nat) (L l : List Rl) (x5 x18 x20 : Nat) (q : Pf) (s : Rl) : Prop where
  play : PlayAt w B p mb v F L l
  pair : Pair L l
  len : L.length < 100000
  addr : q.addr < 2 ^ 32
  c5 : w.heap[x5]? = some (.cells #[.int .u32 (q.addr : Int), .int .i64 q.bits] 24 (0, 0))
  c18 : RBx w x18 s
  c20 : RBx w x20 s
  kept : Below w0.heap.size w0 w

variable {w0 w w' : World} {B p mb : Nat} {v v1 v2 : Value} {F : List Nat} {L l l' : List Rl} {x5 x18 x20 : Nat} {q : Pf} {s : Rl}
theorem Fin.next (h : Fin w0 w B p mb v F L l x5 x18 x20 q s) (k : Below w.heap.size w w') : Fin w0 w' B p mb v F L l x5 x18 x20 q s :=
  ⟨h.play.below k, h.pair, h.len, h.addr, (k.block _ (lt_of_block h.c5)).trans h.c5, (k.block _ (lt_of_block h.c18)).trans h.c18, (k.block _ (lt_of_block h.c20)).trans h.c20, h.kept.trans (k.mono h.kept.size)⟩
theorem Fin.drew (h : Fin w0 w B p mb v F L l x5 x18 x20 q s) : Fin w0 w.drew B p mb v F L l x5 x18 x20 q s := h.next ((Kept.refl [] w).drew.below (Nat.le_refl _) (by simp))
theorem Fin.cells (h : Fin w0 w B p mb v F L l x5 x18 x20 q s) : w.cell? ⟨x5, 0, none⟩ = some (.int .u32 (q.addr : Int)) ∧ w.cell? ⟨x5, 1, none⟩ = some (.int .i64 q.bits) ∧
    w.cell? ⟨x18, 0, none⟩ = some (.int .i64 s.id) ∧ w.cell? ⟨x18, 1, none⟩ = some (.int .i64 s.dev) ∧ w.cell? ⟨x18, 2, none⟩ = some (.int .u32 (s.addr : Int)) ∧ w.cell? ⟨x18, 3, none⟩ = some (.int .i64 s.bits) ∧ w.cell? ⟨x18, 4, none⟩ = some (.int .i64 s.prio) ∧ w.cell? ⟨x18, 5, none⟩ = some (.int .i64 s.out) ∧
    w.cell? ⟨x20, 0, none⟩ = some (.int .i64 s.id) ∧ w.cell? ⟨x20, 1, none⟩ = some (.int .i64 s.dev) ∧ w.cell? ⟨x20, 2, none⟩ = some (.int .u32 (s.addr : Int)) ∧ w.cell? ⟨x20, 3, none⟩ = some (.int .i64 s.bits) ∧ w.cell? ⟨x20, 4, none⟩ = some (.int .i64 s.prio) ∧ w.cell? ⟨x20, 5, none⟩ = some (.int .i64 s.out) :=
  ⟨cell_of h.c5 0, cell_of h.c5 1, h.c18.cells.1, h.c18.cells.2.1, h.c18.cells.2.2.1, h.c18.cells.2.2.2.1, h.c18.cells.2.2.2.2.1, h.c18.cells.2.2.2.2.2, h.c20.cells.1, h.c20.cells.2.1, h.c20.cells.2.2.1, h.c20.cells.2.2.2.1, h.c20.cells.2.2.2.2.1, h.c20.cells.2.2.2.2.2⟩

theorem Fin.awake (h : Fin w0 w B p mb v F L l x5 x18 x20 q s) : Calls Try.prog 17 #[] w fun e w' => e = .returned (.bool true) ∧ Fin w0 w' B p mb v F L l x5 x18 x20 q s :=
  (awake11_calls w).mono fun _ _ ⟨he, k⟩ => ⟨he, h.next k⟩
theorem Fin.rules (h : Fin w0 w B p mb v F L l x5 x18 x20 q s) : Calls Try.prog 20 #[.pointer (some ⟨p, 0, none⟩)] w fun e w' => ∃ vr, e = .returned vr ∧ Own w' vr l ∧ Fin w0 w' B p mb v F L l x5 x18 x20 q s :=
  (trulesL_calls h.play.tab h.pair h.len).mono fun _ _ ⟨vr, he, ho, k⟩ => ⟨vr, he, ⟨_, ho⟩, h.next k⟩
theorem Pair.small (h : Pair L l) (hl : L.length < 100000) : l.length < 100000 := by rw [h.perm.length_eq]; exact hl
theorem Fin.same (h : Fin w0 w B p mb v F L l x5 x18 x20 q s) (h1 : Own w v1 l') (h2 : Own w v2 l') (hl : l'.length < 1000000) : Calls Try.prog 19 #[v1, v2] w fun e w' => e = .returned (.bool true) ∧ Fin w0 w' B p mb v F L l x5 x18 x20 q s := by
  obtain ⟨b1, h1⟩ := h1
  obtain ⟨b2, h2⟩ := h2
  exact (same_calls h1 h2 hl).mono fun _ _ ⟨he, k⟩ => ⟨he, h.next (k.below (Nat.le_refl _) (by simp))⟩
theorem Fin.same1 (h : Fin w0 w B p mb v F L l x5 x18 x20 q s) (h1 : Own w v1 l) : Calls Try.prog 19 #[v1, v] w fun e w' => e = .returned (.bool true) ∧ Fin w0 w' B p mb v F L l x5 x18 x20 q s :=
  h.same h1 ⟨_, h.play.row⟩ (by have := h.pair.small h.len; omega)
theorem meetL_len (l : List Rl) (q : Pf) : (meetL l q).length ≤ l.length := by
  unfold meetL
  split
  · exact List.length_filter_le _ _
  · simp
theorem Fin.same2 (h : Fin w0 w B p mb v F L l x5 x18 x20 q s) (h1 : Own w v1 (meetL l q)) (h2 : Own w v2 (meetL l q)) : Calls Try.prog 19 #[v1, v2] w fun e w' => e = .returned (.bool true) ∧ Fin w0 w' B p mb v F L l x5 x18 x20 q s :=
  h.same h1 h2 (by have := h.pair.small h.len; have := meetL_len l q; omega)
theorem Fin.meet (h : Fin w0 w B p mb v F L l x5 x18 x20 q s) : Calls Try.prog 22 #[.pointer (some ⟨p, 0, none⟩), .agg #[.int .u32 (q.addr : Int), .int .i64 q.bits]] w fun e w' => ∃ vr, e = .returned vr ∧ Own w' vr (meetL l q) ∧ Fin w0 w' B p mb v F L l x5 x18 x20 q s :=
  (tmeetL_calls h.play.tab h.pair h.len q h.addr).mono fun _ _ ⟨vr, he, ho, k⟩ => ⟨vr, he, ⟨_, ho⟩, h.next k⟩
theorem Fin.rmeet (h : Fin w0 w B p mb v F L l x5 x18 x20 q s) (h1 : Own w v1 (meetL l q)) : Calls Try.prog 31 #[v, .agg #[.int .u32 (q.addr : Int), .int .i64 q.bits]] w fun e w' => ∃ vr, e = .returned vr ∧ Own w' vr (meetL l q) ∧ Own w' v1 (meetL l q) ∧ Fin w0 w' B p mb v F L l x5 x18 x20 q s :=
  (rmeetL_calls h.play.row (fun r hr => h.play.tab.ok r (h.pair.perm.mem_iff.1 hr)) (h.pair.small h.len) q h.addr).mono fun _ _ ⟨vr, he, ho, k⟩ => ⟨vr, he, ⟨_, ho⟩, h1.below k, h.next k⟩
end Go.Proofs.Ytiedhjmnjpkcoaa
