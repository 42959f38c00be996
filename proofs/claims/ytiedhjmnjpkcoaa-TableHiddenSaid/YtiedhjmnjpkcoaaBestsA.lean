/- What the law TableBests keeps. -/
import Derived.Test.YtiedhjmnjpkcoaaBestsP
namespace Go.Proofs.Ytiedhjmnjpkcoaa
set_option linter.unusedVariables false
set_option linter.unusedSimpArgs false
open Go.RowKit

/-- The table and the row v, a row vm of rules, and boxes. -/
structure Bst (w0 w : World) (B p mb : Nat) (v : Value) (F : List Nat) (L l lq : List Rl) (vm : Value) (rl : List Rl) (bx : List (Nat × Rl)) : Prop where
  play : PlayAt w B p mb v F L l
  pair : Pair L lq
  len : L.length < 100000
  own : w.ownsRow 0 26 6 vm rl.length (rlCells rl)
  boxes : ∀ y ∈ bx, RBx w y.1 y.2
  kept : Below w0.heap.size w0 w
  low : w0.heap.size ≤ B

variable {w0 w w' : World} {B p mb g cap : Nat} {v vm : Value} {F : List Nat} {L l lq rl rest : List Rl} {bx : List (Nat × Rl)} {r s x : Rl}

theorem Bst.next (h : Bst w0 w B p mb v F L l lq vm rl bx) (k : Below w.heap.size w w') : Bst w0 w' B p mb v F L l lq vm rl bx :=
  ⟨h.play.below k, h.pair, h.len, own_kept h.own (Kept.of_below (S := []) k) (by simp), fun y hy => (k.block _ (lt_of_block (h.boxes y hy))).trans (h.boxes y hy), h.kept.trans (k.mono h.kept.size), h.low⟩
theorem Bst.drew (h : Bst w0 w B p mb v F L l lq vm rl bx) : Bst w0 w.drew B p mb v F L l lq vm rl bx := h.next ((Kept.refl [] w).drew.below (Nat.le_refl _) (by simp))

theorem Bst.size {n : Nat} (h : Bst w0 w B p mb v F L l lq (.slice (some ⟨g, 0, none⟩) n cap) rl bx) : n = rl.length := by
  rcases h.own.2 with ⟨h0, _⟩ | ⟨g', cap', cur, h0, _⟩
  · cases h0
  · injection h0
/-- The first rule's cells. -/
theorem Bst.row0 {n : Nat} (h : Bst w0 w B p mb v F L l lq (.slice (some ⟨g, 0, none⟩) n cap) (r :: rest) bx) :
    w.cell? ⟨g, 0, none⟩ = some (.int .i64 r.id) ∧ w.cell? ⟨g, 1, none⟩ = some (.int .i64 r.dev) ∧ w.cell? ⟨g, 2, none⟩ = some (.int .u32 (r.addr : Int)) ∧ w.cell? ⟨g, 3, none⟩ = some (.int .i64 r.bits) ∧ w.cell? ⟨g, 4, none⟩ = some (.int .i64 r.prio) ∧ w.cell? ⟨g, 5, none⟩ = some (.int .i64 r.out) := by
  obtain rfl := h.size
  have hc := fun j (hj : j < 6) => (h.own.cellAt j (by (try simp only [List.length_cons]); omega)).trans (show (rlCells (r :: rest))[j]? = _ from by have := rlCells_at (r :: rest) 0 (by simp) j hj; simpa using this)
  exact ⟨hc 0 (by omega), hc 1 (by omega), hc 2 (by omega), hc 3 (by omega), hc 4 (by omega), hc 5 (by omega)⟩
/-- The second rule's cells. -/
theorem Bst.row1 {n : Nat} (h : Bst w0 w B p mb v F L l lq (.slice (some ⟨g, 0, none⟩) n cap) (r :: s :: rest) bx) :
    w.cell? ⟨g, 6, none⟩ = some (.int .i64 s.id) ∧ w.cell? ⟨g, 7, none⟩ = some (.int .i64 s.dev) ∧ w.cell? ⟨g, 8, none⟩ = some (.int .u32 (s.addr : Int)) ∧ w.cell? ⟨g, 9, none⟩ = some (.int .i64 s.bits) ∧ w.cell? ⟨g, 10, none⟩ = some (.int .i64 s.prio) ∧ w.cell? ⟨g, 11, none⟩ = some (.int .i64 s.out) := by
  obtain rfl := h.size
  have hc := fun j (hj : j < 6) => (h.own.cellAt (1 * 6 + j) (by (try simp only [List.length_cons]); omega)).trans (show (rlCells (r :: s :: rest))[1 * 6 + j]? = _ from rlCells_at (r :: s :: rest) 1 (by simp) j hj)
  exact ⟨hc 0 (by omega), hc 1 (by omega), hc 2 (by omega), hc 3 (by omega), hc 4 (by omega), hc 5 (by omega)⟩

/-- Drop of a rule that is there. -/
theorem Bst.drop (h : Bst w0 w B p mb v F L l lq vm rl bx) (hx : r ∈ lq) (hr : okI r.id) (h1 : ∀ g, vm.ownBlock = some g → g ≠ mb ∧ g ∉ F) (h2 : ∀ y ∈ bx, y.1 ≠ mb ∧ y.1 ∉ F) :
    Calls Try.prog 23 #[.pointer (some ⟨p, 0, none⟩), .int .i64 r.id] w fun e w' => e = .returned (.int .i64 0) ∧ ∃ F', Bst w0 w' B p mb v F' (dropT L r.id).1 l (dropT lq r.id).1 vm rl bx := by
  refine (tabdrop_calls h.play.tab h.len r.id hr).mono ?_
  rintro e w' ⟨he, hpost⟩
  have hpost' := hpost
  obtain ⟨F', hP, hb, hk⟩ := h.play.tab_step hpost
  rw [(drop_there h.pair hx).1] at he
  refine ⟨he, F', hP, (h.pair.drop r.id).1, Nat.lt_of_le_of_lt (drop_len L r.id) h.len, ?_, fun y hy => ?_, h.kept.trans (hb.mono h.low), h.low⟩
  · obtain ⟨F2, _, _, hk2⟩ := hpost'
    refine own_kept h.own hk2 fun g hg hm => ?_
    obtain ⟨e1, e2⟩ := h1 g hg
    rcases List.mem_cons.1 hm with e | e
    · exact e1 e
    · exact e2 e
  · exact (hk _ (lt_of_block (h.boxes y hy)) (h2 y hy).1 (h2 y hy).2).trans (h.boxes y hy)
theorem Bst.compare (h : Bst w0 w B p mb v F L l lq vm rl bx) (hc : cmpR r s < 0) : Calls Try.prog 15 #[.agg #[.int .i64 r.id, .int .i64 r.dev, .int .u32 (r.addr : Int), .int .i64 r.bits, .int .i64 r.prio, .int .i64 r.out], .agg #[.int .i64 s.id, .int .i64 s.dev, .int .u32 (s.addr : Int), .int .i64 s.bits, .int .i64 s.prio, .int .i64 s.out]] w fun e w' => e = .returned (.int .i64 (-1)) ∧ Bst w0 w' B p mb v F L l lq vm rl bx := by
  have e1 : cmpR r s = -1 := by
    have : cmpR r s = -1 ∨ cmpR r s = 0 ∨ cmpR r s = 1 := by
      unfold cmpR or3 cmpI
      repeat' split
      all_goals omega
    omega
  have := compare_calls w r s
  rw [e1] at this
  refine Calls.mono this ?_
  rintro e w' ⟨he, q, os, hw⟩
  subst hw
  exact ⟨he, h.next ⟨rfl, rfl, rfl, by simp [Sort.grow], fun k hk => Sort.heap_grow_old _ _ hk⟩⟩
end Go.Proofs.Ytiedhjmnjpkcoaa
