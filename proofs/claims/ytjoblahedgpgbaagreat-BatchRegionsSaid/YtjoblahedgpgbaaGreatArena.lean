/- An arena in memory, and the walks of the functions that read it. -/
import Derived.Test.YtjoblahedgpgbaaGreatProg
import Derived.Test.YtjoblahedgpgbaaGreatMap
import Derived.Test.YtjoblahedgpgbaaGreatHeap
import Derived.Test.YtjoblahedgpgbaaGreatBdd
import Derived.BigQuiet
import Derived.Deep.QuietTactic
import Derived.Deep.AppendLies
import Derived.Deep.RegionLaw
import Derived.WalkSpells
import Derived.KernelRfl
import Derived.Lib.Hide
import Derived.DeepKeys4
namespace Go.Proofs.YtjoblahedgpgbaaGreat
set_option linter.unusedVariables false
set_option linter.unusedSimpArgs false
open Go.RowKit Go.Maps

def ndv (n : Nd) : Value := .agg #[.int .i64 (n.level : Int), .int .i64 (n.low : Int), .int .i64 (n.high : Int)]
def nat64 (n : Nat) : Value := .int .i64 (n : Int)
def ndCells (ns : List Nd) : List Value := ns.flatMap fun n => [.int .i64 (n.level : Int), .int .i64 (n.low : Int), .int .i64 (n.high : Int)]

theorem ndCells_length (ns : List Nd) : (ndCells ns).length = ns.length * 3 := by
  induction ns with
  | nil => rfl
  | cons n ns ih =>
    rw [show ndCells (n :: ns) = [.int .i64 (n.level : Int), .int .i64 (n.low : Int), .int .i64 (n.high : Int)] ++ ndCells ns from rfl, List.length_append, ih]
    simp
    omega
theorem ndCells_append (a b : List Nd) : ndCells (a ++ b) = ndCells a ++ ndCells b := by simp [ndCells]
theorem ndCells_at {ns : List Nd} {i : Nat} {n : Nd} (h : ns[i]? = some n) : (ndCells ns)[i * 3]? = some (.int .i64 (n.level : Int)) ∧ (ndCells ns)[i * 3 + 1]? = some (.int .i64 (n.low : Int)) ∧ (ndCells ns)[i * 3 + 2]? = some (.int .i64 (n.high : Int)) := by
  induction ns generalizing i with
  | nil => simp at h
  | cons m ns ih =>
    have e : ndCells (m :: ns) = [.int .i64 (m.level : Int), .int .i64 (m.low : Int), .int .i64 (m.high : Int)] ++ ndCells ns := rfl
    cases i with
    | zero =>
      obtain rfl : m = n := by simpa using h
      rw [e]
      simp
    | succ i =>
      have key : ∀ j, ([Value.int .i64 (m.level : Int), .int .i64 (m.low : Int), .int .i64 (m.high : Int)] ++ ndCells ns)[3 + j]? = (ndCells ns)[j]? := by
        intro j
        rw [List.getElem?_append_right (by simp)]
        congr 1
        simp
      rw [e, show (i + 1) * 3 = 3 + i * 3 by omega, show 3 + i * 3 + 1 = 3 + (i * 3 + 1) by omega, show 3 + i * 3 + 2 = 3 + (i * 3 + 2) by omega, key, key, key]
      exact ih (by simpa using h)

/-- The arena behind the pointer p: its nodes in block g, what is found in block mb. -/
def ArenaAt (w : World) (p g mb : Nat) (A : Arn) : Prop :=
  ∃ cap n, w.heap[p]? = some (.cells #[.slice (some ⟨g, 0, none⟩) A.nodes.length cap, .map (some mb), .int .i64 (A.most : Int)] 290 (0, 0)) ∧
    w.ownsRow 0 286 3 (.slice (some ⟨g, 0, none⟩) A.nodes.length cap) A.nodes.length (ndCells A.nodes) ∧
    IsMapOf Tryz.prog 286 ndv nat64 w mb n (findF A.nodes)

theorem ArenaAt.of_blocks {w w' : World} {p g mb : Nat} {A : Arn} (h : ArenaAt w p g mb A) (hp : w'.heap[p]? = w.heap[p]?) (hg : w'.heap[g]? = w.heap[g]?) (hm : w'.heap[mb]? = w.heap[mb]?) : ArenaAt w' p g mb A := by
  obtain ⟨cap, n, h1, h2, h3⟩ := h
  refine ⟨cap, n, hp.trans h1, ⟨h2.1, ?_⟩, h3.of_block hm⟩
  rcases h2.2 with h | ⟨g', cap', cur, hv, hb, hh, r⟩
  · exact Or.inl h
  · injection hv with e1 e2 e3
    injection e1 with e1
    injection e1 with e1
    subst e1
    exact Or.inr ⟨g, cap', cur, by rw [e3], hb, hg.trans hh, r⟩

theorem ArenaAt.lt {w : World} {p g mb : Nat} {A : Arn} (h : ArenaAt w p g mb A) : p < w.heap.size ∧ g < w.heap.size ∧ mb < w.heap.size := by
  obtain ⟨cap, n, h1, h2, h3⟩ := h
  exact ⟨lt_of_block h1, (h2.lt g rfl).2, h3.lt⟩

theorem ArenaAt.kept {S : List Nat} {w w' : World} {p g mb : Nat} {A : Arn} (h : ArenaAt w p g mb A) (k : Kept S w w') (hp : p ∉ S) (hg : g ∉ S) (hm : mb ∉ S) : ArenaAt w' p g mb A :=
  h.of_blocks (k.block _ h.lt.1 hp) (k.block _ h.lt.2.1 hg) (k.block _ h.lt.2.2 hm)

theorem len_nil_calls (w : World) : Calls Tryz.prog 95 #[.pointer none] w fun e w' => e = .returned (.int .i64 0) ∧ w = w' := by
  go_enter Tryz.func95, Tryz.ntmps95
  go_wp2
  go_ret
  exact ⟨rfl, rfl⟩

theorem len_calls {w : World} {p g mb : Nat} {A : Arn} (h : ArenaAt w p g mb A) : Calls Tryz.prog 95 #[.pointer (some ⟨p, 0, none⟩)] w fun e w' => e = .returned (.int .i64 (A.nodes.length : Int)) ∧ w = w' := by
  obtain ⟨cap, n, h1, h2, h3⟩ := h
  have c0 := cell_of h1 0
  simp at c0
  clear h1 h2 h3
  go_enter Tryz.func95, Tryz.ntmps95
  go_wp2
  go_ret
  exact ⟨rfl, rfl⟩

theorem has_nil_calls (w : World) (f : Int) : Calls Tryz.prog 163 #[.pointer none, .int .i64 f] w fun e w' => e = .returned (.bool false) ∧ w = w' := by
  go_enter Tryz.func163, Tryz.ntmps163
  go_wp2
  go_ret
  exact ⟨rfl, rfl⟩

theorem has_calls {w : World} {p g mb : Nat} {A : Arn} (h : ArenaAt w p g mb A) (f : Int) : Calls Tryz.prog 163 #[.pointer (some ⟨p, 0, none⟩), .int .i64 f] w fun e w' => e = .returned (.bool (decide (0 ≤ f ∧ f < A.nodes.length))) ∧ w = w' := by
  obtain ⟨cap, n, h1, h2, h3⟩ := h
  have c0 := cell_of h1 0
  simp at c0
  clear h1 h2 h3
  by_cases h0 : 0 ≤ f
  · have e0 : decide (0 ≤ f) = true := by simpa using h0
    go_enter Tryz.func163, Tryz.ntmps163
    go_wp2
    go_ret
    exact ⟨by simp [h0], rfl⟩
  · have e0 : decide (0 ≤ f) = false := by simpa using h0
    go_enter Tryz.func163, Tryz.ntmps163
    go_wp2
    go_ret
    exact ⟨by simp [h0], rfl⟩

/-- The cells of a node, in memory. -/
theorem ArenaAt.nd {w : World} {p g mb : Nat} {A : Arn} (h : ArenaAt w p g mb A) {i : Nat} {n : Nd} (hn : A.nodes[i]? = some n) :
    w.cell? ⟨g, i * 3, none⟩ = some (.int .i64 (n.level : Int)) ∧ w.cell? ⟨g, i * 3 + 1, none⟩ = some (.int .i64 (n.low : Int)) ∧ w.cell? ⟨g, i * 3 + 2, none⟩ = some (.int .i64 (n.high : Int)) := by
  obtain ⟨cap, k, h1, h2, h3⟩ := h
  obtain ⟨a1, a2, a3⟩ := ndCells_at hn
  have key : ∀ j, (⟨g, 0, none⟩ : Addr).add j = ⟨g, j, none⟩ := fun j => by unfold Addr.add; split <;> simp_all
  have := h2.cells (g := g) rfl
  exact ⟨by rw [← key]; exact this _ _ a1, by rw [← key]; exact this _ _ a2, by rw [← key]; exact this _ _ a3⟩

/-- What Node answers. -/
def nodeF (A : Arn) (f : Int) : Int × Int × Int :=
  if 0 ≤ f ∧ f < A.nodes.length then (if f ≤ 1 then (104, f, f) else (((A.nd f.toNat).level : Int), ((A.nd f.toNat).low : Int), ((A.nd f.toNat).high : Int))) else (104, 0, 0)

set_option maxHeartbeats 400000 in
theorem node_calls {w : World} {p g mb : Nat} {A : Arn} (h : ArenaAt w p g mb A) (f : Int) : Calls Tryz.prog 175 #[.pointer (some ⟨p, 0, none⟩), .int .i64 f] w fun e w' =>
    e = .returned (.tuple #[.int .i64 (nodeF A f).1, .int .i64 (nodeF A f).2.1, .int .i64 (nodeF A f).2.2]) ∧ Below w.heap.size w w' := by
  have HH := Lib.hid (has_calls h f)
  by_cases hin : 0 ≤ f ∧ f < A.nodes.length
  · have e0 : decide (0 ≤ f ∧ f < A.nodes.length) = true := by simpa using hin
    by_cases h1 : f ≤ 1
    · have hf : nodeF A f = (104, f, f) := by simp [nodeF, hin, h1]
      rw [hf]
      have e1 : decide (f ≤ 1) = true := by simpa using h1
      clear h hf
      go_enter Tryz.func175, Tryz.ntmps175
      go_wp2_with (go_at_call 163; refine HH.out.mono ?_; rintro e w' ⟨rfl, rfl⟩; rw [e0])
      go_ret3
      exact ⟨rfl, Below.refl _ _⟩
    · obtain ⟨i, rfl⟩ := Int.eq_ofNat_of_zero_le hin.1
      have hi : i < A.nodes.length := by omega
      have hn : A.nodes[i]? = some (A.nd i) := by simp [Arn.nd, List.getD_eq_getElem?_getD, List.getElem?_eq_getElem hi]
      have hf : nodeF A (i : Int) = (((A.nd i).level : Int), ((A.nd i).low : Int), ((A.nd i).high : Int)) := by simp [nodeF, hi, h1]
      rw [hf]
      obtain ⟨k0, k1, k2⟩ := h.nd hn
      generalize A.nd i = N at *
      obtain ⟨cap, n, b1, b2, b3⟩ := h
      have hsz := lt_of_block b1
      have c0 := cell_of b1 0
      simp at c0
      have e1 : decide ((i : Int) ≤ 1) = false := by simpa using h1
      clear b1 b2 b3 hf hn
      go_enter Tryz.func175, Tryz.ntmps175
      go_wp2_with (go_at_call 163; refine HH.out.mono ?_; rintro e w' ⟨rfl, rfl⟩; rw [e0])
      go_quiet (fail)
      go_wp2
      go_ret3
      exact ⟨rfl, ((Below.refl _ _).alloc (Nat.le_refl _) _).trans (Kept.below (Kept.of_drewN (S := []) _ _) (by simp) (by simp))⟩
  · have e0 : decide (0 ≤ f ∧ f < A.nodes.length) = false := by simpa using hin
    have hf : nodeF A f = (104, 0, 0) := by simp only [nodeF, if_neg hin]
    rw [hf]
    clear h hf
    go_enter Tryz.func175, Tryz.ntmps175
    go_wp2_with (go_at_call 163; refine HH.out.mono ?_; rintro e w' ⟨rfl, rfl⟩; rw [e0])
    go_ret3
    exact ⟨rfl, Below.refl _ _⟩

end Go.Proofs.YtjoblahedgpgbaaGreat
