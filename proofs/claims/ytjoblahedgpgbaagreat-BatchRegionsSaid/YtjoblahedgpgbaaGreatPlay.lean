/- The table and the document's row side by side in memory. -/
import Derived.Test.YtjoblahedgpgbaaGreatRAdd
import Derived.Test.YtjoblahedgpgbaaGreatRDrop2
import Derived.Test.YtjoblahedgpgbaaGreatMeetP
namespace Go.Proofs.YtjoblahedgpgbaaGreat
set_option linter.unusedVariables false
set_option linter.unusedSimpArgs false
open Go.RowKit

/-- The table at p, and the row v, both the law's own (from B on), apart from each other. -/
structure PlayAt (w : World) (B p mb : Nat) (v : Value) (F : List Nat) (L l : List Rl) : Prop where
  tab : TabAt w p mb F L
  row : w.ownsRow B 89 6 v l.length (rlCells l)
  blk : ∀ g, v.ownBlock = some g → g ≠ mb ∧ g ∉ F
  lo : B ≤ mb ∧ ∀ x ∈ F, B ≤ x
  size : B ≤ w.heap.size

theorem own_lt {w : World} {b : Nat} {v : Value} {l : List Rl} (h : w.ownsRow b 89 6 v l.length (rlCells l)) {g : Nat} (hg : v.ownBlock = some g) : b ≤ g ∧ g < w.heap.size := by
  rcases h.2 with ⟨rfl, _⟩ | ⟨g', cap, cur, rfl, h1, h2, _⟩
  · cases hg
  · cases hg
    exact ⟨h1, (Array.getElem?_eq_some_iff.1 h2).1⟩

variable {w w' : World} {B p mb : Nat} {v v' : Value} {F : List Nat} {L L' l l' : List Rl}

theorem PlayAt.tab_step (h : PlayAt w B p mb v F L l) (hp : TabPost w w' p mb F L') : ∃ F', PlayAt w' B p mb v F' L' l ∧ Below B w w' ∧ ∀ x, x < w.heap.size → x ≠ mb → x ∉ F → w'.heap[x]? = w.heap[x]? := by
  obtain ⟨F', hT, hF, hk⟩ := hp
  refine ⟨F', ⟨hT, own_kept h.row hk ?_, fun g hg => ?_, ⟨h.lo.1, fun x hx => ?_⟩, Nat.le_trans h.size hk.size⟩, hk.below h.size ?_, fun x h1 h2 h3 => hk.block x h1 (by simp; exact ⟨h2, h3⟩)⟩
  · intro x e hx
    obtain ⟨h1, h2⟩ := h.blk x e
    rcases List.mem_cons.1 hx with e2 | e2
    · exact h1 e2
    · exact h2 e2
  · obtain ⟨h1, h2⟩ := h.blk g hg
    refine ⟨h1, fun hm => ?_⟩
    rcases hF g hm with e | e
    · exact h2 e
    · have := (own_lt h.row hg).2
      omega
  · rcases hF x hx with e | e
    · exact h.lo.2 x e
    · exact Nat.le_trans h.size e
  · intro x hx
    rcases List.mem_cons.1 hx with rfl | hx
    · exact h.lo.1
    · exact h.lo.2 x hx

theorem PlayAt.below (h : PlayAt w B p mb v F L l) (k : Below w.heap.size w w') : PlayAt w' B p mb v F L l :=
  ⟨h.tab.kept (Kept.of_below (S := []) k) (by simp) (by simp), own_kept h.row (Kept.of_below (S := []) k) (by simp), h.blk, h.lo, Nat.le_trans h.size k.size⟩

theorem PlayAt.row_step (h : PlayAt w B p mb v F L l) (hr : RowOr w w' v v' l l') (k : Below w.heap.size w w') : PlayAt w' B p mb v' F L l' := by
  rcases hr with hr | ⟨rfl, rfl⟩
  · refine ⟨(h.below k).tab, hr.mono h.size, fun g hg => ?_, h.lo, Nat.le_trans h.size k.size⟩
    have h1 := (own_lt hr hg).1
    have h2 := h.tab.map.lt
    refine ⟨by omega, fun hm => ?_⟩
    have := h.tab.lt g hm
    omega
  · exact h.below k
end Go.Proofs.YtjoblahedgpgbaaGreat
