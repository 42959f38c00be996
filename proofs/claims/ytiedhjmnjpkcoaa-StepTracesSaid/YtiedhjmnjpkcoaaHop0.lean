/- Steps and hops, plainly. -/
import Derived.Test.YtiedhjmnjpkcoaaChanges
namespace Go.Proofs.Ytiedhjmnjpkcoaa
set_option linter.unusedVariables false
set_option linter.unusedSimpArgs false
open Go.RowKit

theorem fine_of {T : Tp} (h : fineT T = true) : Fine T := by
  unfold fineT at h
  rw [Bool.and_eq_true] at h
  exact ⟨h.1, of_decide_eq_true h.2⟩
/-- An end in a box of its own. -/
def EBox (w1 wq : World) (b : Nat) (k d p : Int) : Prop := wq.heap[b]? = some (.cells #[.int .i64 k, .int .i64 d, .int .i64 p] 91 (0, 0)) ∧ Below w1.heap.size w1 wq
theorem EBox.new {w1 w5 : World} {a d p : Int} (k : Below w1.heap.size w1 w5) : EBox w1 (w5.alloc (.cells #[.int .i64 a, .int .i64 d, .int .i64 p] 91)) w5.heap.size a d p := ⟨heap_alloc_new w5 _, k.alloc k.size _⟩
theorem EBox.mk3 {w1 w5 : World} {b : Nat} {a d p : Int} {y0 y1 y2 : Value} (h : w5.heap[b]? = some (.cells #[y0, y1, y2] 91 (0, 0))) (k : Below w1.heap.size w1 w5) (hb : w1.heap.size ≤ b) : EBox w1 (set3 w5 b (.int .i64 a) (.int .i64 d) (.int .i64 p)) b a d p :=
  ⟨by unfold set3; exact set_block (set_block (set_block h 0 _) 1 _) 2 _, k.trans ((kept_set3 _ _ _ _ _).below k.size (fun x hx => (List.mem_singleton.1 hx).symm ▸ hb))⟩
/-- A step that goes on tells no end. -/
theorem step_on {T : Tp} {ls : List (List Rl)} {h : Hv} (d : Int) (hs : (stepS T ls h d).2.2 = true) : (stepS T ls h d).2.1 = ⟨0, 0, 0⟩ := by
  unfold stepS at *
  split
  · rename_i e1
    simp only [e1] at hs
    cases hs
  · rename_i r e1
    simp only [e1] at hs
    split
    · rename_i e2
      rw [if_pos e2] at hs
      cases hs
    · rename_i e2
      rw [if_neg e2] at hs
      unfold outS at *
      split
      · rfl
      · rename_i e3
        rw [if_neg e3] at hs
        split at hs <;> cases hs
theorem WayOk.rest {T : Tp} {ls : List (List Rl)} {h : Hv} {way : List Int} {e : Ed} (hw : WayOk T ls h way e) (hk : e.kind ≠ 0) (h2 : 2 ≤ way.length) : wayS T ls h (T.ports.length + 1) [] way[1] = (way.drop 1, e) := by
  obtain ⟨a, b, rest, rfl⟩ : ∃ a b rest, way = a :: b :: rest := by
    match way, h2 with
    | a :: b :: rest, _ => exact ⟨a, b, rest, rfl⟩
  have hl := hw.len
  have := wayS_of (T := T) (ls := ls) (h := h) e rest (T.ports.length + 1) [] b (by simpa using (List.nodup_cons.1 hw.nodup).2) (by simp at hl; omega) (fun i hi hi1 => by
    have := hw.on (i + 1) (by simpa using hi) (by simpa using hi1)
    simpa using this) (fun x hx => by
    rcases hw.last x (by simpa [List.getLast?_cons_cons] using hx) with ⟨_, h4, _⟩ | ⟨h3, h4⟩
    · rw [h4] at hk
      exact absurd rfl hk
    · exact ⟨h3, h4⟩)
  simpa using this
end Go.Proofs.Ytiedhjmnjpkcoaa
