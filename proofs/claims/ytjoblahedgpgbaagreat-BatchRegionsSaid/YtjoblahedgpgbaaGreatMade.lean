/- The law's Made: the table of changes and the document's rules. -/
import Derived.Test.YtjoblahedgpgbaaGreatPlay
import Derived.Test.YtjoblahedgpgbaaGreatArgsO
namespace Go.Proofs.YtjoblahedgpgbaaGreat
set_option linter.unusedVariables false
set_option linter.unusedSimpArgs false
open Go.RowKit

/-- Changes that a law was handed. -/
structure OpsIn (W : World) (v : Value) (l : List Op) : Prop where
  wf : ∀ o ∈ l, o.rule.Wf
  val : ∃ ao cap, v = .slice ao l.length cap ∧ ∀ i, i < l.length → ∃ b off, ao = some ⟨b, off, none⟩ ∧ OpsAt W b off l ∧ b < W.heap.size

theorem ops_in {W : World} {v : Value} (h : ArgOps W v) : ∃ l, OpsIn W v l := by
  obtain ⟨l, h1, ⟨rfl, ao, cap, rfl⟩ | ⟨b, off, n, cap, h2, rfl, rfl, h3, h4, h5⟩⟩ := h
  · exact ⟨[], h1, ao, cap, rfl, fun i hi => by simp at hi⟩
  · exact ⟨l, h1, _, cap, rfl, fun i hi => ⟨b, off, rfl, h4, h5⟩⟩

/-- The cells of the change at a place. -/
theorem OpsAt.cells {W w : World} {b off : Nat} {l : List Op} (h : OpsAt W b off l) (hb : b < W.heap.size) (k : Below W.heap.size W w) (i : Nat) (hi : i < l.length) :
    w.cell? ⟨b, off + i * 7, none⟩ = some (.bool l[i].del) ∧ w.cell? ⟨b, off + i * 7 + 1, none⟩ = some (.int .i64 l[i].rule.id) ∧ w.cell? ⟨b, off + i * 7 + 2, none⟩ = some (.int .i64 l[i].rule.dev) ∧ w.cell? ⟨b, off + i * 7 + 3, none⟩ = some (.int .u32 (l[i].rule.addr : Int)) ∧
    w.cell? ⟨b, off + i * 7 + 4, none⟩ = some (.int .i64 l[i].rule.bits) ∧ w.cell? ⟨b, off + i * 7 + 5, none⟩ = some (.int .i64 l[i].rule.prio) ∧ w.cell? ⟨b, off + i * 7 + 6, none⟩ = some (.int .i64 l[i].rule.out) := by
  have hc : ∀ j u, l[i].cells[j]? = some u → w.cell? ⟨b, off + i * 7 + j, none⟩ = some u := by
    intro j u hu
    have := h i l[i] (List.getElem?_eq_getElem hi) j u hu
    rw [show off + (i * 7 + j) = off + i * 7 + j by omega] at this
    rw [World.cell?_of_block (k.block b hb)]
    exact this
  exact ⟨hc 0 _ rfl, hc 1 _ rfl, hc 2 _ rfl, hc 3 _ rfl, hc 4 _ rfl, hc 5 _ rfl, hc 6 _ rfl⟩

end Go.Proofs.YtjoblahedgpgbaaGreat
