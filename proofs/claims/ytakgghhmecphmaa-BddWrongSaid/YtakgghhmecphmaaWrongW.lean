/- The walk of BddWrong: all cases. -/
import Derived.Test.YtakgghhmecphmaaWrongA
import Derived.Test.YtakgghhmecphmaaWrongB
import Derived.Test.YtakgghhmecphmaaWrongC
import Derived.Test.YtakgghhmecphmaaWrongD
namespace Go.Proofs.Ytakgghhmecphmaa
open Go.RowKit Go.Maps

theorem wrong_walk (f g kind i : Int) (w : World) : Calls Try.prog 10 #[.int .i64 f, .int .i64 g, .int .i64 kind, .int .i64 i] w fun e w' => e = .returned (.bool true) ∧ Below w.heap.size w w' := by
  have hf : f < 0 ∨ 3 ≤ f ∨ (0 ≤ f ∧ f < 3) := by omega
  have hg : g < 0 ∨ 3 ≤ g ∨ (0 ≤ g ∧ g < 3) := by omega
  have hk : kind < 0 ∨ 3 < kind ∨ (0 ≤ kind ∧ kind ≤ 3) := by omega
  rcases hf with a | a | ⟨a, a'⟩
  · exact wrong_1 f g kind i w a
  · exact wrong_2 f g kind i w a
  rcases hg with b | b | ⟨b, b'⟩
  · exact wrong_3 f g kind i w a a' b
  · exact wrong_4 f g kind i w a a' b
  rcases hk with c | c | ⟨c, c'⟩
  · exact wrong_5' f g kind i w a a' b b' c
  · exact wrong_6 f g kind i w a a' b b' c
  · exact wrong_7 f g kind i w a a' b b' c c'

theorem wrong_row (f g kind i : Int) (_ : (Lit.int .i64 f).wf = true) (_ : (Lit.int .i64 g).wf = true) (_ : (Lit.int .i64 kind).wf = true) (_ : (Lit.int .i64 i).wf = true) (w : World) :
    Calls Try.prog 10 #[.int .i64 f, .int .i64 g, .int .i64 kind, .int .i64 i] w fun e w' => e = .returned (.bool true) ∧ Below w.heap.size w w' := wrong_walk f g kind i w

end Go.Proofs.Ytakgghhmecphmaa
