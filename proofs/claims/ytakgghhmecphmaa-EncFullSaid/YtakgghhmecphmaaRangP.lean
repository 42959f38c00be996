/- The set of a range of ports: block by block, plainly. -/
import Derived.Test.YtakgghhmecphmaaFiltP
import Derived.Test.YtakgghhmecphmaaCut
namespace Go.Proofs.Ytakgghhmecphmaa
set_option linter.unusedVariables false
set_option linter.unusedSimpArgs false

def rangeGo (field start : Nat) : List (Nat × Nat) → Nat → Arn → Option Nat × Arn
  | [], f, A => (some f, A)
  | (q, n) :: bs, f, A =>
    match cubeF A (litL field q 16 n) with
    | (none, A1) => (none, upTo A1 start)
    | (some x, A1) =>
      match joinA A1 1 f x with
      | (none, A2) => (none, upTo A2 start)
      | (some f', A2) => rangeGo field start bs f' A2
theorem rangeGo_cons (field start q n : Nat) (bs : List (Nat × Nat)) (f : Nat) (A : Arn) : rangeGo field start ((q, n) :: bs) f A = match cubeF A (litL field q 16 n) with
    | (none, A1) => (none, upTo A1 start)
    | (some x, A1) =>
      match joinA A1 1 f x with
      | (none, A2) => (none, upTo A2 start)
      | (some f', A2) => rangeGo field start bs f' A2 := rfl
end Go.Proofs.Ytakgghhmecphmaa
