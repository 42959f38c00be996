/- Counts compared. -/
import Derived.Test.YtakgghhmecphmaaWide
namespace Go.Proofs.Ytakgghhmecphmaa
set_option linter.unusedVariables false
set_option linter.unusedSimpArgs false
open Go.RowKit
set_option maxRecDepth 100000 in
theorem cnt_eq (n : Nat) (w : World) : (binOp .eql 44 (cval n) (cval n)).run Try.prog w = .ok (.bool true) w := by
  unfold cval
  simp [go_sem]
set_option maxRecDepth 100000 in
theorem cnt_guard (n m : Nat) (x y : Operand) (w : World) : (eqGuard .eql 44 x y (cval n) (cval m)).run Try.prog w = .ok () w := by
  unfold cval
  simp [go_sem, eqGuard]
/-- Two counts that are one number are alike: at the operation itself. -/
theorem wpList_eqC {ops : Array Oper} {rest : List Oper} {o : Oper} {a : Act} {w : World} {Q : Exit → Act → World → Prop} (x y : Operand) (ty : TypeId) (ho : o.op = .binOp .eql 44 x y ty) (n : Nat) (hx : a.eval x = cval n) (hy : a.eval y = cval n)
    (hw : Region.wanted o (yielded ops a.tmps) = true) (h : wpList Try.prog ops Q rest (a.put o.dst (.bool true)) w) : wpList Try.prog ops Q (o :: rest) a w :=
  BigFrame.wpList_want hw fun K hK => by
    unfold Oper.wp execOp
    simp only [ho, hx, hy, Sem.run_bind, Sem.run_pure, cnt_guard, cnt_eq, Result.andThen_ok]
    exact hK _ _ h
end Go.Proofs.Ytakgghhmecphmaa
