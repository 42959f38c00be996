/- A part of a row of rules, maybe empty, appended to a row. -/
import Derived.Test.YtiedhjmnjpkcoaaTabC
import Derived.Maps.AppendAt
import Derived.Deep.Upon
namespace Go.Proofs.Ytiedhjmnjpkcoaa
set_option linter.unusedVariables false
set_option linter.unusedSimpArgs false
open Go.RowKit

/-- A slice of m rules: what it shows. -/
def PartAt (w : World) (x : Value) (l : List Rl) : Prop := (∃ c, x = .slice none 0 c ∧ l = [] ∧ c = 0) ∨ ∃ ad c, x = .slice (some ad) l.length c ∧ l.length ≤ c ∧ ∀ j u, (rlCells l)[j]? = some u → w.cell? (ad.add j) = some u

theorem run_app_rules {w : World} {base : Nat} {v x : Value} {l l2 : List Rl} (ty : TypeId) (h : w.ownsRow base 26 6 v l.length (rlCells l)) (hx : PartAt w x l2) (hl : l.length + l2.length ≤ 1000000) (hb : base ≤ w.heap.size) :
    ∃ v' w', (Builtin.append_ #[33, 33] ty #[v, x]).run Try.prog w = .ok v' w' ∧ w'.ownsRow base 26 6 v' (l ++ l2).length (rlCells (l ++ l2)) ∧ w.grownBy w' v.ownBlock ∧ (v'.ownBlock = v.ownBlock ∨ v'.ownBlock = some w.heap.size) := by
  obtain ⟨i0, hi, hz0, hz1, hz2⟩ := info_parts rule_info
  have e1 : rlCells (l ++ l2) = rlCells l ++ rlCells l2 := by simp [rlCells]
  rcases hx with ⟨c, rfl, rfl, rfl⟩ | ⟨ad, c, rfl, hc, hcells⟩
  · obtain ⟨ao, cap, hv, hle⟩ : ∃ ao cap, v = .slice ao l.length cap ∧ l.length ≤ cap := by
      rcases h.2 with ⟨h0, h1⟩ | ⟨g', cap', cur, h0, _, _, h3, _⟩
      · exact ⟨none, 0, by rw [h0, h1], by omega⟩
      · exact ⟨_, cap', h0, h3⟩
    subst hv
    refine ⟨_, w, run_append_nothing w _ _ ty _ i0 Try.underlying33 hi ao _ cap hle _ ?_, by simpa using h, ⟨rfl, rfl, rfl, Nat.le_refl _, fun _ _ _ => rfl⟩, Or.inl rfl⟩
    refine ⟨Or.inl ⟨_, Try.underlying33⟩, fun w' => ?_, ?_, ?_, by simp, by simp⟩
    · simp [Builtin.lenOf]
    · simp [Builtin.firstCells]
    · simp [Builtin.firstCells]
  · obtain ⟨v', w', h1, h2, h3, _, h5⟩ := run_append_own_at (P := Try.prog) w base 33 ty 26 i0 _ 6 48 Try.underlying33 hi hz0 hz1 hz2 rfl (by decide) v l.length _ h ad l2.length c (rlCells l2) (rlCells_length l2) hcells (by
      intro u hu
      obtain ⟨r, _, hr⟩ := List.mem_flatMap.1 hu
      exact rule_one r u hr) (by unfold maxLen; omega) (by omega) hb
    exact ⟨v', w', h1, by rw [e1, List.length_append]; exact h2, h3, h5⟩

/-- At the operation. -/
theorem wpList_app_rules {w : World} {ops : Array Oper} {rest : List Oper} {o : Oper} {a : Act} {Q : Exit → Act → World → Prop} (hgd : o.guard = none) (s x : Operand)
    (ho : o.op = .call { callee := .builtin .append, args := #[s, x], argTypes := #[33, 33] }) {base : Nat} {v xv : Value} {l l2 : List Rl} (h : w.ownsRow base 26 6 v l.length (rlCells l)) (hx : PartAt w xv l2) (hl : l.length + l2.length ≤ 1000000) (hb : base ≤ w.heap.size) (hs : a.eval s = v) (hxe : a.eval x = xv)
    (hK : ∀ v' w', w'.ownsRow base 26 6 v' (l ++ l2).length (rlCells (l ++ l2)) → w.grownBy w' v.ownBlock → (v'.ownBlock = v.ownBlock ∨ v'.ownBlock = some w.heap.size) → wpList Try.prog ops Q rest (a.put o.dst v') w') : wpList Try.prog ops Q (o :: rest) a w := by
  refine wpList_plain hgd fun K' hK' => ?_
  obtain ⟨v', w', hr, h2, h3, h4⟩ := run_app_rules o.type h hx hl hb
  unfold Oper.wp execOp
  simp only [ho, resolve, invoke, builtin, Sem.run_bind, Sem.run_pure, Result.andThen_ok, List.map_toArray, List.map_cons, List.map_nil, hs, hxe, hr]
  exact hK' _ _ (hK v' w' h2 h3 h4)
end Go.Proofs.Ytiedhjmnjpkcoaa
