/- Changes appended to changes. -/
import Derived.Test.YtiedhjmnjpkcoaaMade
import Derived.Maps.AppendAt
import Derived.Deep.Upon
namespace Go.Proofs.Ytiedhjmnjpkcoaa
set_option linter.unusedVariables false
set_option linter.unusedSimpArgs false
open Go.RowKit

def opCells (l : List Op) : List Value := l.flatMap Op.cells
theorem opCells_length (l : List Op) : (opCells l).length = l.length * 7 := by
  induction l with
  | nil => rfl
  | cons e l ih =>
    rw [show opCells (e :: l) = e.cells ++ opCells l from rfl, List.length_append, ih, List.length_cons]
    simp [Op.cells, Rl.cells]
    omega
theorem opCells_at : ∀ (l : List Op) (i : Nat) (o : Op), l[i]? = some o → ∀ j u, o.cells[j]? = some u → (opCells l)[i * 7 + j]? = some u
  | [], i, o, h, _, _, _ => by simp at h
  | a :: l, 0, o, h, j, u, hu => by
    obtain rfl : a = o := by simpa using h
    rw [show opCells (a :: l) = a.cells ++ opCells l from rfl, Nat.zero_mul, Nat.zero_add, List.getElem?_append_left (List.getElem?_eq_some_iff.1 hu).1]
    exact hu
  | a :: l, i + 1, o, h, j, u, hu => by
    have hc : a.cells.length = 7 := rfl
    rw [show opCells (a :: l) = a.cells ++ opCells l from rfl, List.getElem?_append_right (by omega), hc, show (i + 1) * 7 + j - 7 = i * 7 + j by omega]
    exact opCells_at l i o (by simpa using h) j u hu
theorem opCells_of : ∀ (l : List Op) (t : Nat) (u : Value), (opCells l)[t]? = some u → ∃ i o j, t = i * 7 + j ∧ l[i]? = some o ∧ o.cells[j]? = some u
  | [], t, u, h => by simp [opCells] at h
  | a :: l, t, u, h => by
    have hc : a.cells.length = 7 := rfl
    rw [show opCells (a :: l) = a.cells ++ opCells l from rfl] at h
    by_cases ht : t < 7
    · rw [List.getElem?_append_left (by omega)] at h
      exact ⟨0, a, t, by omega, rfl, h⟩
    · rw [List.getElem?_append_right (by omega), hc] at h
      obtain ⟨i, o, j, h1, h2, h3⟩ := opCells_of l (t - 7) u h
      exact ⟨i + 1, o, j, by omega, by simpa using h2, h3⟩
theorem op_one (o : Op) : ∀ u ∈ o.cells, u.oneCell' = true := by
  intro u hu
  simp only [Op.cells, Rl.cells, List.mem_cons, List.not_mem_nil, or_false] at hu
  rcases hu with rfl | rfl | rfl | rfl | rfl | rfl | rfl <;> rfl
theorem op_info : (Try.prog.info? 47).map (fun i => (i.zero, i.size, i.bytes)) = some (some (.agg #[.bool false, .int .i64 0, .int .i64 0, .int .u32 0, .int .i64 0, .int .i64 0, .int .i64 0]), 7, 56) := by kernel_rfl

theorem own_ops {w : World} {base : Nat} {v : Value} {l : List Op} (hwf : ∀ o ∈ l, o.rule.Wf) (h : w.ownsRow base 47 7 v l.length (opCells l)) : OpsIn w v l := by
  rcases Nat.eq_zero_or_pos l.length with h0 | h0
  · obtain rfl := List.length_eq_zero_iff.1 h0
    rcases h.2 with ⟨h1, _⟩ | ⟨g', cap', cur, h1, _⟩
    · exact ⟨hwf, none, 0, h1, fun i hi => by simp at hi⟩
    · exact ⟨hwf, _, cap', h1, fun i hi => by simp at hi⟩
  · rcases h.2 with ⟨_, h1⟩ | ⟨g', cap', cur, h1, _, h2, _⟩
    · omega
    · have hg := lt_of_block h2
      rw [h1] at h
      refine ⟨hwf, _, cap', h1, fun i hi => ⟨g', 0, rfl, fun i o ho j u hu => ?_, hg⟩⟩
      have h4 := opCells_at l i o ho j u hu
      have h5 := h.cellAt (i * 7 + j) (by rw [← opCells_length]; exact (List.getElem?_eq_some_iff.1 h4).1)
      rw [h4] at h5
      rw [Nat.zero_add]
      exact h5

theorem run_app_ops {w : World} {base : Nat} {v x : Value} {l l2 : List Op} (ty : TypeId) (h : w.ownsRow base 47 7 v l.length (opCells l)) (hx : OpsIn w x l2) (hl : l.length + l2.length ≤ 1000000) (hb : base ≤ w.heap.size) :
    ∃ v' w', (Builtin.append_ #[31, 31] ty #[v, x]).run Try.prog w = .ok v' w' ∧ w'.ownsRow base 47 7 v' (l ++ l2).length (opCells (l ++ l2)) ∧ w.grownBy w' v.ownBlock ∧ (v'.ownBlock = v.ownBlock ∨ v'.ownBlock = some w.heap.size) := by
  obtain ⟨i0, hi, hz0, hz1, hz2⟩ := info_parts op_info
  have e1 : opCells (l ++ l2) = opCells l ++ opCells l2 := by simp [opCells]
  obtain ⟨hwf, ao2, c, rfl, hcells⟩ := hx
  rcases ao2 with _ | ad
  · have h0 : l2.length = 0 := by
      rcases Nat.eq_zero_or_pos l2.length with h0 | h0
      · exact h0
      · obtain ⟨_, _, h1, _⟩ := hcells 0 h0
        cases h1
    obtain rfl := List.length_eq_zero_iff.1 h0
    obtain ⟨ao, cap, hv, hle⟩ : ∃ ao cap, v = .slice ao l.length cap ∧ l.length ≤ cap := by
      rcases h.2 with ⟨h0, h1⟩ | ⟨g', cap', cur, h0, _, _, h3, _⟩
      · exact ⟨none, 0, by rw [h0, h1], by omega⟩
      · exact ⟨_, cap', h0, h3⟩
    subst hv
    refine ⟨_, w, run_append_nothing w _ _ ty _ i0 Try.underlying31 hi ao _ cap hle _ ?_, by simpa using h, ⟨rfl, rfl, rfl, Nat.le_refl _, fun _ _ _ => rfl⟩, Or.inl rfl⟩
    refine ⟨Or.inl ⟨_, Try.underlying31⟩, fun w' => ?_, ?_, ?_, by simp, by simp⟩
    · simp [Builtin.lenOf]
    · simp [Builtin.firstCells]
    · simp [Builtin.firstCells]
  · obtain ⟨v', w', h1, h2, h3, _, h5⟩ := run_append_own_at (P := Try.prog) w base 31 ty 47 i0 _ 7 56 Try.underlying31 hi hz0 hz1 hz2 rfl (by decide) v l.length _ h ad l2.length c (opCells l2) (opCells_length l2) (by
      intro t u hu
      obtain ⟨i, o, j, rfl, ho, hj⟩ := opCells_of l2 t u hu
      obtain ⟨b, off, h1, hat, hlt⟩ := hcells i (List.getElem?_eq_some_iff.1 ho).1
      cases h1
      have he : (⟨b, off, none⟩ : Addr).add (i * 7 + j) = ⟨b, off + (i * 7 + j), none⟩ := by unfold Addr.add; split <;> simp_all
      rw [he]
      exact hat i o ho j u hj) (by
      intro u hu
      obtain ⟨r, _, hr⟩ := List.mem_flatMap.1 hu
      exact op_one r u hr) (by unfold maxLen; omega) (by omega) hb
    exact ⟨v', w', h1, by rw [e1, List.length_append]; exact h2, h3, h5⟩

/-- At the operation. -/
theorem wpList_app_ops {w : World} {ops : Array Oper} {rest : List Oper} {o : Oper} {a : Act} {Q : Exit → Act → World → Prop} (hgd : o.guard = none) (s x : Operand)
    (ho : o.op = .call { callee := .builtin .append, args := #[s, x], argTypes := #[31, 31] }) {base : Nat} {v xv : Value} {l l2 : List Op} (h : w.ownsRow base 47 7 v l.length (opCells l)) (hx : OpsIn w xv l2) (hl : l.length + l2.length ≤ 1000000) (hb : base ≤ w.heap.size) (hs : a.eval s = v) (hxe : a.eval x = xv)
    (hK : ∀ v' w', w'.ownsRow base 47 7 v' (l ++ l2).length (opCells (l ++ l2)) → w.grownBy w' v.ownBlock → (v'.ownBlock = v.ownBlock ∨ v'.ownBlock = some w.heap.size) → wpList Try.prog ops Q rest (a.put o.dst v') w') : wpList Try.prog ops Q (o :: rest) a w := by
  refine wpList_plain hgd fun K' hK' => ?_
  obtain ⟨v', w', hr, h2, h3, h4⟩ := run_app_ops o.type h hx hl hb
  unfold Oper.wp execOp
  simp only [ho, resolve, invoke, builtin, Sem.run_bind, Sem.run_pure, Result.andThen_ok, List.map_toArray, List.map_cons, List.map_nil, hs, hxe, hr]
  exact hK' _ _ (hK v' w' h2 h3 h4)
end Go.Proofs.Ytiedhjmnjpkcoaa
