/- Sets of headers as graphs, in plain lists and numbers: cuts, bits held. -/
import Derived.Test.YtakgghhmecphmaaBdd
namespace Go.Proofs.Ytakgghhmecphmaa
set_option linter.unusedVariables false
set_option linter.unusedSimpArgs false

/-- All nodes from a number on are gone. -/
def cutF (A : Arn) (n : Nat) : Arn := { A with nodes := A.nodes.take (max n 2) }

theorem findF_take {ns : List Nd} {k : Nat} (hn : (ns.drop 2).Nodup) (h2 : 2 ≤ k) (x : Nd) (hk : ns[k]? = some x) (y : Nd) : findF (ns.take k) y = if y = x then none else findF (ns.take (k + 1)) y := by
  have hl : k < ns.length := (List.getElem?_eq_some_iff.1 hk).1
  have e : ns.take (k + 1) = ns.take k ++ [x] := by rw [List.take_add_one, hk]; rfl
  have hnot : x ∉ (ns.take k).drop 2 := by
    intro hm
    obtain ⟨i, hi⟩ := List.getElem?_of_mem hm
    rw [List.getElem?_drop, List.getElem?_take] at hi
    split at hi
    · have h1 : (ns.drop 2)[i]? = (ns.drop 2)[k - 2]? := by
        rw [List.getElem?_drop, List.getElem?_drop, hi, show 2 + (k - 2) = k by omega, hk]
      have := (List.getElem?_inj (by simp; omega) hn).1 h1
      omega
    · cases hi
  rw [e, findF_append (by simp; omega) hnot]
  by_cases hy : y = x
  · rw [if_pos hy]
    subst hy
    cases hf : findF (ns.take k) y with
    | none => rfl
    | some i =>
      obtain ⟨h2', hi⟩ := findF_some hf
      refine absurd ?_ hnot
      refine List.mem_of_getElem? (i := i - 2) ?_
      rw [List.getElem?_drop, show 2 + (i - 2) = i by omega]
      exact hi
  · rw [if_neg hy, if_neg hy]

theorem cutF_ok {A : Arn} (h : A.OK) (n : Nat) : (cutF A n).OK := by
  have key : ∀ i, i < max n 2 → (A.nodes.take (max n 2))[i]? = A.nodes[i]? := fun i hi => by rw [List.getElem?_take, if_pos hi]
  refine ⟨?_, ?_, h.most, ?_, ?_, ?_, ?_⟩
  · simp only [cutF, List.length_take]; have := h.two; omega
  · simp only [cutF, List.length_take]; have := h.len; omega
  · exact (key 0 (by omega)).trans h.zero
  · exact (key 1 (by omega)).trans h.one
  · simp only [cutF]
    rw [List.drop_take]
    exact (List.take_sublist _ _).nodup h.nodup
  · intro i m hi hm
    simp only [cutF, List.getElem?_take] at hm ⊢
    split at hm
    · rename_i hlt
      obtain ⟨a, b, c, d, e1, e2⟩ := h.node i m hi hm
      refine ⟨a, b, c, d, fun q hq => e1 q ?_, fun q hq => e2 q ?_⟩
      · rw [if_pos (by omega)] at hq; exact hq
      · rw [if_pos (by omega)] at hq; exact hq
    · cases hm

/-- The sets of a list of bits, the last bit first, joined one by one ahead of f. -/
def cubeGo (A : Arn) (f : Nat) : List (Nat × Bool) → Option Nat × Arn
  | [] => (some f, A)
  | (v, on) :: r =>
    match mkF A v (if on then 0 else f) (if on then f else 0) with
    | (none, A') => (none, A')
    | (some f', A') => cubeGo A' f' r

/-- What Cube answers: f, or no room and nothing new. -/
def cubeF (A : Arn) (l : List (Nat × Bool)) : Option Nat × Arn :=
  match cubeGo A 1 l.reverse with
  | (none, _) => (none, A)
  | (some f, A') => (some f, A')

/-- Bits that rise. -/
structure Rise (l : List (Nat × Bool)) : Prop where
  lt : ∀ x ∈ l, x.1 < 104
  up : l.Pairwise (fun a b => a.1 < b.1)

theorem mkF_step {A : Arn} (hA : A.OK) {f v : Nat} {on : Bool} (hf : f < A.nodes.length) (hv : v < 104) (hl : v < A.lv f) :
    (mkF A v (if on then 0 else f) (if on then f else 0)).2.OK ∧ Ext A (mkF A v (if on then 0 else f) (if on then f else 0)).2 ∧
    ∀ x, (mkF A v (if on then 0 else f) (if on then f else 0)).1 = some x → x < (mkF A v (if on then 0 else f) (if on then f else 0)).2.nodes.length ∧ v ≤ (mkF A v (if on then 0 else f) (if on then f else 0)).2.lv x := by
  have h0 := hA.lv_zero
  have h2 := hA.two
  cases on
  · exact ⟨mkF_ok hA hv hf (by simp; omega) hl (by simp [h0]; omega), mkF_ext _ _ _ _, fun x hx => mkF_some hx hf hl⟩
  · exact ⟨mkF_ok hA hv (by simp; omega) hf (by simp [h0]; omega) hl, mkF_ext _ _ _ _, fun x hx => mkF_some hx (by simp; omega) (by simp [h0]; omega)⟩

theorem cubeGo_ok : ∀ (l : List (Nat × Bool)) (A : Arn) (f : Nat), A.OK → f < A.nodes.length → (∀ x ∈ l, x.1 < 104) → l.Pairwise (fun a b => b.1 < a.1) → (∀ x ∈ l, x.1 < A.lv f) →
    (cubeGo A f l).2.OK ∧ Ext A (cubeGo A f l).2 ∧ ∀ x, (cubeGo A f l).1 = some x → x < (cubeGo A f l).2.nodes.length
  | [], A, f, hA, hf, _, _, _ => ⟨hA, Ext.refl A, fun x h => by cases h; exact hf⟩
  | (v, on) :: r, A, f, hA, hf, hlt, hp, hl => by
    obtain ⟨m1, m2, m3⟩ := mkF_step (on := on) hA hf (hlt (v, on) (by simp)) (hl (v, on) (by simp))
    unfold cubeGo
    rcases hm : mkF A v (if on then 0 else f) (if on then f else 0) with ⟨x, A'⟩
    rw [hm] at m1 m2 m3
    cases x with
    | none => exact ⟨m1, m2, fun x h => by cases h⟩
    | some f' =>
      simp only at m1 m2 m3 ⊢
      obtain ⟨h1, h2⟩ := m3 f' rfl
      obtain ⟨p1, p2⟩ := List.pairwise_cons.1 hp
      obtain ⟨a, b, c⟩ := cubeGo_ok r A' f' m1 h1 (fun x hx => hlt x (by simp [hx])) p2 (fun x hx => by have := p1 x hx; simp only at this; omega)
      exact ⟨a, m2.trans b, c⟩

theorem Ext.cut {A B : Arn} (h : Ext A B) (h2 : 2 ≤ A.nodes.length) : ({ B with nodes := B.nodes.take A.nodes.length } : Arn) = A := by
  obtain ⟨h1, l, e⟩ := h
  cases A; cases B
  simp at h1 e ⊢
  exact ⟨by rw [e]; simp, h1⟩

end Go.Proofs.Ytakgghhmecphmaa
