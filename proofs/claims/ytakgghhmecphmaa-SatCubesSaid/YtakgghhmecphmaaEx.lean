/- How a set is made of ones ahead: the document's expressions as plain data: which may be. -/
import Derived.Test.YtakgghhmecphmaaBdd3
namespace Go.Proofs.Ytakgghhmecphmaa
set_option linter.unusedVariables false
set_option linter.unusedSimpArgs false

structure Ex where
  kind : Int
  a : Int
  b : Int
  c : Int
  var : Int
  on : Bool

def exZ : Ex := ⟨0, 0, 0, 0, 0, false⟩

/-- Different ones of a list, in the order in which they come. -/
def dset (l : List Int) : List Int := l.foldl (fun s x => if x ∈ s then s else s ++ [x]) []
theorem dset_snoc (l : List Int) (x : Int) : dset (l ++ [x]) = if x ∈ dset l then dset l else dset l ++ [x] := by
  unfold dset
  rw [List.foldl_append]
  rfl
theorem mem_dset (l : List Int) (x : Int) : x ∈ dset l ↔ x ∈ l := by
  have key : ∀ (l s : List Int), x ∈ l.foldl (fun s x => if x ∈ s then s else s ++ [x]) s ↔ x ∈ s ∨ x ∈ l := by
    intro l
    induction l with
    | nil => simp
    | cons y l ih =>
      intro s
      rw [List.foldl_cons, ih]
      split
      · rename_i h
        simp only [List.mem_cons]
        constructor
        · rintro (h1 | h1)
          · exact Or.inl h1
          · exact Or.inr (Or.inr h1)
        · rintro (h1 | rfl | h1)
          · exact Or.inl h1
          · exact Or.inl h
          · exact Or.inr h1
      · simp only [List.mem_append, List.mem_cons, List.mem_singleton, List.not_mem_nil, or_false, or_assoc]
  have := key l []
  simpa [dset] using this

def isVar (x : Ex) : Bool := x.kind == 2
def varsOf (l : List Ex) : List Int := (l.filter isVar).map (·.var)
theorem varsOf_snoc (l : List Ex) (x : Ex) : varsOf (l ++ [x]) = varsOf l ++ if x.kind = 2 then [x.var] else [] := by
  unfold varsOf
  rw [List.filter_append, List.map_append]
  by_cases h : x.kind = 2
  · simp [isVar, h]
  · simp [isVar, h]

/-- An expression that may not be at place i. -/
def BadE (x : Ex) (i : Nat) : Prop := x.kind < 0 ∨ 9 < x.kind ∨ (3 ≤ x.kind ∧ (x.a < 0 ∨ (i : Int) ≤ x.a ∨ x.b < 0 ∨ (i : Int) ≤ x.b ∨ x.c < 0 ∨ (i : Int) ≤ x.c)) ∨ x.var < 0 ∨ 104 ≤ x.var
def heldN (l : List Ex) : Nat := (l.filter fun x => x.kind == 8).length
def RightP (l : List Ex) : Prop := (∀ i x, l[i]? = some x → ¬ BadE x i) ∧ heldN l ≤ 4
def LightP (l : List Ex) : Prop := l.length ≤ 60 ∧ (dset (varsOf l)).length ≤ 10 ∧ RightP l

theorem heldN_snoc (l : List Ex) (x : Ex) : heldN (l ++ [x]) = heldN l + if x.kind = 8 then 1 else 0 := by
  unfold heldN
  rw [List.filter_append, List.length_append]
  by_cases h : x.kind = 8
  · simp [h]
  · simp [h]
theorem heldN_le (l : List Ex) : heldN l ≤ l.length := List.length_filter_le _ _

end Go.Proofs.Ytakgghhmecphmaa
