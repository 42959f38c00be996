/- What the document's In answers, in plain lists. -/
import Derived.Test.YtakgghhmecphmaaHeldP
namespace Go.Proofs.Ytakgghhmecphmaa
set_option linter.unusedVariables false
set_option linter.unusedSimpArgs false

theorem fnsGo_append : ∀ (l r : List Ex) (fs : List Fn), fnsGo fs (l ++ r) = fnsGo (fnsGo fs l) r
  | [], _, _ => rfl
  | x :: l, r, fs => fnsGo_append l r (fs ++ [fnE fs x])
theorem fnsGo_length : ∀ (l : List Ex) (fs : List Fn), (fnsGo fs l).length = fs.length + l.length
  | [], fs => rfl
  | x :: l, fs => by
    rw [show fnsGo fs (x :: l) = fnsGo (fs ++ [fnE fs x]) l from rfl, fnsGo_length l, List.length_append, List.length_singleton, List.length_cons]
    omega
theorem fnsGo_pre : ∀ (l : List Ex) (fs : List Fn), fs <+: fnsGo fs l
  | [], fs => List.prefix_refl _
  | x :: l, fs => (List.prefix_append fs [fnE fs x]).trans (fnsGo_pre l (fs ++ [fnE fs x]))

/-- Which of the sets have the header of the bits b. -/
def inL (l : List Ex) (b : Nat → Bool) : List Bool := (fnsGo [] l).map fun F => F b
theorem inL_length (l : List Ex) (b : Nat → Bool) : (inL l b).length = l.length := by simp [inL, fnsGo_length]
theorem inL_snoc (l : List Ex) (x : Ex) (b : Nat → Bool) : inL (l ++ [x]) b = inL l b ++ [fnE (fnsGo [] l) x b] := by
  unfold inL
  rw [fnsGo_append]
  show (fnsGo [] l ++ [_]).map _ = _
  rw [List.map_append]
  rfl
theorem inL_at (l : List Ex) (b : Nat → Bool) (i : Nat) : (fnsGo [] l).getD i (fun _ => false) b = (inL l b).getD i false := by
  unfold inL
  rw [List.getD_eq_getElem?_getD, List.getD_eq_getElem?_getD, List.getElem?_map]
  cases (fnsGo [] l)[i]? <;> rfl
theorem inL_take (l : List Ex) (b : Nat → Bool) (i k : Nat) (h : i < k) (hk : k ≤ l.length) : (inL (l.take k) b).getD i false = (inL l b).getD i false := by
  have hp : inL (l.take k) b <+: inL l b := by
    have := fnsGo_pre (l.drop k) (fnsGo [] (l.take k))
    rw [← fnsGo_append, List.take_append_drop] at this
    exact this.map _
  obtain ⟨r, hr⟩ := hp
  rw [← hr, List.getD_eq_getElem?_getD, List.getD_eq_getElem?_getD, List.getElem?_append_left (by rw [inL_length, List.length_take]; omega)]
theorem inL_succ {l : List Ex} {k : Nat} {x : Ex} (h : l[k]? = some x) (b : Nat → Bool) : inL (l.take (k + 1)) b = inL (l.take k) b ++ [fnE (fnsGo [] (l.take k)) x b] := by
  rw [List.take_add_one, h]
  exact inL_snoc _ _ _

theorem inL_0 {fs : List Fn} {a b c v : Int} {o : Bool} (h : Nat → Bool) : fnE fs ⟨0, a, b, c, v, o⟩ h = false := by simp [fnE]
theorem inL_1 {fs : List Fn} {a b c v : Int} {o : Bool} (h : Nat → Bool) : fnE fs ⟨1, a, b, c, v, o⟩ h = true := by simp [fnE]
theorem inL_2 {fs : List Fn} {a b c v : Int} {o : Bool} (h : Nat → Bool) : fnE fs ⟨2, a, b, c, v, o⟩ h = (h v.toNat == o) := by simp [fnE]
theorem inL_3 {l : List Ex} {a b c v : Int} {o : Bool} (h : Nat → Bool) : fnE (fnsGo [] l) ⟨3, a, b, c, v, o⟩ h = ((inL l h).getD a.toNat false && (inL l h).getD b.toNat false) := by simp [fnE, inL_at, opF]
theorem inL_4 {l : List Ex} {a b c v : Int} {o : Bool} (h : Nat → Bool) : fnE (fnsGo [] l) ⟨4, a, b, c, v, o⟩ h = ((inL l h).getD a.toNat false || (inL l h).getD b.toNat false) := by simp [fnE, inL_at, opF]
theorem inL_5 {l : List Ex} {a b c v : Int} {o : Bool} (h : Nat → Bool) : fnE (fnsGo [] l) ⟨5, a, b, c, v, o⟩ h = ((inL l h).getD a.toNat false != (inL l h).getD b.toNat false) := by simp [fnE, inL_at, opF]
theorem inL_6 {l : List Ex} {a b c v : Int} {o : Bool} (h : Nat → Bool) : fnE (fnsGo [] l) ⟨6, a, b, c, v, o⟩ h = ((inL l h).getD a.toNat false && !(inL l h).getD b.toNat false) := by simp [fnE, inL_at, opF]
theorem inL_7 {l : List Ex} {a b c v : Int} {o : Bool} (h : Nat → Bool) : fnE (fnsGo [] l) ⟨7, a, b, c, v, o⟩ h = !(inL l h).getD a.toNat false := by simp [fnE, inL_at]
theorem inL_8 {l : List Ex} {a b c v : Int} {o : Bool} (h : Nat → Bool) : fnE (fnsGo [] l) ⟨8, a, b, c, v, o⟩ h = (inL l (updB h v.toNat o)).getD a.toNat false := by simp [fnE, inL_at]
theorem inL_9 {l : List Ex} {a b c v : Int} {o : Bool} (h : Nat → Bool) : fnE (fnsGo [] l) ⟨9, a, b, c, v, o⟩ h = (if (inL l h).getD a.toNat false then (inL l h).getD b.toNat false else (inL l h).getD c.toNat false) := by simp [fnE, inL_at]
theorem inL_bound (l : List Ex) (b : Nat → Bool) (i : Nat) (h : l.length ≤ i) : (inL l b).getD i false = false := by
  rw [List.getD_eq_getElem?_getD, List.getElem?_eq_none (by rw [inL_length]; exact h)]
  rfl

end Go.Proofs.Ytakgghhmecphmaa
