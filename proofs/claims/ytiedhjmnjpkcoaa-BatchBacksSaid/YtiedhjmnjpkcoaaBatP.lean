/- Batches, plainly. -/
import Derived.Test.YtiedhjmnjpkcoaaRNet
namespace Go.Proofs.Ytiedhjmnjpkcoaa
set_option linter.unusedVariables false
set_option linter.unusedSimpArgs false
open Go.RowKit

def badO (o : Op) : Bool := !o.del && decide (o.rule.id < 0 ∨ 1048576 < o.rule.id ∨ o.rule.prio < 0 ∨ 1000 < o.rule.prio)
/-- All changes, one by one: the rules, which one is wrong, why. -/
def appS (ports : List Int) : List Op → Nat → List (List Rl) → List (List Rl) × Int × Int
  | [], _, Ls => (Ls, -1, 0)
  | o :: os, i, Ls => if badO o = true then (Ls, i, 5) else if (chgS ports Ls o).2 ≠ 0 then (Ls, i, (chgS ports Ls o).2) else if 256 < lenT (chgS ports Ls o).1 then (Ls, i, 15) else appS ports os (i + 1) (chgS ports Ls o).1
def batchS (ports : List Int) (l : List Op) (Ls : List (List Rl)) : List (List Rl) × Int × Int := if l.length = 0 then (Ls, -1, 1) else if 32 < l.length then (Ls, -1, 15) else appS ports l 0 Ls

variable {ports : List Int}
theorem appS_cons (o : Op) (os : List Op) (i : Nat) (Ls : List (List Rl)) : appS ports (o :: os) i Ls = if badO o = true then (Ls, (i : Int), 5) else if (chgS ports Ls o).2 ≠ 0 then (Ls, (i : Int), (chgS ports Ls o).2) else if 256 < lenT (chgS ports Ls o).1 then (Ls, (i : Int), 15) else appS ports os (i + 1) (chgS ports Ls o).1 := rfl
theorem appS_append : ∀ (a b : List Op) (i : Nat) (Ls : List (List Rl)), appS ports (a ++ b) i Ls = if (appS ports a i Ls).2.2 ≠ 0 then appS ports a i Ls else appS ports b (i + a.length) (appS ports a i Ls).1
  | [], b, i, Ls => by simp [appS]
  | o :: a, b, i, Ls => by
    have ih := appS_append a b (i + 1) (chgS ports Ls o).1
    rw [List.cons_append, appS_cons, appS_cons]
    by_cases h1 : badO o = true
    · rw [if_pos h1, if_pos h1, if_pos (by simp)]
    · rw [if_neg h1, if_neg h1]
      by_cases h2 : (chgS ports Ls o).2 ≠ 0
      · rw [if_pos h2, if_pos h2, if_pos h2]
      · rw [if_neg h2, if_neg h2]
        by_cases h3 : 256 < lenT (chgS ports Ls o).1
        · rw [if_pos h3, if_pos h3, if_pos (by simp)]
        · rw [if_neg h3, if_neg h3, ih, List.length_cons, show i + 1 + a.length = i + (a.length + 1) by omega]
theorem appS_shift (k : Nat) : ∀ (l : List Op) (i : Nat) (Ls : List (List Rl)), (appS ports l (i + k) Ls).1 = (appS ports l i Ls).1 ∧ (appS ports l (i + k) Ls).2.2 = (appS ports l i Ls).2.2 ∧ ((appS ports l i Ls).2.2 ≠ 0 → (appS ports l (i + k) Ls).2.1 = (appS ports l i Ls).2.1 + k)
  | [], i, Ls => by simp [appS]
  | o :: l, i, Ls => by
    have ih := appS_shift k l (i + 1) (chgS ports Ls o).1
    rw [appS_cons, appS_cons]
    by_cases h1 : badO o = true
    · rw [if_pos h1, if_pos h1]
      exact ⟨rfl, rfl, fun _ => by simp⟩
    · rw [if_neg h1, if_neg h1]
      by_cases h2 : (chgS ports Ls o).2 ≠ 0
      · rw [if_pos h2, if_pos h2]
        exact ⟨rfl, rfl, fun _ => by simp⟩
      · rw [if_neg h2, if_neg h2]
        by_cases h3 : 256 < lenT (chgS ports Ls o).1
        · rw [if_pos h3, if_pos h3]
          exact ⟨rfl, rfl, fun _ => by simp⟩
        · rw [if_neg h3, if_neg h3, show i + k + 1 = i + 1 + k by omega]
          exact ih
theorem NetOk.app : ∀ (l : List Op) (i : Nat) {Ls : List (List Rl)}, NetOk ports Ls → NetOk ports (appS ports l i Ls).1
  | [], _, _, h => h
  | o :: l, i, Ls, h => by
    rw [appS_cons]
    split
    · exact h
    · split
      · exact h
      · split
        · exact h
        · exact NetOk.app l (i + 1) (h.chg o)
end Go.Proofs.Ytiedhjmnjpkcoaa
