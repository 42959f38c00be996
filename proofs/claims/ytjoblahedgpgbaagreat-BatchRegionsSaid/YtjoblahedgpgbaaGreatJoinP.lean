/- Batches, plainly. · Batches one behind the other, plainly. -/
import Derived.Test.YtjoblahedgpgbaaGreatRNet
namespace Go.Proofs.YtjoblahedgpgbaaGreat
set_option linter.unusedVariables false
set_option linter.unusedSimpArgs false
open Go.RowKit

def badO (o : Op) : Bool := !o.del && decide (o.rule.id < 0 ∨ 1048576 < o.rule.id ∨ o.rule.prio < 0 ∨ 1000 < o.rule.prio)
/-- All changes, one by one: the rules, which one is wrong, why. -/
def appS (ports : List Int) : List Op → Nat → List (List Rl) → List (List Rl) × Int × Int
  | [], _, Ls => (Ls, -1, 0)
  | o :: os, i, Ls => if badO o = true then (Ls, i, 5) else if (chgS ports Ls o).2 ≠ 0 then (Ls, i, (chgS ports Ls o).2) else if 256 < lenT (chgS ports Ls o).1 then (Ls, i, 15) else appS ports os (i + 1) (chgS ports Ls o).1
def batchS (ports : List Int) (l : List Op) (Ls : List (List Rl)) : List (List Rl) × Int × Int := if l.length = 0 then (Ls, -1, 1) else if 32 < l.length then (Ls, -1, 15) else appS ports l 0 Ls

variable {ports : List Int}
theorem appS_cons (o : Op) (os : List Op) (i : Nat) (Ls : List (List Rl)) : appS ports (o :: os) i Ls = if badO o = true then (Ls, (i : Int), 5) else if (chgS ports Ls o).2 ≠ 0 then (Ls, (i : Int), (chgS ports Ls o).2) else if 256 < lenT (chgS ports Ls o).1 then (Ls, (i : Int), 15) else appS ports os (i + 1) (chgS ports Ls o).1 := rfl
theorem appS_append : ∀ (a b : List Op) (i : Nat) (Ls : List (List Rl)), appS ports (a ++ b) i Ls = if (appS ports a i Ls).2.2 ≠ 0 then appS ports a i Ls else appS ports b (i + a.length) (appS ports a i Ls).1
  | [], b, i, Ls => by simp [appS]
  | o :: a, b, i, Ls => by
    have ih := appS_append a b (i + 1) (chgS ports Ls o).1
    rw [List.cons_append, appS_cons, appS_cons]
    by_cases h1 : badO o = true
    · rw [if_pos h1, if_pos h1, if_pos (by simp)]
    · rw [if_neg h1, if_neg h1]
      by_cases h2 : (chgS ports Ls o).2 ≠ 0
      · rw [if_pos h2, if_pos h2, if_pos h2]
      · rw [if_neg h2, if_neg h2]
        by_cases h3 : 256 < lenT (chgS ports Ls o).1
        · rw [if_pos h3, if_pos h3, if_pos (by simp)]
        · rw [if_neg h3, if_neg h3, ih, List.length_cons, show i + 1 + a.length = i + (a.length + 1) by omega]
theorem appS_shift (k : Nat) : ∀ (l : List Op) (i : Nat) (Ls : List (List Rl)), (appS ports l (i + k) Ls).1 = (appS ports l i Ls).1 ∧ (appS ports l (i + k) Ls).2.2 = (appS ports l i Ls).2.2 ∧ ((appS ports l i Ls).2.2 ≠ 0 → (appS ports l (i + k) Ls).2.1 = (appS ports l i Ls).2.1 + k)
  | [], i, Ls => by simp [appS]
  | o :: l, i, Ls => by
    have ih := appS_shift k l (i + 1) (chgS ports Ls o).1
    rw [appS_cons, appS_cons]
    by_cases h1 : badO o = true
    · rw [if_pos h1, if_pos h1]
      exact ⟨rfl, rfl, fun _ => by simp⟩
    · rw [if_neg h1, if_neg h1]
      by_cases h2 : (chgS ports Ls o).2 ≠ 0
      · rw [if_pos h2, if_pos h2]
        exact ⟨rfl, rfl, fun _ => by simp⟩
      · rw [if_neg h2, if_neg h2]
        by_cases h3 : 256 < lenT (chgS ports Ls o).1
        · rw [if_pos h3, if_pos h3]
          exact ⟨rfl, rfl, fun _ => by simp⟩
        · rw [if_neg h3, if_neg h3, show i + k + 1 = i + 1 + k by omega]
          exact ih
theorem NetOk.app : ∀ (l : List Op) (i : Nat) {Ls : List (List Rl)}, NetOk ports Ls → NetOk ports (appS ports l i Ls).1
  | [], _, _, h => h
  | o :: l, i, Ls, h => by
    rw [appS_cons]
    split
    · exact h
    · split
      · exact h
      · split
        · exact h
        · exact NetOk.app l (i + 1) (h.chg o)
end Go.Proofs.YtjoblahedgpgbaaGreat

namespace Go.Proofs.YtjoblahedgpgbaaGreat
set_option linter.unusedVariables false
set_option linter.unusedSimpArgs false
open Go.RowKit

variable {ports : List Int}
theorem batchS_app {l : List Op} {Ls : List (List Rl)} (h0 : 0 < l.length) (h1 : l.length ≤ 32) : batchS ports l Ls = appS ports l 0 Ls := by
  unfold batchS
  rw [if_neg (by omega), if_neg (by omega)]
theorem batchS_one {l : List Op} {Ls : List (List Rl)} (h : (batchS ports l Ls).2.2 = 0) : 0 < l.length ∧ l.length ≤ 32 := by
  unfold batchS at h
  by_cases h0 : l.length = 0
  · rw [if_pos h0] at h
    cases h
  · rw [if_neg h0] at h
    by_cases h1 : 32 < l.length
    · rw [if_pos h1] at h
      cases h
    · omega
theorem joins {a b : List Op} {Ls : List (List Rl)} (ha : (batchS ports a Ls).2.2 = 0) (hl : a.length + b.length ≤ 32) :
    (b = [] → (batchS ports b (batchS ports a Ls).1).2.2 = 1 ∧ (batchS ports (a ++ b) Ls).2.2 = 0) ∧
    (b ≠ [] → (batchS ports (a ++ b) Ls).1 = (batchS ports b (batchS ports a Ls).1).1 ∧ (batchS ports (a ++ b) Ls).2.2 = (batchS ports b (batchS ports a Ls).1).2.2 ∧ ((batchS ports b (batchS ports a Ls).1).2.2 ≠ 0 → (batchS ports (a ++ b) Ls).2.1 = (batchS ports b (batchS ports a Ls).1).2.1 + a.length)) := by
  obtain ⟨h0, h1⟩ := batchS_one ha
  refine ⟨?_, fun hb => ?_⟩
  · rintro rfl
    rw [List.append_nil]
    exact ⟨by unfold batchS; rfl, ha⟩
  · have hb0 := List.length_pos_iff.2 hb
    rw [batchS_app h0 h1] at ha ⊢
    rw [batchS_app hb0 (by omega), batchS_app (by rw [List.length_append]; omega) (by rw [List.length_append]; exact hl), appS_append, if_neg (by simp [ha])]
    have h := appS_shift (ports := ports) a.length b 0 (appS ports a 0 Ls).1
    exact h
theorem app_lenT : ∀ (l : List Op) (i : Nat) (Ls : List (List Rl)), lenT Ls ≤ 256 → (appS ports l i Ls).2.2 = 0 → lenT (appS ports l i Ls).1 ≤ 256
  | [], _, _, h, _ => h
  | o :: l, i, Ls, h, he => by
    rw [appS_cons] at he ⊢
    by_cases h1 : badO o = true
    · rw [if_pos h1] at he
      cases he
    · rw [if_neg h1] at he ⊢
      by_cases h2 : (chgS ports Ls o).2 ≠ 0
      · rw [if_pos h2] at he
        exact absurd he h2
      · rw [if_neg h2] at he ⊢
        by_cases h3 : 256 < lenT (chgS ports Ls o).1
        · rw [if_pos h3] at he
          cases he
        · rw [if_neg h3] at he ⊢
          exact app_lenT l (i + 1) _ (by omega) he
theorem app_at : ∀ (l : List Op) (i : Nat) (Ls : List (List Rl)), (appS ports l i Ls).2.2 ≠ 0 → (i : Int) ≤ (appS ports l i Ls).2.1 ∧ (appS ports l i Ls).2.1 < i + l.length
  | [], _, _, h => absurd rfl h
  | o :: l, i, Ls, h => by
    rw [appS_cons] at h ⊢
    rw [List.length_cons]
    by_cases h1 : badO o = true
    · rw [if_pos h1]
      simp only
      omega
    · rw [if_neg h1] at h ⊢
      by_cases h2 : (chgS ports Ls o).2 ≠ 0
      · rw [if_pos h2]
        simp only
        omega
      · rw [if_neg h2] at h ⊢
        by_cases h3 : 256 < lenT (chgS ports Ls o).1
        · rw [if_pos h3]
          simp only
          omega
        · rw [if_neg h3] at h ⊢
          have := app_at l (i + 1) _ h
          omega
theorem batch_at {l : List Op} {Ls Lx : List (List Rl)} {a e : Int} (h : batchS ports l Ls = (Lx, a, e)) : -1 ≤ a ∧ a ≤ 32 := by
  unfold batchS at h
  by_cases h0 : l.length = 0
  · rw [if_pos h0] at h
    cases h
    omega
  · rw [if_neg h0] at h
    by_cases h1 : 32 < l.length
    · rw [if_pos h1] at h
      cases h
      omega
    · rw [if_neg h1] at h
      by_cases he : e = 0
      · have : ∀ (l : List Op) (i : Nat) (Ls : List (List Rl)), (appS ports l i Ls).2.2 = 0 → (appS ports l i Ls).2.1 = -1 := by
          intro l
          induction l with
          | nil => intro i Ls _; rfl
          | cons o l ih =>
            intro i Ls hh
            rw [appS_cons] at hh ⊢
            by_cases h1 : badO o = true
            · rw [if_pos h1] at hh; cases hh
            · rw [if_neg h1] at hh ⊢
              by_cases h2 : (chgS ports Ls o).2 ≠ 0
              · rw [if_pos h2] at hh; exact absurd hh h2
              · rw [if_neg h2] at hh ⊢
                by_cases h3 : 256 < lenT (chgS ports Ls o).1
                · rw [if_pos h3] at hh; cases hh
                · rw [if_neg h3] at hh ⊢
                  exact ih _ _ hh
        have := this l 0 Ls (by rw [h]; exact he)
        rw [h] at this
        simp only at this
        omega
      · have := app_at l 0 Ls (by rw [h]; exact he)
        rw [h] at this
        simp only at this
        omega
/-- Rules have one order. -/
theorem pair_of {L : List Rl} (hn : (L.map (·.id)).Nodup) : ∃ l, Pair L l := by
  have hp := List.mergeSort_perm L (fun a b => !aheadR b a)
  have hnd : ((L.mergeSort (fun a b => !aheadR b a)).map (·.id)).Nodup := (hp.map _).nodup_iff.2 hn
  refine ⟨_, hp, ?_, hnd⟩
  have hs := List.pairwise_mergeSort (le := fun a b => !aheadR b a) (fun a b c h1 h2 => by
    simp only [Bool.not_eq_true'] at *
    rw [ahead_false] at *
    omega) (fun a b => by
    cases h : aheadR b a with
    | false => rfl
    | true => simp [ahead_asym h]) L
  have hd : (L.mergeSort (fun a b => !aheadR b a)).Pairwise (fun a b => a.id ≠ b.id) := List.pairwise_map.1 hnd
  refine (hs.and hd).imp fun {a b} h => ?_
  exact ahead_total (by simpa using h.1) (Ne.symm h.2)
end Go.Proofs.YtjoblahedgpgbaaGreat
