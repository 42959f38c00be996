/- Batches one behind the other, plainly. -/
import Derived.Test.YtiedhjmnjpkcoaaBatP
namespace Go.Proofs.Ytiedhjmnjpkcoaa
set_option linter.unusedVariables false
set_option linter.unusedSimpArgs false
open Go.RowKit

variable {ports : List Int}
theorem batchS_app {l : List Op} {Ls : List (List Rl)} (h0 : 0 < l.length) (h1 : l.length ≤ 32) : batchS ports l Ls = appS ports l 0 Ls := by
  unfold batchS
  rw [if_neg (by omega), if_neg (by omega)]
theorem batchS_one {l : List Op} {Ls : List (List Rl)} (h : (batchS ports l Ls).2.2 = 0) : 0 < l.length ∧ l.length ≤ 32 := by
  unfold batchS at h
  by_cases h0 : l.length = 0
  · rw [if_pos h0] at h
    cases h
  · rw [if_neg h0] at h
    by_cases h1 : 32 < l.length
    · rw [if_pos h1] at h
      cases h
    · omega
theorem joins {a b : List Op} {Ls : List (List Rl)} (ha : (batchS ports a Ls).2.2 = 0) (hl : a.length + b.length ≤ 32) :
    (b = [] → (batchS ports b (batchS ports a Ls).1).2.2 = 1 ∧ (batchS ports (a ++ b) Ls).2.2 = 0) ∧
    (b ≠ [] → (batchS ports (a ++ b) Ls).1 = (batchS ports b (batchS ports a Ls).1).1 ∧ (batchS ports (a ++ b) Ls).2.2 = (batchS ports b (batchS ports a Ls).1).2.2 ∧ ((batchS ports b (batchS ports a Ls).1).2.2 ≠ 0 → (batchS ports (a ++ b) Ls).2.1 = (batchS ports b (batchS ports a Ls).1).2.1 + a.length)) := by
  obtain ⟨h0, h1⟩ := batchS_one ha
  refine ⟨?_, fun hb => ?_⟩
  · rintro rfl
    rw [List.append_nil]
    exact ⟨by unfold batchS; rfl, ha⟩
  · have hb0 := List.length_pos_iff.2 hb
    rw [batchS_app h0 h1] at ha ⊢
    rw [batchS_app hb0 (by omega), batchS_app (by rw [List.length_append]; omega) (by rw [List.length_append]; exact hl), appS_append, if_neg (by simp [ha])]
    have h := appS_shift (ports := ports) a.length b 0 (appS ports a 0 Ls).1
    exact h
theorem app_lenT : ∀ (l : List Op) (i : Nat) (Ls : List (List Rl)), lenT Ls ≤ 256 → (appS ports l i Ls).2.2 = 0 → lenT (appS ports l i Ls).1 ≤ 256
  | [], _, _, h, _ => h
  | o :: l, i, Ls, h, he => by
    rw [appS_cons] at he ⊢
    by_cases h1 : badO o = true
    · rw [if_pos h1] at he
      cases he
    · rw [if_neg h1] at he ⊢
      by_cases h2 : (chgS ports Ls o).2 ≠ 0
      · rw [if_pos h2] at he
        exact absurd he h2
      · rw [if_neg h2] at he ⊢
        by_cases h3 : 256 < lenT (chgS ports Ls o).1
        · rw [if_pos h3] at he
          cases he
        · rw [if_neg h3] at he ⊢
          exact app_lenT l (i + 1) _ (by omega) he
end Go.Proofs.Ytiedhjmnjpkcoaa
