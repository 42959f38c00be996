/- Where some prefix begins, or ends: plain. -/
import Derived.Test.YtiedhjmnjpkcoaaHidQ
namespace Go.Proofs.Ytiedhjmnjpkcoaa
set_option linter.unusedVariables false
set_option linter.unusedSimpArgs false
open Go.RowKit

theorem hasN_range {p n x : Nat} (hr : p % 2 ^ (32 - n) = 0) : hasN p n x = true ↔ p ≤ x ∧ x ≤ lastN p n := by
  unfold hasN lastN
  rw [beq_iff_eq]
  have hz := Nat.two_pow_pos (32 - n)
  obtain ⟨c, hc⟩ := Nat.dvd_of_mod_eq_zero hr
  generalize 2 ^ (32 - n) = z at *
  subst hc
  rw [Nat.mul_div_cancel_left _ hz]
  constructor
  · intro h
    have h1 := Nat.div_mul_le_self x z
    have h2 := Nat.lt_div_mul_add (a := x) hz
    rw [h] at h1 h2
    rw [Nat.mul_comm] at h1 h2
    omega
  · rintro ⟨h1, h2⟩
    rw [Nat.div_eq_iff hz]
    rw [Nat.mul_comm] at h1 h2
    omega

def lastR (y : Rl) : Nat := lastN y.addr y.bits.toNat
theorem hasR_range {r : Rl} (h : r.Ok) (x : Nat) : hasR x r = true ↔ r.addr ≤ x ∧ x ≤ lastR r := hasN_range ((rtB_iff _).1 h.2.1).2.2

/-- The addresses of one rule at which to look. -/
def candY (r y : Rl) : List Nat := (if hasR y.addr r = true then [y.addr] else []) ++ (if lastR y < 4294967295 ∧ hasR (lastR y + 1) r = true then [lastR y + 1] else [])
def cand (r : Rl) (ys : List Rl) : List Nat := r.addr :: ys.flatMap (candY r)
theorem cand_snoc (r y : Rl) (ys : List Rl) : cand r (ys ++ [y]) = cand r ys ++ candY r y := by simp [cand]
theorem candY_len (r y : Rl) : (candY r y).length ≤ 2 := by
  unfold candY
  split <;> split <;> simp
theorem cand_len (r : Rl) (ys : List Rl) : (cand r ys).length ≤ 1 + 2 * ys.length := by
  induction ys with
  | nil => simp [cand]
  | cons y ys ih =>
    have := candY_len r y
    simp only [cand, List.flatMap_cons, List.length_cons, List.length_append] at *
    omega
theorem cand_in {r : Rl} (h : r.Ok) (ys : List Rl) (hys : ∀ y ∈ ys, y.Ok) : ∀ c ∈ cand r ys, c < 2 ^ 32 ∧ hasR c r = true := by
  intro c hc
  rcases List.mem_cons.1 hc with rfl | hc
  · exact ⟨h.1, by unfold hasR hasN; simp⟩
  · obtain ⟨y, hy, hc⟩ := List.mem_flatMap.1 hc
    unfold candY at hc
    rcases List.mem_append.1 hc with hc | hc
    · split at hc
      · obtain rfl : c = y.addr := by simpa using hc
        exact ⟨(hys y hy).1, by assumption⟩
      · cases hc
    · split at hc
      · rename_i h2
        obtain rfl : c = lastR y + 1 := by simpa using hc
        exact ⟨by omega, h2.2⟩
      · cases hc

theorem cand_all {r : Rl} (h : r.Ok) {ys : List Rl} (hys : ∀ y ∈ ys, y.Ok) : (∀ c ∈ cand r ys, ∃ y ∈ ys, hasR c y = true) ↔ ∀ x, x < 2 ^ 32 → hasR x r = true → ∃ y ∈ ys, hasR x y = true := by
  constructor
  · intro hall x hx hxr
    apply Classical.byContradiction
    intro hno
    obtain ⟨x1, x2⟩ := (hasR_range h x).1 hxr
    have key : ∀ k c, c ∈ cand r ys → c ≤ x → x - c ≤ k → False := by
      intro k
      induction k with
      | zero =>
        intro c hc hcx hk
        obtain rfl : c = x := by omega
        exact hno (hall c hc)
      | succ k ih =>
        intro c hc hcx hk
        obtain ⟨y, hy, hyc⟩ := hall c hc
        obtain ⟨y1, y2⟩ := (hasR_range (hys y hy) c).1 hyc
        have hyx : ¬ (y.addr ≤ x ∧ x ≤ lastR y) := fun hh => hno ⟨y, hy, (hasR_range (hys y hy) x).2 hh⟩
        have hlast : lastR y < x := by omega
        obtain ⟨c1, c2⟩ := (hasR_range h c).1 (cand_in h ys hys c hc).2
        have hin : hasR (lastR y + 1) r = true := (hasR_range h _).2 ⟨by omega, by omega⟩
        refine ih (lastR y + 1) (List.mem_cons_of_mem _ (List.mem_flatMap.2 ⟨y, hy, ?_⟩)) (by omega) (by omega)
        unfold candY
        refine List.mem_append_right _ ?_
        rw [if_pos ⟨by omega, hin⟩]
        simp
    exact key (x - r.addr) r.addr (by simp [cand]) x1 (Nat.le_refl _)
  · intro hh c hc
    obtain ⟨c1, c2⟩ := cand_in h ys hys c hc
    exact hh c c1 c2

/-- Who is the best at one of them. -/
theorem best_cand {l l1 l2 : List Rl} {r : Rl} (hn : (l.map (·.id)).Nodup) (h : l = l1 ++ r :: l2) {c : Nat} (hc : hasR c r = true) : ((l.find? (hasR c)).getD noRule).id = r.id ↔ ¬ ∃ y ∈ l1, hasR c y = true := by
  rw [h, List.find?_append]
  have h2 : (r :: l2).find? (hasR c) = some r := List.find?_cons_of_pos hc
  rw [h2]
  cases hf : l1.find? (hasR c) with
  | none =>
    have := List.find?_eq_none.1 hf
    constructor
    · rintro _ ⟨y, hy, hyc⟩
      exact this y hy hyc
    · intro _
      rfl
  | some y =>
    have hy := List.mem_of_find?_eq_some hf
    have hyc := List.find?_some hf
    constructor
    · intro e
      exfalso
      have e : y.id = r.id := e
      rw [h, List.map_append, List.map_cons] at hn
      obtain ⟨_, _, n3⟩ := List.nodup_append.1 hn
      exact n3 y.id (List.mem_map_of_mem hy) r.id (by simp) e
    · intro hno
      exact absurd ⟨y, hy, hyc⟩ hno

theorem hidd_cand {l l1 l2 : List Rl} {r : Rl} (hn : (l.map (·.id)).Nodup) (hok : ∀ y ∈ l, y.Ok) (h : l = l1 ++ r :: l2) : Hidd l r.id ↔ ∀ c ∈ cand r l1, ((l.find? (hasR c)).getD noRule).id ≠ r.id := by
  have hr : r.Ok := hok r (by rw [h]; simp)
  have h1 : ∀ y ∈ l1, y.Ok := fun y hy => hok y (by rw [h]; exact List.mem_append_left _ hy)
  rw [hidd_at hn h, ← cand_all hr h1]
  constructor
  · intro hh c hc e
    exact (best_cand hn h (cand_in hr l1 h1 c hc).2).1 e (hh c hc)
  · intro hh c hc
    apply Classical.byContradiction
    intro hno
    exact hh c hc ((best_cand hn h (cand_in hr l1 h1 c hc).2).2 hno)
end Go.Proofs.Ytiedhjmnjpkcoaa
