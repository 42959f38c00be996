/- How many headers a set has: ways to hold its bits, in plain numbers. No program in sight. -/
import Derived.Test.YtakgghhmecphmaaCubeP
namespace Go.Proofs.Ytakgghhmecphmaa
set_option linter.unusedVariables false
set_option linter.unusedSimpArgs false

/-- In how many ways the last d of 104 bits may be held so that F says yes. -/
def ways : Nat → Fn → Nat
  | 0, F => (F (fun _ => false)).toNat
  | d + 1, F => ways d (fun b => F (updB b (103 - d) false)) + ways d (fun b => F (updB b (103 - d) true))

theorem ways_succ (d : Nat) (F : Fn) : ways (d + 1) F = ways d (fun b => F (updB b (103 - d) false)) + ways d (fun b => F (updB b (103 - d) true)) := rfl
theorem ways_congr : ∀ (d : Nat) {F G : Fn}, (∀ b, F b = G b) → ways d F = ways d G
  | 0, F, G, h => by unfold ways; rw [h]
  | d + 1, F, G, h => by
    unfold ways
    rw [ways_congr d (F := fun b => F (updB b (103 - d) false)) (G := fun b => G (updB b (103 - d) false)) (fun b => h _),
      ways_congr d (F := fun b => F (updB b (103 - d) true)) (G := fun b => G (updB b (103 - d) true)) (fun b => h _)]

theorem ways_le : ∀ (d : Nat) (F : Fn), ways d F ≤ 2 ^ d
  | 0, F => by simp only [ways]; generalize F (fun _ => false) = x; revert x; decide
  | d + 1, F => by
    unfold ways
    have a := ways_le d (fun b => F (updB b (103 - d) false))
    have c := ways_le d (fun b => F (updB b (103 - d) true))
    rw [Nat.pow_succ]
    omega

theorem ways_false : ∀ (d : Nat), ways d (fun _ => false) = 0
  | 0 => rfl
  | d + 1 => by unfold ways; rw [ways_false d]
theorem ways_true : ∀ (d : Nat), ways d (fun _ => true) = 2 ^ d
  | 0 => rfl
  | d + 1 => by unfold ways; rw [ways_true d, Nat.pow_succ]; omega

/-- What both have, and what one of them has. -/
theorem ways_sum : ∀ (d : Nat) (F G : Fn), ways d (fun b => F b && G b) + ways d (fun b => F b || G b) = ways d F + ways d G
  | 0, F, G => by simp only [ways]; generalize F (fun _ => false) = x; generalize G (fun _ => false) = y; revert x y; decide
  | d + 1, F, G => by
    simp only [ways]
    have a := ways_sum d (fun b => F (updB b (103 - d) false)) (fun b => G (updB b (103 - d) false))
    have c := ways_sum d (fun b => F (updB b (103 - d) true)) (fun b => G (updB b (103 - d) true))
    omega
theorem ways_not : ∀ (d : Nat) (F : Fn), ways d F + ways d (fun b => !F b) = 2 ^ d
  | 0, F => by simp only [ways]; generalize F (fun _ => false) = x; revert x; decide
  | d + 1, F => by
    simp only [ways]
    have a := ways_not d (fun b => F (updB b (103 - d) false))
    have c := ways_not d (fun b => F (updB b (103 - d) true))
    rw [Nat.pow_succ]
    omega
/-- A set falls into what another one has of it and what it hasn't. -/
theorem ways_cut : ∀ (d : Nat) (F G : Fn), ways d (fun b => F b && G b) + ways d (fun b => F b && !G b) = ways d F
  | 0, F, G => by simp only [ways]; generalize F (fun _ => false) = x; generalize G (fun _ => false) = y; revert x y; decide
  | d + 1, F, G => by
    simp only [ways]
    have a := ways_cut d (fun b => F (updB b (103 - d) false)) (fun b => G (updB b (103 - d) false))
    have c := ways_cut d (fun b => F (updB b (103 - d) true)) (fun b => G (updB b (103 - d) true))
    omega

/-- A bit that isn't asked doubles. -/
theorem ways_skip (d : Nat) {F : Fn} (h : ∀ b x, F (updB b (103 - d) x) = F b) : ways (d + 1) F = 2 * ways d F := by
  rw [ways_succ]
  rw [ways_congr d (F := fun b => F (updB b (103 - d) false)) (G := F) (fun b => h b false), ways_congr d (F := fun b => F (updB b (103 - d) true)) (G := F) (fun b => h b true)]
  omega
theorem ways_skips {F : Fn} (d : Nat) : ∀ (k : Nat), (∀ j, j < k → ∀ b x, F (updB b (103 - (d + j)) x) = F b) → ways (d + k) F = 2 ^ k * ways d F
  | 0, _ => by simp
  | k + 1, h => by
    rw [← Nat.add_assoc, ways_skip (d + k) (h k (by omega)), ways_skips d k (fun j hj => h j (by omega)), Nat.pow_succ]
    rw [Nat.mul_comm (2 ^ k) 2, Nat.mul_assoc]

/-- The ways of a set's own bits. -/
def waysA (A : Arn) (f : Nat) : Nat := ways (104 - A.lv f) (fun b => inA A b f)
theorem waysA_up {A : Arn} (hA : A.OK) {f v : Nat} (hf : f < A.nodes.length) (hv : v ≤ A.lv f) : ways (104 - v) (fun b => inA A b f) = 2 ^ (A.lv f - v) * waysA A f := by
  have hl := hA.lv_le f
  have := ways_skips (F := fun b => inA A b f) (104 - A.lv f) (A.lv f - v) (fun j hj b x => inA_upd hA b x hf (by omega))
  rw [show 104 - A.lv f + (A.lv f - v) = 104 - v by omega] at this
  exact this
theorem waysA_zero {A : Arn} (hA : A.OK) : waysA A 0 = 0 := by
  unfold waysA
  rw [ways_congr _ (G := fun _ => false) (fun b => inA_zero A b), ways_false]
theorem waysA_one {A : Arn} (hA : A.OK) : waysA A 1 = 1 := by
  unfold waysA
  rw [ways_congr _ (G := fun _ => true) (fun b => inA_one A b), ways_true, hA.lv_one]
theorem waysA_node {A : Arn} (hA : A.OK) {f : Nat} (hf : f < A.nodes.length) (h2 : 2 ≤ f) :
    waysA A f = 2 ^ (A.lv (A.nd f).low - A.lv f - 1) * waysA A (A.nd f).low + 2 ^ (A.lv (A.nd f).high - A.lv f - 1) * waysA A (A.nd f).high := by
  obtain ⟨a, b, c, d, e1, e2⟩ := hA.at_ hf h2
  have u0 := waysA_up hA (f := (A.nd f).low) (v := A.lv f + 1) (by omega) (by omega)
  have u1 := waysA_up hA (f := (A.nd f).high) (v := A.lv f + 1) (by omega) (by omega)
  rw [show A.lv (A.nd f).low - (A.lv f + 1) = A.lv (A.nd f).low - A.lv f - 1 by omega] at u0
  rw [show A.lv (A.nd f).high - (A.lv f + 1) = A.lv (A.nd f).high - A.lv f - 1 by omega] at u1
  rw [← u0, ← u1]
  have hs : 104 - A.lv f = (104 - (A.lv f + 1)) + 1 := by omega
  have hq : 103 - (104 - (A.lv f + 1)) = A.lv f := by omega
  unfold waysA
  rw [hs, ways_succ, hq]
  rw [ways_congr _ (F := fun b => inA A (updB b (A.lv f) false) f) (G := fun b => inA A b (A.nd f).low) (fun b => by have := inA_part hA b false hf h2; simpa using this),
    ways_congr _ (F := fun b => inA A (updB b (A.lv f) true) f) (G := fun b => inA A b (A.nd f).high) (fun b => by have := inA_part hA b true hf h2; simpa using this)]

/-- How many headers a set has. -/
def cntA (A : Arn) (f : Nat) : Nat := ways 104 (fun b => inA A b f)
theorem cntA_eq {A : Arn} (hA : A.OK) {f : Nat} (hf : f < A.nodes.length) : cntA A f = 2 ^ A.lv f * waysA A f := waysA_up hA (v := 0) hf (Nat.zero_le _)
theorem cntA_le (A : Arn) (f : Nat) : cntA A f ≤ 2 ^ 104 := ways_le _ _

/-- A cube's ways. -/
theorem ways_agree : ∀ (d : Nat) (l : List (Nat × Bool)), d ≤ 104 → l.Pairwise (fun a b => a.1 < b.1) → (∀ x ∈ l, 104 - d ≤ x.1 ∧ x.1 < 104) → l.length ≤ d ∧ ways d (fun b => agree b l) = 2 ^ (d - l.length)
  | 0, l, _, _, h => by
    cases l with
    | nil => simp [ways, agree]
    | cons x r => have := h x (by simp); omega
  | d + 1, [], _, _, _ => by
    refine ⟨by simp, ?_⟩
    exact (ways_congr (d + 1) (F := fun b => agree b []) (G := fun _ => true) (fun b => rfl)).trans (ways_true (d + 1))
  | d + 1, x :: r, hd, hp, h => by
    obtain ⟨p1, p2⟩ := List.pairwise_cons.1 hp
    have hx := h x (by simp)
    by_cases e : x.1 = 103 - d
    · have hr : ∀ y ∈ r, 104 - d ≤ y.1 ∧ y.1 < 104 := fun y hy => ⟨by have := p1 y hy; omega, (h y (by simp [hy])).2⟩
      obtain ⟨q1, q2⟩ := ways_agree d r (by omega) p2 hr
      have hag : ∀ b on, agree (updB b (103 - d) on) (x :: r) = ((on == x.2) && agree b r) := fun b on => by
        unfold agree
        rw [List.all_cons, e, updB_same]
        congr 1
        rw [Bool.eq_iff_iff]
        simp only [List.all_eq_true]
        exact ⟨fun k y hy => by have := k y hy; rwa [updB_other b on (by have := (hr y hy).1; omega)] at this, fun k y hy => by rw [updB_other b on (by have := (hr y hy).1; omega)]; exact k y hy⟩
      refine ⟨by simp; omega, ?_⟩
      rw [ways_succ]
      rw [ways_congr d (fun b => hag b false), ways_congr d (fun b => hag b true), List.length_cons, show d + 1 - (r.length + 1) = d - r.length by omega]
      cases x.2
      · rw [ways_congr d (F := fun b => ((false == false) && agree b r)) (G := fun b => agree b r) (fun b => by simp), ways_congr d (F := fun b => ((true == false) && agree b r)) (G := fun _ => false) (fun b => by simp), ways_false, q2]
        omega
      · rw [ways_congr d (F := fun b => ((true == true) && agree b r)) (G := fun b => agree b r) (fun b => by simp), ways_congr d (F := fun b => ((false == true) && agree b r)) (G := fun _ => false) (fun b => by simp), ways_false, q2]
        omega
    · have hr : ∀ y ∈ x :: r, 104 - d ≤ y.1 ∧ y.1 < 104 := fun y hy => by
        refine ⟨?_, (h y hy).2⟩
        rcases List.mem_cons.1 hy with rfl | hy
        · omega
        · have := p1 y hy; omega
      obtain ⟨q1, q2⟩ := ways_agree d (x :: r) (by omega) hp hr
      refine ⟨by omega, ?_⟩
      rw [ways_skip d (fun b on => ?_), q2, show d + 1 - (x :: r).length = (d - (x :: r).length) + 1 by omega, Nat.pow_succ]
      · omega
      · unfold agree
        rw [Bool.eq_iff_iff]
        simp only [List.all_eq_true]
        exact ⟨fun k y hy => by have := k y hy; rwa [updB_other b on (by have := (hr y hy).1; omega)] at this, fun k y hy => by rw [updB_other b on (by have := (hr y hy).1; omega)]; exact k y hy⟩

end Go.Proofs.Ytakgghhmecphmaa
