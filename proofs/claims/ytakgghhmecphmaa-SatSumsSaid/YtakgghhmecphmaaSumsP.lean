/- What SatSums asks, in plain lists and numbers. -/
import Derived.Test.YtakgghhmecphmaaHasF
import Derived.Test.YtakgghhmecphmaaWays
import Derived.Test.YtakgghhmecphmaaWithinP
namespace Go.Proofs.Ytakgghhmecphmaa
set_option linter.unusedVariables false
set_option linter.unusedSimpArgs false

theorem cnt_has {A : Arn} {f : Nat} {F : Fn} (h : Has A f F) : cntA A f = ways 104 F := ways_congr 104 h.2

theorem sums_plain {A : Arn} (hG : Good 184322 A) {f g : Nat} (hf : f < A.nodes.length) (hg : g < A.nodes.length) :
    ∃ x A1 y A2 z A3, joinA A 0 f g = (some x, A1) ∧ joinA A1 1 f g = (some y, A2) ∧ joinA A2 3 1 f = (some z, A3) ∧ A1.OK ∧ A2.OK ∧ A3.OK ∧ f < A1.nodes.length ∧ g < A1.nodes.length ∧ f < A2.nodes.length ∧
      f < A3.nodes.length ∧ g < A3.nodes.length ∧ x < A3.nodes.length ∧ y < A3.nodes.length ∧ z < A3.nodes.length ∧ cntA A3 x + cntA A3 y = cntA A3 f + cntA A3 g ∧ cntA A3 f + cntA A3 z = 2 ^ 104 ∧ WI A3 x f ∧ WI A3 f y ∧ (WI A3 f g ↔ x = f) := by
  have F0 : Has A f (fun b => inA A b f) := ⟨hf, fun _ => rfl⟩
  have Q0 : Has A g (fun b => inA A b g) := ⟨hg, fun _ => rfl⟩
  generalize (fun b => inA A b f) = F at F0
  generalize (fun b => inA A b g) = G at Q0
  obtain ⟨x, A1, e1, G1, X1, H1⟩ := good_join hG (by omega) (k := 0) (by omega) F0 Q0
  have F1 := F0.ext hG.ok G1.ok X1
  have Q1 := Q0.ext hG.ok G1.ok X1
  obtain ⟨y, A2, e2, G2, X2, H2⟩ := good_join G1 (by omega) (k := 1) (by omega) F1 Q1
  have F2 := F1.ext G1.ok G2.ok X2
  have Q2 := Q1.ext G1.ok G2.ok X2
  obtain ⟨z, A3, e3, G3, X3, H3⟩ := good_join G2 (by omega) (k := 3) (by omega) (Has.one G2.ok) F2
  have F3 := F2.ext G2.ok G3.ok X3
  have Q3 := Q2.ext G2.ok G3.ok X3
  have x3 := (H1.ext G1.ok G2.ok X2).ext G2.ok G3.ok X3
  have y3 := H2.ext G2.ok G3.ok X3
  refine ⟨x, A1, y, A2, z, A3, e1, e2, e3, G1.ok, G2.ok, G3.ok, F1.1, Q1.1, F2.1, F3.1, Q3.1, x3.1, y3.1, H3.1, ?_, ?_, ?_, ?_, ?_⟩
  · rw [cnt_has x3, cnt_has y3, cnt_has F3, cnt_has Q3, ← ways_sum 104 F G]
    rfl
  · rw [cnt_has F3, cnt_has H3, ← ways_not 104 F]
    congr 1
  · intro b hb
    rw [x3.2] at hb
    rw [F3.2]
    simp [opF] at hb
    exact hb.1
  · intro b hb
    rw [F3.2] at hb
    rw [y3.2]
    simp [opF, hb]
  · constructor
    · intro hw
      refine Has.same G3.ok x3 F3 fun b => ?_
      have := hw b
      rw [F3.2, Q3.2] at this
      simp only [opF]
      cases hF : F b
      · simp
      · simp [this hF]
    · rintro rfl b hb
      rw [x3.2] at hb
      rw [Q3.2]
      simp [opF] at hb
      exact hb.2

end Go.Proofs.Ytakgghhmecphmaa
