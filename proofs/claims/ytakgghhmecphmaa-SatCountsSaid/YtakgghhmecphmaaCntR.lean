/- What the program's Count and Least of a made set come to, by all ways: plainly. -/
import Derived.Test.YtakgghhmecphmaaCntQ
import Derived.Test.YtakgghhmecphmaaHeldP
namespace Go.Proofs.Ytakgghhmecphmaa
set_option linter.unusedVariables false
set_option linter.unusedSimpArgs false

variable {A : Arn} {out : List Nat} {l : List Ex}
theorem law_in (hS : SemL A out (fnsGo [] l)) (i : Nat) (b : Nat → Bool) : inA A b (out.getD i 0) = (inL l b).getD i false := by
  rw [hS.2 i b, inL_at]
theorem law_cnt (hS : SemL A out (fnsGo [] l)) (i : Nat) : cntA A (out.getD i 0) = cntW l (varsF (askB l) 104) i (2 ^ (varsF (askB l) 104).length) * 2 ^ (104 - (varsF (askB l) 104).length) := by
  unfold cntA
  rw [ways_congr 104 (fun b => law_in hS i b), ways_cnt (askB l) 104 _ (Nat.le_refl _) (inL_free l i), cnt_sum]
  rfl
theorem law_least (hS : SemL A out (fnsGo [] l)) (i : Nat) {hd : Hd} (h : Least A (out.getD i 0) false hd) : (oneW l (varsF (askB l) 104) i (2 ^ (varsF (askB l) 104).length)).isSome = true ∧ hd = hdW l (varsF (askB l) 104) i (2 ^ (varsF (askB l) 104).length) := by
  have hF : Free1 (fun b => inA A b (out.getD i 0)) (askB l) := by
    have := inL_free l i
    intro b j x hj
    show inA A _ _ = inA A _ _
    rw [law_in hS, law_in hS]
    exact this b j x hj
  have hlt : ∀ x ∈ varsF (askB l) 104, x < 104 := fun x hx => (varsF_mem.1 hx).1
  obtain ⟨w, hw1, hw2⟩ := way_of (v := varsF (askB l) 104) hd.bit
  have hin := way_in hF (b := hd.bit) (fun i hi => hd.bit_high hi) hw2
  rw [h.2.1] at hin
  have hhas : hasW l (varsF (askB l) 104) i w = true := by
    unfold hasW
    rw [← law_in hS]
    exact hin
  cases e : oneW l (varsF (askB l) 104) i (2 ^ (varsF (askB l) 104).length) with
  | none =>
    rw [oneW_none e w hw1] at hhas
    cases hhas
  | some w0 =>
    refine ⟨rfl, ?_⟩
    obtain ⟨a1, a2, a3⟩ := oneW_some e
    unfold hdW
    rw [e]
    refine least_first hF a1 ?_ (fun u hu => ?_) h (backH_wf (bitsW_length _ _ _)) (bitsW_bit hlt w0)
    · rw [law_in hS]
      exact a2
    · rw [law_in hS]
      exact a3 u hu
theorem law_none (hA : A.OK) (hS : SemL A out (fnsGo [] l)) (i : Nat) (h0 : out.getD i 0 = 0) (v : List Nat) (k : Nat) : oneW l v i k = none := by
  cases e : oneW l v i k with
  | none => rfl
  | some w =>
    obtain ⟨_, a2, _⟩ := oneW_some e
    unfold hasW at a2
    rw [← law_in hS, h0, inA_zero] at a2
    cases a2
theorem law_zero (v : List Nat) (i k m : Nat) : decide (cntW l v i k * 2 ^ m = 0) = !(oneW l v i k).isSome := by
  have hp : 0 < 2 ^ m := Nat.two_pow_pos m
  cases e : oneW l v i k with
  | none =>
    have h := oneW_none e
    have : cntW l v i k = 0 := by
      unfold cntW
      rw [List.countP_eq_zero]
      intro u hu
      rw [h u (List.mem_range.1 hu)]
      simp
    rw [this, Nat.zero_mul]
    rfl
  | some w =>
    obtain ⟨a1, a2, _⟩ := oneW_some e
    have : 0 < cntW l v i k := by
      unfold cntW
      exact List.countP_pos_iff.2 ⟨w, List.mem_range.2 a1, a2⟩
    have h2 := Nat.mul_pos this hp
    rw [decide_eq_false (by omega)]
    rfl
end Go.Proofs.Ytakgghhmecphmaa
