/- Layer 11's awake. -/
import Derived.Test.YtiedhjmnjpkcoaaTabQ
namespace Go.Proofs.Ytiedhjmnjpkcoaa
set_option linter.unusedVariables false
set_option linter.unusedSimpArgs false
open Go.RowKit

def rA : Rl := ⟨1, 0, 167772160, 8, 0, 0⟩
def rB : Rl := ⟨2, 0, 167837696, 16, 0, 0⟩
theorem awake_a1 : addT [] rA = ([rA], 0) := by decide
theorem awake_a2 : addT [rA] rB = ([rB, rA], 0) := by decide
theorem awake_b : [rB, rA].filter (onWay 167838211) = [rB, rA] := by decide

set_option maxRecDepth 100000 in
set_option maxHeartbeats 2000000 in
theorem awake11_calls (w : World) : Calls Try.prog 17 #[] w fun e w' => e = .returned (.bool true) ∧ Below w.heap.size w w' := by
  go_enter Try.func17, Try.ntmps17
  go_wp2_with (fail)
  refine (tnew_calls w).mono ?_
  rintro e w1 ⟨p, mb, he, hT, hp, hm, hk⟩
  subst he
  have HT := Lib.hid hT
  have HK := Lib.hid hk
  clear hT hk
  go_wp2_with (fail)
  have hc := tabadd_calls HT.out (by decide) rA (by decide) (by unfold okI; decide)
  rw [awake_a1] at hc
  refine Calls.mono hc ?_
  rintro e w2 ⟨he, F2, hT2, hf2, hk2⟩
  subst he
  have HT2 := Lib.hid hT2
  have hz1 := HK.out.size
  have HF2 := Lib.hid (show ∀ x ∈ F2, w.heap.size ≤ x from fun x hx => by rcases hf2 x hx with h | h <;> simp at * <;> omega)
  have HK2 := Lib.hid (HK.out.trans ((hk2.below (B := w.heap.size) hz1 (by simp; omega))))
  clear hc hT2 hf2 hk2
  go_wp2_with (fail)
  have hc := tabadd_calls HT2.out (by decide) rB (by decide) (by unfold okI; decide)
  rw [awake_a2] at hc
  refine Calls.mono hc ?_
  rintro e w3 ⟨he, F3, hT3, hf3, hk3⟩
  subst he
  have HT3 := Lib.hid hT3
  have hz2 := HK2.out.size
  have HK3 := Lib.hid (HK2.out.trans ((hk3.below (B := w.heap.size) hz2 (by intro x hx; rcases List.mem_cons.1 hx with rfl | hx; exact hm; exact HF2.out x hx))))
  clear hc hT3 hf3 hk3
  go_wp2_with (fail)
  have hc := tbest_calls HT3.out (by decide) 167838211 (by decide)
  rw [awake_b] at hc
  refine Calls.mono hc ?_
  rintro e w4 ⟨l', hp', hs', he, hk4⟩
  obtain rfl : l' = [rB, rA] := sorted_one hp' (hp'.map _ |>.nodup_iff.2 (by decide)) hs' (by unfold Sorted; decide)
  have he : e = .returned (.tuple #[.agg #[.int .i64 2, .int .i64 0, .int .u32 167837696, .int .i64 16, .int .i64 0, .int .i64 0], .bool true]) := he
  subst he
  have HK4 := Lib.hid (HK3.out.trans (hk4.mono HK3.out.size))
  clear hc hp' hs' hk4
  go_wp2_with (fail)
  refine bodyPost_ret (v := .bool true) (by simp [results, Try.results17, go_sem]) rfl ⟨rfl, HK4.out.alloc HK4.out.size _⟩
end Go.Proofs.Ytiedhjmnjpkcoaa
