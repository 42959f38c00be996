/- The walk of sat.Count. -/
import Derived.Test.YtakgghhmecphmaaCount
namespace Go.Proofs.Ytakgghhmecphmaa
set_option linter.unusedVariables false
set_option linter.unusedSimpArgs false
open Go.RowKit Go.Maps

set_option maxRecDepth 100000 in
theorem Count_none {w : World} {p g mb : Nat} {A : Arn} (h : ArenaAt w p g mb A) (f : Int) (hf : ¬ (0 ≤ f ∧ f < A.nodes.length)) :
    Calls Try.prog 24 #[.pointer (some ⟨p, 0, none⟩), .int .i64 f] w fun e w' => e = .returned (cval 0) ∧ Below w.heap.size w w' := by
  have HH := Lib.hid (fun w' (k : Below w.heap.size w w') => has_calls (h.below k) f)
  have E0 := Lib.hid (decide_eq_false hf)
  clear hf
  go_enter Try.func24, Try.ntmps24
  go_wp2_with (go_at_call 39; refine (HH.out _ ((Below.refl _ _).alloc (Nat.le_refl _) _)).mono ?_; rintro e w' ⟨rfl, rfl⟩; rw [E0.out])
  simp [bodyPost, results, Try.results24, go_sem]
  exact ⟨rfl, (Below.refl _ _).alloc (Nat.le_refl _) _⟩

set_option maxRecDepth 100000 in
set_option maxHeartbeats 1000000 in
theorem Count_calls {w : World} {p g mb : Nat} {A : Arn} (h : ArenaAt w p g mb A) (hO : A.OK) (f : Nat) (hf : f < A.nodes.length) :
    Calls Try.prog 24 #[.pointer (some ⟨p, 0, none⟩), .int .i64 (f : Int)] w fun e w' => e = .returned (cval (cntA A f)) ∧ Below w.heap.size w w' := by
  have HH := Lib.hid (fun w' (k : Below w.heap.size w w') => has_calls (h.below k) (f : Int))
  have E0 := Lib.hid (decide_eq_true (show 0 ≤ (f : Int) ∧ (f : Int) < A.nodes.length by omega))
  obtain ⟨a, b, hn⟩ := nodeF_top hO hf
  have HN := Lib.hid (fun w' (k : Below w.heap.size w w') => by have := node_calls (h.below k) (f : Int); rw [hn] at this; exact this)
  have hps := h.lt
  have HA := Lib.hid h
  clear hn h
  have hl := hO.lv_le f
  have hcn := cntA_eq hO hf
  have hle := cntA_le A f
  generalize hlv : A.lv f = lf at *
  go_enter Try.func24, Try.ntmps24
  go_wp2_with (go_at_call 39; refine (HH.out _ ((Below.refl _ _).alloc (Nat.le_refl _) _)).mono ?_; rintro e w' ⟨rfl, rfl⟩; rw [E0.out])
  have B0 : Below w.heap.size w (w.alloc (.cells #[.int .u64 0, .int .u64 0] 44)) := (Below.refl _ _).alloc (Nat.le_refl _) _
  have C0 := heap_alloc_new w (.cells #[.int .u64 0, .int .u64 0] 44)
  have hz : w.heap.size < (w.alloc (.cells #[.int .u64 0, .int .u64 0] 44)).heap.size := by simp
  generalize w.alloc (.cells #[.int .u64 0, .int .u64 0] 44) = w1 at *
  refine (HN.out _ B0).mono ?_
  rintro e w2 ⟨he, k2⟩
  subst he
  have B2 := Lib.hid (B0.trans (k2.mono B0.size))
  have C2 := Lib.hid ((k2.block _ hz).trans C0)
  have hz2 : w.heap.size < w2.heap.size := Nat.lt_of_lt_of_le hz k2.size
  clear k2 B0 C0 hz
  have hmm := @run_makeMap Try.prog
  go_wp2_with (fail)
  have HA3 := HA.out.below (B2.out.alloc B2.out.size (.map #[] 0))
  have HM3 := IsMapOf.made w2 Try.prog 3 nat64 cval
  have hsz2 := B2.out.size
  have K3 := Lib.hid ((Kept.of_below (S := []) B2.out).alloc (.map #[] 0))
  have C3 := Lib.hid (blk_alloc C2.out (.map #[] 0))
  have CC := Lib.hid (count_calls hO (sb := w2.heap.size) (by omega) (by omega) (by omega) f f (Nat.le_refl _) hf (w2.alloc (.map #[] 0)) 0 _ HA3 HM3 (fun _ _ h => by cases h))
  have hsb : w.heap.size ≠ w2.heap.size := by omega
  clear HA3 HM3 C2 B2
  generalize w2.alloc (.map #[] 0) = w3 at *
  generalize w2.heap.size = sb at *
  refine CC.out.mono ?_
  rintro e w4 ⟨he, n4, S4, M4, Sc4, K4⟩
  subst he
  have C4 := Lib.hid ((K4.block _ (lt_of_block C3.out) (by simpa using hsb)).trans C3.out)
  have K4 := Lib.hid (K3.out.trans K4 (by simp; omega))
  have UP := Lib.hid (fun w' => up_calls w' (waysA A f) lf (by rw [Nat.mul_comm, ← hcn]; exact Nat.lt_of_le_of_lt hle (by decide)) (by omega))
  rw [Nat.mul_comm, ← hcn] at UP
  clear M4 Sc4 C3 K3 CC
  generalize hv : cval (waysA A f) = v at *
  have ecv : cval (cntA A f) = .agg #[.int .u64 ((cntA A f / 18446744073709551616 : Nat) : Int), .int .u64 ((cntA A f % 18446744073709551616 : Nat) : Int)] := rfl
  rw [ecv] at UP
  generalize hx0 : (cntA A f / 18446744073709551616 : Nat) = x0 at *
  generalize hy0 : (cntA A f % 18446744073709551616 : Nat) = y0 at *
  have HCV := Lib.hid ecv
  clear ecv hx0 hy0 hv hcn hle
  go_wp2_with (fail)
  refine (UP.out _).mono ?_
  rintro e w5 ⟨he, k5⟩
  subst he
  have C5 := (k5.block _ (lt_of_block C4.out)).trans C4.out
  have K5 := Lib.hid (K4.out.trans (Kept.of_below (S := []) k5) (by simp))
  clear k5 C4 K4
  have ds := And.intro (cell_of C5 0) (cell_of C5 1)
  simp only [List.getElem?_toArray, List.getElem?_cons_zero, List.getElem?_cons_succ] at ds
  have fz0 := unfrozen_of C5 0
  have fz1 := unfrozen_of C5 1
  have HC5 := Lib.hid C5
  clear C5
  go_wp2_with (fail)
  have E0 := set_block HC5.out 0 (.int .u64 (x0 : Int))
  have E1 := set_block E0 1 (.int .u64 (y0 : Int))
  have q0 := cell_of E0 0
  have q1 := cell_of E1 1
  simp at q0 q1
  simp [bodyPost, results, Try.results24, go_sem, q0, q1]
  refine ⟨HCV.out.symm, ?_⟩
  exact Kept.below ((K5.out.setCell ⟨w.heap.size, 0, none⟩ (.int .u64 (x0 : Int)) (Or.inr (Nat.le_refl _))).setCell ⟨w.heap.size, 1, none⟩ (.int .u64 (y0 : Int)) (Or.inr (Nat.le_refl _))) (Nat.le_refl _) (by simp)

end Go.Proofs.Ytakgghhmecphmaa
