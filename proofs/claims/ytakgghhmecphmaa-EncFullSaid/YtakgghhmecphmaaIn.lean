/- The walk of In. -/
import Derived.Test.YtakgghhmecphmaaBit
import Derived.Test.YtakgghhmecphmaaSem
namespace Go.Proofs.Ytakgghhmecphmaa
set_option linter.unusedVariables false
set_option linter.unusedSimpArgs false
open Go.RowKit Go.Maps

set_option maxRecDepth 100000 in
set_option maxHeartbeats 1000000 in
theorem In_calls {w : World} {p g mb : Nat} {A : Arn} (h : ArenaAt w p g mb A) (hOK : A.OK) (f : Nat) (hf : f < A.nodes.length) (hd : Hd) :
    Calls Try.prog 20 #[.pointer (some ⟨p, 0, none⟩), .int .i64 (f : Int), hd.val] w fun e w' => e = .returned (.bool (inA A hd.bit f)) ∧ Below w.heap.size w w' := by
  have e0 : decide (0 ≤ (f : Int) ∧ (f : Int) < A.nodes.length) = true := decide_eq_true (by omega)
  have HH := Lib.hid (fun w' (k : Below w.heap.size w w') => has_calls (h.kept (Kept.of_below (S := []) k) (by simp) (by simp) (by simp)) (f : Int))
  have HA := Lib.hid h
  have HO := Lib.hid hOK
  have E0 := Lib.hid e0
  clear h hOK e0
  unfold Hd.val
  go_enter Try.func20, Try.ntmps20
  go_wp2_with (go_at_call 39; refine (HH.out _ ((Below.refl _ _).alloc (Nat.le_refl _) _)).mono ?_; rintro e w' ⟨rfl, rfl⟩; rw [E0.out])
  generalize hW1 : w.alloc (.cells #[.int .u32 (hd.dst : Int), .int .u32 (hd.src : Int), .int .u8 (hd.proto : Int), .int .u16 (hd.sport : Int), .int .u16 (hd.dport : Int)] 25) = W1
  have hbox : W1.heap[w.heap.size]? = some (.cells #[.int .u32 (hd.dst : Int), .int .u32 (hd.src : Int), .int .u8 (hd.proto : Int), .int .u16 (hd.sport : Int), .int .u16 (hd.dport : Int)] 25 (0, 0)) := by
    rw [← hW1]; exact heap_alloc_new w _
  have hB1 : Below w.heap.size w W1 := by rw [← hW1]; exact (Below.refl _ _).alloc (Nat.le_refl _) _
  have HA1 := Lib.hid (HA.out.kept (Kept.of_below (S := []) hB1) (by simp) (by simp) (by simp))
  have HB1 := Lib.hid hB1
  have hzz : w.heap.size < W1.heap.size := lt_of_block hbox
  have HBOX := Lib.hid hbox
  have hpz := HA1.out.lt
  clear hW1 hB1 hbox
  go_loopw [1] (fun vf wr => ∃ k : Nat, vf = .int .i64 (k : Int) ∧ k < A.nodes.length ∧ inA A hd.bit k = inA A hd.bit f ∧ Kept [] W1 wr) (fun vf _ => (intOf vf).toNat)
  case atStart => exact ⟨f, rfl, hf, rfl, Kept.refl _ _⟩
  case round =>
    obtain ⟨k, rfl, hk, hin, hK⟩ := hrel
    have HK := Lib.hid hK
    have HIN := Lib.hid hin
    clear hK hin
    have hwr := HK.out.size
    have hzr : w.heap.size < wr.heap.size := by omega
    by_cases h1 : k ≤ 1
    · have t1 : decide (1 < (k : Int)) = false := decide_eq_false (by omega)
      go_wp2
      go_ret
      refine ⟨?_, HB1.out.trans ((Kept.below HK.out (Nat.le_refl _) (by simp)).mono (by omega))⟩
      rw [← HIN.out]
      obtain rfl | rfl : k = 0 ∨ k = 1 := by omega
      · rfl
      · rfl
    · have hn := nd_get hk
      obtain ⟨a, b, c, _⟩ := HO.out.at_ hk (by omega)
      have hnode := inA_node HO.out hd.bit hk (by omega)
      obtain ⟨k0, k1, k2⟩ := (HA1.out.kept HK.out (by simp) (by simp) (by simp)).nd hn
      obtain ⟨cap, n, b1, b2, b3⟩ := HA1.out
      have c0 := cell_of b1 0
      have c0 := HK.out.cell c0 (by simp)
      have d0 := HK.out.cell (cell_of HBOX.out 0) (by simp)
      have d1 := HK.out.cell (cell_of HBOX.out 1) (by simp)
      have d2 := HK.out.cell (cell_of HBOX.out 2) (by simp)
      have d3 := HK.out.cell (cell_of HBOX.out 3) (by simp)
      have d4 := HK.out.cell (cell_of HBOX.out 4) (by simp)
      simp at c0 d0 d1 d2 d3 d4
      have hlv : A.lv k < 104 := a
      have hlvd : A.lv k = (A.nd k).level := rfl
      rw [hlvd] at hnode hlv
      have HN := Lib.hid hnode
      clear hnode hn b1 b2 b3 a hlvd
      generalize A.nd k = N at *
      have t1 : decide (1 < (k : Int)) = true := decide_eq_true (by omega)
      go_wp2_with (fail)
      refine (bit_calls _ hd N.level hlv).mono ?_
      rintro e w5 ⟨he, k5⟩
      subst he
      have HE := Lib.hid (((HK.out.alloc _).trans (Kept.of_below (S := []) k5) (by simp)))
      have m2 := (Kept.of_below (S := []) k5).cell (cell_of (heap_alloc_new wr (.cells #[.int .i64 (N.level : Int), .int .i64 (N.low : Int), .int .i64 (N.high : Int)] 94)) 2) (by simp)
      simp at m2
      clear k5
      cases hbt : hd.bit N.level
      · rw [hbt] at HN
        simp only [Bool.false_eq_true, if_false] at HN
        clear hbt
        go_wp2
        go_roundw
        case rel => exact ⟨N.low, rfl, by omega, HN.out.symm.trans HIN.out, HE.out⟩
        case measure => simp [intOf]; omega
      · rw [hbt] at HN
        simp only [if_true] at HN
        clear hbt
        go_wp2
        go_roundw
        case rel => exact ⟨N.high, rfl, by omega, HN.out.symm.trans HIN.out, HE.out⟩
        case measure => simp [intOf]; omega

end Go.Proofs.Ytakgghhmecphmaa
