/- Layer 17's awake. -/
import Derived.Test.YtjoblahedgpgbaaGreatRBatW
namespace Go.Proofs.YtjoblahedgpgbaaGreat
set_option linter.unusedVariables false
set_option linter.unusedSimpArgs false
open Go.RowKit

def tB : Tp := ⟨[1], [], []⟩
def oB : Op := ⟨false, ⟨1, 0, 0, 0, 0, 0⟩⟩
theorem tB_batch : (batchS tB.ports [oB, oB] (List.replicate 1 [])).2 = (1, 4) := by decide
theorem one_in {w : World} : RowIn (w.heap.size + 1) (w.alloc (.cells #[.int .i64 1] 3)) (.slice (some ⟨w.heap.size, 0, none⟩) 1 1) 1 ([1].map i64v) := by
  refine ⟨_, _, rfl, fun j u hu => ⟨w.heap.size, 0, rfl, by omega, ?_⟩⟩
  have := cell_of (heap_alloc_new w (.cells #[.int .i64 1] 3)) (0 + j)
  rw [this, Nat.zero_add]
  simpa [i64v] using hu
def opsB : Obj := .cells #[.bool false, .int .i64 1, .int .i64 0, .int .u32 0, .int .i64 0, .int .i64 0, .int .i64 0, .bool false, .int .i64 1, .int .i64 0, .int .u32 0, .int .i64 0, .int .i64 0, .int .i64 0] 91
theorem opsB_in (w : World) : OpsIn (w.alloc opsB) (.slice (some ⟨w.heap.size, 0, none⟩) 2 2) [oB, oB] := by
  refine ⟨fun o ho => ?_, _, _, rfl, fun i hi => ⟨w.heap.size, 0, rfl, fun i o ho j u hu => ?_, by simp⟩⟩
  · have : o = oB := by simpa using ho
    subst this
    unfold Rl.Wf inI oB
    decide
  · unfold opsB
    rw [cell_of (heap_alloc_new w _)]
    have hi2 : i < 2 := (List.getElem?_eq_some_iff.1 ho).1
    have hj7 : j < 7 := (List.getElem?_eq_some_iff.1 hu).1
    have hoB : o = oB := by
      match i, hi2 with
      | 0, _ => exact (Option.some.inj ho).symm
      | 1, _ => exact (Option.some.inj ho).symm
    subst hoB
    match i, hi2, j, hj7 with
    | 0, _, 0, _ => exact hu
    | 0, _, 1, _ => exact hu
    | 0, _, 2, _ => exact hu
    | 0, _, 3, _ => exact hu
    | 0, _, 4, _ => exact hu
    | 0, _, 5, _ => exact hu
    | 0, _, 6, _ => exact hu
    | 1, _, 0, _ => exact hu
    | 1, _, 1, _ => exact hu
    | 1, _, 2, _ => exact hu
    | 1, _, 3, _ => exact hu
    | 1, _, 4, _ => exact hu
    | 1, _, 5, _ => exact hu
    | 1, _, 6, _ => exact hu

set_option maxRecDepth 100000 in
set_option maxHeartbeats 4000000 in
theorem awake17_calls (w : World) : Calls Tryz.prog 17 #[] w fun e w' => e = .returned (.bool true) ∧ Below w.heap.size w w' := by
  have HK := Lib.hid ((Below.refl w.heap.size w).alloc (Nat.le_refl _) (.cells #[.int .i64 1] 3))
  have HT : Hid (TpIn (w.heap.size + 1) (w.alloc (.cells #[.int .i64 1] 3)) (.slice (some ⟨w.heap.size, 0, none⟩) 1 1) (.slice none 0 0) (.slice none 0 0) tB) := Lib.hid ⟨one_in, ⟨none, 0, rfl, fun j u hu => by simp [tB, lkCells] at hu⟩, ⟨none, 0, rfl, fun j u hu => by simp [tB, acCells] at hu⟩, fun a ha => by cases ha⟩
  have hz : w.heap.size + 1 ≤ (w.alloc (.cells #[.int .i64 1] 3)).heap.size := by simp
  have HN := Lib.hid (nnew_calls HT.out hz (by decide) (by decide))
  have HZ := Lib.hid hz
  clear hz
  go_enter Tryz.func17, Tryz.ntmps17
  go_wp2_with (fail)
  refine Calls.mono HN.out ?_
  rintro e w2 ⟨nb, vt, ts, he, hN, hLs, k2⟩
  subst he
  generalize w.alloc (.cells #[.int .i64 1] 3) = w1 at *
  have hLs : TD.Ls ts = List.replicate 1 [] := hLs
  have hka := (Below.refl w2.heap.size w2).alloc (Nat.le_refl _) opsB
  have hAP := bapply_calls (l := [oB, oB]) (hN.below hka) (HT.out.kept ((k2.trans (hka.mono k2.size)).mono HZ.out)) (Nat.le_trans HZ.out (Nat.le_trans k2.size hka.size)) (by rw [hLs]; exact NetOk.empty tB.ports) (by decide) (by rw [hLs]; decide) (opsB_in w2)
  rw [hLs] at hAP
  have HAP := Lib.hid hAP
  have hk2 := HK.out.trans (k2.mono HK.out.size)
  have HK3 := Lib.hid (hk2.trans (hka.mono hk2.size))
  clear hN hLs k2 hka hAP hk2
  unfold opsB at *
  go_wp2_with (fail)
  refine Calls.mono HAP.out ?_
  rintro e w3 ⟨v, he, k3, hv, _⟩
  rw [tB_batch] at he hv
  obtain rfl : v = .pointer none := hv (by decide)
  subst he
  have HK4 := Lib.hid (HK3.out.trans (k3.mono HK3.out.size))
  clear k3 hv
  go_wp2_with (fail)
  go_ret
  exact ⟨rfl, HK4.out.alloc HK4.out.size _⟩
end Go.Proofs.YtjoblahedgpgbaaGreat
