/- The law's Same, at two rows that hold one list. -/
import Derived.Test.YtjoblahedgpgbaaGreatTabC
import Derived.BigQuiet
import Derived.Deep.QuietTactic
namespace Go.Proofs.YtjoblahedgpgbaaGreat
set_option linter.unusedVariables false
set_option linter.unusedSimpArgs false
open Go.RowKit

set_option maxRecDepth 100000 in
set_option maxHeartbeats 2000000 in
theorem same_calls {w : World} {b1 b2 : Nat} {v1 v2 : Value} {l : List Rl} (h1 : w.ownsRow b1 89 6 v1 l.length (rlCells l)) (h2 : w.ownsRow b2 89 6 v2 l.length (rlCells l)) (hl : l.length < 1000000) :
    Calls Tryz.prog 146 #[v1, v2] w fun e w' => e = .returned (.bool true) ∧ Kept [] w w' := by
  obtain ⟨ao1, cap1, hv1⟩ : ∃ ao cap, v1 = .slice ao l.length cap := by
    rcases h1.2 with ⟨h0, h1⟩ | ⟨g', cap', cur, h0, _⟩
    · exact ⟨none, 0, by rw [h0, h1]⟩
    · exact ⟨_, cap', h0⟩
  obtain ⟨ao2, cap2, hv2⟩ : ∃ ao cap, v2 = .slice ao l.length cap := by
    rcases h2.2 with ⟨h0, h1⟩ | ⟨g', cap', cur, h0, _⟩
    · exact ⟨none, 0, by rw [h0, h1]⟩
    · exact ⟨_, cap', h0⟩
  subst hv1
  subst hv2
  have H1 := Lib.hid h1
  have H2 := Lib.hid h2
  clear h1 h2
  go_enter Tryz.func146, Tryz.ntmps146
  go_wp2_with (fail)
  go_loopg [13] l.length (fun gk vi wr => ∃ i : Nat, i + gk = l.length ∧ vi = .int .i64 (i : Int) ∧ Kept [] w wr)
  case atStart => exact ⟨0, by omega, rfl, Kept.refl _ _⟩
  case round =>
    obtain ⟨i, hgk, rfl, hK⟩ := hrel
    have HK := Lib.hid hK
    by_cases hlt : i < l.length
    · obtain ⟨g1, hg1⟩ : ∃ g, ao1 = some ⟨g, 0, none⟩ := by
        rcases H1.out.2 with ⟨h0, h1⟩ | ⟨g', cap', cur, h0, _⟩
        · omega
        · injection h0 with h0; exact ⟨g', h0⟩
      obtain ⟨g2, hg2⟩ : ∃ g, ao2 = some ⟨g, 0, none⟩ := by
        rcases H2.out.2 with ⟨h0, h1⟩ | ⟨g', cap', cur, h0, _⟩
        · omega
        · injection h0 with h0; exact ⟨g', h0⟩
      subst hg1
      subst hg2
      have hkd := hK.drew
      have hc1 := fun j (hj : j < 6) => ((own_kept H1.out hkd (by simp)).cellAt (i * 6 + j) (by omega)).trans (rlCells_at l i hlt j hj)
      have hc2 := fun j (hj : j < 6) => ((own_kept H2.out hkd (by simp)).cellAt (i * 6 + j) (by omega)).trans (rlCells_at l i hlt j hj)
      have d0 := hc1 0 (by omega)
      have d1 := hc1 1 (by omega)
      have d2 := hc1 2 (by omega)
      have d3 := hc1 3 (by omega)
      have d4 := hc1 4 (by omega)
      have d5 := hc1 5 (by omega)
      have e0 := hc2 0 (by omega)
      have e1 := hc2 1 (by omega)
      have e2 := hc2 2 (by omega)
      have e3 := hc2 3 (by omega)
      have e4 := hc2 4 (by omega)
      have e5 := hc2 5 (by omega)
      have HKD := Lib.hid hkd
      clear hc1 hc2 hK hkd
      generalize l[i] = r at *
      simp [Rl.cells] at d0 d1 d2 d3 d4 d5 e0 e1 e2 e3 e4 e5
      go_upto_region 6 with (fail)
      go_quiet (fail)
      go_wp2_with (fail)
      go_roundg (gk - 1)
      case measure => omega
      case rel => exact ⟨i + 1, by omega, by go_num, HK.out.drewN _⟩
    · obtain rfl : i = l.length := by omega
      go_wp2_with (fail)
      exact bodyPost_ret (v := .bool true) (by simp [results, Tryz.results146, go_sem]) rfl ⟨rfl, HK.out⟩
end Go.Proofs.YtjoblahedgpgbaaGreat
