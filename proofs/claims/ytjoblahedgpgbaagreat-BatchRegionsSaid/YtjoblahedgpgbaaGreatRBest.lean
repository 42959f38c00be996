/- The document's Best. -/
import Derived.Test.YtjoblahedgpgbaaGreatTabC
namespace Go.Proofs.YtjoblahedgpgbaaGreat
set_option linter.unusedVariables false
set_option linter.unusedSimpArgs false
open Go.RowKit

def hasR (a : Nat) (r : Rl) : Bool := hasN r.addr r.bits.toNat a

set_option maxRecDepth 100000 in
set_option maxHeartbeats 2000000 in
theorem rbest_calls {w : World} {b : Nat} {v : Value} {l : List Rl} (h : w.ownsRow b 89 6 v l.length (rlCells l)) (ho : ∀ r ∈ l, r.Ok) (hl : l.length < 1000000) (a : Nat) (ha : a < 2 ^ 32) :
    Calls Tryz.prog 83 #[v, .int .u32 (a : Int)] w fun e w' => e = .returned (.tuple #[((l.find? (hasR a)).getD noRule).val, .bool (l.find? (hasR a)).isSome]) ∧ Below w.heap.size w w' := by
  obtain ⟨ao, cap, hv⟩ : ∃ ao cap, v = .slice ao l.length cap := by
    rcases h.2 with ⟨h0, h1⟩ | ⟨g', cap', cur, h0, _⟩
    · exact ⟨none, 0, by rw [h0, h1]⟩
    · exact ⟨_, cap', h0⟩
  subst hv
  have hX := heap_alloc_new w (.cells #[.int .i64 0, .int .i64 0, .int .u32 0, .int .i64 0, .int .i64 0, .int .i64 0] 89)
  have H := Lib.hid h
  have HO := Lib.hid ho
  have HK0 := Lib.hid ((Below.refl w.heap.size w).alloc (Nat.le_refl _) (.cells #[.int .i64 0, .int .i64 0, .int .u32 0, .int .i64 0, .int .i64 0, .int .i64 0] 89))
  have HX := Lib.hid hX
  clear h ho hX
  obtain ⟨fo, hfo⟩ : ∃ fo, fo = l.find? (hasR a) := ⟨_, rfl⟩
  rw [← hfo]
  have HFO := Lib.hid hfo
  clear hfo
  go_enter Tryz.func83, Tryz.ntmps83
  go_wp2_with (fail)
  generalize w.alloc (.cells #[.int .i64 0, .int .i64 0, .int .u32 0, .int .i64 0, .int .i64 0, .int .i64 0] 89) = w1 at *
  go_loopg [6] l.length (fun gk vi wr => ∃ i : Nat, i + gk = l.length ∧ vi = .int .i64 (i : Int) ∧ Below w.heap.size w wr ∧ RBx wr w.heap.size noRule ∧ fo = (l.drop i).find? (hasR a))
  case atStart => exact ⟨0, by omega, rfl, HK0.out, HX.out, by simpa using HFO.out⟩
  case round =>
    obtain ⟨i, hgk, rfl, hK, hB, hf⟩ := hrel
    have HK := Lib.hid hK
    have HB := Lib.hid hB
    have HF := Lib.hid hf
    clear hf
    by_cases hlt : i < l.length
    · obtain ⟨g, hg⟩ : ∃ g, ao = some ⟨g, 0, none⟩ := by
        rcases H.out.2 with ⟨h0, h1⟩ | ⟨g', cap', cur, h0, _⟩
        · omega
        · injection h0 with h0; exact ⟨g', h0⟩
      subst hg
      have hcc := fun j (hj : j < 6) => ((own_kept H.out (Kept.of_below (S := []) hK) (by simp)).cellAt (i * 6 + j) (by omega)).trans (rlCells_at l i hlt j hj)
      have d2 := hcc 2 (by omega)
      have d3 := hcc 3 (by omega)
      have hdr : l.drop i = l[i] :: l.drop (i + 1) := List.drop_eq_getElem_cons hlt
      have HDR := Lib.hid hdr
      have HCC := Lib.hid hcc
      obtain ⟨hr1, hr2, _⟩ := HO.out _ (List.getElem_mem hlt)
      obtain ⟨hb0, hb1, _⟩ := (rtB_iff _).1 hr2
      have HCELL := Lib.hid (And.intro (rlCells_at l i hlt 0 (by omega)) (And.intro (rlCells_at l i hlt 1 (by omega)) (And.intro (rlCells_at l i hlt 2 (by omega)) (And.intro (rlCells_at l i hlt 3 (by omega)) (And.intro (rlCells_at l i hlt 4 (by omega)) (rlCells_at l i hlt 5 (by omega)))))))
      clear hcc hdr hK hB
      generalize l[i] = r at *
      have hn0 : 0 ≤ r.bits := hb0
      have hn1 : r.bits ≤ 32 := hb1
      obtain ⟨n, hn⟩ := Int.eq_ofNat_of_zero_le hn0
      have HC := Lib.hid (fun W => rhas_calls W r.addr n a hr1 ha (by omega))
      rw [← show hasR a r = hasN r.addr n a by unfold hasR; rw [hn]; rfl, show ((n : Nat) : Int) = r.bits from hn.symm] at HC
      have HN := Lib.hid hn
      clear hb0 hb1 hn hr2
      simp [Rl.cells] at d2 d3
      go_wp2_with (fail)
      refine Calls.mono (HC.out _) ?_
      rintro e w5 ⟨he, k5⟩
      subst he
      have HB5 := Lib.hid ((k5.block _ (lt_of_block HB.out)).trans HB.out)
      have hk5 := HK.out.trans (k5.mono HK.out.size)
      have HK5 := Lib.hid hk5
      cases hh : hasR a r with
      | false =>
        go_wp2_with (fail)
        go_roundg (gk - 1)
        case measure => omega
        case rel => exact ⟨i + 1, by omega, by go_num, HK5.out, HB5.out, by rw [HF.out, HDR.out, List.find?_cons_of_neg (by simp [hh])]⟩
      | true =>
        obtain rfl : fo = some r := by rw [HF.out, HDR.out, List.find?_cons_of_pos hh]
        have how := own_kept H.out (Kept.of_below (S := []) hk5) (by simp)
        have hri : (rlCells l)[i * 6]? = some (r.cells[0]!) ∧ (rlCells l)[i * 6 + 1]? = some (r.cells[1]!) ∧ (rlCells l)[i * 6 + 2]? = some (r.cells[2]!) ∧ (rlCells l)[i * 6 + 3]? = some (r.cells[3]!) ∧ (rlCells l)[i * 6 + 4]? = some (r.cells[4]!) ∧ (rlCells l)[i * 6 + 5]? = some (r.cells[5]!) := HCELL.out
        have e0 := (how.cellAt (i * 6) (by omega)).trans hri.1
        have e1 := (how.cellAt (i * 6 + 1) (by omega)).trans hri.2.1
        have e2 := (how.cellAt (i * 6 + 2) (by omega)).trans hri.2.2.1
        have e3 := (how.cellAt (i * 6 + 3) (by omega)).trans hri.2.2.2.1
        have e4 := (how.cellAt (i * 6 + 4) (by omega)).trans hri.2.2.2.2.1
        have e5 := (how.cellAt (i * 6 + 5) (by omega)).trans hri.2.2.2.2.2
        simp [Rl.cells] at e0 e1 e2 e3 e4 e5
        have x0 := And.intro (cell_of HB5.out 0) (unfrozen_of HB5.out 0)
        have x1 := And.intro (cell_of HB5.out 1) (unfrozen_of HB5.out 1)
        have x2 := And.intro (cell_of HB5.out 2) (unfrozen_of HB5.out 2)
        have x3 := And.intro (cell_of HB5.out 3) (unfrozen_of HB5.out 3)
        have x4 := And.intro (cell_of HB5.out 4) (unfrozen_of HB5.out 4)
        have x5 := And.intro (cell_of HB5.out 5) (unfrozen_of HB5.out 5)
        simp only [List.getElem?_toArray, List.getElem?_cons_zero, List.getElem?_cons_succ] at x0 x1 x2 x3 x4 x5
        clear hri how hk5
        generalize hbx : w.heap.size = bx at *
        have HBX := Lib.hid hbx
        have HK6 : Hid (Below w.heap.size w w5) := Lib.hid (hbx.symm ▸ HK5.out)
        clear hbx
        go_wp2_with (fail)
        simp [bodyPost, results, Tryz.results83, go_sem, x0, x1, x2, x3, x4, x5]
        exact ⟨rfl, ((((((((Kept.of_below (S := [bx]) HK6.out).setCell _ _ (by simp)).setCell _ _ (by simp)).setCell _ _ (by simp)).setCell _ _ (by simp)).setCell _ _ (by simp)).setCell _ _ (by simp)).below (Nat.le_refl _) (by simp [HBX.out]))⟩
    · obtain rfl : i = l.length := by omega
      have x0 := And.intro (cell_of HB.out 0) (unfrozen_of HB.out 0)
      have x1 := And.intro (cell_of HB.out 1) (unfrozen_of HB.out 1)
      have x2 := And.intro (cell_of HB.out 2) (unfrozen_of HB.out 2)
      have x3 := And.intro (cell_of HB.out 3) (unfrozen_of HB.out 3)
      have x4 := And.intro (cell_of HB.out 4) (unfrozen_of HB.out 4)
      have x5 := And.intro (cell_of HB.out 5) (unfrozen_of HB.out 5)
      simp only [List.getElem?_toArray, List.getElem?_cons_zero, List.getElem?_cons_succ] at x0 x1 x2 x3 x4 x5
      obtain rfl : fo = none := by rw [HF.out, List.drop_length]; rfl
      go_wp2_with (fail)
      simp [bodyPost, results, Tryz.results83, go_sem, x0, x1, x2, x3, x4, x5]
      exact ⟨rfl, ((((((((Kept.of_below (S := [w.heap.size]) HK.out).setCell _ _ (by simp)).setCell _ _ (by simp)).setCell _ _ (by simp)).setCell _ _ (by simp)).setCell _ _ (by simp)).setCell _ _ (by simp)).below (Nat.le_refl _) (by simp))⟩
end Go.Proofs.YtjoblahedgpgbaaGreat
