/- The table's Clone. -/
import Derived.Test.YtiedhjmnjpkcoaaTabQ
namespace Go.Proofs.Ytiedhjmnjpkcoaa
set_option linter.unusedVariables false
set_option linter.unusedSimpArgs false
open Go.RowKit

theorem rlCells_at (l : List Rl) (i : Nat) (h : i < l.length) : ∀ j, j < 6 → (rlCells l)[i * 6 + j]? = some (l[i].cells[j]!) := by
  intro j hj
  rw [rlCells_get l (i * 6 + j) (by omega), show (i * 6 + j) / 6 = i by omega, show (i * 6 + j) % 6 = j by omega, getElem!_pos l i h]

set_option maxRecDepth 100000 in
set_option maxHeartbeats 2000000 in
theorem tclone_calls {w : World} {p mb : Nat} {F : List Nat} {L : List Rl} (h : TabAt w p mb F L) (hl : L.length < 100000) :
    Calls Try.prog 34 #[.pointer (some ⟨p, 0, none⟩)] w fun e w' => ∃ p2 mb2 F2, e = .returned (.pointer (some ⟨p2, 0, none⟩)) ∧ TabAt w' p2 mb2 F2 L ∧ (∀ x ∈ F2, w.heap.size ≤ x) ∧ w.heap.size ≤ mb2 ∧ Below w.heap.size w w' := by
  have H0 := Lib.hid h
  clear h
  go_enter Try.func34, Try.ntmps34
  go_wp2_with (fail)
  refine (tnew_calls w).mono ?_
  rintro e w1 ⟨p2, mb2, he, hT, hp, hm, hk⟩
  subst he
  have HT := Lib.hid hT
  have HK := Lib.hid hk
  clear hT hk
  go_wp2_with (fail)
  refine (trules_calls (H0.out.kept (Kept.of_below (S := []) HK.out) (by simp) (by simp)) hl).mono ?_
  rintro e w2 ⟨vr, l', hperm, hs, he, how, hk2⟩
  subst he
  have hll := hperm.length_eq
  obtain ⟨ao, cap, hvr⟩ : ∃ ao cap, vr = .slice ao l'.length cap := by
    rcases how.2 with ⟨h0, h1⟩ | ⟨g', cap', cur, h0, _⟩
    · exact ⟨none, 0, by rw [h0, h1]⟩
    · exact ⟨_, cap', h0⟩
  subst hvr
  have HPM := Lib.hid hperm
  have HOW := Lib.hid how
  have HT2 := Lib.hid (HT.out.kept (Kept.of_below (S := []) hk2) (by simp) (by simp))
  have HK2 := Lib.hid (HK.out.trans (hk2.mono HK.out.size))
  have HPA := Lib.hid (own_past how)
  have hmb2 := HT.out.map.lt
  have hp2 := HT.out.lt p2 (by simp)
  have hnd : (l'.map (·.id)).Nodup := (hperm.map _).nodup_iff.2 H0.out.ids
  have HND := Lib.hid hnd
  have HOK := Lib.hid (show ∀ r ∈ l', r.Ok from fun r hr => H0.out.ok r (hperm.mem_iff.1 hr))
  clear hperm hs how hk2 hnd
  go_wp2_with (fail)
  go_loopg [10] l'.length (fun gk vi wr => ∃ (i : Nat) (F2 : List Nat), i + gk = l'.length ∧ vi = .int .i64 (i : Int) ∧ TabAt wr p2 mb2 F2 (l'.take i).reverse ∧ (∀ x ∈ F2, w.heap.size ≤ x) ∧ (∀ g, ao.map (·.block) = some g → g ∉ F2 ∧ g ≠ mb2) ∧ wr.ownsRow w1.heap.size 26 6 (.slice ao l'.length cap) l'.length (rlCells l') ∧ Below w.heap.size w wr)
  case atStart =>
    refine ⟨0, [p2], by omega, rfl, HT2.out, by simpa using hp, fun g hg => ?_, HOW.out, HK2.out⟩
    have := HPA.out g (by cases ao with | none => cases hg | some x => simpa [Value.ownBlock] using hg)
    simp
    omega
  case round =>
    obtain ⟨i, F2, hgk, rfl, hT3, hF2, hg2, how3, hk3⟩ := hrel
    have HT3 := Lib.hid hT3
    have HF2 := Lib.hid hF2
    have HG2 := Lib.hid hg2
    have HO3 := Lib.hid how3
    have HK3 := Lib.hid hk3
    by_cases hlt : i < l'.length
    · obtain ⟨g, hg⟩ : ∃ g, ao = some ⟨g, 0, none⟩ := by
        rcases how3.2 with ⟨h0, h1⟩ | ⟨g', cap', cur, h0, _⟩
        · omega
        · injection h0 with h0; exact ⟨g', h0⟩
      subst hg
      have hc := fun j (hj : j < 6) => (how3.cellAt (i * 6 + j) (by omega)).trans (rlCells_at l' i hlt j hj)
      have d0 := hc 0 (by omega)
      have d1 := hc 1 (by omega)
      have d2 := hc 2 (by omega)
      have d3 := hc 3 (by omega)
      have d4 := hc 4 (by omega)
      have d5 := hc 5 (by omega)
      have hrm := List.getElem_mem hlt
      have htk : l'.take (i + 1) = l'.take i ++ [l'[i]] := by rw [List.take_add_one, List.getElem?_eq_getElem hlt]; rfl
      have HTK := Lib.hid htk
      have HRM := Lib.hid hrm
      have hfn : findR (l'.take i).reverse l'[i].id = none := by
        refine find_none.2 fun r hr he => ?_
        have hn := HND.out
        rw [← List.take_append_drop (i + 1) l', List.map_append, htk, List.map_append] at hn
        have h1 := (List.nodup_append.1 hn).1
        exact (List.nodup_append.1 h1).2.2 r.id (List.mem_map_of_mem (List.mem_reverse.1 hr)) l'[i].id (by simp) he
      have HFN := Lib.hid hfn
      clear hc hT3 hF2 hg2 how3 hk3 htk hrm hfn
      generalize l'[i] = r at *
      simp [Rl.cells] at d0 d1 d2 d3 d4 d5
      have kb := Kept.of_alloc (S := []) wr (.cells #[.int .i64 r.id, .int .i64 r.dev, .int .u32 (r.addr : Int), .int .i64 r.bits, .int .i64 r.prio, .int .i64 r.out] 26)
      have HTB := Lib.hid (HT3.out.kept kb (by simp) (by simp))
      have HOB := Lib.hid (own_kept HO3.out kb (by simp))
      have HKB := Lib.hid (HK3.out.alloc HK3.out.size (.cells #[.int .i64 r.id, .int .i64 r.dev, .int .u32 (r.addr : Int), .int .i64 r.bits, .int .i64 r.prio, .int .i64 r.out] 26))
      go_wp2_with (fail)
      obtain ⟨hr1, hr2, hr3⟩ := HOK.out r HRM.out
      have hca := tabadd_calls HTB.out (by rw [List.length_reverse, List.length_take]; omega) r hr1 hr3
      have haddt : addT (l'.take i).reverse r = (r :: (l'.take i).reverse, 0) := by unfold addT; rw [hr2, HFN.out]; rfl
      rw [haddt] at hca
      refine Calls.mono hca ?_
      rintro e w4 ⟨he, F4, hT4, hf4, hk4⟩
      subst he
      have hg3 := HG2.out g rfl
      have hgl : g < wr.heap.size := (HO3.out.lt g rfl).2
      have HT4 := Lib.hid (show TabAt w4 p2 mb2 F4 (l'.take (i + 1)).reverse by rw [HTK.out, List.reverse_append]; exact hT4)
      have hzb : wr.heap.size ≤ (wr.alloc (.cells #[.int .i64 r.id, .int .i64 r.dev, .int .u32 (r.addr : Int), .int .i64 r.bits, .int .i64 r.prio, .int .i64 r.out] 26)).heap.size := by simp
      have hwz := HK3.out.size
      have HO4 := Lib.hid (own_kept HOB.out hk4 (by intro y hy hm; simp [Value.ownBlock] at hy; subst hy; rcases List.mem_cons.1 hm with e | hm; exact hg3.2 e; exact hg3.1 hm))
      have HF4 := Lib.hid (show ∀ x ∈ F4, w.heap.size ≤ x from fun x hx => by rcases hf4 x hx with h1 | h1; exact HF2.out x h1; omega)
      have HG4 := Lib.hid (show ∀ g', (some (⟨g, 0, none⟩ : Addr)).map (·.block) = some g' → g' ∉ F4 ∧ g' ≠ mb2 from fun g' hg' => by
        obtain rfl : g = g' := by simpa using hg'
        refine ⟨fun hm => ?_, hg3.2⟩
        rcases hf4 g hm with h1 | h1
        · exact hg3.1 h1
        · omega)
      have HK4 := Lib.hid (HKB.out.trans (hk4.below (B := w.heap.size) (by omega) (by intro x hx; rcases List.mem_cons.1 hx with rfl | hx; exact hm; exact HF2.out x hx)))
      clear hca hT4 hf4 hk4
      go_wp2_with (fail)
      go_roundg (gk - 1)
      case measure => omega
      case rel => exact ⟨i + 1, F4, by omega, by go_num, HT4.out, HF4.out, HG4.out, HO4.out, HK4.out⟩
    · obtain rfl : i = l'.length := by omega
      go_wp2_with (fail)
      refine bodyPost_ret (v := .pointer (some ⟨p2, 0, none⟩)) (by simp [results, Try.results34, go_sem]) rfl ⟨p2, mb2, F2, rfl, HT3.out.perm ?_, HF2.out, hm, HK3.out⟩
      rw [List.take_length]
      exact (List.reverse_perm _).trans HPM.out
end Go.Proofs.Ytiedhjmnjpkcoaa
