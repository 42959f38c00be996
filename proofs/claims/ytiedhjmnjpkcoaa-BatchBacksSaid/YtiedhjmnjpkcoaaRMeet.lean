/- The document's Meeting. -/
import Derived.Test.YtiedhjmnjpkcoaaRAdd
import Derived.Test.YtiedhjmnjpkcoaaMeetP
import Derived.Test.YtiedhjmnjpkcoaaPlay
namespace Go.Proofs.Ytiedhjmnjpkcoaa
set_option linter.unusedVariables false
set_option linter.unusedSimpArgs false
open Go.RowKit

/-- The rules that meet a prefix. -/
def meetL (l : List Rl) (p : Pf) : List Rl := if rtB p then l.filter (meetR p.addr p.bits.toNat) else []

set_option maxRecDepth 100000 in
set_option maxHeartbeats 4000000 in
theorem rmeeting_bad {w : World} {b : Nat} {v : Value} {l : List Rl} (h : w.ownsRow b 26 6 v l.length (rlCells l)) (hl : l.length < 100000) (a : Nat) (n : Int) (ha : a < 2 ^ 32) (hrt : rtB ⟨a, n⟩ = false) :
    Calls Try.prog 31 #[v, .agg #[.int .u32 (a : Int), .int .i64 n]] w fun e w' => e = .returned (.slice none 0 0) ∧ Below w.heap.size w w' := by
  obtain ⟨ao, cap, hv⟩ : ∃ ao cap, v = .slice ao l.length cap := by
    rcases h.2 with ⟨h0, h1⟩ | ⟨g', cap', cur, h0, _⟩
    · exact ⟨none, 0, by rw [h0, h1]⟩
    · exact ⟨_, cap', h0⟩
  subst hv
  have HR : Hid (∀ W, Calls Try.prog 65 #[.agg #[.int .u32 (a : Int), .int .i64 n]] W fun e w' => e = .returned (.bool false) ∧ Below W.heap.size W w') := Lib.hid (fun W => by rw [← hrt]; exact rright_calls W ⟨a, n⟩ ha)
  have hX := heap_alloc_new w (.cells #[.int .u32 (a : Int), .int .i64 n] 24)
  have kb := (Below.refl w.heap.size w).alloc (Nat.le_refl _) (.cells #[.int .u32 (a : Int), .int .i64 n] 24)
  have H := Lib.hid h
  have HKB := Lib.hid kb
  have HX := Lib.hid hX
  clear h hX kb
  go_enter Try.func31, Try.ntmps31
  go_wp2_with (fail)
  generalize w.alloc (.cells #[.int .u32 (a : Int), .int .i64 n] 24) = w1 at *
  go_loopg [5, 6] l.length (fun gk vo vi wr => ∃ i : Nat, i + gk = l.length ∧ vo = .slice none 0 0 ∧ vi = .int .i64 (i : Int) ∧ Below w.heap.size w wr ∧ wr.heap[w.heap.size]? = some (.cells #[.int .u32 (a : Int), .int .i64 n] 24 (0, 0)))
  case atStart => exact ⟨0, by omega, rfl, rfl, HKB.out, HX.out⟩
  case round =>
    obtain ⟨i, hgk, rfl, rfl, hK, hB⟩ := hrel
    have HK := Lib.hid hK
    have HB := Lib.hid hB
    by_cases hlt : i < l.length
    · obtain ⟨g, hg⟩ : ∃ g, ao = some ⟨g, 0, none⟩ := by
        rcases H.out.2 with ⟨h0, h1⟩ | ⟨g', cap', cur, h0, _⟩
        · omega
        · injection h0 with h0; exact ⟨g', h0⟩
      subst hg
      have hcc := fun j (hj : j < 6) => ((own_kept H.out (Kept.of_below (S := []) hK) (by simp)).cellAt (i * 6 + j) (by omega)).trans (rlCells_at l i hlt j hj)
      have d2 := hcc 2 (by omega)
      have d3 := hcc 3 (by omega)
      clear hcc
      generalize l[i] = r at *
      simp [Rl.cells] at d2 d3
      have HKA := Lib.hid ((Below.refl wr.heap.size wr).alloc (Nat.le_refl _) (.cells #[.int .u32 (r.addr : Int), .int .i64 r.bits] 24))
      have HXA := Lib.hid (heap_alloc_new wr (.cells #[.int .u32 (r.addr : Int), .int .i64 r.bits] 24))
      clear hK hB
      go_upto_region 6 with (fail)
      generalize wr.alloc (.cells #[.int .u32 (r.addr : Int), .int .i64 r.bits] 24) = wa at *
      have hba := (HKA.out.block _ (lt_of_block HB.out)).trans HB.out
      have x0 := cell_of hba 0
      have x1 := cell_of hba 1
      have y0 := cell_of HXA.out 0
      have y1 := cell_of HXA.out 1
      simp only [List.getElem?_toArray, List.getElem?_cons_zero, List.getElem?_cons_succ] at x0 x1 y0 y1
      clear hba
      go_wp2_with (fail)
      refine Calls.mono (HR.out _) ?_
      rintro e w5 ⟨he, k5⟩
      subst he
      have HK5 := Lib.hid (HK.out.trans ((HKA.out.trans (k5.mono HKA.out.size)).mono HK.out.size))
      have HB5 := Lib.hid (((HKA.out.trans (k5.mono HKA.out.size)).block _ (lt_of_block HB.out)).trans HB.out)
      clear k5
      go_wp2_with (fail)
      go_roundg (gk - 1)
      case measure => omega
      case rel => exact ⟨i + 1, by omega, rfl, by go_num, HK5.out, HB5.out⟩
    · obtain rfl : i = l.length := by omega
      go_wp2_with (fail)
      exact bodyPost_ret (v := .slice none 0 0) (by simp [results, Try.results31, go_sem]) rfl ⟨rfl, HK.out⟩
set_option maxRecDepth 100000 in
set_option maxHeartbeats 4000000 in
theorem rmeeting_good {w : World} {b : Nat} {v : Value} {l : List Rl} (h : w.ownsRow b 26 6 v l.length (rlCells l)) (hok : ∀ r ∈ l, r.Ok) (hl : l.length < 100000) (a n : Nat) (ha : a < 2 ^ 32) (hn : n ≤ 32) (hrt : rtB ⟨a, n⟩ = true) :
    Calls Try.prog 31 #[v, .agg #[.int .u32 (a : Int), .int .i64 (n : Int)]] w fun e w' => ∃ vo, e = .returned vo ∧ w'.ownsRow w.heap.size 26 6 vo (l.filter (meetR a n)).length (rlCells (l.filter (meetR a n))) ∧ Below w.heap.size w w' := by
  obtain ⟨ao, cap, hv⟩ : ∃ ao cap, v = .slice ao l.length cap := by
    rcases h.2 with ⟨h0, h1⟩ | ⟨g', cap', cur, h0, _⟩
    · exact ⟨none, 0, by rw [h0, h1]⟩
    · exact ⟨_, cap', h0⟩
  subst hv
  have HR : Hid (∀ W, Calls Try.prog 65 #[.agg #[.int .u32 (a : Int), .int .i64 (n : Int)]] W fun e w' => e = .returned (.bool true) ∧ Below W.heap.size W w') := Lib.hid (fun W => by rw [← hrt]; exact rright_calls W ⟨a, n⟩ ha)
  have hX := heap_alloc_new w (.cells #[.int .u32 (a : Int), .int .i64 (n : Int)] 24)
  have kb := (Below.refl w.heap.size w).alloc (Nat.le_refl _) (.cells #[.int .u32 (a : Int), .int .i64 (n : Int)] 24)
  have hz1 : (w.alloc (.cells #[.int .u32 (a : Int), .int .i64 (n : Int)] 24)).heap.size = w.heap.size + 1 := by simp
  have H := Lib.hid h
  have HOK := Lib.hid hok
  have HKB := Lib.hid kb
  have HX := Lib.hid hX
  clear h hX kb hok
  obtain ⟨q, hq⟩ : ∃ q, q = meetR a n := ⟨_, rfl⟩
  rw [← hq]
  have HQ := Lib.hid hq
  clear hq
  go_enter Try.func31, Try.ntmps31
  go_wp2_with (fail)
  generalize w.alloc (.cells #[.int .u32 (a : Int), .int .i64 (n : Int)] 24) = w1 at *
  go_loopg [5, 6] l.length (fun gk vo vi wr => ∃ i : Nat, i + gk = l.length ∧ vi = .int .i64 (i : Int) ∧ wr.ownsRow (w.heap.size + 1) 26 6 vo ((l.take i).filter q).length (rlCells ((l.take i).filter q)) ∧ Below w.heap.size w wr ∧ wr.heap[w.heap.size]? = some (.cells #[.int .u32 (a : Int), .int .i64 (n : Int)] 24 (0, 0)))
  case atStart => exact ⟨0, by omega, rfl, World.ownsRow_nil _ _ _ _, HKB.out, HX.out⟩
  case round =>
    obtain ⟨i, hgk, rfl, hO, hK, hB⟩ := hrel
    have HO := Lib.hid hO
    have HK := Lib.hid hK
    have HB := Lib.hid hB
    clear hO
    by_cases hlt : i < l.length
    · obtain ⟨g, hg⟩ : ∃ g, ao = some ⟨g, 0, none⟩ := by
        rcases H.out.2 with ⟨h0, h1⟩ | ⟨g', cap', cur, h0, _⟩
        · omega
        · injection h0 with h0; exact ⟨g', h0⟩
      subst hg
      have hcc : ∀ W, Below w.heap.size w W → ∀ j, j < 6 → W.cell? ⟨g, i * 6 + j, none⟩ = some (l[i].cells[j]!) := fun W kW j hj => ((own_kept H.out (Kept.of_below (S := []) kW) (by simp)).cellAt (i * 6 + j) (by omega)).trans (rlCells_at l i hlt j hj)
      have hTK : l.take (i + 1) = l.take i ++ [l[i]] := by rw [List.take_add_one, List.getElem?_eq_getElem hlt]; rfl
      have hrok := HOK.out _ (List.getElem_mem hlt)
      have hlf : ((l.take i).filter q).length ≤ i := Nat.le_trans (List.length_filter_le _ _) (by simp; omega)
      generalize l[i] = r at *
      have HCC := Lib.hid hcc
      have HTK := Lib.hid hTK
      have d2 := hcc _ hK 2 (by omega)
      have d3 := hcc _ hK 3 (by omega)
      clear hcc hTK
      simp [Rl.cells] at d2 d3
      have hr1 := hrok.1
      obtain ⟨_, hm32, hmb⟩ := hrok.bits
      obtain ⟨m, hm⟩ : ∃ m, m = r.bits.toNat := ⟨_, rfl⟩
      rw [← hm] at hm32 hmb
      have hq : q r = ((decide (m ≤ n) && hasN r.addr m a) || (decide (n ≤ m) && hasN a n r.addr)) := by
        rw [HQ.out]
        unfold meetR hasR
        rw [← hm]
      have hq := Lib.hid hq
      rw [← hmb] at d3
      have H1 := Lib.hid (fun W => rhas_calls W r.addr m a hr1 ha hm32)
      have H2 := Lib.hid (fun W => rhas_calls W a n r.addr ha hr1 hn)
      have HKA := Lib.hid ((Below.refl wr.heap.size wr).alloc (Nat.le_refl _) (.cells #[.int .u32 (r.addr : Int), .int .i64 (m : Int)] 24))
      have HXA := Lib.hid (heap_alloc_new wr (.cells #[.int .u32 (r.addr : Int), .int .i64 (m : Int)] 24))
      clear hK hB hrok hm hmb
      go_upto_region 6 with (fail)
      generalize wr.alloc (.cells #[.int .u32 (r.addr : Int), .int .i64 (m : Int)] 24) = wa at *
      have hba := (HKA.out.block _ (lt_of_block HB.out)).trans HB.out
      have HKW := Lib.hid (HK.out.trans (HKA.out.mono HK.out.size))
      have HOA := Lib.hid (own_kept HO.out (Kept.of_below (S := []) HKA.out) (by simp))
      have x0 := cell_of hba 0
      have x1 := cell_of hba 1
      have y0 := cell_of HXA.out 0
      have y1 := cell_of HXA.out 1
      simp only [List.getElem?_toArray, List.getElem?_cons_zero, List.getElem?_cons_succ] at x0 x1 y0 y1
      have HBA := Lib.hid hba
      clear hba
      have HCELL : Hid (∀ W, Below wa.heap.size wa W → W.cell? ⟨w.heap.size, 0, none⟩ = some (.int .u32 (a : Int)) ∧ W.cell? ⟨w.heap.size, 1, none⟩ = some (.int .i64 (n : Int)) ∧ W.cell? ⟨wr.heap.size, 0, none⟩ = some (.int .u32 (r.addr : Int)) ∧ W.cell? ⟨wr.heap.size, 1, none⟩ = some (.int .i64 (m : Int))) := Lib.hid (fun W k => by
        refine ⟨?_, ?_, ?_, ?_⟩ <;> rw [World.cell?_of_block (k.block _ ?_)] <;> first | assumption | exact lt_of_block HBA.out | exact lt_of_block HXA.out)
      have HROUND : Hid (∀ W, Below wa.heap.size wa W → q r = false → W.ownsRow (w.heap.size + 1) 26 6 u5 ((l.take (i + 1)).filter q).length (rlCells ((l.take (i + 1)).filter q)) ∧ Below w.heap.size w W ∧ W.heap[w.heap.size]? = some (.cells #[.int .u32 (a : Int), .int .i64 (n : Int)] 24 (0, 0))) := Lib.hid (fun W k hqr => by
        refine ⟨?_, HKW.out.trans (k.mono HKW.out.size), (k.block _ (lt_of_block HBA.out)).trans HBA.out⟩
        rw [HTK.out, List.filter_append, List.filter_cons_of_neg (by simp [hqr]), List.filter_nil, List.append_nil]
        exact own_kept HOA.out (Kept.of_below (S := []) k) (by simp))
      by_cases h1 : m ≤ n
      · have h1' : (m : Int) ≤ n := by omega
        generalize hv1 : hasN r.addr m a = b1 at *
        cases b1 with
        | true =>
          have HQ1 : Hid (q r = true) := Lib.hid (by rw [hq.out]; simp [h1])
          go_upto_region 7 with (first | (go_at_call 65; refine Calls.mono (HR.out _) ?_; rintro e w5 ⟨he, k5⟩; subst he; have K5 := Lib.hid k5; clear k5; obtain ⟨x0, x1, y0, y1⟩ := HCELL.out _ K5.out) | (go_at_call 66; with_reducible refine Calls.mono (H1.out _) ?_; rintro e w6 ⟨he, k6⟩; subst he; have K6 := Lib.hid (K5.out.trans (k6.mono K5.out.size)); clear k6; obtain ⟨x0, x1, y0, y1⟩ := HCELL.out _ K6.out) | (go_at_call 66; with_reducible refine Calls.mono (H2.out _) ?_; rintro e w7 ⟨he, k7⟩; subst he; have K7 := Lib.hid (K6.out.trans (k7.mono K6.out.size)); clear k7; obtain ⟨x0, x1, y0, y1⟩ := HCELL.out _ K7.out))
          have kw := HKW.out.trans (K6.out.mono HKW.out.size)
          have e0 := HCC.out _ kw 0 (by omega)
          have e1 := HCC.out _ kw 1 (by omega)
          have e2 := HCC.out _ kw 2 (by omega)
          have e3 := HCC.out _ kw 3 (by omega)
          have e4 := HCC.out _ kw 4 (by omega)
          have e5 := HCC.out _ kw 5 (by omega)
          simp [Rl.cells] at e0 e1 e2 e3 e4 e5
          have HKX := Lib.hid kw
          have HOX := Lib.hid (own_kept HOA.out (Kept.of_below (S := []) K6.out) (by simp))
          have HBX := Lib.hid ((K6.out.block _ (lt_of_block HBA.out)).trans HBA.out)
          have hzx := HKX.out.size
          have hz1x := lt_of_block HBX.out
          clear kw
          go_wp2_with (at_builtin; go_must (refine wpList_app_rules (l := (l.take i).filter q) (l2 := [r]) ?_ (.tmp 47) (.tmp 52) ?_ (own_kept HOX.out ((Kept.refl [] _).alloc _) (by simp)) (part_one _ r) ?_ (by simp; omega) ?_ ?_ ?_); (· rfl); (· rfl); (· simp; omega); (· rfl); (· rfl); intro v9 w9 how9 hgr9 hat9; have HOW9 := Lib.hid how9; have HGR9 := Lib.hid hgr9; have HAT9 := Lib.hid hat9; clear how9 hgr9 hat9)
          go_roundg (gk - 1)
          case measure => omega
          case rel =>
            refine ⟨i + 1, by omega, by go_num, ?_, ?_, ?_⟩
            · rw [HTK.out, List.filter_append, List.filter_cons_of_pos (by simpa using HQ1.out), List.filter_nil]
              exact HOW9.out
            · exact HKX.out.trans (((Below.refl w.heap.size w6).alloc hzx _).trans (below_grew HGR9.out (by simp; omega) (fun k e => by have := (own_lt HOX.out e).1; omega)))
            · exact (HGR9.out.block w.heap.size (by simp; omega) (fun e => by have := (own_lt HOX.out e.symm).1; omega)).trans (blk_alloc HBX.out _)
        | false =>
          by_cases h2 : n ≤ m
          · have h2' : (n : Int) ≤ m := by omega
            generalize hv2 : hasN a n r.addr = b2 at *
            cases b2 with
            | true =>
              have HQ1 : Hid (q r = true) := Lib.hid (by rw [hq.out]; simp [h2])
              go_upto_region 7 with (first | (go_at_call 65; refine Calls.mono (HR.out _) ?_; rintro e w5 ⟨he, k5⟩; subst he; have K5 := Lib.hid k5; clear k5; obtain ⟨x0, x1, y0, y1⟩ := HCELL.out _ K5.out) | (go_at_call 66; with_reducible refine Calls.mono (H1.out _) ?_; rintro e w6 ⟨he, k6⟩; subst he; have K6 := Lib.hid (K5.out.trans (k6.mono K5.out.size)); clear k6; obtain ⟨x0, x1, y0, y1⟩ := HCELL.out _ K6.out) | (go_at_call 66; with_reducible refine Calls.mono (H2.out _) ?_; rintro e w7 ⟨he, k7⟩; subst he; have K7 := Lib.hid (K6.out.trans (k7.mono K6.out.size)); clear k7; obtain ⟨x0, x1, y0, y1⟩ := HCELL.out _ K7.out))
              have kw := HKW.out.trans (K7.out.mono HKW.out.size)
              have e0 := HCC.out _ kw 0 (by omega)
              have e1 := HCC.out _ kw 1 (by omega)
              have e2 := HCC.out _ kw 2 (by omega)
              have e3 := HCC.out _ kw 3 (by omega)
              have e4 := HCC.out _ kw 4 (by omega)
              have e5 := HCC.out _ kw 5 (by omega)
              simp [Rl.cells] at e0 e1 e2 e3 e4 e5
              have HKX := Lib.hid kw
              have HOX := Lib.hid (own_kept HOA.out (Kept.of_below (S := []) K7.out) (by simp))
              have HBX := Lib.hid ((K7.out.block _ (lt_of_block HBA.out)).trans HBA.out)
              have hzx := HKX.out.size
              have hz1x := lt_of_block HBX.out
              clear kw
              go_wp2_with (at_builtin; go_must (refine wpList_app_rules (l := (l.take i).filter q) (l2 := [r]) ?_ (.tmp 47) (.tmp 52) ?_ (own_kept HOX.out ((Kept.refl [] _).alloc _) (by simp)) (part_one _ r) ?_ (by simp; omega) ?_ ?_ ?_); (· rfl); (· rfl); (· simp; omega); (· rfl); (· rfl); intro v9 w9 how9 hgr9 hat9; have HOW9 := Lib.hid how9; have HGR9 := Lib.hid hgr9; have HAT9 := Lib.hid hat9; clear how9 hgr9 hat9)
              go_roundg (gk - 1)
              case measure => omega
              case rel =>
                refine ⟨i + 1, by omega, by go_num, ?_, ?_, ?_⟩
                · rw [HTK.out, List.filter_append, List.filter_cons_of_pos (by simpa using HQ1.out), List.filter_nil]
                  exact HOW9.out
                · exact HKX.out.trans (((Below.refl w.heap.size w7).alloc hzx _).trans (below_grew HGR9.out (by simp; omega) (fun k e => by have := (own_lt HOX.out e).1; omega)))
                · exact (HGR9.out.block w.heap.size (by simp; omega) (fun e => by have := (own_lt HOX.out e.symm).1; omega)).trans (blk_alloc HBX.out _)
            | false =>
              have HQ0 : Hid (q r = false) := Lib.hid (by rw [hq.out]; simp)
              go_wp2_with (first | (go_at_call 65; refine Calls.mono (HR.out _) ?_; rintro e w5 ⟨he, k5⟩; subst he; have K5 := Lib.hid k5; clear k5; obtain ⟨x0, x1, y0, y1⟩ := HCELL.out _ K5.out) | (go_at_call 66; with_reducible refine Calls.mono (H1.out _) ?_; rintro e w6 ⟨he, k6⟩; subst he; have K6 := Lib.hid (K5.out.trans (k6.mono K5.out.size)); clear k6; obtain ⟨x0, x1, y0, y1⟩ := HCELL.out _ K6.out) | (go_at_call 66; with_reducible refine Calls.mono (H2.out _) ?_; rintro e w7 ⟨he, k7⟩; subst he; have K7 := Lib.hid (K6.out.trans (k7.mono K6.out.size)); clear k7; obtain ⟨x0, x1, y0, y1⟩ := HCELL.out _ K7.out))
              go_roundg (gk - 1)
              case measure => omega
              case rel =>
                obtain ⟨r1, r2, r3⟩ := HROUND.out _ K7.out HQ0.out
                exact ⟨i + 1, by omega, by go_num, r1, r2, r3⟩
          · have h2' : ¬ (n : Int) ≤ m := by omega
            have HQ0 : Hid (q r = false) := Lib.hid (by rw [hq.out]; simp [h2])
            go_wp2_with (first | (go_at_call 65; refine Calls.mono (HR.out _) ?_; rintro e w5 ⟨he, k5⟩; subst he; have K5 := Lib.hid k5; clear k5; obtain ⟨x0, x1, y0, y1⟩ := HCELL.out _ K5.out) | (go_at_call 66; with_reducible refine Calls.mono (H1.out _) ?_; rintro e w6 ⟨he, k6⟩; subst he; have K6 := Lib.hid (K5.out.trans (k6.mono K5.out.size)); clear k6; obtain ⟨x0, x1, y0, y1⟩ := HCELL.out _ K6.out) | (go_at_call 66; with_reducible refine Calls.mono (H2.out _) ?_; rintro e w7 ⟨he, k7⟩; subst he; have K7 := Lib.hid (K6.out.trans (k7.mono K6.out.size)); clear k7; obtain ⟨x0, x1, y0, y1⟩ := HCELL.out _ K7.out))
            go_roundg (gk - 1)
            case measure => omega
            case rel =>
              obtain ⟨r1, r2, r3⟩ := HROUND.out _ K6.out HQ0.out
              exact ⟨i + 1, by omega, by go_num, r1, r2, r3⟩
      · have h1' : ¬ (m : Int) ≤ n := by omega
        have h2' : (n : Int) ≤ m := by omega
        have h2 : n ≤ m := by omega
        generalize hv2 : hasN a n r.addr = b2 at *
        cases b2 with
        | true =>
          have HQ1 : Hid (q r = true) := Lib.hid (by rw [hq.out]; simp [h2])
          go_upto_region 7 with (first | (go_at_call 65; refine Calls.mono (HR.out _) ?_; rintro e w5 ⟨he, k5⟩; subst he; have K5 := Lib.hid k5; clear k5; obtain ⟨x0, x1, y0, y1⟩ := HCELL.out _ K5.out) | (go_at_call 66; with_reducible refine Calls.mono (H1.out _) ?_; rintro e w6 ⟨he, k6⟩; subst he; have K6 := Lib.hid (K5.out.trans (k6.mono K5.out.size)); clear k6; obtain ⟨x0, x1, y0, y1⟩ := HCELL.out _ K6.out) | (go_at_call 66; with_reducible refine Calls.mono (H2.out _) ?_; rintro e w7 ⟨he, k7⟩; subst he; have K7 := Lib.hid (K5.out.trans (k7.mono K5.out.size)); clear k7; obtain ⟨x0, x1, y0, y1⟩ := HCELL.out _ K7.out))
          have kw := HKW.out.trans (K7.out.mono HKW.out.size)
          have e0 := HCC.out _ kw 0 (by omega)
          have e1 := HCC.out _ kw 1 (by omega)
          have e2 := HCC.out _ kw 2 (by omega)
          have e3 := HCC.out _ kw 3 (by omega)
          have e4 := HCC.out _ kw 4 (by omega)
          have e5 := HCC.out _ kw 5 (by omega)
          simp [Rl.cells] at e0 e1 e2 e3 e4 e5
          have HKX := Lib.hid kw
          have HOX := Lib.hid (own_kept HOA.out (Kept.of_below (S := []) K7.out) (by simp))
          have HBX := Lib.hid ((K7.out.block _ (lt_of_block HBA.out)).trans HBA.out)
          have hzx := HKX.out.size
          have hz1x := lt_of_block HBX.out
          clear kw
          go_wp2_with (at_builtin; go_must (refine wpList_app_rules (l := (l.take i).filter q) (l2 := [r]) ?_ (.tmp 47) (.tmp 52) ?_ (own_kept HOX.out ((Kept.refl [] _).alloc _) (by simp)) (part_one _ r) ?_ (by simp; omega) ?_ ?_ ?_); (· rfl); (· rfl); (· simp; omega); (· rfl); (· rfl); intro v9 w9 how9 hgr9 hat9; have HOW9 := Lib.hid how9; have HGR9 := Lib.hid hgr9; have HAT9 := Lib.hid hat9; clear how9 hgr9 hat9)
          go_roundg (gk - 1)
          case measure => omega
          case rel =>
            refine ⟨i + 1, by omega, by go_num, ?_, ?_, ?_⟩
            · rw [HTK.out, List.filter_append, List.filter_cons_of_pos (by simpa using HQ1.out), List.filter_nil]
              exact HOW9.out
            · exact HKX.out.trans (((Below.refl w.heap.size w7).alloc hzx _).trans (below_grew HGR9.out (by simp; omega) (fun k e => by have := (own_lt HOX.out e).1; omega)))
            · exact (HGR9.out.block w.heap.size (by simp; omega) (fun e => by have := (own_lt HOX.out e.symm).1; omega)).trans (blk_alloc HBX.out _)
        | false =>
          have HQ0 : Hid (q r = false) := Lib.hid (by rw [hq.out]; simp [h1])
          go_wp2_with (first | (go_at_call 65; refine Calls.mono (HR.out _) ?_; rintro e w5 ⟨he, k5⟩; subst he; have K5 := Lib.hid k5; clear k5; obtain ⟨x0, x1, y0, y1⟩ := HCELL.out _ K5.out) | (go_at_call 66; with_reducible refine Calls.mono (H1.out _) ?_; rintro e w6 ⟨he, k6⟩; subst he; have K6 := Lib.hid (K5.out.trans (k6.mono K5.out.size)); clear k6; obtain ⟨x0, x1, y0, y1⟩ := HCELL.out _ K6.out) | (go_at_call 66; with_reducible refine Calls.mono (H2.out _) ?_; rintro e w7 ⟨he, k7⟩; subst he; have K7 := Lib.hid (K5.out.trans (k7.mono K5.out.size)); clear k7; obtain ⟨x0, x1, y0, y1⟩ := HCELL.out _ K7.out))
          go_roundg (gk - 1)
          case measure => omega
          case rel =>
            obtain ⟨r1, r2, r3⟩ := HROUND.out _ K7.out HQ0.out
            exact ⟨i + 1, by omega, by go_num, r1, r2, r3⟩
    · obtain rfl : i = l.length := by omega
      go_wp2_with (fail)
      refine bodyPost_ret (v := u5) (by simp [results, Try.results31, go_sem]) rfl ⟨_, rfl, ?_, HK.out⟩
      have := HO.out
      rw [List.take_length] at this
      exact this.mono (by omega)
end Go.Proofs.Ytiedhjmnjpkcoaa
