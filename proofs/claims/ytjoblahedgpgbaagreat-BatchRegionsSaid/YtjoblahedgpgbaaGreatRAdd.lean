/- The document's Add. -/
import Derived.Test.YtjoblahedgpgbaaGreatRDrop
import Derived.Test.YtjoblahedgpgbaaGreatRefP
namespace Go.Proofs.YtjoblahedgpgbaaGreat
set_option linter.unusedVariables false
set_option linter.unusedSimpArgs false
open Go.RowKit

theorem part_one (w : World) (r : Rl) : PartAt (w.alloc (.cells #[.int .i64 r.id, .int .i64 r.dev, .int .u32 (r.addr : Int), .int .i64 r.bits, .int .i64 r.prio, .int .i64 r.out] 89)) (.slice (some ⟨w.heap.size, 0, none⟩) 1 1) [r] := by
  refine Or.inr ⟨⟨w.heap.size, 0, none⟩, 1, rfl, by simp, fun j u hu => ?_⟩
  have h := cell_of (heap_alloc_new w (.cells #[.int .i64 r.id, .int .i64 r.dev, .int .u32 (r.addr : Int), .int .i64 r.bits, .int .i64 r.prio, .int .i64 r.out] 89)) j
  have e : (⟨w.heap.size, 0, none⟩ : Addr).add j = ⟨w.heap.size, j, none⟩ := by unfold Addr.add; split <;> simp_all
  rw [e, h, ← hu]
  simp [rlCells, Rl.cells]

set_option maxRecDepth 100000 in
set_option maxHeartbeats 4000000 in
theorem radd_calls {w : World} {b : Nat} {v : Value} {l : List Rl} (h : w.ownsRow b 89 6 v l.length (rlCells l)) (hl : l.length < 100000) (r : Rl) (hr : r.addr < 2 ^ 32) :
    Calls Tryz.prog 109 #[v, r.val] w fun e w' => ∃ v' fo, e = .returned (.tuple #[v', .int .i64 fo.2]) ∧ AddS l r fo ∧ RowOr w w' v v' l fo.1 ∧ Below w.heap.size w w' := by
  obtain ⟨ao, cap, hv⟩ : ∃ ao cap, v = .slice ao l.length cap := by
    rcases h.2 with ⟨h0, h1⟩ | ⟨g', cap', cur, h0, _⟩
    · exact ⟨none, 0, by rw [h0, h1]⟩
    · exact ⟨_, cap', h0⟩
  subst hv
  have HR := Lib.hid (fun w' => rright_calls w' r.dst hr)
  have HA := Lib.hid ahead_calls
  have hX := heap_alloc_new w (.cells #[.int .i64 r.id, .int .i64 r.dev, .int .u32 (r.addr : Int), .int .i64 r.bits, .int .i64 r.prio, .int .i64 r.out] 89)
  have kb := (Below.refl w.heap.size w).alloc (Nat.le_refl _) (.cells #[.int .i64 r.id, .int .i64 r.dev, .int .u32 (r.addr : Int), .int .i64 r.bits, .int .i64 r.prio, .int .i64 r.out] 89)
  have H := Lib.hid h
  have HKB := Lib.hid kb
  have HX := Lib.hid hX
  have hval : r.val = .agg #[.int .i64 r.id, .int .i64 r.dev, .int .u32 (r.addr : Int), .int .i64 r.bits, .int .i64 r.prio, .int .i64 r.out] := rfl
  rw [hval]
  clear h hX kb
  cases hrt : rtB r.dst with
  | false =>
    rw [hrt] at HR
    have HRT := Lib.hid hrt
    clear hrt
    go_enter Tryz.func109, Tryz.ntmps109
    go_wp2_with (fail)
    generalize w.alloc (.cells #[.int .i64 r.id, .int .i64 r.dev, .int .u32 (r.addr : Int), .int .i64 r.bits, .int .i64 r.prio, .int .i64 r.out] 89) = w1 at *
    have d2 := cell_of HX.out 2
    have d3 := cell_of HX.out 3
    simp only [List.getElem?_toArray, List.getElem?_cons_zero, List.getElem?_cons_succ] at d2 d3
    go_wp2_with (fail)
    refine (HR.out _).mono ?_
    rintro e w2 ⟨he, k2⟩
    subst he
    have K2 := Lib.hid k2
    clear k2
    go_wp2_with (fail)
    exact bodyPost_ret (v := .tuple #[_, .int .i64 13]) (by simp [results, Tryz.results109, go_sem]) rfl ⟨_, (l, 13), rfl, Or.inl ⟨HRT.out, rfl⟩, Or.inr ⟨rfl, rfl⟩, HKB.out.trans (K2.out.mono HKB.out.size)⟩
  | true =>
    rw [hrt] at HR
    have HRT := Lib.hid hrt
    clear hrt
    go_enter Tryz.func109, Tryz.ntmps109
    go_wp2_with (fail)
    generalize w.alloc (.cells #[.int .i64 r.id, .int .i64 r.dev, .int .u32 (r.addr : Int), .int .i64 r.bits, .int .i64 r.prio, .int .i64 r.out] 89) = w1 at *
    have d2 := cell_of HX.out 2
    have d3 := cell_of HX.out 3
    simp only [List.getElem?_toArray, List.getElem?_cons_zero, List.getElem?_cons_succ] at d2 d3
    go_wp2_with (fail)
    refine (HR.out _).mono ?_
    rintro e w2 ⟨he, k2⟩
    subst he
    have K2 := Lib.hid (HKB.out.trans (k2.mono HKB.out.size))
    have HX2 := Lib.hid ((k2.block _ (lt_of_block HX.out)).trans HX.out)
    clear k2 d2 d3
    go_wp2_with (fail)
    go_loopg [6, 7] l.length (fun gk va vi wr => ∃ i k : Nat, i + gk = l.length ∧ vi = .int .i64 (i : Int) ∧ va = .int .i64 (k : Int) ∧ Below w.heap.size w wr ∧ wr.heap[w.heap.size]? = some (.cells #[.int .i64 r.id, .int .i64 r.dev, .int .u32 (r.addr : Int), .int .i64 r.bits, .int .i64 r.prio, .int .i64 r.out] 89 (0, 0)) ∧ k ≤ i ∧ (∀ j x, k = j + 1 → l[j]? = some x → aheadR x r = true) ∧ (∀ j x, k ≤ j → j < i → l[j]? = some x → aheadR x r = false) ∧ ∀ x ∈ l.take i, x.id ≠ r.id)
    case atStart => exact ⟨0, 0, by omega, rfl, rfl, K2.out, HX2.out, by omega, fun j x e => by omega, fun j x _ e => by omega, by simp⟩
    case round =>
      obtain ⟨i, k, hgk, rfl, rfl, hK, hB, hki, hup, hoff, hN⟩ := hrel
      have HK := Lib.hid hK
      have HB := Lib.hid hB
      have HUP := Lib.hid hup
      have HOFF := Lib.hid hoff
      have HN := Lib.hid hN
      clear hup hoff hN
      by_cases hlt : i < l.length
      · obtain ⟨g, hg⟩ : ∃ g, ao = some ⟨g, 0, none⟩ := by
          rcases H.out.2 with ⟨h0, h1⟩ | ⟨g', cap', cur, h0, _⟩
          · omega
          · injection h0 with h0; exact ⟨g', h0⟩
        subst hg
        have how := own_kept H.out (Kept.of_below (S := []) hK) (by simp)
        have hcc := fun j (hj : j < 6) => (how.cellAt (i * 6 + j) (by omega)).trans (rlCells_at l i hlt j hj)
        have d0 := hcc 0 (by omega)
        have HLI : Hid (l[i]? = some l[i]) := Lib.hid (List.getElem?_eq_getElem hlt)
        have HM : Hid (l[i] ∈ l) := Lib.hid (List.getElem_mem hlt)
        have e0 := hcc 1 (by omega)
        have e1 := hcc 2 (by omega)
        have e2 := hcc 3 (by omega)
        have e3 := hcc 4 (by omega)
        have e4 := hcc 5 (by omega)
        have HTK : Hid (l.take (i + 1) = l.take i ++ [l[i]]) := Lib.hid (by rw [List.take_add_one, List.getElem?_eq_getElem hlt]; rfl)
        clear hcc how hK
        generalize l[i] = s at *
        simp [Rl.cells] at d0 e0 e1 e2 e3 e4
        have x0 := cell_of hB 0
        have x1 := cell_of hB 1
        have x2 := cell_of hB 2
        have x3 := cell_of hB 3
        have x4 := cell_of hB 4
        have x5 := cell_of hB 5
        simp only [List.getElem?_toArray, List.getElem?_cons_zero, List.getElem?_cons_succ] at x0 x1 x2 x3 x4 x5
        have HA2 : Hid (∀ W, Calls Tryz.prog 185 #[.agg #[.int .i64 s.id, .int .i64 s.dev, .int .u32 (s.addr : Int), .int .i64 s.bits, .int .i64 s.prio, .int .i64 s.out], .agg #[.int .i64 r.id, .int .i64 r.dev, .int .u32 (r.addr : Int), .int .i64 r.bits, .int .i64 r.prio, .int .i64 r.out]] W fun e w' => e = .returned (.bool (aheadR s r)) ∧ Below W.heap.size W w') := Lib.hid (fun W => HA.out W s r)
        clear hB
        by_cases hid : s.id = r.id
        · go_wp2_with (fail)
          go_region
          go_wp2_with (fail)
          exact bodyPost_ret (v := .tuple #[_, .int .i64 4]) (by simp [results, Tryz.results109, go_sem]) rfl ⟨_, (l, 4), rfl, Or.inr (Or.inl ⟨HRT.out, findR_isSome.2 ⟨s, HM.out, hid⟩, rfl⟩), Or.inr ⟨rfl, rfl⟩, HK.out.drew⟩
        · go_wp2_with (fail)
          go_region
          have dd : (wr.drew.cell? ⟨g, i * 6, none⟩ = some (.int .i64 s.id) ∧ wr.drew.cell? ⟨g, i * 6 + 1, none⟩ = some (.int .i64 s.dev) ∧ wr.drew.cell? ⟨g, i * 6 + 2, none⟩ = some (.int .u32 (s.addr : Int)) ∧ wr.drew.cell? ⟨g, i * 6 + 3, none⟩ = some (.int .i64 s.bits) ∧ wr.drew.cell? ⟨g, i * 6 + 4, none⟩ = some (.int .i64 s.prio) ∧ wr.drew.cell? ⟨g, i * 6 + 5, none⟩ = some (.int .i64 s.out)) ∧
              wr.drew.cell? ⟨w.heap.size, 0, none⟩ = some (.int .i64 r.id) ∧ wr.drew.cell? ⟨w.heap.size, 1, none⟩ = some (.int .i64 r.dev) ∧ wr.drew.cell? ⟨w.heap.size, 2, none⟩ = some (.int .u32 (r.addr : Int)) ∧ wr.drew.cell? ⟨w.heap.size, 3, none⟩ = some (.int .i64 r.bits) ∧ wr.drew.cell? ⟨w.heap.size, 4, none⟩ = some (.int .i64 r.prio) ∧ wr.drew.cell? ⟨w.heap.size, 5, none⟩ = some (.int .i64 r.out) := ⟨⟨d0, e0, e1, e2, e3, e4⟩, x0, x1, x2, x3, x4, x5⟩
          clear d0 e0 e1 e2 e3 e4 x0 x1 x2 x3 x4 x5
          obtain ⟨⟨d0, e0, e1, e2, e3, e4⟩, x0, x1, x2, x3, x4, x5⟩ := dd
          have HKD := Lib.hid HK.out.drew
          have HBD : Hid (wr.drew.heap[w.heap.size]? = some (.cells #[.int .i64 r.id, .int .i64 r.dev, .int .u32 (r.addr : Int), .int .i64 r.bits, .int .i64 r.prio, .int .i64 r.out] 89 (0, 0))) := Lib.hid HB.out
          generalize wr.drew = wd at *
          go_wp2_with (fail)
          go_region_law (go_simp; go_at_call 185; refine Calls.mono (HA2.out _) ?_; rintro e w5 ⟨he, k5⟩; subst he; have K5 := Lib.hid k5; clear k5)
          all_goals
            have hk6 := HKD.out.drew.trans (K5.out.mono HKD.out.size)
            have hb6 := (K5.out.block _ (lt_of_block HBD.out)).trans HBD.out
            have HK6 := Lib.hid hk6
            have HB6 := Lib.hid hb6
            clear hk6 hb6
            have hn6 : ∀ x ∈ l.take (i + 1), x.id ≠ r.id := by
              rw [HTK.out]
              intro x hx
              rcases List.mem_append.1 hx with hx | hx
              · exact HN.out x hx
              · rw [show x = s by simpa using hx]
                exact hid
            have HN6 := Lib.hid hn6
            clear hn6
            cases hah : aheadR s r with
            | false =>
              have HAH := Lib.hid hah
              clear hah
              go_wp2_with (fail)
              go_roundg (gk - 1)
              case measure => omega
              case rel =>
                refine ⟨i + 1, k, by omega, by go_num, rfl, HK6.out, HB6.out, by omega, HUP.out, fun j x h1 h2 h3 => ?_, HN6.out⟩
                by_cases hj : j = i
                · subst hj
                  rw [HLI.out] at h3
                  cases h3
                  exact HAH.out
                · exact HOFF.out j x h1 (by omega) h3
            | true =>
              have HAH := Lib.hid hah
              clear hah
              go_wp2_with (fail)
              go_roundg (gk - 1)
              case measure => omega
              case rel =>
                refine ⟨i + 1, i + 1, by omega, by go_num, by go_num, HK6.out, HB6.out, by omega, fun j x h1 h3 => ?_, fun j x h1 h2 h3 => by omega, HN6.out⟩
                obtain rfl : i = j := by omega
                rw [HLI.out] at h3
                cases h3
                exact HAH.out
      · obtain rfl : i = l.length := by omega
        have hins : InsAt l r k := ⟨hki, HUP.out, fun j x h1 h3 => HOFF.out j x h1 (List.getElem?_eq_some_iff.1 h3).1 h3⟩
        have hnone : ∀ x ∈ l, x.id ≠ r.id := by simpa using HN.out
        have HADD : Hid (AddS l r (l.take k ++ r :: l.drop k, 0)) := Lib.hid (Or.inr (Or.inr ⟨HRT.out, hnone, k, hins, rfl⟩))
        clear hins hnone
        have how := own_kept H.out (Kept.of_below (S := []) hK) (by simp)
        have HW := Lib.hid how
        have hz := HK.out.size
        have hx0 : ∃ g, (ao = none ∧ l.length = 0 ∧ cap = 0 ∧ k = 0) ∨ (ao = some ⟨g, 0, none⟩ ∧ l.length ≤ cap) := by
          rcases how.2 with ⟨h0, h1⟩ | ⟨g', cap', cur, h0, _, _, h3, _⟩
          · injection h0 with h2 h3 h4
            exact ⟨0, Or.inl ⟨h2, h1, h4, by omega⟩⟩
          · injection h0 with h2 h4 h5
            subst h5
            exact ⟨g', Or.inr ⟨h2, h3⟩⟩
        clear how
        have x0 := cell_of hB 0
        have x1 := cell_of hB 1
        have x2 := cell_of hB 2
        have x3 := cell_of hB 3
        have x4 := cell_of hB 4
        have x5 := cell_of hB 5
        simp only [List.getElem?_toArray, List.getElem?_cons_zero, List.getElem?_cons_succ] at x0 x1 x2 x3 x4 x5
        obtain ⟨g, ⟨rfl, h0, rfl, rfl⟩ | ⟨rfl, hcap⟩⟩ := hx0
        · obtain rfl : l = [] := List.length_eq_zero_iff.1 h0
          simp only [List.length_nil, List.take_nil, List.drop_nil, List.nil_append] at *
          have hnone : ∀ W : World, PartAt W (.slice none 0 0) [] := fun W => Or.inl ⟨0, rfl, rfl, rfl⟩
          have HNO := Lib.hid hnone
          clear hK hB hnone
          go_upto_region 13 with (at_builtin; go_must (refine wpList_app_rules (l := []) (l2 := []) ?_ (.tmp 37) (.tmp 40) ?_ (World.ownsRow_nil _ w.heap.size _ _) (HNO.out _) ?_ hz ?_ ?_ ?_); (· rfl); (· rfl); (· simp); (· rfl); (· rfl); intro v9 w9 how9 hgr9 hat9; have HOW9 := Lib.hid how9; have HGR9 := Lib.hid hgr9; have HAT9 := Lib.hid hat9; clear how9 hgr9 hat9)
          have hb9 : Below w.heap.size wr w9 := below_grew HGR9.out hz (by intro k e; cases e)
          have k9 := Kept.of_grown_none (S := []) HGR9.out
          have hz9 := k9.size
          have hw9 : v9.ownBlock = none ∨ v9.ownBlock = some wr.heap.size := HAT9.out
          have y0 := k9.cell x0 (by simp)
          have y1 := k9.cell x1 (by simp)
          have y2 := k9.cell x2 (by simp)
          have y3 := k9.cell x3 (by simp)
          have y4 := k9.cell x4 (by simp)
          have y5 := k9.cell x5 (by simp)
          clear x0 x1 x2 x3 x4 x5
          go_upto_region 14 with (at_builtin; go_must (refine wpList_app_rules (l := [] ++ []) (l2 := [r]) ?_ (.tmp 42) (.tmp 44) ?_ (own_kept HOW9.out ((Kept.refl [] _).alloc _) (by simp)) (part_one _ r) ?_ (by simp; omega) ?_ ?_ ?_); (· rfl); (· rfl); (· simp); (· rfl); (· rfl); intro v8 w8 how8 hgr8 hat8; have HOW8 := Lib.hid how8; have HGR8 := Lib.hid hgr8; have HAT8 := Lib.hid hat8; clear how8 hgr8 hat8)
          have hb8 : Below w.heap.size w9 w8 := ((Below.refl w.heap.size w9).alloc (by omega) _).trans (below_grew HGR8.out (by simp; omega) (by
            intro k e
            rcases hw9 with h0 | h0 <;> rw [h0] at e <;> cases e
            exact hz))
          have hbw := (HK.out.trans hb9).trans hb8
          have HB8 := Lib.hid hbw
          have hz8 := hbw.size
          have hw8 : ∀ k, v8.ownBlock = some k → w.heap.size ≤ k := by
            intro k e
            rcases HAT8.out with h0 | h0
            · rw [h0] at e
              rcases hw9 with h1 | h1 <;> rw [h1] at e <;> cases e
              exact hz
            · rw [h0] at e
              cases e
              simp
              omega
          clear hbw hb8 hb9 y0 y1 y2 y3 y4 y5
          go_wp2_with (at_builtin; go_must (refine wpList_app_rules (l := [] ++ [] ++ [r]) (l2 := []) ?_ (.tmp 46) (.tmp 49) ?_ HOW8.out (HNO.out _) ?_ hz8 ?_ ?_ ?_); (· rfl); (· rfl); (· simp); (· rfl); (· rfl); intro v7 w7 how7 hgr7 hat7; have HOW7 := Lib.hid how7; have HGR7 := Lib.hid hgr7; have HAT7 := Lib.hid hat7; clear how7 hgr7 hat7)
          all_goals
            have hb7 : Below w.heap.size w8 w7 := below_grew HGR7.out hz8 hw8
            exact bodyPost_ret (v := .tuple #[v7, .int .i64 0]) (by simp [results, Tryz.results109, go_sem]) rfl ⟨v7, ([r], 0), rfl, HADD.out, Or.inl HOW7.out, HB8.out.trans hb7⟩
        · have hki' : (k : Int) ≤ cap := by omega
          have hki2 : (k : Int) ≤ (l.length : Int) := by omega
          clear hK hB
          go_upto_region 13 with (at_builtin; go_must (refine wpList_app_rules (l := []) (l2 := l.take k) ?_ (.tmp 37) (.tmp 40) ?_ (World.ownsRow_nil _ w.heap.size _ _) (part_head HW.out (by omega) cap (by omega)) ?_ hz ?_ ?_ ?_); (· rfl); (· rfl); (· simp; omega); (· rfl); (· rfl); intro v9 w9 how9 hgr9 hat9; have HOW9 := Lib.hid how9; have HGR9 := Lib.hid hgr9; have HAT9 := Lib.hid hat9; clear how9 hgr9 hat9)
          have hb9 : Below w.heap.size wr w9 := below_grew HGR9.out hz (by intro k e; cases e)
          have k9 := Kept.of_grown_none (S := []) HGR9.out
          have hz9 := k9.size
          have hw9 : v9.ownBlock = none ∨ v9.ownBlock = some wr.heap.size := HAT9.out
          have y0 := k9.cell x0 (by simp)
          have y1 := k9.cell x1 (by simp)
          have y2 := k9.cell x2 (by simp)
          have y3 := k9.cell x3 (by simp)
          have y4 := k9.cell x4 (by simp)
          have y5 := k9.cell x5 (by simp)
          have HW9 := Lib.hid (own_kept HW.out k9 (by simp))
          clear x0 x1 x2 x3 x4 x5
          go_upto_region 14 with (at_builtin; go_must (refine wpList_app_rules (l := [] ++ l.take k) (l2 := [r]) ?_ (.tmp 42) (.tmp 44) ?_ (own_kept HOW9.out ((Kept.refl [] _).alloc _) (by simp)) (part_one _ r) ?_ (by simp; omega) ?_ ?_ ?_); (· rfl); (· rfl); (· simp; omega); (· rfl); (· rfl); intro v8 w8 how8 hgr8 hat8; have HOW8 := Lib.hid how8; have HGR8 := Lib.hid hgr8; have HAT8 := Lib.hid hat8; clear how8 hgr8 hat8)
          have hb8 : Below w.heap.size w9 w8 := ((Below.refl w.heap.size w9).alloc (by omega) _).trans (below_grew HGR8.out (by simp; omega) (by
            intro k e
            rcases hw9 with h0 | h0 <;> rw [h0] at e <;> cases e
            exact hz))
          have hbw := (HK.out.trans hb9).trans hb8
          have HB8 := Lib.hid hbw
          have HW8 := Lib.hid (own_kept H.out (Kept.of_below (S := []) hbw) (by simp))
          have hz8 := hbw.size
          have hw8 : ∀ k, v8.ownBlock = some k → w.heap.size ≤ k := by
            intro k e
            rcases HAT8.out with h0 | h0
            · rw [h0] at e
              rcases hw9 with h1 | h1 <;> rw [h1] at e <;> cases e
              exact hz
            · rw [h0] at e
              cases e
              simp
              omega
          clear hbw hb8 hb9 y0 y1 y2 y3 y4 y5
          go_wp2_with (at_builtin; go_must (refine wpList_app_rules (l := [] ++ l.take k ++ [r]) (l2 := l.drop k) ?_ (.tmp 46) (.tmp 49) ?_ HOW8.out (part_tail HW8.out (by omega) hcap) ?_ hz8 ?_ ?_ ?_); (· rfl); (· rfl); (· simp; omega); (· rfl); (· rfl); intro v7 w7 how7 hgr7 hat7; have HOW7 := Lib.hid how7; have HGR7 := Lib.hid hgr7; have HAT7 := Lib.hid hat7; clear how7 hgr7 hat7)
          all_goals
            have hb7 : Below w.heap.size w8 w7 := below_grew HGR7.out hz8 hw8
            refine bodyPost_ret (v := .tuple #[v7, .int .i64 0]) (by simp [results, Tryz.results109, go_sem]) rfl ⟨v7, l.take k ++ r :: l.drop k, 0, rfl, HADD.out, Or.inl ?_, HB8.out.trans hb7⟩
            rw [show l.take k ++ r :: l.drop k = [] ++ l.take k ++ [r] ++ l.drop k by simp]
            exact HOW7.out
end Go.Proofs.YtjoblahedgpgbaaGreat
