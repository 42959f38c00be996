/- The document's Drop. -/
import Derived.Test.YtjoblahedgpgbaaGreatRDrop
import Derived.Test.YtjoblahedgpgbaaGreatRefP
namespace Go.Proofs.YtjoblahedgpgbaaGreat
set_option linter.unusedVariables false
set_option linter.unusedSimpArgs false
open Go.RowKit

set_option maxRecDepth 100000 in
set_option maxHeartbeats 2000000 in
theorem rdrop_calls {w : World} {b : Nat} {v : Value} {l : List Rl} (h : w.ownsRow b 89 6 v l.length (rlCells l)) (hl : l.length < 100000) (hnd : (l.map (·.id)).Nodup) (id : Int) :
    Calls Tryz.prog 107 #[v, .int .i64 id] w fun e w' => ∃ v', e = .returned (.tuple #[v', .int .i64 (dropT l id).2]) ∧ RowOr w w' v v' l (dropT l id).1 ∧ Below w.heap.size w w' := by
  obtain ⟨ao, cap, hv⟩ : ∃ ao cap, v = .slice ao l.length cap := by
    rcases h.2 with ⟨h0, h1⟩ | ⟨g', cap', cur, h0, _⟩
    · exact ⟨none, 0, by rw [h0, h1]⟩
    · exact ⟨_, cap', h0⟩
  subst hv
  have H := Lib.hid h
  have HND := Lib.hid hnd
  clear h hnd
  go_enter Tryz.func107, Tryz.ntmps107
  go_wp2_with (fail)
  go_loopg [6] l.length (fun gk vi wr => ∃ i : Nat, i + gk = l.length ∧ vi = .int .i64 (i : Int) ∧ Below w.heap.size w wr ∧ ∀ r ∈ l.take i, r.id ≠ id)
  case atStart => exact ⟨0, by omega, rfl, Below.refl _ _, by simp⟩
  case round =>
    obtain ⟨i, hgk, rfl, hK, hN⟩ := hrel
    have HK := Lib.hid hK
    have HN := Lib.hid hN
    clear hN
    by_cases hlt : i < l.length
    · obtain ⟨g, hg⟩ : ∃ g, ao = some ⟨g, 0, none⟩ := by
        rcases H.out.2 with ⟨h0, h1⟩ | ⟨g', cap', cur, h0, _⟩
        · omega
        · injection h0 with h0; exact ⟨g', h0⟩
      subst hg
      have how := own_kept H.out (Kept.of_below (S := []) hK) (by simp)
      have d0 := (how.cellAt (i * 6) (by omega)).trans (rlCells_at l i hlt 0 (by omega))
      simp [Rl.cells] at d0
      have HW := Lib.hid how
      have hcap : l.length ≤ cap := by
        rcases how.2 with ⟨h0, _⟩ | ⟨g', cap', cur, h0, _, _, h3, _⟩
        · cases h0
        · injection h0 with _ _ h0; omega
      have hicap : (i : Int) ≤ cap := by omega
      have hicap1 : (i : Int) + 1 ≤ cap := by omega
      clear how hK
      by_cases hid : l[i].id = id
      · have hz := HK.out.size
        go_upto_region 7 with (at_builtin; go_must (refine wpList_app_rules (l := []) (l2 := l.take i) ?_ (.tmp 21) (.tmp 24) ?_ (World.ownsRow_nil _ w.heap.size _ _) (part_head HW.out (by omega) cap (by omega)) ?_ hz ?_ ?_ ?_); (· rfl); (· rfl); (· simp; omega); (· rfl); (· rfl); intro v9 w9 how9 hgr9 hat9; have HOW9 := Lib.hid how9; have HGR9 := Lib.hid hgr9; have HAT9 := Lib.hid hat9; clear how9 hgr9 hat9)
        have k9 := Kept.of_grown_none (S := []) HGR9.out
        have HW9 := Lib.hid (own_kept HW.out k9 (by simp))
        have hz9 := k9.size
        have hii : IntKind.i64.wrap ((i : Int) + 1) = ((i + 1 : Nat) : Int) := by rw [IntKind.wrap_i64]; omega
        have hw9 : v9.ownBlock = none ∨ v9.ownBlock = some wr.heap.size := HAT9.out
        go_wp2_with (at_builtin; go_must (refine wpList_app_rules (l := [] ++ l.take i) (l2 := l.drop (i + 1)) ?_ (.tmp 26) (.tmp 30) ?_ HOW9.out (part_tail HW9.out (by omega) hcap) ?_ (Nat.le_trans hz hz9) ?_ ?_ ?_); (· rfl); (· rfl); (· simp; omega); (· rfl); (· rfl); intro v8 w8 how8 hgr8 hat8; have HOW8 := Lib.hid how8; have HGR8 := Lib.hid hgr8; have HAT8 := Lib.hid hat8; clear how8 hgr8 hat8)
        all_goals
          have hb9 : Below w.heap.size wr w9 := below_grew HGR9.out hz (by intro k e; cases e)
          have hb8 : Below w.heap.size w9 w8 := below_grew HGR8.out (Nat.le_trans hz hz9) (by
            intro k e
            rcases hw9 with h0 | h0 <;> rw [h0] at e <;> cases e
            exact hz)
          have e : dropT l id = (l.take i ++ l.drop (i + 1), 0) := by
            unfold dropT
            rw [if_pos (findR_isSome.2 ⟨_, List.getElem_mem hlt, hid⟩), ← hid, ← drop_at hlt HND.out]
          refine bodyPost_ret (v := .tuple #[v8, .int .i64 0]) (by simp [results, Tryz.results107, go_sem]) rfl ⟨v8, by rw [e], Or.inl ?_, (HK.out.trans hb9).trans hb8⟩
          rw [e]
          exact HOW8.out
      · go_wp2_with (fail)
        go_roundg (gk - 1)
        case measure => omega
        case rel =>
          refine ⟨i + 1, by omega, by go_num, HK.out, fun r hr => ?_⟩
          rw [List.take_add_one, List.getElem?_eq_getElem hlt] at hr
          rcases List.mem_append.1 hr with hr | hr
          · exact HN.out r hr
          · have : r = l[i] := by simpa using hr
            rw [this]
            exact hid
    · obtain rfl : i = l.length := by omega
      go_wp2_with (fail)
      have e : dropT l id = (l, 3) := by
        unfold dropT
        rw [if_neg]
        rw [findR_isSome]
        rintro ⟨r, hr, hi⟩
        exact HN.out r (by simpa using hr) hi
      refine bodyPost_ret (v := .tuple #[_, .int .i64 3]) (by simp [results, Tryz.results107, go_sem]; rfl) rfl ⟨_, by rw [e], Or.inr ⟨rfl, ?_⟩, HK.out⟩
      rw [e]
end Go.Proofs.YtjoblahedgpgbaaGreat
