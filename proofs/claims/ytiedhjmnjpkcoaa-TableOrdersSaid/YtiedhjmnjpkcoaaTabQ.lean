/- The table's questions: Rules, Meeting, Best. -/
import Derived.Test.YtiedhjmnjpkcoaaTabSort
namespace Go.Proofs.Ytiedhjmnjpkcoaa
set_option linter.unusedVariables false
set_option linter.unusedSimpArgs false
open Go.RowKit

theorem ents_perm {L : List Rl} {es : List Ent} {q : Rl → Bool} (hn : (L.map (·.id)).Nodup) (h : (es.map (·.v)).Perm ((L.filter q).map (·.id))) : (ofEnts L es).Perm (L.filter q) := by
  have e1 : ofEnts L es = (es.map (·.v)).map fun id => (findR L id).getD noRule := by unfold ofEnts; rw [List.map_map]; rfl
  rw [e1]
  refine (h.map _).trans ?_
  rw [List.map_map]
  have : (L.filter q).map ((fun id => (findR L id).getD noRule) ∘ (·.id)) = L.filter q := by
    conv => rhs; rw [← List.map_id (L.filter q)]
    refine List.map_congr_left fun r hr => ?_
    show (findR L r.id).getD noRule = r
    rw [find_mem hn (List.mem_filter.1 hr).1]
    rfl
  rw [this]
theorem ents_ok {L : List Rl} {es : List Ent} {q : Rl → Bool} (ho : ∀ r ∈ L, r.Ok) (h : (es.map (·.v)).Perm ((L.filter q).map (·.id))) : ∀ e ∈ es, okI e.v := by
  intro e he
  have h1 : e.v ∈ (L.filter q).map (·.id) := h.mem_iff.1 (List.mem_map_of_mem he)
  obtain ⟨r, hr, h2⟩ := List.mem_map.1 h1
  rw [← h2]
  exact (ho r (List.mem_filter.1 hr).1).2.2
theorem ents_len {L : List Rl} {es : List Ent} {q : Rl → Bool} (h : (es.map (·.v)).Perm ((L.filter q).map (·.id))) : es.length ≤ L.length := by
  have := h.length_eq
  rw [List.length_map, List.length_map] at this
  rw [this]
  exact List.length_filter_le _ _

/-- A rule whose prefix has an address. -/
def onWay (a : Nat) (r : Rl) : Bool := decide (r.path.length < 33 ∧ r.path = pth a r.path.length)

set_option maxRecDepth 100000 in
set_option maxHeartbeats 2000000 in
theorem tbest_calls {w : World} {p mb : Nat} {F : List Nat} {L : List Rl} (h : TabAt w p mb F L) (hl : L.length < 100000) (a : Nat) (ha : a < 2 ^ 32) :
    Calls Try.prog 21 #[.pointer (some ⟨p, 0, none⟩), .int .u32 (a : Int)] w fun e w' => ∃ l' : List Rl, l'.Perm (L.filter (onWay a)) ∧ l'.Pairwise (fun a b => aheadR b a = false) ∧ e = .returned (.tuple #[(l'.headD noRule).val, .bool (!l'.isEmpty)]) ∧ Below w.heap.size w w' := by
  obtain ⟨B, S, V, hT, hV⟩ := h.tree
  have k0 := (Kept.refl [] w).alloc (.cells #[.int .i64 0, .int .i64 0, .int .u32 0, .int .i64 0, .int .i64 0, .int .i64 0] 26)
  have hX := heap_alloc_new w (.cells #[.int .i64 0, .int .i64 0, .int .u32 0, .int .i64 0, .int .i64 0, .int .i64 0] 26)
  have hper := ofL_perm hV a 33
  have hlen : (ofL V a 33).length ≤ L.length := by
    rw [hper.length_eq, List.length_map]
    exact List.length_filter_le _ _
  have HT := Lib.hid (hT.kept k0 h.lt (by simp))
  have HF := Lib.hid (show ∀ x ∈ F, x < (w.alloc (.cells #[.int .i64 0, .int .i64 0, .int .u32 0, .int .i64 0, .int .i64 0, .int .i64 0] 26)).heap.size from fun x hx => Nat.lt_of_lt_of_le (h.lt x hx) k0.size)
  have HP := Lib.hid hper
  have H0 := Lib.hid h
  have HK0 := Lib.hid k0
  have HX := Lib.hid hX
  clear h hT hV hper hX k0
  go_enter Try.func21, Try.ntmps21
  go_wp2_with (fail)
  generalize w.alloc (.cells #[.int .i64 0, .int .i64 0, .int .u32 0, .int .i64 0, .int .i64 0, .int .i64 0] 26) = w1 at *
  refine (tof_calls HT.out HF.out a ha (by omega)).mono ?_
  rintro e w2 ⟨vo, es, he, how, hk2, hes⟩
  subst he
  have hpe : (es.map (·.v)).Perm ((L.filter (onWay a)).map (·.id)) := by rw [hes]; exact HP.out
  have k2 := HK0.out.trans (Kept.of_below (S := []) hk2) (by simp)
  have HK2 := Lib.hid k2
  have HB2 := Lib.hid hk2
  have HX2 := Lib.hid ((hk2.block _ (lt_of_block HX.out)).trans HX.out)
  have hc := tsorted_calls (H0.out.kept k2 (by simp) (by simp)) how (by have := ents_len hpe; omega) (ents_ok H0.out.ok hpe)
  have HPE := Lib.hid (ents_perm H0.out.ids hpe)
  clear hk2 how hes hpe k2
  go_wp2_with (fail)
  refine hc.mono ?_
  rintro e w3 ⟨vr, l', he, hp, hs, how3, hk3⟩
  subst he
  have HX3 := Lib.hid ((hk3.block _ (lt_of_block HX2.out)).trans HX2.out)
  have HB3 := Lib.hid (HK2.out.trans (Kept.of_below (S := []) hk3) (by simp))
  have HPP := Lib.hid (hp.trans HPE.out)
  have HS := Lib.hid hs
  have H3 := Lib.hid how3
  have x0 := And.intro (cell_of HX3.out 0) (unfrozen_of HX3.out 0)
  have x1 := And.intro (cell_of HX3.out 1) (unfrozen_of HX3.out 1)
  have x2 := And.intro (cell_of HX3.out 2) (unfrozen_of HX3.out 2)
  have x3 := And.intro (cell_of HX3.out 3) (unfrozen_of HX3.out 3)
  have x4 := And.intro (cell_of HX3.out 4) (unfrozen_of HX3.out 4)
  have x5 := And.intro (cell_of HX3.out 5) (unfrozen_of HX3.out 5)
  simp only [List.getElem?_toArray, List.getElem?_cons_zero, List.getElem?_cons_succ] at x0 x1 x2 x3 x4 x5
  clear hc hp hs hk3
  generalize hbx : w.heap.size = bx at *
  have HBX := Lib.hid hbx
  clear hbx
  rcases l' with _ | ⟨r, l'⟩
  · obtain ⟨ao, cap, rfl⟩ : ∃ ao cap, vr = .slice ao 0 cap := by
      rcases how3.2 with ⟨h0, h1⟩ | ⟨g', cap', cur, h0, _⟩
      · exact ⟨none, 0, h0⟩
      · exact ⟨_, cap', h0⟩
    clear how3
    go_wp2_with (fail)
    simp [bodyPost, results, Try.results21, go_sem, x0, x1, x2, x3, x4, x5]
    refine ⟨[], HPP.out, HS.out, ⟨rfl, rfl⟩, ?_⟩
    exact ((((((((HB3.out.mono (S' := [bx]) (by simp)).setCell _ _ (by simp)).setCell _ _ (by simp)).setCell _ _ (by simp)).setCell _ _ (by simp)).setCell _ _ (by simp)).setCell _ _ (by simp)).below (Nat.le_refl _) (by simp [HBX.out]))
  · obtain ⟨g, cap, rfl⟩ : ∃ g cap, vr = .slice (some ⟨g, 0, none⟩) (l'.length + 1) cap := by
      rcases how3.2 with ⟨h0, h1⟩ | ⟨g', cap', cur, h0, _⟩
      · simp at h1
      · exact ⟨g', cap', h0⟩
    have d0 := how3.cellAt 0 (by have : (r :: l').length = l'.length + 1 := rfl; omega)
    have d1 := how3.cellAt 1 (by have : (r :: l').length = l'.length + 1 := rfl; omega)
    have d2 := how3.cellAt 2 (by have : (r :: l').length = l'.length + 1 := rfl; omega)
    have d3 := how3.cellAt 3 (by have : (r :: l').length = l'.length + 1 := rfl; omega)
    have d4 := how3.cellAt 4 (by have : (r :: l').length = l'.length + 1 := rfl; omega)
    have d5 := how3.cellAt 5 (by have : (r :: l').length = l'.length + 1 := rfl; omega)
    rw [show rlCells (r :: l') = r.cells ++ rlCells l' from rfl] at d0 d1 d2 d3 d4 d5
    simp [Rl.cells] at d0 d1 d2 d3 d4 d5
    clear how3
    go_wp2_with (fail)
    simp [bodyPost, results, Try.results21, go_sem, x0, x1, x2, x3, x4, x5]
    refine ⟨r :: l', HPP.out, HS.out, ⟨rfl, by simp⟩, ?_⟩
    exact ((((((((HB3.out.mono (S' := [bx]) (by simp)).setCell _ _ (by simp)).setCell _ _ (by simp)).setCell _ _ (by simp)).setCell _ _ (by simp)).setCell _ _ (by simp)).setCell _ _ (by simp)).below (Nat.le_refl _) (by simp [HBX.out]))
end Go.Proofs.Ytiedhjmnjpkcoaa
