/- The table's questions: Rules, Meeting, Best. -/
import Derived.Test.YtiedhjmnjpkcoaaTabSort
import Derived.Deep.RegionLaw
namespace Go.Proofs.Ytiedhjmnjpkcoaa
set_option linter.unusedVariables false
set_option linter.unusedSimpArgs false
open Go.RowKit

theorem ents_perm {L : List Rl} {es : List Ent} {q : Rl → Bool} (hn : (L.map (·.id)).Nodup) (h : (es.map (·.v)).Perm ((L.filter q).map (·.id))) : (ofEnts L es).Perm (L.filter q) := by
  have e1 : ofEnts L es = (es.map (·.v)).map fun id => (findR L id).getD noRule := by unfold ofEnts; rw [List.map_map]; rfl
  rw [e1]
  refine (h.map _).trans ?_
  rw [List.map_map]
  have : (L.filter q).map ((fun id => (findR L id).getD noRule) ∘ (·.id)) = L.filter q := by
    conv => rhs; rw [← List.map_id (L.filter q)]
    refine List.map_congr_left fun r hr => ?_
    show (findR L r.id).getD noRule = r
    rw [find_mem hn (List.mem_filter.1 hr).1]
    rfl
  rw [this]
theorem ents_ok {L : List Rl} {es : List Ent} {q : Rl → Bool} (ho : ∀ r ∈ L, r.Ok) (h : (es.map (·.v)).Perm ((L.filter q).map (·.id))) : ∀ e ∈ es, okI e.v := by
  intro e he
  have h1 : e.v ∈ (L.filter q).map (·.id) := h.mem_iff.1 (List.mem_map_of_mem he)
  obtain ⟨r, hr, h2⟩ := List.mem_map.1 h1
  rw [← h2]
  exact (ho r (List.mem_filter.1 hr).1).2.2
theorem ents_len {L : List Rl} {es : List Ent} {q : Rl → Bool} (h : (es.map (·.v)).Perm ((L.filter q).map (·.id))) : es.length ≤ L.length := by
  have := h.length_eq
  rw [List.length_map, List.length_map] at this
  rw [this]
  exact List.length_filter_le _ _

/-- A rule whose prefix has an address. -/
def onWay (a : Nat) (r : Rl) : Bool := decide (r.path.length < 33 ∧ r.path = pth a r.path.length)

set_option maxRecDepth 100000 in
set_option maxHeartbeats 2000000 in
theorem tbest_calls {w : World} {p mb : Nat} {F : List Nat} {L : List Rl} (h : TabAt w p mb F L) (hl : L.length < 100000) (a : Nat) (ha : a < 2 ^ 32) :
    Calls Try.prog 21 #[.pointer (some ⟨p, 0, none⟩), .int .u32 (a : Int)] w fun e w' => ∃ l' : List Rl, l'.Perm (L.filter (onWay a)) ∧ l'.Pairwise (fun a b => aheadR b a = false) ∧ e = .returned (.tuple #[(l'.headD noRule).val, .bool (!l'.isEmpty)]) ∧ Below w.heap.size w w' := by
  obtain ⟨B, S, V, hT, hV⟩ := h.tree
  have k0 := (Kept.refl [] w).alloc (.cells #[.int .i64 0, .int .i64 0, .int .u32 0, .int .i64 0, .int .i64 0, .int .i64 0] 26)
  have hX := heap_alloc_new w (.cells #[.int .i64 0, .int .i64 0, .int .u32 0, .int .i64 0, .int .i64 0, .int .i64 0] 26)
  have hper := ofL_perm hV a 33
  have hlen : (ofL V a 33).length ≤ L.length := by
    rw [hper.length_eq, List.length_map]
    exact List.length_filter_le _ _
  have HT := Lib.hid (hT.kept k0 h.lt (by simp))
  have HF := Lib.hid (show ∀ x ∈ F, x < (w.alloc (.cells #[.int .i64 0, .int .i64 0, .int .u32 0, .int .i64 0, .int .i64 0, .int .i64 0] 26)).heap.size from fun x hx => Nat.lt_of_lt_of_le (h.lt x hx) k0.size)
  have HP := Lib.hid hper
  have H0 := Lib.hid h
  have HK0 := Lib.hid k0
  have HX := Lib.hid hX
  clear h hT hV hper hX k0
  go_enter Try.func21, Try.ntmps21
  go_wp2_with (fail)
  generalize w.alloc (.cells #[.int .i64 0, .int .i64 0, .int .u32 0, .int .i64 0, .int .i64 0, .int .i64 0] 26) = w1 at *
  refine (tof_calls HT.out HF.out a ha (by omega)).mono ?_
  rintro e w2 ⟨vo, es, he, how, hk2, hes⟩
  subst he
  have hpe : (es.map (·.v)).Perm ((L.filter (onWay a)).map (·.id)) := by rw [hes]; exact HP.out
  have k2 := HK0.out.trans (Kept.of_below (S := []) hk2) (by simp)
  have HK2 := Lib.hid k2
  have HB2 := Lib.hid hk2
  have HX2 := Lib.hid ((hk2.block _ (lt_of_block HX.out)).trans HX.out)
  have hc := tsorted_calls (H0.out.kept k2 (by simp) (by simp)) how (by have := ents_len hpe; omega) (ents_ok H0.out.ok hpe)
  have HPE := Lib.hid (ents_perm H0.out.ids hpe)
  clear hk2 how hes hpe k2
  go_wp2_with (fail)
  refine hc.mono ?_
  rintro e w3 ⟨vr, l', he, hp, hs, how3, hk3⟩
  subst he
  have HX3 := Lib.hid ((hk3.block _ (lt_of_block HX2.out)).trans HX2.out)
  have HB3 := Lib.hid (HK2.out.trans (Kept.of_below (S := []) hk3) (by simp))
  have HPP := Lib.hid (hp.trans HPE.out)
  have HS := Lib.hid hs
  have H3 := Lib.hid how3
  have x0 := And.intro (cell_of HX3.out 0) (unfrozen_of HX3.out 0)
  have x1 := And.intro (cell_of HX3.out 1) (unfrozen_of HX3.out 1)
  have x2 := And.intro (cell_of HX3.out 2) (unfrozen_of HX3.out 2)
  have x3 := And.intro (cell_of HX3.out 3) (unfrozen_of HX3.out 3)
  have x4 := And.intro (cell_of HX3.out 4) (unfrozen_of HX3.out 4)
  have x5 := And.intro (cell_of HX3.out 5) (unfrozen_of HX3.out 5)
  simp only [List.getElem?_toArray, List.getElem?_cons_zero, List.getElem?_cons_succ] at x0 x1 x2 x3 x4 x5
  clear hc hp hs hk3
  generalize hbx : w.heap.size = bx at *
  have HBX := Lib.hid hbx
  clear hbx
  rcases l' with _ | ⟨r, l'⟩
  · obtain ⟨ao, cap, rfl⟩ : ∃ ao cap, vr = .slice ao 0 cap := by
      rcases how3.2 with ⟨h0, h1⟩ | ⟨g', cap', cur, h0, _⟩
      · exact ⟨none, 0, h0⟩
      · exact ⟨_, cap', h0⟩
    clear how3
    go_wp2_with (fail)
    simp [bodyPost, results, Try.results21, go_sem, x0, x1, x2, x3, x4, x5]
    refine ⟨[], HPP.out, HS.out, ⟨rfl, rfl⟩, ?_⟩
    exact ((((((((HB3.out.mono (S' := [bx]) (by simp)).setCell _ _ (by simp)).setCell _ _ (by simp)).setCell _ _ (by simp)).setCell _ _ (by simp)).setCell _ _ (by simp)).setCell _ _ (by simp)).below (Nat.le_refl _) (by simp [HBX.out]))
  · obtain ⟨g, cap, rfl⟩ : ∃ g cap, vr = .slice (some ⟨g, 0, none⟩) (l'.length + 1) cap := by
      rcases how3.2 with ⟨h0, h1⟩ | ⟨g', cap', cur, h0, _⟩
      · simp at h1
      · exact ⟨g', cap', h0⟩
    have d0 := how3.cellAt 0 (by have : (r :: l').length = l'.length + 1 := rfl; omega)
    have d1 := how3.cellAt 1 (by have : (r :: l').length = l'.length + 1 := rfl; omega)
    have d2 := how3.cellAt 2 (by have : (r :: l').length = l'.length + 1 := rfl; omega)
    have d3 := how3.cellAt 3 (by have : (r :: l').length = l'.length + 1 := rfl; omega)
    have d4 := how3.cellAt 4 (by have : (r :: l').length = l'.length + 1 := rfl; omega)
    have d5 := how3.cellAt 5 (by have : (r :: l').length = l'.length + 1 := rfl; omega)
    rw [show rlCells (r :: l') = r.cells ++ rlCells l' from rfl] at d0 d1 d2 d3 d4 d5
    simp [Rl.cells] at d0 d1 d2 d3 d4 d5
    clear how3
    go_wp2_with (fail)
    simp [bodyPost, results, Try.results21, go_sem, x0, x1, x2, x3, x4, x5]
    refine ⟨r :: l', HPP.out, HS.out, ⟨rfl, by simp⟩, ?_⟩
    exact ((((((((HB3.out.mono (S' := [bx]) (by simp)).setCell _ _ (by simp)).setCell _ _ (by simp)).setCell _ _ (by simp)).setCell _ _ (by simp)).setCell _ _ (by simp)).setCell _ _ (by simp)).below (Nat.le_refl _) (by simp [HBX.out]))

set_option maxRecDepth 100000 in
set_option maxHeartbeats 2000000 in
theorem trules_calls {w : World} {p mb : Nat} {F : List Nat} {L : List Rl} (h : TabAt w p mb F L) (hl : L.length < 100000) :
    Calls Try.prog 20 #[.pointer (some ⟨p, 0, none⟩)] w fun e w' => ∃ (vr : Value) (l' : List Rl), l'.Perm L ∧ l'.Pairwise (fun a b => aheadR b a = false) ∧ e = .returned vr ∧ w'.ownsRow w.heap.size 26 6 vr l'.length (rlCells l') ∧ Below w.heap.size w w' := by
  obtain ⟨B, S, V, hT, hV⟩ := h.tree
  have hper := subL_perm hV 32 []
  have hall : (L.filter fun r => decide ([] <+: r.path ∧ r.path.length ≤ ([] : List Bool).length + 32)) = L := by
    refine List.filter_eq_self.2 fun r hr => decide_eq_true ⟨List.nil_prefix, ?_⟩
    obtain ⟨_, hrt, _⟩ := h.ok r hr
    obtain ⟨hb0, hb1, _⟩ := (rtB_iff _).1 hrt
    have h0 : 0 ≤ r.bits := hb0
    have h1 : r.bits ≤ 32 := hb1
    unfold Rl.path
    rw [pth_length]
    simp
    omega
  have hlen : (subL V 32 []).length ≤ L.length := by
    rw [hper.length_eq, List.length_map]
    exact List.length_filter_le _ _
  have HT := Lib.hid hT
  have HP := Lib.hid hper
  have HALL := Lib.hid hall
  have H0 := Lib.hid h
  go_enter Try.func20, Try.ntmps20
  go_wp2_with (fail)
  refine (tall_calls HT.out H0.out.lt (by omega)).mono ?_
  rintro e w2 ⟨vo, es, he, how, hes, hk2⟩
  subst he
  have hpe : (es.map (·.v)).Perm ((L.filter fun r => decide ([] <+: r.path ∧ r.path.length ≤ ([] : List Bool).length + 32)).map (·.id)) := by rw [hes]; exact HP.out
  have k2 := Kept.of_below (S := []) hk2
  have HK2 := Lib.hid hk2
  have hc := tsorted_calls (H0.out.kept k2 (by simp) (by simp)) how (by have := ents_len hpe; omega) (ents_ok H0.out.ok hpe)
  have hpp := ents_perm H0.out.ids hpe
  rw [HALL.out] at hpp
  have HPE := Lib.hid hpp
  clear hT hV hper hall h how hes hpe k2 hk2 hpp
  go_wp2_with (fail)
  refine hc.mono ?_
  rintro e w3 ⟨vr, l', he, hp, hs, how3, hk3⟩
  subst he
  have H3 := Lib.hid (And.intro hp (And.intro hs (And.intro how3 hk3)))
  clear hc hp hs how3 hk3
  go_wp2_with (fail)
  obtain ⟨hp, hs, how3, hk3⟩ := H3.out
  refine bodyPost_ret (v := vr) (by simp [results, Try.results20, go_sem]) rfl ⟨vr, l', hp.trans HPE.out, hs, rfl, ⟨how3.1, ?_⟩, HK2.out.trans (hk3.mono HK2.out.size)⟩
  rcases how3.2 with h1 | ⟨g', cap, cur, h1, h2, r⟩
  · exact Or.inl h1
  · exact Or.inr ⟨g', cap, cur, h1, Nat.le_trans HK2.out.size h2, r⟩

/-- A rule whose prefix meets one (both right). -/
def meetsW (a n : Nat) (r : Rl) : Bool := decide ((r.path.length < n ∧ r.path = pth a r.path.length) ∨ pth a n <+: r.path)
theorem meets_perm {V : List Bool → List Int} {L : List Rl} (h : TVals V L) (ho : ∀ r ∈ L, r.Ok) (a n : Nat) (hn : n ≤ 32) : (ofL V a n ++ subL V (32 - n) (pth a n)).Perm ((L.filter (meetsW a n)).map (·.id)) := by
  refine (List.Perm.append (ofL_perm h a n) (subL_perm h (32 - n) (pth a n))).trans ?_
  rw [← List.map_append]
  refine List.Perm.map _ ?_
  have hlen : ∀ r ∈ L, r.path.length ≤ 32 := fun r hr => by
    obtain ⟨_, hrt, _⟩ := ho r hr
    obtain ⟨hb0, hb1, _⟩ := (rtB_iff _).1 hrt
    have h0 : 0 ≤ r.bits := hb0
    have h1 : r.bits ≤ 32 := hb1
    unfold Rl.path
    rw [pth_length]
    omega
  have e2 : L.filter (fun r => decide (pth a n <+: r.path ∧ r.path.length ≤ (pth a n).length + (32 - n))) = L.filter fun r => decide (pth a n <+: r.path) := by
    refine List.filter_congr fun r hr => ?_
    have := hlen r hr
    rw [pth_length]
    exact decide_eq_decide.2 ⟨fun h => h.1, fun h => ⟨h, by omega⟩⟩
  rw [e2]
  have := filter_split3 (meetsW a n) (fun r : Rl => decide (r.path.length < n ∧ r.path = pth a r.path.length)) (fun r => decide (pth a n <+: r.path)) (fun _ => false) (fun r => ?_) (fun r e => ?_) (fun r e => rfl) (fun r e => rfl) L
  · rwa [show L.filter (fun _ => false) = [] from List.filter_eq_nil_iff.2 fun _ _ => by simp, List.append_nil] at this
  · unfold meetsW
    rw [Bool.eq_iff_iff]
    simp only [Bool.or_eq_true, decide_eq_true_eq, Bool.false_eq_true, or_false]
  · have e := of_decide_eq_true e
    refine decide_eq_false fun h2 => ?_
    have := h2.length_le
    rw [pth_length] at this
    omega

set_option maxRecDepth 100000 in
set_option maxHeartbeats 2000000 in
theorem tmeeting_calls {w : World} {p mb : Nat} {F : List Nat} {L : List Rl} (h : TabAt w p mb F L) (hl : L.length < 100000) (a n : Nat) (ha : a < 2 ^ 32) (hn : n ≤ 32) (hr : rtB ⟨a, n⟩ = true) :
    Calls Try.prog 22 #[.pointer (some ⟨p, 0, none⟩), .agg #[.int .u32 (a : Int), .int .i64 (n : Int)]] w fun e w' => ∃ (vr : Value) (l' : List Rl), l'.Perm (L.filter (meetsW a n)) ∧ l'.Pairwise (fun a b => aheadR b a = false) ∧ e = .returned vr ∧ w'.ownsRow w.heap.size 26 6 vr l'.length (rlCells l') ∧ Below w.heap.size w w' := by
  obtain ⟨B, S, V, hT, hV⟩ := h.tree
  have hper := meets_perm hV h.ok a n hn
  have hlen : (ofL V a n).length + (subL V (32 - n) (pth a n)).length ≤ L.length := by
    rw [← List.length_append, hper.length_eq, List.length_map]
    exact List.length_filter_le _ _
  have k0 := (Kept.refl [] w).alloc (.cells #[.int .u32 (a : Int), .int .i64 (n : Int)] 24)
  have hX := blk_drew (heap_alloc_new w (.cells #[.int .u32 (a : Int), .int .i64 (n : Int)] 24))
  have dx := And.intro (cell_of hX 0) (cell_of hX 1)
  simp only [List.getElem?_toArray, List.getElem?_cons_zero, List.getElem?_cons_succ] at dx
  have HK0 := Lib.hid k0.drew
  have HP := Lib.hid hper
  have H0 := Lib.hid h
  have HT := Lib.hid (hT.kept k0.drew h.lt (by simp))
  have HN := Lib.hid hlen
  go_enter Try.func22, Try.ntmps22
  go_wp2_with (fail)
  clear hT hV hper h hX k0
  generalize w.alloc (.cells #[.int .u32 (a : Int), .int .i64 (n : Int)] 24) = w1 at *
  generalize hwd : w1.drew = wd at *
  have hm := tmeet_calls HT.out (fun x hx => Nat.lt_of_lt_of_le (H0.out.lt x hx) HK0.out.size) a n ha hn hr (by have := HN.out; omega)
  have HM := Lib.hid hm
  have HD0 := Lib.hid dx
  clear hm
  go_region_law (first | (go_simp; go_at_call 61; refine HM.out.mono ?_; rintro e w2 ⟨vo, es, he, how, hes, hk2⟩; subst he; have hpe : (es.map (·.v)).Perm ((L.filter (meetsW a n)).map (·.id)) := (by rw [hes]; exact HP.out); have HK2 := Lib.hid (HK0.out.trans (Kept.of_below (S := []) hk2) (by simp)); have HC := Lib.hid (tsorted_calls (H0.out.kept HK2.out (by simp) (by simp)) how (by have := ents_len hpe; omega) (ents_ok H0.out.ok hpe)); have HPE := Lib.hid (ents_perm H0.out.ids hpe); clear how hes hk2 hpe) | (go_simp; go_at_call 58; refine HC.out.mono ?_; rintro e w3 ⟨vr, l', he, hp, hs, how3, hk3⟩; subst he; have H3 := Lib.hid (And.intro hp (And.intro hs (And.intro how3 hk3))); clear hp hs how3 hk3))
  all_goals (
    go_wp2_with (fail)
    obtain ⟨hp, hs, how3, hk3⟩ := H3.out
    refine bodyPost_ret (v := vr) (by simp [results, Try.results22, go_sem]) rfl ⟨vr, l', hp.trans HPE.out, hs, rfl, ⟨how3.1, ?_⟩, (HK2.out.trans (Kept.of_below (S := []) hk3) (by simp)).below (Nat.le_refl _) (by simp)⟩
    rcases how3.2 with h1 | ⟨g', cap, cur, h1, h2, r⟩
    · exact Or.inl h1
    · exact Or.inr ⟨g', cap, cur, h1, Nat.le_trans HK2.out.size h2, r⟩)
end Go.Proofs.Ytiedhjmnjpkcoaa
