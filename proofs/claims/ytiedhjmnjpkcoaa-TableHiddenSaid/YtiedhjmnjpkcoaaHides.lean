/- The law TableHidden. -/
import Derived.Test.YtiedhjmnjpkcoaaTHid
import Derived.Test.YtiedhjmnjpkcoaaRHid
import Derived.Test.YtiedhjmnjpkcoaaBestsA
namespace Go.Proofs.Ytiedhjmnjpkcoaa
set_option linter.unusedVariables false
set_option linter.unusedSimpArgs false
open Go.RowKit

theorem best_seen {l : List Rl} {a : Nat} {r : Rl} (hn : (l.map (·.id)).Nodup) (ha : a < 2 ^ 32) (h : l.find? (hasR a) = some r) : ¬ Hidd l r.id := by
  obtain ⟨h1, l1, l2, h2, h3⟩ := List.find?_eq_some_iff_append.1 h
  rw [hidd_at hn h2]
  intro hh
  obtain ⟨y, hy, hya⟩ := hh a ha h1
  have := h3 y hy
  rw [hya] at this
  cases this
theorem hid_bool (l : List Rl) (id : Int) : ∃ b : Bool, b = true ↔ Hidd l id := by
  by_cases h : Hidd l id
  · exact ⟨true, ⟨fun _ => h, fun _ => rfl⟩⟩
  · exact ⟨false, ⟨fun e => (by cases e), fun e => absurd e h⟩⟩

variable {w0 w w' : World} {B p mb : Nat} {v vm : Value} {F : List Nat} {L l rl : List Rl} {bx : List (Nat × Rl)} {bb : Bool} {id : Int}

theorem Bst.thid (h : Bst w0 w B p mb v F L l l vm rl bx) (hl : L.length < 900) (hid : okI id) (hb : bb = true ↔ Hidd l id) : Calls Try.prog 32 #[.pointer (some ⟨p, 0, none⟩), .int .i64 id] w fun e w' => e = .returned (.bool bb) ∧ Bst w0 w' B p mb v F L l l vm rl bx := by
  refine (thidden_calls h.play.tab h.pair hl id hid).mono ?_
  rintro e w' ⟨b, he, hb2, k⟩
  obtain rfl : b = bb := by rw [Bool.eq_iff_iff, hb, hb2]
  exact ⟨he, h.next k⟩
theorem Bst.rhid (h : Bst w0 w B p mb v F L l l vm rl bx) (hl : L.length < 900) (hb : bb = true ↔ Hidd l id) : Calls Try.prog 33 #[v, .int .i64 id] w fun e w' => e = .returned (.bool bb) ∧ Bst w0 w' B p mb v F L l l vm rl bx := by
  refine (rhidden_calls h.play.row (fun r hr => h.play.tab.ok r (h.pair.perm.mem_iff.1 hr)) h.pair.ids (by have := h.pair.small (by omega : L.length < 100000); omega) id).mono ?_
  rintro e w' ⟨b, he, hb2, k⟩
  obtain rfl : b = bb := by rw [Bool.eq_iff_iff, hb, hb2]
  exact ⟨he, h.next k⟩

set_option maxRecDepth 100000 in
set_option maxHeartbeats 8000000 in
theorem hides_calls {W : World} {v0 : Value} {ops : List Op} (h : OpsIn W v0 ops) (id : Int) (hid : okI id) (a : Nat) (ha : a < 2 ^ 32) :
    Calls Try.prog 6 #[v0, .int .i64 id, .int .u32 (a : Int)] W fun e w' => e = .returned (.bool true) ∧ Below W.heap.size W w' := by
  have h' := h
  obtain ⟨_, ao0, cap0, rfl, _⟩ := h'
  by_cases hn : 40 < ops.length
  · have hn' : (40 : Int) < ops.length := by omega
    go_enter Try.func6, Try.ntmps6
    go_wp2_with (fail)
    refine (awake11_calls _).mono ?_
    rintro e w7 ⟨he, k7⟩
    subst he
    have K7 := Lib.hid k7
    go_wp2_with (fail)
    go_ret
    exact ⟨rfl, K7.out⟩
  · have hn' : ¬ (40 : Int) < ops.length := by omega
    have HM := Lib.hid (made_calls h (by omega))
    clear h
    go_enter Try.func6, Try.ntmps6
    go_wp2_with (fail)
    refine Calls.mono HM.out ?_
    rintro e w1 ⟨p, mb, v, F, L, l, he, hP, hpr, hL, hk⟩
    subst he
    have HL : Hid (L.length < 900) := Lib.hid (by omega)
    have hll : l.length < 900 := by rw [hpr.perm.length_eq]; omega
    have HOK : Hid (∀ r ∈ l, r.Ok) := Lib.hid (fun r hr => hP.tab.ok r (hpr.perm.mem_iff.1 hr))
    obtain ⟨ao, cap, rfl, hcap, hao⟩ := own_shape hP.row
    have HAO := Lib.hid hao
    have hst : Bst W w1 W.heap.size p mb (.slice ao l.length cap) F L l l (.slice none 0 0) [] [] := ⟨hP, hpr, by omega, World.ownsRow_nil _ _ _ _, fun y hy => by simp at hy, hk, Nat.le_refl _⟩
    have HPR := Lib.hid hpr
    have H1 := Lib.hid hst
    clear hP hpr hL hk HM hao hst
    obtain ⟨b0, hb0⟩ := hid_bool l id
    have HB0 := Lib.hid hb0
    clear hb0
    go_wp2_with (fail)
    refine (H1.out.thid HL.out hid HB0.out).mono ?_
    rintro e w2 ⟨he, h2⟩
    subst he
    have H2 := Lib.hid h2
    clear h2
    go_wp2_with (fail)
    refine (H2.out.rhid HL.out HB0.out).mono ?_
    rintro e w3 ⟨he, h3⟩
    subst he
    have H3 := Lib.hid h3
    clear h3
    have hbb : (b0 != b0) = false := by cases b0 <;> rfl
    go_wp2_with (fail)
    go_loopg [35] l.length (fun gk vi wr => ∃ i : Nat, i + gk = l.length ∧ vi = .int .i64 (i : Int) ∧ Bst W wr W.heap.size p mb (.slice ao l.length cap) F L l l (.slice none 0 0) [] [])
    case atStart => exact ⟨0, by omega, rfl, H3.out⟩
    case round =>
      obtain ⟨i, hgk, rfl, hR⟩ := hrel
      have HR := Lib.hid hR
      clear hR
      by_cases hlt : i < l.length
      · obtain ⟨g, rfl⟩ := HAO.out i hlt
        have hcc := fun j (hj : j < 6) => (HR.out.play.row.cellAt (i * 6 + j) (by omega)).trans (rlCells_at l i hlt j hj)
        have e0 := hcc 0 (by omega)
        have e1 := hcc 1 (by omega)
        have e2 := hcc 2 (by omega)
        have e3 := hcc 3 (by omega)
        have e4 := hcc 4 (by omega)
        have e5 := hcc 5 (by omega)
        clear hcc
        have HRO : Hid (l[i].Ok) := Lib.hid (HOK.out _ (List.getElem_mem hlt))
        generalize l[i] = r at *
        simp [Rl.cells] at e0 e1 e2 e3 e4 e5
        have HX := Lib.hid (heap_alloc_new wr (.cells #[.int .i64 r.id, .int .i64 r.dev, .int .u32 (r.addr : Int), .int .i64 r.bits, .int .i64 r.prio, .int .i64 r.out] 26))
        have HKX := Lib.hid ((Below.refl wr.heap.size wr).alloc (Nat.le_refl _) (.cells #[.int .i64 r.id, .int .i64 r.dev, .int .u32 (r.addr : Int), .int .i64 r.bits, .int .i64 r.prio, .int .i64 r.out] 26))
        go_upto_region 9 with (fail)
        generalize wr.alloc (.cells #[.int .i64 r.id, .int .i64 r.dev, .int .u32 (r.addr : Int), .int .i64 r.bits, .int .i64 r.prio, .int .i64 r.out] 26) = wa at *
        clear e0 e1 e2 e3 e4 e5
        have hA : Bst W wa W.heap.size p mb (.slice (some ⟨g, 0, none⟩) l.length cap) F L l l (.slice none 0 0) [] [(wr.heap.size, r)] := by
          have h5 := HR.out.next HKX.out
          exact ⟨h5.play, h5.pair, h5.len, h5.own, fun y hy => by
            obtain rfl : y = (wr.heap.size, r) := by simpa using hy
            exact HX.out, h5.kept, h5.low⟩
        obtain ⟨b1, hb1⟩ := hid_bool l r.id
        have HB1 := Lib.hid hb1
        have hB := hA.drew
        have hS := (hB.boxes (wr.heap.size, r) (by simp)).cells.1
        simp only at hS
        have HRI := Lib.hid HRO.out.2.2
        have HB7 := Lib.hid hB
        clear hA hb1 hbb hB
        generalize wr.heap.size = xx at *
        generalize hwd : wa.drew = wd at *
        cases b1 <;> (
          go_region_law (first | (go_simp; go_at_call 32; refine Calls.mono (Bst.thid HB7.out HL.out HRI.out HB1.out) ?_; rintro e w8 ⟨he, hB8⟩; subst he; have HB8 := Lib.hid hB8; have hS8 := (HB8.out.boxes (xx, r) (by simp)).cells.1; simp only at hS8; clear hB8) | (go_simp; go_at_call 33; refine Calls.mono (Bst.rhid HB8.out HL.out HB1.out) ?_; rintro e w9 ⟨he, hB9⟩; subst he; have HB9 := Lib.hid hB9; clear hB9))
          all_goals
            go_wp2_with (fail)
            go_roundg (gk - 1)
            case measure => omega
            case rel =>
              exact ⟨i + 1, by omega, by go_num, HB9.out.play, HB9.out.pair, HB9.out.len, HB9.out.own, (fun y hy => by simp at hy), HB9.out.kept, HB9.out.low⟩)
      · obtain rfl : i = l.length := by omega
        have HBT := Lib.hid (tbestL_calls HR.out.play.tab HPR.out HR.out.len a ha)
        clear hbb
        go_wp2_with (fail)
        rcases hf : l.find? (hasR a) with _ | r
        · have hb := HBT.out
          rw [hf] at hb
          refine Calls.mono hb ?_
          rintro e w4 ⟨he, k4⟩
          have he : e = .returned (.tuple #[.agg #[.int .i64 0, .int .i64 0, .int .u32 0, .int .i64 0, .int .i64 0, .int .i64 0], .bool false]) := he
          subst he
          have H4 := Lib.hid (HR.out.next k4)
          have HKX := Lib.hid ((Below.refl w4.heap.size w4).alloc (Nat.le_refl _) (.cells #[.int .i64 0, .int .i64 0, .int .u32 0, .int .i64 0, .int .i64 0, .int .i64 0] 26))
          clear hb k4 hf
          go_upto_region 13 with (fail)
          generalize w4.alloc (.cells #[.int .i64 0, .int .i64 0, .int .u32 0, .int .i64 0, .int .i64 0, .int .i64 0] 26) = w5 at *
          have H5 := Lib.hid (H4.out.next HKX.out)
          go_wp2_with (fail)
          refine (awake11_calls _).mono ?_
          rintro e w6 ⟨he, k6⟩
          subst he
          have H6 := Lib.hid (H5.out.next k6)
          clear k6
          go_wp2_with (fail)
          go_ret
          exact ⟨rfl, H6.out.kept⟩
        · have hb := HBT.out
          rw [hf] at hb
          refine Calls.mono hb ?_
          rintro e w4 ⟨he, k4⟩
          have he : e = .returned (.tuple #[.agg #[.int .i64 r.id, .int .i64 r.dev, .int .u32 (r.addr : Int), .int .i64 r.bits, .int .i64 r.prio, .int .i64 r.out], .bool true]) := he
          subst he
          have H4 := Lib.hid (HR.out.next k4)
          have HNS : Hid ((false : Bool) = true ↔ Hidd l r.id) := Lib.hid ⟨fun e => (by cases e), fun e => absurd e (best_seen HPR.out.ids ha hf)⟩
          have HRI : Hid (okI r.id) := Lib.hid (HOK.out r (List.mem_of_find?_eq_some hf)).2.2
          have HX := Lib.hid (heap_alloc_new w4 (.cells #[.int .i64 r.id, .int .i64 r.dev, .int .u32 (r.addr : Int), .int .i64 r.bits, .int .i64 r.prio, .int .i64 r.out] 26))
          have HKX := Lib.hid ((Below.refl w4.heap.size w4).alloc (Nat.le_refl _) (.cells #[.int .i64 r.id, .int .i64 r.dev, .int .u32 (r.addr : Int), .int .i64 r.bits, .int .i64 r.prio, .int .i64 r.out] 26))
          clear hb k4 hf
          go_upto_region 13 with (fail)
          generalize w4.alloc (.cells #[.int .i64 r.id, .int .i64 r.dev, .int .u32 (r.addr : Int), .int .i64 r.bits, .int .i64 r.prio, .int .i64 r.out] 26) = w5 at *
          have H5 := Lib.hid (H4.out.next HKX.out)
          go_wp2_with (fail)
          refine (awake11_calls _).mono ?_
          rintro e w6 ⟨he, k6⟩
          subst he
          have H6 := Lib.hid (H5.out.next k6)
          have d0 := cell_of ((k6.block _ (lt_of_block HX.out)).trans HX.out) 0
          simp only [List.getElem?_toArray, List.getElem?_cons_zero] at d0
          clear k6
          go_wp2_with (fail)
          refine (H6.out.thid HL.out HRI.out HNS.out).mono ?_
          rintro e w7 ⟨he, h7⟩
          subst he
          have H7 := Lib.hid h7
          clear h7
          go_wp2_with (fail)
          go_ret
          exact ⟨rfl, H7.out.kept⟩

theorem hides_row {W : World} (v0 : Value) (id a : Int) (h0 : ArgOps W v0) (h1 : (Lit.int .i64 id).wf = true) (h2 : (Lit.int .u32 a).wf = true) :
    Calls Try.prog 6 #[v0, .int .i64 id, .int .u32 a] W fun e w' => e = .returned (.bool true) ∧ Below W.heap.size W w' := by
  obtain ⟨ops, h0⟩ := ops_in h0
  obtain ⟨m, rfl, hm⟩ := nat_of_u32 h2
  exact hides_calls h0 id (in_of h1) m hm
end Go.Proofs.Ytiedhjmnjpkcoaa
