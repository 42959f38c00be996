/- The law EncFull. -/
import Derived.Test.YtakgghhmecphmaaMatP
import Derived.Test.YtakgghhmecphmaaEncH
import Derived.Test.YtakgghhmecphmaaIn
import Derived.Test.YtakgghhmecphmaaLaw
import Derived.Test.YtakgghhmecphmaaArgsFl
import Derived.Deep.RegionHeld3
namespace Go.Proofs.Ytakgghhmecphmaa
set_option linter.unusedVariables false
set_option linter.unusedSimpArgs false
open Go.RowKit

set_option maxRecDepth 100000 in
set_option maxHeartbeats 4000000 in
theorem header_nil (w : World) (hd : Hd) :
    Calls Try.prog 18 #[.pointer none, hd.val] w fun e w' => e = .returned (.tuple #[.int .i64 0, .int .i64 2]) ∧ Below w.heap.size w w' := by
  obtain ⟨i0, hi, hz0, hz1, hz2⟩ := info_parts lit_info
  unfold Hd.val
  go_enter Try.func18, Try.ntmps18
  go_wp2_with (fail)
  generalize hW1 : w.alloc (.cells #[.int .u32 (hd.dst : Int), .int .u32 (hd.src : Int), .int .u8 (hd.proto : Int), .int .u16 (hd.sport : Int), .int .u16 (hd.dport : Int)] 25) = W1
  have hbox : W1.heap[w.heap.size]? = some (.cells #[.int .u32 (hd.dst : Int), .int .u32 (hd.src : Int), .int .u8 (hd.proto : Int), .int .u16 (hd.sport : Int), .int .u16 (hd.dport : Int)] 25 (0, 0)) := by
    rw [← hW1]; exact heap_alloc_new w _
  have hB1 : Below w.heap.size w W1 := by rw [← hW1]; exact (Below.refl _ _).alloc (Nat.le_refl _) _
  have HB1 := Lib.hid hB1
  have hzz : w.heap.size < W1.heap.size := lt_of_block hbox
  have HBOX := Lib.hid hbox
  clear hW1 hB1 hbox
  go_loopg [6, 8] 104 (fun gk vo vi wr => ∃ k : Nat, k + gk = 104 ∧ vi = .int .i64 (k : Int) ∧ wr.ownsRow W1.heap.size 38 2 vo k (ltCells (litN (headN hd k))) ∧ Kept [] W1 wr)
  case atStart => exact ⟨0, rfl, rfl, World.ownsRow_nil _ _ _ _, Kept.refl _ _⟩
  case round =>
    obtain ⟨k, hk, rfl, how, hK⟩ := hrel
    have HOW := Lib.hid how
    have HK := Lib.hid hK
    have hwr := HK.out.size
    have hzr : w.heap.size < wr.heap.size := by omega
    clear how hK
    by_cases hlt : k < 104
    · have d0 := HK.out.cell (cell_of HBOX.out 0) (by simp)
      have d1 := HK.out.cell (cell_of HBOX.out 1) (by simp)
      have d2 := HK.out.cell (cell_of HBOX.out 2) (by simp)
      have d3 := HK.out.cell (cell_of HBOX.out 3) (by simp)
      have d4 := HK.out.cell (cell_of HBOX.out 4) (by simp)
      simp at d0 d1 d2 d3 d4
      go_wp2_with (fail)
      refine (bit_calls _ hd k hlt).mono ?_
      rintro e w5 ⟨he, k5⟩
      subst he
      have HK5 := Lib.hid (HK.out.trans (Kept.of_below (S := []) k5) (by simp))
      have HOW5 := Lib.hid (own_kept HOW.out (Kept.of_below (S := []) k5) (by simp))
      have hw5 := HK5.out.size
      clear k5 HOW
      go_wp2_with (at_builtin; refine wpList_append_lies _ rfl (.tmp 11) (.tmp 17) 36 rfl W1.heap.size 38 i0 _ 2 16 Try.underlying36 hi hz0 hz1 hz2 rfl (by decide) _ k (ltCells (litN (headN hd k))) rfl ?_ ⟨w5.heap.size, 0, none⟩ 1 1 [.int .i64 (k : Int), .bool (hd.bit k)] rfl rfl ?_ ?_ (by omega) ?_ ?_ ?_ _ rfl ?_; (· exact own_kept HOW5.out ((Kept.refl [] _).alloc _) (by simp)); (· exact news_at (by simp)); (· simp [Value.oneCell']); (· unfold maxLen; omega); (· omega); (· simp; omega); intro g9 cap9 w9 how9 hgr9 hat9 hlt9; have HOW9 := Lib.hid how9; have HGR9 := Lib.hid hgr9; clear how9 hgr9 hat9 hlt9)
      go_roundg (gk - 1)
      case measure => omega
      case rel =>
        refine ⟨k + 1, by omega, by go_num, ?_, ?_⟩
        · have := HOW9.out
          rw [headN_succ, litN_snoc]
          exact this
        · exact Kept.grown_row (HK5.out.alloc _) HGR9.out (fun g hg => Or.inr (own_past HOW5.out g hg))
    · obtain rfl : k = 104 := by omega
      go_wp2_with (fail)
      refine (cube_nil _ _).mono ?_
      rintro e w6 ⟨he, rfl⟩
      subst he
      have HFIN := Lib.hid (((Kept.of_below (S := []) HB1.out).trans HK.out (by simp)).below (Nat.le_refl _) (by simp))
      go_wp2_with (fail)
      exact bodyPost_ret (v := .tuple #[.int .i64 0, .int .i64 2]) (by simp [results, Try.results18, go_sem]) rfl ⟨rfl, HFIN.out⟩
set_option maxRecDepth 100000 in
set_option maxHeartbeats 4000000 in
theorem encFilter_nil (w : World) (fl : Fl) : Calls Try.prog 43 #[.pointer none, fl.val] w fun e w' => e = .returned (.tuple #[.int .i64 0, .int .i64 2]) ∧ Below w.heap.size w w' := by
  have H2 := Lib.hid (two_newF w (.cells #[.pointer none] 26) fl.obj)
  unfold Fl.val Fl.obj at *
  go_enter Try.func43, Try.ntmps43
  go_upto_region 1 with (fail)
  generalize (w.alloc (.cells #[.pointer none] 26)).alloc (.cells #[.int .u32 (fl.da : Int), .int .i64 fl.dn, .int .u32 (fl.sa : Int), .int .i64 fl.sn, .int .i64 fl.proto, .int .u16 (fl.s1 : Int), .int .u16 (fl.s2 : Int), .int .u16 (fl.d1 : Int), .int .u16 (fl.d2 : Int)] 77) = w1 at *
  have z0 := cell_of H2.out.1 0
  simp only [List.getElem?_toArray, List.getElem?_cons_zero, List.getElem?_cons_succ] at z0
  go_wp2_with (fail)
  exact bodyPost_ret (v := .tuple #[.int .i64 0, .int .i64 2]) (by simp [results, Try.results43, go_sem]) rfl ⟨rfl, H2.out.2.2⟩
theorem below_nextE {w X Y : World} (h : Below w.heap.size w X) (k : Below X.heap.size X Y) : Below w.heap.size w Y := h.trans (k.mono h.size)

set_option maxRecDepth 100000 in
set_option maxHeartbeats 8000000 in
theorem encfull_calls (W : World) (fl : Fl) (hf : fl.Wf) (hs : fl.s2 < 65536 ∧ fl.d2 < 65536) (room : Nat) (hroom : room < 256) (hd : Hd) (hw : hd.Wf) :
    Calls Try.prog 11 #[fl.val, .int .u8 (room : Int), hd.val] W fun e w' => e = .returned (.bool true) ∧ Below W.heap.size W w' := by
  have H2 := Lib.hid (two_newF W fl.obj (.cells #[.int .u32 (hd.dst : Int), .int .u32 (hd.src : Int), .int .u8 (hd.proto : Int), .int .u16 (hd.sport : Int), .int .u16 (hd.dport : Int)] 25))
  have HCK := Lib.hid (fun X => rfcheck_calls X hf)
  have HWF := Lib.hid (And.intro hf hs)
  have HHW := Lib.hid hw
  have HHP : Hid (hd.hv.Wf) := Lib.hid ⟨hw.dst, hw.src, hw.proto⟩
  obtain ⟨c, hc⟩ : ∃ c, c = checkF fl := ⟨_, rfl⟩
  rw [← hc] at HCK
  have HC := Lib.hid hc.symm
  have hrw : IntKind.i64.wrap (room : Int) = (room : Int) := IntWalk.i64_in _ (by omega)
  have HEN : Hid (∀ X, Calls Try.prog 43 #[.pointer none, fl.val] X fun e w' => e = .returned (.tuple #[.int .i64 0, .int .i64 2]) ∧ Below X.heap.size X w') := Lib.hid (fun X => encFilter_nil X fl)
  have HHN : Hid (∀ X, Calls Try.prog 18 #[.pointer none, hd.val] X fun e w' => e = .returned (.tuple #[.int .i64 0, .int .i64 2]) ∧ Below X.heap.size X w') := Lib.hid (fun X => header_nil X hd)
  have HEF := Lib.hid (fun (X : World) (p g mb : Nat) (A : Arn) (hA : ArenaAt X p g mb A) (hO : A.OK) (hc0 : checkF fl = 0) => encFilter_calls hA hO fl hf hs hc0)
  have HMT := Lib.hid (fun (X : World) (hc0 : checkF fl = 0) => rfmatch_calls X hf HHP.out hc0)
  have HML := Lib.hid (fun (hc0 : checkF fl = 0) => match_law hf hs hc0 hw)
  clear hc hf hs hw
  unfold Fl.val Hd.val Fl.obj Hv.val at *
  go_enter Try.func11, Try.ntmps11
  go_upto_region 1 with (fail)
  generalize (W.alloc (.cells #[.int .u32 (fl.da : Int), .int .i64 fl.dn, .int .u32 (fl.sa : Int), .int .i64 fl.sn, .int .i64 fl.proto, .int .u16 (fl.s1 : Int), .int .u16 (fl.s2 : Int), .int .u16 (fl.d1 : Int), .int .u16 (fl.d2 : Int)] 77)).alloc (.cells #[.int .u32 (hd.dst : Int), .int .u32 (hd.src : Int), .int .u8 (hd.proto : Int), .int .u16 (hd.sport : Int), .int .u16 (hd.dport : Int)] 25) = w1 at *
  have c0 := cell_of H2.out.1 0
  have c1 := cell_of H2.out.1 1
  have c2 := cell_of H2.out.1 2
  have c3 := cell_of H2.out.1 3
  have c4 := cell_of H2.out.1 4
  have c5 := cell_of H2.out.1 5
  have c6 := cell_of H2.out.1 6
  have c7 := cell_of H2.out.1 7
  have c8 := cell_of H2.out.1 8
  simp only [List.getElem?_toArray, List.getElem?_cons_zero, List.getElem?_cons_succ] at c0 c1 c2 c3 c4 c5 c6 c7 c8
  go_wp2_with (fail)
  refine Calls.mono (HCK.out _) ?_
  rintro e w2 ⟨he, k2⟩
  subst he
  have HX2 := Lib.hid ((k2.block _ (lt_of_block H2.out.1)).trans H2.out.1)
  have HY2 := Lib.hid ((k2.block _ (lt_of_block H2.out.2.1)).trans H2.out.2.1)
  have HK2 := Lib.hid (H2.out.2.2.trans (k2.mono H2.out.2.2.size))
  clear k2 c0 c1 c2 c3 c4 c5 c6 c7 c8 HCK
  by_cases hc0 : c = 0
  · subst hc0
    by_cases h2 : room < 2
    · have h2' : decide ((room : Int) < 2) = true := decide_eq_true (by omega)
      clear h2
      go_wp2_with (fail)
      refine (awake07_calls _).mono ?_
      rintro e w9 ⟨he, k9⟩
      subst he
      have K9 := Lib.hid (HK2.out.trans (k9.mono HK2.out.size))
      clear k9
      go_wp2_with (fail)
      go_ret
      exact ⟨rfl, K9.out⟩
    · have h2' : decide ((room : Int) < 2) = false := decide_eq_false (by omega)
      have HC0 : Hid (checkF fl = 0) := HC
      go_wp2_with (fail)
      refine (AR.new (Below.refl w2.heap.size w2) room (by omega) (by omega)).mono ?_
      rintro e w3 ⟨p, g, mb, he, H3⟩
      subst he
      have H3 := Lib.hid H3
      have hx3 := (H3.out.2.2.2.2.2.block _ (lt_of_block HX2.out)).trans HX2.out
      have HX3 := Lib.hid hx3
      have HY3 := Lib.hid ((H3.out.2.2.2.2.2.block _ (lt_of_block HY2.out)).trans HY2.out)
      have HFL := Lib.hid (HEF.out w3 p g mb (newF room) H3.out.2.2.2.1 H3.out.2.2.2.2.1 HC0.out)
      have c0 := cell_of hx3 0
      have c1 := cell_of hx3 1
      have c2 := cell_of hx3 2
      have c3 := cell_of hx3 3
      have c4 := cell_of hx3 4
      have c5 := cell_of hx3 5
      have c6 := cell_of hx3 6
      have c7 := cell_of hx3 7
      have c8 := cell_of hx3 8
      simp only [List.getElem?_toArray, List.getElem?_cons_zero, List.getElem?_cons_succ] at c0 c1 c2 c3 c4 c5 c6 c7 c8
      clear hx3
      go_wp2_with (fail)
      refine Calls.mono HFL.out ?_
      rintro e w4 ⟨r, A', ⟨he, g4, hg4, hA4, hK4⟩, hm⟩
      have hnot : W.heap.size ∉ [p, g, mb] ∧ W.heap.size + 1 ∉ [p, g, mb] := by
        obtain ⟨a1, a2, a3, _⟩ := H3.out
        have := lt_of_block HX2.out
        have := lt_of_block HY2.out
        simp
        omega
      have HX4 := Lib.hid ((hK4.block _ (lt_of_block HX3.out) hnot.1).trans HX3.out)
      have HY4 := Lib.hid ((hK4.block _ (lt_of_block HY3.out) hnot.2).trans HY3.out)
      have HK4 : Hid (Below W.heap.size W w4) := Lib.hid ((HK2.out.trans (H3.out.2.2.2.2.2.mono HK2.out.size)).trans (hK4.below (by have := HK2.out.size; have := H3.out.2.2.2.2.2.size; omega) (fun x hx => by
        obtain ⟨a1, a2, a3, _⟩ := H3.out
        have := HK2.out.size
        simp only [List.mem_cons, List.not_mem_nil, or_false] at hx
        rcases hx with rfl | rfl | rfl <;> omega)))
      have HA4 := Lib.hid hA4
      clear hg4 hA4 hK4 hnot c0 c1 c2 c3 c4 c5 c6 c7 c8 HFL
      rcases hm with ⟨rfl, rfl⟩ | ⟨x, rfl, o, ext, lx, sx⟩
      · have he : e = .returned (.tuple #[.int .i64 0, .int .i64 20]) := he
        subst he
        go_wp2_with (fail)
        refine (awake07_calls _).mono ?_
        rintro e w5 ⟨he, k5⟩
        subst he
        have HK5 := Lib.hid (HK4.out.trans (k5.mono HK4.out.size))
        have HLN := Lib.hid (len_calls (HA4.out.below k5))
        clear k5
        go_wp2_with (fail)
        refine HLN.out.mono ?_
        rintro e w6 ⟨he, rfl⟩
        have he : e = .returned (.int .i64 2) := he
        subst he
        go_wp2_with (fail)
        go_ret
        exact ⟨rfl, HK5.out⟩
      · have he : e = .returned (.tuple #[.int .i64 (x : Int), .int .i64 0]) := he
        subst he
        have hb : inA A' hd.bit x = matchF fl hd.hv := (sx hd.bit).trans (HML.out HC0.out)
        have HIN0 : Hid (∀ X, ArenaAt X p g4 mb A' → Calls Try.prog 20 #[.pointer (some ⟨p, 0, none⟩), .int .i64 (x : Int), .agg #[.int .u32 (hd.dst : Int), .int .u32 (hd.src : Int), .int .u8 (hd.proto : Int), .int .u16 (hd.sport : Int), .int .u16 (hd.dport : Int)]] X fun e w' => e = .returned (.bool (matchF fl hd.hv)) ∧ Below X.heap.size X w') := Lib.hid (fun X hX => by rw [← hb]; exact In_calls hX o x lx hd)
        have HMT0 : Hid (∀ X, Calls Try.prog 44 #[.agg #[.int .u32 (fl.da : Int), .int .i64 fl.dn, .int .u32 (fl.sa : Int), .int .i64 fl.sn, .int .i64 fl.proto, .int .u16 (fl.s1 : Int), .int .u16 (fl.s2 : Int), .int .u16 (fl.d1 : Int), .int .u16 (fl.d2 : Int)], .agg #[.int .u32 (hd.dst : Int), .int .u32 (hd.src : Int), .int .u8 (hd.proto : Int), .int .u16 (hd.sport : Int), .int .u16 (hd.dport : Int)]] X fun e w' => e = .returned (.bool (matchF fl hd.hv)) ∧ Below X.heap.size X w') := Lib.hid (fun X => HMT.out X HC0.out)
        generalize matchF fl hd.hv = b at *
        have hx4 := HX4.out
        have c0 := cell_of hx4 0
        have c1 := cell_of hx4 1
        have c2 := cell_of hx4 2
        have c3 := cell_of hx4 3
        have c4 := cell_of hx4 4
        have c5 := cell_of hx4 5
        have c6 := cell_of hx4 6
        have c7 := cell_of hx4 7
        have c8 := cell_of hx4 8
        simp only [List.getElem?_toArray, List.getElem?_cons_zero, List.getElem?_cons_succ] at c0 c1 c2 c3 c4 c5 c6 c7 c8
        clear hx4 hb o ext lx sx
        go_wp2_with (fail)
        refine Calls.mono (HEN.out _) ?_
        rintro e w5 ⟨he, k5⟩
        subst he
        have HX5 := Lib.hid ((k5.block _ (lt_of_block HX4.out)).trans HX4.out)
        have HY5 := Lib.hid ((k5.block _ (lt_of_block HY4.out)).trans HY4.out)
        have HK5 := Lib.hid (HK4.out.trans (k5.mono HK4.out.size))
        have HA5 := Lib.hid (HA4.out.below k5)
        clear k5 c0 c1 c2 c3 c4 c5 c6 c7 c8
        have hy5 := HY5.out
        have d0 := cell_of hy5 0
        have d1 := cell_of hy5 1
        have d2 := cell_of hy5 2
        have d3 := cell_of hy5 3
        have d4 := cell_of hy5 4
        simp only [List.getElem?_toArray, List.getElem?_cons_zero, List.getElem?_cons_succ] at d0 d1 d2 d3 d4
        clear hy5
        go_wp2_with (fail)
        refine Calls.mono (HHN.out _) ?_
        rintro e w6 ⟨he, k6⟩
        subst he
        have HX6 := Lib.hid ((k6.block _ (lt_of_block HX5.out)).trans HX5.out)
        have HY6 := Lib.hid ((k6.block _ (lt_of_block HY5.out)).trans HY5.out)
        have HK6 := Lib.hid (HK5.out.trans (k6.mono HK5.out.size))
        have HA6 := Lib.hid (HA5.out.below k6)
        clear k6 d0 d1 d2 d3 d4
        have HALL : Hid (∀ X, Below w6.heap.size w6 X → X.cell? ⟨W.heap.size, 0, none⟩ = some (.int .u32 (fl.da : Int)) ∧ X.cell? ⟨W.heap.size, 1, none⟩ = some (.int .i64 fl.dn) ∧ X.cell? ⟨W.heap.size, 2, none⟩ = some (.int .u32 (fl.sa : Int)) ∧ X.cell? ⟨W.heap.size, 3, none⟩ = some (.int .i64 fl.sn) ∧ X.cell? ⟨W.heap.size, 4, none⟩ = some (.int .i64 fl.proto) ∧ X.cell? ⟨W.heap.size, 5, none⟩ = some (.int .u16 (fl.s1 : Int)) ∧ X.cell? ⟨W.heap.size, 6, none⟩ = some (.int .u16 (fl.s2 : Int)) ∧ X.cell? ⟨W.heap.size, 7, none⟩ = some (.int .u16 (fl.d1 : Int)) ∧ X.cell? ⟨W.heap.size, 8, none⟩ = some (.int .u16 (fl.d2 : Int)) ∧ X.cell? ⟨W.heap.size + 1, 0, none⟩ = some (.int .u32 (hd.dst : Int)) ∧ X.cell? ⟨W.heap.size + 1, 1, none⟩ = some (.int .u32 (hd.src : Int)) ∧ X.cell? ⟨W.heap.size + 1, 2, none⟩ = some (.int .u8 (hd.proto : Int)) ∧ X.cell? ⟨W.heap.size + 1, 3, none⟩ = some (.int .u16 (hd.sport : Int)) ∧ X.cell? ⟨W.heap.size + 1, 4, none⟩ = some (.int .u16 (hd.dport : Int))) := Lib.hid (fun X kX => by
          have h1 := (kX.block _ (lt_of_block HX6.out)).trans HX6.out
          have h2 := (kX.block _ (lt_of_block HY6.out)).trans HY6.out
          exact ⟨cell_of h1 0, cell_of h1 1, cell_of h1 2, cell_of h1 3, cell_of h1 4, cell_of h1 5, cell_of h1 6, cell_of h1 7, cell_of h1 8, cell_of h2 0, cell_of h2 1, cell_of h2 2, cell_of h2 3, cell_of h2 4⟩)
        have hR0 := Below.refl w6.heap.size w6
        have hB0 := (Below.refl w6.heap.size w6).drew
        have hS0 := HALL.out w6.drew hB0
        have hS1 := HALL.out w6 hR0
        go_upto_region 11 with (fail)
        go_region_held3 (fun X => X.cell? ⟨W.heap.size, 0, none⟩ = some (.int .u32 (fl.da : Int)) ∧ X.cell? ⟨W.heap.size, 1, none⟩ = some (.int .i64 fl.dn) ∧ X.cell? ⟨W.heap.size, 2, none⟩ = some (.int .u32 (fl.sa : Int)) ∧ X.cell? ⟨W.heap.size, 3, none⟩ = some (.int .i64 fl.sn) ∧ X.cell? ⟨W.heap.size, 4, none⟩ = some (.int .i64 fl.proto) ∧ X.cell? ⟨W.heap.size, 5, none⟩ = some (.int .u16 (fl.s1 : Int)) ∧ X.cell? ⟨W.heap.size, 6, none⟩ = some (.int .u16 (fl.s2 : Int)) ∧ X.cell? ⟨W.heap.size, 7, none⟩ = some (.int .u16 (fl.d1 : Int)) ∧ X.cell? ⟨W.heap.size, 8, none⟩ = some (.int .u16 (fl.d2 : Int)) ∧ X.cell? ⟨W.heap.size + 1, 0, none⟩ = some (.int .u32 (hd.dst : Int)) ∧ X.cell? ⟨W.heap.size + 1, 1, none⟩ = some (.int .u32 (hd.src : Int)) ∧ X.cell? ⟨W.heap.size + 1, 2, none⟩ = some (.int .u8 (hd.proto : Int)) ∧ X.cell? ⟨W.heap.size + 1, 3, none⟩ = some (.int .u16 (hd.sport : Int)) ∧ X.cell? ⟨W.heap.size + 1, 4, none⟩ = some (.int .u16 (hd.dport : Int))) (first | assumption | go_keep) (first | (go_at_call 19; refine Calls.mono (awake07_calls _) ?_; rintro e w7 ⟨he, k7⟩; subst he; have hB7 : Below w6.heap.size w6 w7 := (by first | exact below_nextE hR0 k7 | exact below_nextE hB0 k7); have hS7 := HALL.out w7 hB7; clear k7) | (go_at_call 20; refine Calls.mono (HIN0.out _ (HA6.out.below hB7)) ?_; rintro e w8 ⟨he, k8⟩; subst he; have hB8 := below_nextE hB7 k8; have hS8 := HALL.out w8 hB8; clear k8) | (go_at_call 44; refine Calls.mono (HMT0.out _) ?_; rintro e w9 ⟨he, k9⟩; subst he; have hB9 := below_nextE hB8 k9; have hS9 := HALL.out w9 hB9; have HB9 := Lib.hid hB9; clear k9))
        all_goals
          clear hS0 hS1 hS7 hS8 hS9 hR0 hB0 hB7 hB8 hB9
          go_wp2_with (fail)
          go_ret
          exact ⟨rfl, HK6.out.trans (HB9.out.mono HK6.out.size)⟩
  · have hne : (c == 0) = false := beq_eq_false_iff_ne.2 hc0
    go_wp2_with (fail)
    refine (awake07_calls _).mono ?_
    rintro e w9 ⟨he, k9⟩
    subst he
    have K9 := Lib.hid (HK2.out.trans (k9.mono HK2.out.size))
    clear k9
    go_wp2_with (fail)
    go_ret
    exact ⟨rfl, K9.out⟩
theorem encfull_row (v0 : Value) (a : Int) (v2 : Value) (h0 : ArgFl v0) (h1 : (Lit.int .u8 a).wf = true) (h2 : ArgHd v2) (W : World) :
    Calls Try.prog 11 #[v0, .int .u8 a, v2] W fun e w' => e = .returned (.bool true) ∧ Below W.heap.size W w' := by
  obtain ⟨f, hf, hs, rfl⟩ := h0
  obtain ⟨m, rfl, hm⟩ := nat_of_u h1 (by decide)
  obtain ⟨hd, hw, rfl⟩ := h2
  have : IntKind.u8.max = 255 := by decide
  exact encfull_calls W f hf hs m (by omega) hd hw
end Go.Proofs.Ytakgghhmecphmaa
