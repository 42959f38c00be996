/- A way through a net: the walk. · Layer 13's awake. · The net's methods at nil. -/
import Derived.Test.YtiedhjmnjpkcoaaStepW
import Derived.Deep.AppendLies
import Derived.Deep.Onto
namespace Go.Proofs.Ytiedhjmnjpkcoaa
set_option linter.unusedVariables false
set_option linter.unusedSimpArgs false
open Go.RowKit

theorem bool_inf3 : (Try.prog.info? 4).map (fun i => (i.zero, i.size, i.bytes)) = some (some (.bool false), 1, 1) := by kernel_rfl
theorem int_inf3 : (Try.prog.info? 3).map (fun i => (i.zero, i.size, i.bytes)) = some (some (.int .i64 0), 1, 8) := by kernel_rfl
def flagsW (n : Nat) (way : List Int) : List Value := (List.range n).map fun i : Nat => .bool (decide ((i : Int) ∈ way))
theorem flagsW_len (n : Nat) (way : List Int) : (flagsW n way).length = n := by simp [flagsW]
theorem flagsW_get {n d : Nat} (way : List Int) (h : d < n) : (flagsW n way)[d]? = some (.bool (decide ((d : Int) ∈ way))) := by simp [flagsW, h]
theorem flagsW_set (n d : Nat) (way : List Int) : (flagsW n way).set d (.bool true) = flagsW n (way ++ [(d : Int)]) := by
  apply List.ext_getElem?
  intro j
  rw [List.getElem?_set]
  by_cases hj : j < n
  · by_cases e : d = j
    · subst e
      rw [if_pos rfl, flagsW_get _ hj, if_pos (by rw [flagsW_len]; exact hj)]
      simp
    · rw [if_neg e, flagsW_get _ hj, flagsW_get _ hj]
      have : ((j : Nat) : Int) ≠ (d : Int) := by omega
      simp [this]
  · rw [List.getElem?_eq_none (by rw [flagsW_len]; omega), List.getElem?_eq_none (by rw [flagsW_len]; omega)]
    split
    · rw [if_neg (by rw [flagsW_len]; omega)]
    · rfl
theorem flagsW_nil (n : Nat) : flagsW n [] = List.replicate n (.bool false) := by
  apply List.ext_getElem?
  intro j
  by_cases hj : j < n
  · rw [flagsW_get _ hj, List.getElem?_replicate, if_pos hj]
    simp
  · rw [List.getElem?_eq_none (by rw [flagsW_len]; omega), List.getElem?_eq_none (by simp; omega)]
def falseRow (n : Nat) : Obj := .cells (List.replicate n (.bool false)).toArray 4
theorem made_falses (n : Nat) : madeCells #[.bool false] n = (List.replicate n (.bool false)).toArray := by
  apply Array.toList_inj.1
  rw [toList_madeCells_one]
theorem make_bools (n : Nat) (hn : n ≤ 1000) (W : World) : (Instr.makeSlice 137 (.int .i64 (n : Int)) (.int .i64 (n : Int))).run Try.prog W = .ok (.slice (some ⟨W.heap.size, 0, none⟩) n n) (W.alloc (falseRow n)) := by
  obtain ⟨i0, hi, hz0, hz1, hz2⟩ := info_parts bool_inf3
  have := run_make (P := Try.prog) W 137 4 i0 _ Try.underlying137 hi hz0 .i64 .i64 n n (by omega) (Int.le_refl _) (by rw [hz2]; omega) (by omega)
  rw [this, hz1]
  simp only [Int.toNat_natCast, Nat.mul_one, Value.cells, made_falses]
  rfl
theorem bools_made (n : Nat) (hn : n ≤ 1000) {W : World} {base : Nat} (hb : base ≤ W.heap.size) : (W.alloc (falseRow n)).ownsRow base 4 1 (.slice (some ⟨W.heap.size, 0, none⟩) n n) n (flagsW n []) := by
  have := World.ownsRow_lit (base := base) (e := 4) (size := 1) W (List.replicate n (Value.bool false)).toArray n hb (by unfold maxLen; omega) (by simp)
  rw [flagsW_nil]
  simpa [falseRow] using this

/-- What a trace leaves: the way in a row of its own, how it ends. -/
def TracePost (T : Tp) (ls : List (List Rl)) (hv : Hv) (d : Nat) (w : World) (e : Ending) (w' : World) : Prop :=
  ∃ vw, e = .returned (.tuple #[vw, .agg #[.int .i64 (wayS T ls hv (T.ports.length + 1) [] d).2.kind, .int .i64 (wayS T ls hv (T.ports.length + 1) [] d).2.dev, .int .i64 (wayS T ls hv (T.ports.length + 1) [] d).2.port], .int .i64 0]) ∧
    w'.ownsRow w.heap.size 3 1 vw (wayS T ls hv (T.ports.length + 1) [] d).1.length ((wayS T ls hv (T.ports.length + 1) [] d).1.map i64v) ∧ Below w.heap.size w w'

variable {w : World} {B B0 nb : Nat} {vp vl va vt : Value} {ts : List TD} {ls : List (List Rl)} {T : Tp}
set_option maxRecDepth 100000 in
set_option maxHeartbeats 8000000 in
theorem strace_bad (hN : NetAt w B nb vp vl va vt ts) (hl : ts.length ≤ 40) (d : Int) (hd : d < 0 ∨ (ts.length : Int) ≤ d) (hv : Hv) :
    Calls Try.prog 45 #[.pointer (some ⟨nb, 0, none⟩), .int .i64 d, hv.val] w fun e w' => e = .returned (.tuple #[.slice none 0 0, .agg #[.int .i64 0, .int .i64 0, .int .i64 0], .int .i64 10]) ∧ Below w.heap.size w w' := by
  have h2n := two_new w (.cells #[.int .u32 (hv.dst : Int), .int .u32 (hv.src : Int), .int .u8 (hv.proto : Int), .int .u16 (hv.sport : Int), .int .u16 (hv.dport : Int)] 89) edZ
  unfold edZ at h2n
  have H2 := Lib.hid h2n
  have HN := Lib.hid hN
  obtain ⟨ao, cap, rfl, _⟩ := hN.shape
  clear h2n hN
  unfold Hv.val
  go_enter Try.func45, Try.ntmps45
  go_upto_region 1 with (fail)
  generalize (w.alloc (.cells #[.int .u32 (hv.dst : Int), .int .u32 (hv.src : Int), .int .u8 (hv.proto : Int), .int .u16 (hv.sport : Int), .int .u16 (hv.dport : Int)] 89)).alloc (.cells #[.int .i64 0, .int .i64 0, .int .i64 0] 91) = w1 at *
  have c3 := cell_of (HN.out.below H2.out.2.2).head 3
  have e0 := And.intro (cell_of H2.out.2.1 0) (unfrozen_of H2.out.2.1 0)
  have e1 := And.intro (cell_of H2.out.2.1 1) (unfrozen_of H2.out.2.1 1)
  have e2 := And.intro (cell_of H2.out.2.1 2) (unfrozen_of H2.out.2.1 2)
  simp only [List.getElem?_toArray, List.getElem?_cons_zero, List.getElem?_cons_succ] at c3 e0 e1 e2
  have hk := kept_set3 w1 (w.heap.size + 1) (.int .i64 0) (.int .i64 0) (.int .i64 0)
  have HFIN := Lib.hid (H2.out.2.2.trans (hk.below H2.out.2.2.size (by simp)))
  clear hk
  by_cases h1 : d < 0
  · clear hd
    go_wp2_with (fail)
    exact bodyPost_ret (v := .tuple #[.slice none 0 0, .agg #[.int .i64 0, .int .i64 0, .int .i64 0], .int .i64 10]) (by simp [results, Try.results45, go_sem, e0, e1, e2]) rfl ⟨rfl, HFIN.out⟩
  · have h2 : (ts.length : Int) ≤ d := by omega
    have h1' : decide (d < 0) = false := decide_eq_false h1
    have h2' : decide ((ts.length : Int) ≤ d) = true := decide_eq_true h2
    clear hd h1 h2
    go_wp2_with (fail)
    exact bodyPost_ret (v := .tuple #[.slice none 0 0, .agg #[.int .i64 0, .int .i64 0, .int .i64 0], .int .i64 10]) (by simp [results, Try.results45, go_sem, e0, e1, e2]) rfl ⟨rfl, HFIN.out⟩

set_option maxRecDepth 100000 in
set_option maxHeartbeats 16000000 in
theorem strace_calls (hN : NetAt w B nb vp vl va vt ts) (hP : Pairs (TD.Ls ts) ls) (hT : TpIn B0 w vp vl va T) (hB0 : B0 ≤ w.heap.size) (hF : Fine T) (hok : NetOk T.ports (TD.Ls ts)) (hL : lenT (TD.Ls ts) < 100000) (d : Nat) (hd : d < T.ports.length) (hv : Hv) (hh : hv.Wf) :
    Calls Try.prog 45 #[.pointer (some ⟨nb, 0, none⟩), .int .i64 (d : Int), hv.val] w fun e w' => TracePost T ls hv d w e w' := by
  obtain ⟨i0, hi, hz0, hz1, hz2⟩ := info_parts int_inf3
  have h2n := two_new w (.cells #[.int .u32 (hv.dst : Int), .int .u32 (hv.src : Int), .int .u8 (hv.proto : Int), .int .u16 (hv.sport : Int), .int .u16 (hv.dport : Int)] 89) (.cells #[.int .i64 0, .int .i64 0, .int .i64 0] 91)
  have H2 := Lib.hid h2n
  have HN := Lib.hid hN
  have hln : ts.length = T.ports.length := by have := hok.len; simpa [TD.Ls] using this
  have HST : Hid (∀ W, Below w.heap.size w W → ∀ x : Nat, x < T.ports.length → Calls Try.prog 47 #[.pointer (some ⟨nb, 0, none⟩), .int .i64 (x : Int), .agg #[.int .u32 (hv.dst : Int), .int .u32 (hv.src : Int), .int .u8 (hv.proto : Int), .int .u16 (hv.sport : Int), .int .u16 (hv.dport : Int)]] W fun e w' => e = .returned (stepV (stepS T ls hv x)) ∧ Below W.heap.size W w') := Lib.hid (fun W kW x hx => sstep_calls (hN.below kW) hP (hT.kept (kW.mono hB0)) (Nat.le_trans hB0 kW.size) hF hok hL x hx hv hh)
  have HSI : Hid (∀ x : Int, (stepS T ls hv x).2.2 = true → ∃ y : Nat, (stepS T ls hv x).1 = y ∧ y < T.ports.length) := Lib.hid (fun x hx => by
    have := step_in hF.parts.1 hx
    exact ⟨(stepS T ls hv x).1.toNat, by omega, by omega⟩)
  obtain ⟨ao, cap, rfl, _⟩ := hN.shape
  have hn40 := hF.small.1
  obtain ⟨res, hres⟩ : ∃ res, res = wayS T ls hv (T.ports.length + 1) [] d := ⟨_, rfl⟩
  unfold TracePost
  rw [← hres]
  have HRES := Lib.hid hres
  have HLN := Lib.hid hln
  have hmk := make_bools T.ports.length (by omega)
  rw [hln] at HN
  clear h2n hN hP hT hF hok hL hres hln hB0
  unfold Hv.val
  go_enter Try.func45, Try.ntmps45
  go_upto_region 1 with (fail)
  generalize (w.alloc (.cells #[.int .u32 (hv.dst : Int), .int .u32 (hv.src : Int), .int .u8 (hv.proto : Int), .int .u16 (hv.sport : Int), .int .u16 (hv.dport : Int)] 89)).alloc (.cells #[.int .i64 0, .int .i64 0, .int .i64 0] 91) = w1 at *
  have c3 := cell_of (HN.out.below H2.out.2.2).head 3
  simp only [List.getElem?_toArray, List.getElem?_cons_zero, List.getElem?_cons_succ] at c3
  have h1' : decide (((d : Nat) : Int) < 0) = false := decide_eq_false (by omega)
  have h2' : ¬ T.ports.length ≤ d := by omega
  have h3' : decide (T.ports.length ≤ d) = false := decide_eq_false h2'
  have HS0 := Lib.hid (bools_made T.ports.length (by omega) (W := w1) (base := w.heap.size + 1 + 1) (lt_of_block H2.out.2.1))
  have HK2 := Lib.hid (H2.out.2.2.alloc H2.out.2.2.size (falseRow T.ports.length))
  have HX2 := Lib.hid (And.intro (blk_alloc H2.out.1 (falseRow T.ports.length)) (blk_alloc H2.out.2.1 (falseRow T.ports.length)))
  go_upto_region 7 with (fail)
  clear c3 h1' h2' h3'
  generalize w1.alloc (falseRow T.ports.length) = w2 at *
  generalize w1.heap.size = sb at *
  go_loopg [1, 9] (T.ports.length + 1) (fun gk vd vw wr => ∃ (way : List Int) (x : Nat), gk + way.length = T.ports.length + 1 ∧ vd = .int .i64 (x : Int) ∧ x < T.ports.length ∧ way.Nodup ∧ (∀ y ∈ way, InD T y) ∧ wr.ownsRow (w.heap.size + 1 + 1) 3 1 vw way.length (way.map i64v) ∧ wr.ownsRow (w.heap.size + 1 + 1) 4 1 (.slice (some ⟨sb, 0, none⟩) T.ports.length T.ports.length) T.ports.length (flagsW T.ports.length way) ∧ res = wayS T ls hv gk way x ∧ Below w.heap.size w wr ∧ (wr.heap[w.heap.size]? = some (.cells #[.int .u32 (hv.dst : Int), .int .u32 (hv.src : Int), .int .u8 (hv.proto : Int), .int .u16 (hv.sport : Int), .int .u16 (hv.dport : Int)] 89 (0, 0)) ∧ wr.heap[w.heap.size + 1]? = some (.cells #[.int .i64 0, .int .i64 0, .int .i64 0] 91 (0, 0))))
  case atStart => exact ⟨[], d, by simp, rfl, hd, List.nodup_nil, by simp, World.ownsRow_nil _ _ _ _, HS0.out, HRES.out, HK2.out, HX2.out⟩
  case round =>
    obtain ⟨way, x, hgk, rfl, hx, hnd, hin, how, hsn, hr, hK, hX⟩ := hrel
    have hwl := few T.ports.length way hnd hin
    obtain ⟨gk, rfl⟩ : ∃ g, gk = g + 1 := ⟨gk - 1, by omega⟩
    unfold wayS at hr
    have HW := Lib.hid how
    have HSN := Lib.hid hsn
    have HKR := Lib.hid hK
    have HXR := Lib.hid hX
    have HND := Lib.hid (And.intro hnd hin)
    have f0 := hsn.cellAt (x * 1) (by omega)
    rw [Nat.mul_one, flagsW_get way hx] at f0
    have f1 := hsn.frozenAt x
    have hxi : (x : Int) < (T.ports.length : Int) := by omega
    have HXI := Lib.hid hx
    clear how hsn hK hX hnd hin
    by_cases hm : (x : Int) ∈ way
    · rw [if_pos hm] at hr
      have hm' : decide ((x : Int) ∈ way) = true := decide_eq_true hm
      rw [hm'] at f0
      subst hr
      have e0 := And.intro (cell_of HXR.out.2 0) (unfrozen_of HXR.out.2 0)
      have e1 := And.intro (cell_of HXR.out.2 1) (unfrozen_of HXR.out.2 1)
      have e2 := And.intro (cell_of HXR.out.2 2) (unfrozen_of HXR.out.2 2)
      simp only [List.getElem?_toArray, List.getElem?_cons_zero, List.getElem?_cons_succ] at e0 e1 e2
      clear hm hm'
      go_wp2_with (fail)
      have hk := kept_set3 wr (w.heap.size + 1) (.int .i64 0) (.int .i64 (x : Int)) (.int .i64 (-1))
      exact bodyPost_ret (v := .tuple #[u9, .agg #[.int .i64 0, .int .i64 (x : Int), .int .i64 (-1)], .int .i64 0]) (by simp [results, Try.results45, go_sem, e0, e1, e2]) rfl ⟨_, rfl, (own_kept HW.out hk (fun g hg hc => by have := own_past HW.out g hg; have := List.mem_singleton.1 hc; omega)).mono (by omega), HKR.out.trans (hk.below HKR.out.size (by simp))⟩
    · rw [if_neg hm] at hr
      have hm' : decide ((x : Int) ∈ way) = false := decide_eq_false hm
      rw [hm'] at f0
      have HM := Lib.hid hm
      have HR := Lib.hid hr
      clear hm hm' hr
      have hne : ∀ g, u9.ownBlock = some g → g ≠ sb := fun g hg e => by
        obtain ⟨c1, h1⟩ := own_ty HW.out hg
        obtain ⟨c2, h2⟩ := own_ty HSN.out (g := sb) rfl
        refine block_ne h1 h2 (fun e => ?_) e
        injection e with _ e2 _
        cases e2
      have hsb := own_past HSN.out sb rfl
      have hk3 : Kept [sb] wr (wr.setCell ⟨sb, x, none⟩ (.bool true)) := Kept.of_setCell wr ⟨sb, x, none⟩ _
      have HW3 := Lib.hid (own_kept HW.out hk3 (fun g hg hc => hne g hg (List.mem_singleton.1 hc)))
      have hsn3 := (HSN.out.stored x (.bool true)).1
      rw [flagsW_set] at hsn3
      have HSN3 := Lib.hid hsn3
      have HK3 := Lib.hid (HKR.out.trans (hk3.below HKR.out.size (fun y hy => by rw [List.mem_singleton.1 hy]; omega)))
      have HX3 := Lib.hid (And.intro ((hk3.block _ (lt_of_block HXR.out.1) (by simp; omega)).trans HXR.out.1) ((hk3.block _ (lt_of_block HXR.out.2) (by simp; omega)).trans HXR.out.2))
      have HNE := Lib.hid hne
      have HSB := Lib.hid hsb
      clear hne hk3 hsn3 hsb
      go_upto_region 9 with (fail)
      clear f0 f1
      generalize wr.setCell ⟨sb, x, none⟩ (.bool true) = w3 at *
      have hz3 := lt_of_block HX3.out.2
      go_upto_region 10 with (at_builtin; go_must (refine wpList_append_lies _ rfl (.tmp 45) (.tmp 47) 60 rfl (w.heap.size + 1 + 1) 3 i0 _ 1 8 Try.underlying60 hi hz0 hz1 hz2 rfl (by decide) _ way.length (way.map i64v) rfl ?_ ⟨w3.heap.size, 0, none⟩ 1 1 [.int .i64 (x : Int)] rfl rfl ?_ ?_ (by omega) ?_ ?_ ?_ _ rfl ?_); (· exact own_kept HW3.out ((Kept.refl [] _).alloc _) (by simp)); (· exact news_at (by simp)); (· simp [Value.oneCell']); (· unfold maxLen; omega); (· omega); (· simp; omega); intro g9 cap9 w9 how9 hgr9 hat9 hlt9; have HOW9 := Lib.hid how9; have HGR9 := Lib.hid hgr9; clear how9 hgr9 hat9 hlt9; have hkg := ((Kept.refl [] w3).alloc (.cells #[.int .i64 (x : Int)] 3)); have hx9 : ∀ (y : Nat) (o : Obj), (∀ g, u9.ownBlock = some g → g ≠ y) → w3.heap[y]? = some o → w9.heap[y]? = some o := (fun y o hy ho => (HGR9.out.block y (by have := lt_of_block ho; simp; omega) (fun e => hy y e.symm rfl)).trans (blk_alloc ho _)); have hhd := hx9 w.heap.size _ (fun g hg e => by have := own_past HW3.out g hg; omega) HX3.out.1; have x0 := cell_of hhd 0; have x1 := cell_of hhd 1; have x2 := cell_of hhd 2; have x3 := cell_of hhd 3; have x4 := cell_of hhd 4; simp only [List.getElem?_toArray, List.getElem?_cons_zero, List.getElem?_cons_succ] at x0 x1 x2 x3 x4; have HX9 := Lib.hid hx9; clear hx9 hhd hkg)
      have hX9 := And.intro (HX9.out w.heap.size _ (fun g hg e => by have := own_past HW3.out g hg; omega) HX3.out.1) (HX9.out (w.heap.size + 1) _ (fun g hg e => by have := own_past HW3.out g hg; omega) HX3.out.2)
      have hk9 : Kept u9.ownBlock.toList w3 w9 := ((Kept.refl _ w3).alloc (.cells #[.int .i64 (x : Int)] 3)).grown_row (show (w3.alloc (.cells #[.int .i64 (x : Int)] 3)).grownBy w9 u9.ownBlock from HGR9.out) (fun k e => Or.inl (by rw [e]; simp))
      have HSN9 := Lib.hid (own_kept HSN3.out hk9 (fun g hg hc => HNE.out g (Option.mem_toList.1 hc) (Option.some.inj hg).symm))
      have HK9 := Lib.hid (HK3.out.trans (hk9.below HK3.out.size (fun y hy => by have := own_past HW3.out y (Option.mem_toList.1 hy); omega)))
      have HW9 : Hid (w9.ownsRow (w.heap.size + 1 + 1) 3 1 (.slice (some ⟨g9, 0, none⟩) (way.length + 1) cap9) (way ++ [(x : Int)]).length ((way ++ [(x : Int)]).map i64v)) := Lib.hid (by
        rw [List.length_append, List.map_append]
        exact HOW9.out)
      have HXX := Lib.hid hX9
      have HCALL := Lib.hid (HST.out w9 HK9.out x HXI.out)
      clear hX9 hk9 HX9 HOW9 HGR9 HNE
      obtain ⟨s1, s2, s3, s4, s5, hss⟩ : ∃ s1 s2 s3 s4 s5, stepS T ls hv x = (s1, ⟨s2, s3, s4⟩, s5) := ⟨_, _, _, _, _, rfl⟩
      have hr := HR.out
      rw [hss] at HCALL hr
      have hsi := HSI.out x
      rw [hss] at hsi
      unfold stepV at HCALL
      simp only at HCALL hr hsi
      have HR2 := Lib.hid hr
      have HSI2 := Lib.hid hsi
      clear hss hr hsi HR
      go_wp2_with (fail)
      refine Calls.mono HCALL.out ?_
      rintro e w10 ⟨he, k10⟩
      subst he
      have HK10 := Lib.hid (HK9.out.trans (k10.mono HK9.out.size))
      have HW10 := Lib.hid (own_kept HW9.out (Kept.of_below (S := []) k10) (by simp))
      have HSN10 := Lib.hid (own_kept HSN9.out (Kept.of_below (S := []) k10) (by simp))
      have HX10 := Lib.hid (And.intro ((k10.block _ (lt_of_block HXX.out.1)).trans HXX.out.1) ((k10.block _ (lt_of_block HXX.out.2)).trans HXX.out.2))
      clear k10 x0 x1 x2 x3 x4 hz3
      have HK11 := Lib.hid (HK10.out.alloc HK10.out.size (.cells #[.int .i64 s2, .int .i64 s3, .int .i64 s4] 91))
      have HW11 := Lib.hid (own_kept HW10.out (Kept.of_alloc (S := []) w10 (.cells #[.int .i64 s2, .int .i64 s3, .int .i64 s4] 91)) (by simp))
      have HSN11 := Lib.hid (own_kept HSN10.out (Kept.of_alloc (S := []) w10 (.cells #[.int .i64 s2, .int .i64 s3, .int .i64 s4] 91)) (by simp))
      have HX11 := Lib.hid (And.intro (blk_alloc HX10.out.1 (.cells #[.int .i64 s2, .int .i64 s3, .int .i64 s4] 91)) (blk_alloc HX10.out.2 (.cells #[.int .i64 s2, .int .i64 s3, .int .i64 s4] 91)))
      have HEB := Lib.hid (heap_alloc_new w10 (.cells #[.int .i64 s2, .int .i64 s3, .int .i64 s4] 91))
      have hr := HR2.out
      go_upto_region 11 with (fail)
      generalize w10.alloc (.cells #[.int .i64 s2, .int .i64 s3, .int .i64 s4] 91) = w11 at *
      cases s5 with
      | false =>
        rw [if_neg (by simp)] at hr
        subst hr
        have b0 := cell_of HEB.out 0
        have b1 := cell_of HEB.out 1
        have b2 := cell_of HEB.out 2
        have e0 := And.intro (cell_of HX11.out.2 0) (unfrozen_of HX11.out.2 0)
        have e1 := And.intro (cell_of HX11.out.2 1) (unfrozen_of HX11.out.2 1)
        have e2 := And.intro (cell_of HX11.out.2 2) (unfrozen_of HX11.out.2 2)
        simp only [List.getElem?_toArray, List.getElem?_cons_zero, List.getElem?_cons_succ] at b0 b1 b2 e0 e1 e2
        go_wp2_with (fail)
        go_region
        all_goals
          go_wp2_with (fail)
          first
          | (have hk : Kept [w.heap.size + 1] w11 ((set3 w11 (w.heap.size + 1) (.int .i64 s2) (.int .i64 s3) (.int .i64 s4)).drew) := (kept_set3 w11 (w.heap.size + 1) (.int .i64 s2) (.int .i64 s3) (.int .i64 s4)).drew
             have hfin : ((set3 w11 (w.heap.size + 1) (.int .i64 s2) (.int .i64 s3) (.int .i64 s4)).drew).ownsRow w.heap.size 3 1 (.slice (some ⟨g9, 0, none⟩) (way.length + 1) cap9) (way.length + 1) (way.map i64v ++ [i64v (x : Int)]) := by
               have h1 := (own_kept HW11.out hk (fun g hg hc => by have := own_past HW11.out g hg; have := List.mem_singleton.1 hc; omega)).mono (show w.heap.size ≤ w.heap.size + 1 + 1 by omega)
               simpa using h1
             exact bodyPost_ret (v := .tuple #[.slice (some ⟨g9, 0, none⟩) (way.length + 1) cap9, .agg #[.int .i64 s2, .int .i64 s3, .int .i64 s4], .int .i64 0]) (by simp [results, Try.results45, go_sem, e0, e1, e2]) rfl ⟨_, rfl, hfin, HK11.out.trans (hk.below HK11.out.size (by simp))⟩)
          | (have hk : Kept [w.heap.size + 1] w11 (set3 w11.drew (w.heap.size + 1) (.int .i64 s2) (.int .i64 s3) (.int .i64 s4)) := ((Kept.refl [w.heap.size + 1] w11).drew).trans (kept_set3 w11.drew (w.heap.size + 1) (.int .i64 s2) (.int .i64 s3) (.int .i64 s4)) (fun x hx => Or.inl hx)
             have hfin : (set3 w11.drew (w.heap.size + 1) (.int .i64 s2) (.int .i64 s3) (.int .i64 s4)).ownsRow w.heap.size 3 1 (.slice (some ⟨g9, 0, none⟩) (way.length + 1) cap9) (way.length + 1) (way.map i64v ++ [i64v (x : Int)]) := by
               have h1 := (own_kept HW11.out hk (fun g hg hc => by have := own_past HW11.out g hg; have := List.mem_singleton.1 hc; omega)).mono (show w.heap.size ≤ w.heap.size + 1 + 1 by omega)
               simpa using h1
             exact bodyPost_ret (v := .tuple #[.slice (some ⟨g9, 0, none⟩) (way.length + 1) cap9, .agg #[.int .i64 s2, .int .i64 s3, .int .i64 s4], .int .i64 0]) (by simp [results, Try.results45, go_sem, e0, e1, e2]) rfl ⟨_, rfl, hfin, HK11.out.trans (hk.below HK11.out.size (by simp))⟩)
      | true =>
        rw [if_pos rfl] at hr
        obtain ⟨y, rfl, hy⟩ := HSI2.out rfl
        have HR3 := Lib.hid (And.intro hr hy)
        clear hr hy
        go_wp2_with (fail)
        go_roundg gk
        case measure => omega
        case rel =>
          refine ⟨way ++ [(x : Int)], y, by simp; omega, rfl, HR3.out.2, List.nodup_append.2 ⟨HND.out.1, by simp, fun a ha b hb => ?_⟩, fun z hz => ?_, HW11.out, HSN11.out, HR3.out.1, HK11.out, HX11.out⟩
          · rw [List.mem_singleton.1 hb]
            exact fun e => HM.out (e ▸ ha)
          · rcases List.mem_append.1 hz with hz | hz
            · exact HND.out.2 z hz
            · rw [List.mem_singleton.1 hz]
              have := HXI.out
              exact ⟨by omega, by omega⟩
end Go.Proofs.Ytiedhjmnjpkcoaa

namespace Go.Proofs.Ytiedhjmnjpkcoaa
set_option linter.unusedVariables false
set_option linter.unusedSimpArgs false
open Go.RowKit

def tA : Tp := ⟨[1, 1], [], []⟩
def hZ : Hv := ⟨0, 0, 0, 0, 0⟩
theorem tA_fine : Fine tA := ⟨by decide, by decide⟩
theorem hZ_wf : hZ.Wf := ⟨by decide, by decide, by decide⟩
theorem tA_way : wayS tA (List.replicate 2 []) hZ 3 [] 1 = ([1], ⟨1, 1, -1⟩) := by rfl
theorem ints_in {w : World} : RowIn (w.heap.size + 1) (w.alloc (.cells #[.int .i64 1, .int .i64 1] 3)) (.slice (some ⟨w.heap.size, 0, none⟩) 2 2) 2 ([1, 1].map i64v) := by
  refine ⟨_, _, rfl, fun j u hu => ⟨w.heap.size, 0, rfl, by omega, ?_⟩⟩
  have := cell_of (heap_alloc_new w (.cells #[.int .i64 1, .int .i64 1] 3)) (0 + j)
  rw [this, Nat.zero_add]
  simpa [i64v] using hu
theorem nil_in (B : Nat) (w : World) (xs : List Value) (h : xs = []) : RowIn B w (.slice none 0 0) 0 xs := ⟨none, 0, rfl, fun j u hu => by rw [h] at hu; simp at hu⟩

set_option maxRecDepth 100000 in
set_option maxHeartbeats 4000000 in
theorem awake13_calls (w : World) : Calls Try.prog 44 #[] w fun e w' => e = .returned (.bool true) ∧ Below w.heap.size w w' := by
  have HK := Lib.hid ((Below.refl w.heap.size w).alloc (Nat.le_refl _) (.cells #[.int .i64 1, .int .i64 1] 3))
  have HT : Hid (TpIn (w.heap.size + 1) (w.alloc (.cells #[.int .i64 1, .int .i64 1] 3)) (.slice (some ⟨w.heap.size, 0, none⟩) 2 2) (.slice none 0 0) (.slice none 0 0) tA) := Lib.hid ⟨ints_in, nil_in _ _ _ rfl, nil_in _ _ _ rfl, fun a ha => by cases ha⟩
  have hz : w.heap.size + 1 ≤ (w.alloc (.cells #[.int .i64 1, .int .i64 1] 3)).heap.size := by simp
  have HN := Lib.hid (nnew_calls HT.out hz (by decide) (by decide))
  have HZ := Lib.hid hz
  clear hz
  go_enter Try.func44, Try.ntmps44
  go_wp2_with (fail)
  refine Calls.mono HN.out ?_
  rintro e w2 ⟨nb, vt, ts, he, hN, hLs, k2⟩
  subst he
  generalize w.alloc (.cells #[.int .i64 1, .int .i64 1] 3) = w1 at *
  have hLs : TD.Ls ts = List.replicate 2 [] := hLs
  have HTR := Lib.hid (strace_calls (ls := List.replicate 2 []) hN (by rw [hLs]; exact Pairs.empty 2) (HT.out.kept (k2.mono HZ.out)) (Nat.le_trans HZ.out k2.size) tA_fine (by rw [hLs]; exact NetOk.empty tA.ports) (by rw [hLs]; decide) 1 (by decide) hZ hZ_wf)
  have HK2 := Lib.hid (HK.out.trans (k2.mono HK.out.size))
  clear hN hLs k2
  unfold TracePost at HTR
  have htw : wayS tA (List.replicate 2 []) hZ (tA.ports.length + 1) [] ((1 : Nat) : Int) = ([1], ⟨1, 1, -1⟩) := tA_way
  rw [htw] at HTR
  clear htw
  go_wp2_with (fail)
  refine Calls.mono HTR.out ?_
  rintro e w3 ⟨vw, he, how, k3⟩
  subst he
  have HK3 := Lib.hid (HK2.out.trans (k3.mono HK2.out.size))
  obtain ⟨g, c, rfl, hc⟩ : ∃ g c, vw = .slice (some ⟨g, 0, none⟩) 1 c ∧ w3.cell? ⟨g, 0, none⟩ = some (.int .i64 1) := by
    rcases how.2 with ⟨_, h1⟩ | ⟨g', cap', cur, h0, _⟩
    · cases h1
    · subst h0
      have := how.cellAt 0 (by decide)
      exact ⟨g', cap', rfl, this⟩
  have hc2 := (Kept.of_alloc (S := []) w3 (.cells #[.int .i64 1, .int .i64 1, .int .i64 (-1)] 91)).cell hc (by simp)
  clear how k3
  go_wp2_with (fail)
  go_ret
  exact ⟨rfl, HK3.out.alloc HK3.out.size _⟩
end Go.Proofs.Ytiedhjmnjpkcoaa

namespace Go.Proofs.Ytiedhjmnjpkcoaa
set_option linter.unusedVariables false
set_option linter.unusedSimpArgs false
open Go.RowKit

theorem nlen_nil (w : World) : Calls Try.prog 41 #[.pointer none] w fun e w' => e = .returned (.int .i64 0) ∧ Below w.heap.size w w' := by
  have k0 := Below.refl w.heap.size w
  go_enter Try.func41, Try.ntmps41
  go_wp2
  go_ret
  exact ⟨rfl, k0⟩
theorem nhas_nil (w : World) (id : Int) : Calls Try.prog 52 #[.pointer none, .int .i64 id] w fun e w' => e = .returned (.bool false) ∧ Below w.heap.size w w' := by
  have k0 := Below.refl w.heap.size w
  go_enter Try.func52, Try.ntmps52
  go_wp2
  go_ret
  exact ⟨rfl, k0⟩
theorem nclone_nil (w : World) : Calls Try.prog 54 #[.pointer none] w fun e w' => e = .returned (.pointer none) ∧ Below w.heap.size w w' := by
  have k0 := Below.refl w.heap.size w
  go_enter Try.func54, Try.ntmps54
  go_wp2
  go_ret
  exact ⟨rfl, k0⟩
theorem nchg_nil (w : World) : Calls Try.prog 55 #[.pointer none, .agg #[.bool false, .int .i64 0, .int .i64 0, .int .u32 0, .int .i64 0, .int .i64 0, .int .i64 0]] w fun e w' => e = .returned (.int .i64 2) ∧ Below w.heap.size w w' := by
  have k0 := (Below.refl w.heap.size w).alloc (Nat.le_refl _) (.cells #[.bool false, .int .i64 0, .int .i64 0, .int .u32 0, .int .i64 0, .int .i64 0, .int .i64 0] 47)
  go_enter Try.func55, Try.ntmps55
  go_wp2
  go_ret
  exact ⟨rfl, k0⟩
end Go.Proofs.Ytiedhjmnjpkcoaa
