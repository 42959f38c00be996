/- The walk of enc's Range. -/
import Derived.Test.YtakgghhmecphmaaPrefW
import Derived.Test.YtakgghhmecphmaaRangP
import Derived.Test.YtakgghhmecphmaaJoin2
namespace Go.Proofs.Ytakgghhmecphmaa
set_option linter.unusedVariables false
set_option linter.unusedSimpArgs false
open Go.RowKit

theorem Chain.mem : ∀ {bs : List (Nat × Nat)} {a m : Nat}, Chain a bs m → ∀ b ∈ bs, b.2 ≤ 16 ∧ b.1 < m
  | [], _, _, _, b, hb => by cases hb
  | (q, n) :: r, a, m, h, b, hb => by
    obtain ⟨rfl, h2, h3, h4⟩ := h
    have hp := Nat.two_pow_pos (16 - n)
    have hle := h4.le
    rcases List.mem_cons.1 hb with rfl | hb
    · exact ⟨h2, by simp only; omega⟩
    · exact Chain.mem h4 b hb
theorem blCells_at : ∀ (bs : List (Nat × Nat)) (i : Nat), i < bs.length → (blCells bs)[i * 2]? = some (.int .u16 ((bs.getD i (0, 0)).1 : Int)) ∧ (blCells bs)[i * 2 + 1]? = some (.int .i64 ((bs.getD i (0, 0)).2 : Int))
  | b :: bs, 0, _ => ⟨rfl, rfl⟩
  | b :: bs, i + 1, h => by
    have ih := blCells_at bs i (by simpa using h)
    rw [show (i + 1) * 2 = i * 2 + 2 by omega, show i * 2 + 2 + 1 = (i * 2 + 1) + 2 by omega]
    exact ih
theorem blk_row {w : World} {base : Nat} {vo : Value} {bs : List (Nat × Nat)} (how : w.ownsRow base 141 2 vo bs.length (blCells bs)) : ∃ sv cpv, vo = .slice sv bs.length cpv ∧ ∀ i, i < bs.length → ∃ s0, sv = some ⟨s0, 0, none⟩ ∧ base ≤ s0 ∧ s0 < w.heap.size ∧ w.cell? ⟨s0, i * 2, none⟩ = some (.int .u16 ((bs.getD i (0, 0)).1 : Int)) ∧ w.cell? ⟨s0, i * 2 + 1, none⟩ = some (.int .i64 ((bs.getD i (0, 0)).2 : Int)) := by
  rcases Nat.eq_zero_or_pos bs.length with h0 | h0
  · rcases how.2 with ⟨h1, h2⟩ | ⟨g', cap', cur, h1, _⟩
    · exact ⟨none, 0, by rw [h1, h2], fun i hi => by omega⟩
    · exact ⟨_, cap', h1, fun i hi => by omega⟩
  · obtain ⟨s0, cap, rfl, hb, hz⟩ := how.form h0
    refine ⟨_, cap, rfl, fun i hi => ⟨s0, rfl, hb, hz, ?_, ?_⟩⟩
    · have := how.cellAt (i * 2) (by omega)
      rw [(blCells_at bs i hi).1] at this
      exact this
    · have := how.cellAt (i * 2 + 1) (by omega)
      rw [(blCells_at bs i hi).2] at this
      exact this
def RangPost (w : World) (p g mb : Nat) (field : Nat) (A : Arn) (lo hi : Nat) (e : Ending) (w' : World) : Prop := ∃ bs, Chain lo bs (hi + 1) ∧ ArenaPost w p g mb (rangeGo field A.nodes.length bs 0 A).1 (rangeGo field A.nodes.length bs 0 A).2 e w'
theorem keep3 {p g mb g' : Nat} {w3 wr w' : World} (hg : g' = g ∨ w3.heap.size ≤ g') (k : Kept [p, g, mb] w3 wr) (k' : Kept [p, g', mb] wr w') : Kept [p, g, mb] w3 w' := k.trans k' (fun x hx => by
  simp only [List.mem_cons, List.not_mem_nil, or_false] at hx ⊢
  rcases hx with rfl | rfl | rfl
  · exact Or.inl (Or.inl rfl)
  · rcases hg with h1 | h1
    · exact Or.inl (Or.inr (Or.inl h1))
    · exact Or.inr h1
  · exact Or.inl (Or.inr (Or.inr rfl)))
theorem rang_done {w w1 w3 wr : World} {p g mb g' f : Nat} {B : Arn} (hz : p < w1.heap.size ∧ g < w1.heap.size ∧ mb < w1.heap.size ∧ w1.heap.size ≤ w3.heap.size ∧ w.heap.size ≤ w3.heap.size) (hg : g' = g ∨ w3.heap.size ≤ g') (k3 : Below w.heap.size w w3) (k : Kept [p, g, mb] w3 wr) (hA : ArenaAt wr p g' mb B) :
    ArenaPost w p g mb (some f) B (.returned (.tuple #[.int .i64 (f : Int), .int .i64 0])) wr :=
  ⟨rfl, g', by rcases hg with h | h <;> omega, hA, (Kept.of_below k3).trans k (fun x hx => Or.inl hx)⟩
theorem rang_end {w w1 w3 w6 w7 : World} {p g mb g6 : Nat} {field start : Nat} {A A1 : Arn} {bs : List (Nat × Nat)} (hr : rangeGo field start bs 0 A = (none, upTo A1 start)) (hz : p < w1.heap.size ∧ g < w1.heap.size ∧ mb < w1.heap.size ∧ w1.heap.size ≤ w3.heap.size ∧ w.heap.size ≤ w3.heap.size) (hg : g6 = g ∨ w3.heap.size ≤ g6) (k3 : Below w.heap.size w w3) (k : Kept [p, g, mb] w3 w6) (hA : ArenaAt w7 p g6 mb (upTo A1 start)) (k7 : Kept [p, g6, mb] w6 w7) :
    ArenaPost w p g mb (rangeGo field start bs 0 A).1 (rangeGo field start bs 0 A).2 (.returned (.tuple #[.int .i64 0, .int .i64 20])) w7 := by
  rw [hr]
  exact ⟨rfl, g6, by rcases hg with h | h <;> omega, hA, (Kept.of_below k3).trans (keep3 hg k k7) (fun x hx => Or.inl hx)⟩

variable {w : World} {p g mb : Nat} {A : Arn}
set_option maxRecDepth 100000 in
set_option maxHeartbeats 8000000 in
theorem encRange_calls (h : ArenaAt w p g mb A) (hOK : A.OK) (field : Nat) (hf : field = 72 ∨ field = 88) (fi : Int) (hfi : fi = field) (lo hi : Nat) (hlh : lo ≤ hi) (hh : hi < 65536) :
    Calls Try.prog 71 #[.pointer (some ⟨p, 0, none⟩), .int .i64 fi, .agg #[.int .u16 (lo : Int), .int .u16 (hi : Int)]] w (RangPost w p g mb field A lo hi) := by
  have HX := Lib.hid (heap_alloc_new w (.cells #[.int .u16 (lo : Int), .int .u16 (hi : Int)] 75))
  have HK := Lib.hid ((Below.refl w.heap.size w).alloc (Nat.le_refl _) (.cells #[.int .u16 (lo : Int), .int .u16 (hi : Int)] 75))
  have HA := Lib.hid h
  have HO := Lib.hid hOK
  have HLT := Lib.hid h.lt
  clear h hOK
  rcases hf with rfl | rfl
  · obtain rfl : fi = 72 := hfi
    go_enter Try.func71, Try.ntmps71
    go_upto_region 1 with (fail)
    generalize w.alloc (.cells #[.int .u16 (lo : Int), .int .u16 (hi : Int)] 75) = w1 at *
    have c0 := cell_of HX.out 0
    have c1 := cell_of HX.out 1
    simp only [List.getElem?_toArray, List.getElem?_cons_zero, List.getElem?_cons_succ] at c0 c1
    have hlh' : decide ((hi : Int) < (lo : Int)) = false := decide_eq_false (by omega)
    have HLEN := Lib.hid (len_calls (HA.out.kept (Kept.of_below (S := []) HK.out) (by simp) (by simp) (by simp)))
    go_wp2_with (fail)
    refine Calls.mono HLEN.out ?_
    rintro e w1' ⟨he, rfl⟩
    subst he
    have HBL := Lib.hid (blocks_calls w1 lo hi hlh hh)
    go_wp2_with (fail)
    refine Calls.mono HBL.out ?_
    rintro e w3 ⟨vo, bs, he, hch, how, k3⟩
    subst he
    obtain ⟨sv, cpv, rfl, hsv⟩ : ∃ sv cpv, vo = .slice sv bs.length cpv ∧ ∀ i, i < bs.length → ∃ s0, sv = some ⟨s0, 0, none⟩ ∧ w1.heap.size ≤ s0 ∧ s0 < w3.heap.size ∧ w3.cell? ⟨s0, i * 2, none⟩ = some (.int .u16 ((bs.getD i (0, 0)).1 : Int)) ∧ w3.cell? ⟨s0, i * 2 + 1, none⟩ = some (.int .i64 ((bs.getD i (0, 0)).2 : Int)) := blk_row how
    have HSV := Lib.hid hsv
    have HCH := Lib.hid hch
    have HK3 := Lib.hid (HK.out.trans (k3.mono HK.out.size))
    have HA3 := Lib.hid (HA.out.kept (Kept.of_below (S := []) HK3.out) (by simp) (by simp) (by simp))
    have HP3 : Hid (p < w1.heap.size ∧ g < w1.heap.size ∧ mb < w1.heap.size ∧ w1.heap.size ≤ w3.heap.size ∧ w.heap.size ≤ w3.heap.size) := Lib.hid (by
      have := HLT.out
      have := HK.out.size
      have := k3.size
      omega)
    have HBLEN : Hid (bs.length ≤ 65536) := Lib.hid (by have := hch.le; omega)
    clear how k3 hsv hch c0 c1 HBL HLEN
    go_wp2_with (fail)
    go_loopg [9, 35] bs.length (fun gk vf vi wr => ∃ (i f g' : Nat) (B : Arn), i + gk = bs.length ∧ vi = .int .i64 (i : Int) ∧ vf = .int .i64 (f : Int) ∧ ArenaAt wr p g' mb B ∧ B.OK ∧ f < B.nodes.length ∧ A.nodes.length ≤ B.nodes.length ∧ rangeGo 72 A.nodes.length bs 0 A = rangeGo 72 A.nodes.length (bs.drop i) f B ∧ (g' = g ∨ w3.heap.size ≤ g') ∧ Kept [p, g, mb] w3 wr)
    case atStart => exact ⟨0, 0, g, A, by omega, rfl, rfl, HA3.out, HO.out, by have := HO.out.two; omega, Nat.le_refl _, rfl, Or.inl rfl, Kept.refl _ _⟩
    case round =>
      obtain ⟨i, f, g', B, hgk, rfl, rfl, hA, hOK, hf, hAB, hr, hg', hK⟩ := hrel
      have HAB := Lib.hid hA
      have HOB := Lib.hid hOK
      have HR := Lib.hid hr
      have HGP := Lib.hid hg'
      have HKR := Lib.hid hK
      have HGK := Lib.hid hgk
      have HFB := Lib.hid (And.intro hf hAB)
      clear hA hOK hr hg' hK hf hAB hgk
      by_cases hlt : i < bs.length
      · obtain ⟨s0, rfl, hs1, hs2, hq, hn⟩ := HSV.out i hlt
        have hs0 : s0 ∉ [p, g, mb] := by have := HP3.out; simp; omega
        have hq := HKR.out.cell hq hs0
        have hn := HKR.out.cell hn hs0
        have hii : (i : Int) < (bs.length : Int) := by omega
        have hi1 : IntKind.i64.wrap ((i : Int) + 1) = (i : Int) + 1 := IntWalk.i64_in _ (by have := HBLEN.out; omega)
        have hbd : bs.getD i (0, 0) = bs[i] := by rw [List.getD_eq_getElem?_getD, List.getElem?_eq_getElem hlt]; rfl
        have hdr : bs.drop i = bs[i] :: bs.drop (i + 1) := List.drop_eq_getElem_cons hlt
        have hblk := HCH.out.mem _ (List.getElem_mem hlt)
        rw [hbd] at hq hn
        have hr := HR.out
        rw [hdr] at hr
        generalize bs[i] = bq at *
        obtain ⟨q, n⟩ := bq
        simp only at hq hn hblk
        rw [rangeGo_cons] at hr
        have hq16 : q < 65536 := by omega
        have hqw : IntKind.u32.wrap (q : Int) = (q : Int) := u32_of16 q hq16
        have HB4 := Lib.hid (heap_alloc_new wr (.cells #[.int .u16 (q : Int), .int .i64 (n : Int)] 141))
        have hka := (Below.refl wr.heap.size wr).alloc (Nat.le_refl _) (.cells #[.int .u16 (q : Int), .int .i64 (n : Int)] 141)
        have HA4 := Lib.hid (HAB.out.below hka)
        have HKA := Lib.hid hka
        have HLTR := Lib.hid HAB.out.lt
        have HN16 := Lib.hid hblk
        have HRR := Lib.hid hr
        clear hs0 hs1 hs2 hbd hdr hka hr hblk
        go_upto_region 12 with (fail)
        generalize wr.alloc (.cells #[.int .u16 (q : Int), .int .i64 (n : Int)] 141) = w4 at *
        clear hq hn
        have y0 := cell_of HB4.out 0
        have y1 := cell_of HB4.out 1
        simp only [List.getElem?_toArray, List.getElem?_cons_zero, List.getElem?_cons_succ] at y0 y1
        have HLI := Lib.hid (litsI_calls w4 72 q 16 n 72 16 rfl rfl (by have := HN16.out; omega) (by have := HN16.out; omega) (by omega) (by omega))
        go_wp2_with (fail)
        refine Calls.mono HLI.out ?_
        rintro e w5 ⟨vl, he, how5, k5⟩
        subst he
        have HK5 := Lib.hid (HKA.out.trans (k5.mono HKA.out.size))
        have hcc := cubeRow_calls (HA4.out.below k5) HOB.out how5 (litL_rise _ _ _ (by have := HN16.out; omega)) (by rw [litL_length]; have := HN16.out; omega) (by have := HLTR.out; have := HKA.out.size; omega) (by have := HLTR.out; have := HKA.out.size; omega) (by have := HLTR.out; have := HKA.out.size; omega)
        have hco := cubeF_ok HOB.out (litL_rise 72 q 16 (k := n) (by have := HN16.out; omega))
        obtain ⟨r, A1, hrc⟩ : ∃ r A1, cubeF B (litL 72 q 16 n) = (r, A1) := ⟨_, _, rfl⟩
        have hr := HRR.out
        rw [hrc] at hcc hr hco
        simp only at hcc hco
        have HCC := Lib.hid hcc
        have HCO := Lib.hid hco
        have HRR2 := Lib.hid hr
        clear how5 k5 hcc hco hr hrc y0 y1 HLI
        go_wp2_with (fail)
        refine Calls.mono HCC.out ?_
        rintro e w6 hp6
        obtain ⟨he, g6, hg6, hA6, hK6⟩ := hp6.from HK5.out
        have HA6 := Lib.hid hA6
        have HG6 : Hid (g6 = g ∨ w3.heap.size ≤ g6) := Lib.hid (by
          have := HGP.out
          have := HKR.out.size
          rcases hg6 with h1 | h1 <;> omega)
        have HK6 : Hid (Kept [p, g, mb] w3 w6) := Lib.hid (HKR.out.trans hK6 (fun x hx => by
          have := HGP.out
          simp only [List.mem_cons, List.not_mem_nil, or_false] at hx ⊢
          rcases hx with rfl | rfl | rfl
          · exact Or.inl (Or.inl rfl)
          · rcases HGP.out with h1 | h1
            · exact Or.inl (Or.inr (Or.inl h1))
            · exact Or.inr h1
          · exact Or.inl (Or.inr (Or.inr rfl))))
        clear hp6 hg6 hA6 hK6 HCC
        cases r with
        | none =>
          have he : e = .returned (.tuple #[.int .i64 0, .int .i64 20]) := he
          subst he
          have hr := HRR2.out
          simp only at hr
          have HRES := Lib.hid hr
          have HCUT := Lib.hid (cut_calls HA6.out HCO.out.1 (A.nodes.length : Int) A.nodes.length (by have := HO.out.two; omega))
          clear hr
          go_wp2_with (fail)
          refine Calls.mono HCUT.out ?_
          rintro e w7 ⟨he, hA7, hK7⟩
          subst he
          have HFIN := Lib.hid (rang_end HRES.out HP3.out HG6.out HK3.out HK6.out hA7 hK7)
          clear hA7 hK7 HCUT
          go_wp2_with (fail)
          exact bodyPost_ret (v := .tuple #[.int .i64 0, .int .i64 20]) (by simp [results, Try.results71, go_sem]) rfl ⟨bs, HCH.out, HFIN.out⟩
        | some x =>
          have he : e = .returned (.tuple #[.int .i64 (x : Int), .int .i64 0]) := he
          subst he
          have hx := HCO.out.2.2.1 x rfl
          have hf1 : f < A1.nodes.length := Nat.lt_of_lt_of_le HFB.out.1 HCO.out.2.1.len
          have hjo := joinA_ok HCO.out.1 (k := 1) (by omega) hf1 hx
          have hjc := Join_calls HA6.out HCO.out.1 1 1 f x rfl (by omega) hf1 hx
          obtain ⟨r2, A2, hj⟩ : ∃ r2 A2, joinA A1 1 f x = (r2, A2) := ⟨_, _, rfl⟩
          have hr := HRR2.out
          simp only at hr
          rw [hj] at hr hjo hjc
          simp only at hjo hjc
          have HJO := Lib.hid hjo
          have HJC := Lib.hid hjc
          have HRR3 := Lib.hid hr
          clear hx hf1 hjo hjc hj hr
          go_wp2_with (fail)
          refine Calls.mono HJC.out ?_
          rintro e w7 ⟨he, g7, hg7, hA7, hK7⟩
          have HA7 := Lib.hid hA7
          have HG7 : Hid (g7 = g ∨ w3.heap.size ≤ g7) := Lib.hid (by
            have := HG6.out
            have := HK6.out.size
            rcases hg7 with h1 | h1 <;> omega)
          have HK7 := Lib.hid (keep3 HG6.out HK6.out hK7)
          clear hg7 hA7 hK7 HJC
          cases r2 with
          | none =>
            have he : e = .returned (.tuple #[.int .i64 0, .int .i64 20]) := he
            subst he
            have hr := HRR3.out
            simp only at hr
            have HRES := Lib.hid hr
            have HCUT := Lib.hid (cut_calls HA7.out HJO.out.1 (A.nodes.length : Int) A.nodes.length (by have := HO.out.two; omega))
            clear hr
            go_wp2_with (fail)
            refine Calls.mono HCUT.out ?_
            rintro e w8 ⟨he, hA8, hK8⟩
            subst he
            have HFIN := Lib.hid (rang_end HRES.out HP3.out HG7.out HK3.out HK7.out hA8 hK8)
            clear hA8 hK8 HCUT
            go_wp2_with (fail)
            exact bodyPost_ret (v := .tuple #[.int .i64 0, .int .i64 20]) (by simp [results, Try.results71, go_sem]) rfl ⟨bs, HCH.out, HFIN.out⟩
          | some f2 =>
            have he : e = .returned (.tuple #[.int .i64 (f2 : Int), .int .i64 0]) := he
            subst he
            have hr := HRR3.out
            simp only at hr
            have HRX := Lib.hid hr
            clear hr
            go_wp2_with (fail)
            go_roundg (gk - 1)
            case measure => have := HGK.out; omega
            case rel => exact ⟨i + 1, f2, g7, A2, by have := HGK.out; omega, by go_num, rfl, HA7.out, HJO.out.1, HJO.out.2.2 f2 rfl, Nat.le_trans HFB.out.2 (Nat.le_trans HCO.out.2.1.len HJO.out.2.1.len), HRX.out, HG7.out, HK7.out⟩
      · obtain rfl : i = bs.length := by have := HGK.out; omega
        have hr := HR.out
        rw [List.drop_eq_nil_of_le (Nat.le_refl _)] at hr
        have HRES := Lib.hid hr
        clear hr
        go_wp2_with (fail)
        refine bodyPost_ret (v := .tuple #[.int .i64 (f : Int), .int .i64 0]) (by simp [results, Try.results71, go_sem]) rfl ⟨bs, HCH.out, ?_⟩
        rw [HRES.out]
        exact rang_done HP3.out HGP.out HK3.out HKR.out HAB.out
  · obtain rfl : fi = 88 := hfi
    go_enter Try.func71, Try.ntmps71
    go_upto_region 1 with (fail)
    generalize w.alloc (.cells #[.int .u16 (lo : Int), .int .u16 (hi : Int)] 75) = w1 at *
    have c0 := cell_of HX.out 0
    have c1 := cell_of HX.out 1
    simp only [List.getElem?_toArray, List.getElem?_cons_zero, List.getElem?_cons_succ] at c0 c1
    have hlh' : decide ((hi : Int) < (lo : Int)) = false := decide_eq_false (by omega)
    have HLEN := Lib.hid (len_calls (HA.out.kept (Kept.of_below (S := []) HK.out) (by simp) (by simp) (by simp)))
    go_wp2_with (fail)
    refine Calls.mono HLEN.out ?_
    rintro e w1' ⟨he, rfl⟩
    subst he
    have HBL := Lib.hid (blocks_calls w1 lo hi hlh hh)
    go_wp2_with (fail)
    refine Calls.mono HBL.out ?_
    rintro e w3 ⟨vo, bs, he, hch, how, k3⟩
    subst he
    obtain ⟨sv, cpv, rfl, hsv⟩ : ∃ sv cpv, vo = .slice sv bs.length cpv ∧ ∀ i, i < bs.length → ∃ s0, sv = some ⟨s0, 0, none⟩ ∧ w1.heap.size ≤ s0 ∧ s0 < w3.heap.size ∧ w3.cell? ⟨s0, i * 2, none⟩ = some (.int .u16 ((bs.getD i (0, 0)).1 : Int)) ∧ w3.cell? ⟨s0, i * 2 + 1, none⟩ = some (.int .i64 ((bs.getD i (0, 0)).2 : Int)) := blk_row how
    have HSV := Lib.hid hsv
    have HCH := Lib.hid hch
    have HK3 := Lib.hid (HK.out.trans (k3.mono HK.out.size))
    have HA3 := Lib.hid (HA.out.kept (Kept.of_below (S := []) HK3.out) (by simp) (by simp) (by simp))
    have HP3 : Hid (p < w1.heap.size ∧ g < w1.heap.size ∧ mb < w1.heap.size ∧ w1.heap.size ≤ w3.heap.size ∧ w.heap.size ≤ w3.heap.size) := Lib.hid (by
      have := HLT.out
      have := HK.out.size
      have := k3.size
      omega)
    have HBLEN : Hid (bs.length ≤ 65536) := Lib.hid (by have := hch.le; omega)
    clear how k3 hsv hch c0 c1 HBL HLEN
    go_wp2_with (fail)
    go_loopg [9, 35] bs.length (fun gk vf vi wr => ∃ (i f g' : Nat) (B : Arn), i + gk = bs.length ∧ vi = .int .i64 (i : Int) ∧ vf = .int .i64 (f : Int) ∧ ArenaAt wr p g' mb B ∧ B.OK ∧ f < B.nodes.length ∧ A.nodes.length ≤ B.nodes.length ∧ rangeGo 88 A.nodes.length bs 0 A = rangeGo 88 A.nodes.length (bs.drop i) f B ∧ (g' = g ∨ w3.heap.size ≤ g') ∧ Kept [p, g, mb] w3 wr)
    case atStart => exact ⟨0, 0, g, A, by omega, rfl, rfl, HA3.out, HO.out, by have := HO.out.two; omega, Nat.le_refl _, rfl, Or.inl rfl, Kept.refl _ _⟩
    case round =>
      obtain ⟨i, f, g', B, hgk, rfl, rfl, hA, hOK, hf, hAB, hr, hg', hK⟩ := hrel
      have HAB := Lib.hid hA
      have HOB := Lib.hid hOK
      have HR := Lib.hid hr
      have HGP := Lib.hid hg'
      have HKR := Lib.hid hK
      have HGK := Lib.hid hgk
      have HFB := Lib.hid (And.intro hf hAB)
      clear hA hOK hr hg' hK hf hAB hgk
      by_cases hlt : i < bs.length
      · obtain ⟨s0, rfl, hs1, hs2, hq, hn⟩ := HSV.out i hlt
        have hs0 : s0 ∉ [p, g, mb] := by have := HP3.out; simp; omega
        have hq := HKR.out.cell hq hs0
        have hn := HKR.out.cell hn hs0
        have hii : (i : Int) < (bs.length : Int) := by omega
        have hi1 : IntKind.i64.wrap ((i : Int) + 1) = (i : Int) + 1 := IntWalk.i64_in _ (by have := HBLEN.out; omega)
        have hbd : bs.getD i (0, 0) = bs[i] := by rw [List.getD_eq_getElem?_getD, List.getElem?_eq_getElem hlt]; rfl
        have hdr : bs.drop i = bs[i] :: bs.drop (i + 1) := List.drop_eq_getElem_cons hlt
        have hblk := HCH.out.mem _ (List.getElem_mem hlt)
        rw [hbd] at hq hn
        have hr := HR.out
        rw [hdr] at hr
        generalize bs[i] = bq at *
        obtain ⟨q, n⟩ := bq
        simp only at hq hn hblk
        rw [rangeGo_cons] at hr
        have hq16 : q < 65536 := by omega
        have hqw : IntKind.u32.wrap (q : Int) = (q : Int) := u32_of16 q hq16
        have HB4 := Lib.hid (heap_alloc_new wr (.cells #[.int .u16 (q : Int), .int .i64 (n : Int)] 141))
        have hka := (Below.refl wr.heap.size wr).alloc (Nat.le_refl _) (.cells #[.int .u16 (q : Int), .int .i64 (n : Int)] 141)
        have HA4 := Lib.hid (HAB.out.below hka)
        have HKA := Lib.hid hka
        have HLTR := Lib.hid HAB.out.lt
        have HN16 := Lib.hid hblk
        have HRR := Lib.hid hr
        clear hs0 hs1 hs2 hbd hdr hka hr hblk
        go_upto_region 12 with (fail)
        generalize wr.alloc (.cells #[.int .u16 (q : Int), .int .i64 (n : Int)] 141) = w4 at *
        clear hq hn
        have y0 := cell_of HB4.out 0
        have y1 := cell_of HB4.out 1
        simp only [List.getElem?_toArray, List.getElem?_cons_zero, List.getElem?_cons_succ] at y0 y1
        have HLI := Lib.hid (litsI_calls w4 88 q 16 n 88 16 rfl rfl (by have := HN16.out; omega) (by have := HN16.out; omega) (by omega) (by omega))
        go_wp2_with (fail)
        refine Calls.mono HLI.out ?_
        rintro e w5 ⟨vl, he, how5, k5⟩
        subst he
        have HK5 := Lib.hid (HKA.out.trans (k5.mono HKA.out.size))
        have hcc := cubeRow_calls (HA4.out.below k5) HOB.out how5 (litL_rise _ _ _ (by have := HN16.out; omega)) (by rw [litL_length]; have := HN16.out; omega) (by have := HLTR.out; have := HKA.out.size; omega) (by have := HLTR.out; have := HKA.out.size; omega) (by have := HLTR.out; have := HKA.out.size; omega)
        have hco := cubeF_ok HOB.out (litL_rise 88 q 16 (k := n) (by have := HN16.out; omega))
        obtain ⟨r, A1, hrc⟩ : ∃ r A1, cubeF B (litL 88 q 16 n) = (r, A1) := ⟨_, _, rfl⟩
        have hr := HRR.out
        rw [hrc] at hcc hr hco
        simp only at hcc hco
        have HCC := Lib.hid hcc
        have HCO := Lib.hid hco
        have HRR2 := Lib.hid hr
        clear how5 k5 hcc hco hr hrc y0 y1 HLI
        go_wp2_with (fail)
        refine Calls.mono HCC.out ?_
        rintro e w6 hp6
        obtain ⟨he, g6, hg6, hA6, hK6⟩ := hp6.from HK5.out
        have HA6 := Lib.hid hA6
        have HG6 : Hid (g6 = g ∨ w3.heap.size ≤ g6) := Lib.hid (by
          have := HGP.out
          have := HKR.out.size
          rcases hg6 with h1 | h1 <;> omega)
        have HK6 : Hid (Kept [p, g, mb] w3 w6) := Lib.hid (HKR.out.trans hK6 (fun x hx => by
          have := HGP.out
          simp only [List.mem_cons, List.not_mem_nil, or_false] at hx ⊢
          rcases hx with rfl | rfl | rfl
          · exact Or.inl (Or.inl rfl)
          · rcases HGP.out with h1 | h1
            · exact Or.inl (Or.inr (Or.inl h1))
            · exact Or.inr h1
          · exact Or.inl (Or.inr (Or.inr rfl))))
        clear hp6 hg6 hA6 hK6 HCC
        cases r with
        | none =>
          have he : e = .returned (.tuple #[.int .i64 0, .int .i64 20]) := he
          subst he
          have hr := HRR2.out
          simp only at hr
          have HRES := Lib.hid hr
          have HCUT := Lib.hid (cut_calls HA6.out HCO.out.1 (A.nodes.length : Int) A.nodes.length (by have := HO.out.two; omega))
          clear hr
          go_wp2_with (fail)
          refine Calls.mono HCUT.out ?_
          rintro e w7 ⟨he, hA7, hK7⟩
          subst he
          have HFIN := Lib.hid (rang_end HRES.out HP3.out HG6.out HK3.out HK6.out hA7 hK7)
          clear hA7 hK7 HCUT
          go_wp2_with (fail)
          exact bodyPost_ret (v := .tuple #[.int .i64 0, .int .i64 20]) (by simp [results, Try.results71, go_sem]) rfl ⟨bs, HCH.out, HFIN.out⟩
        | some x =>
          have he : e = .returned (.tuple #[.int .i64 (x : Int), .int .i64 0]) := he
          subst he
          have hx := HCO.out.2.2.1 x rfl
          have hf1 : f < A1.nodes.length := Nat.lt_of_lt_of_le HFB.out.1 HCO.out.2.1.len
          have hjo := joinA_ok HCO.out.1 (k := 1) (by omega) hf1 hx
          have hjc := Join_calls HA6.out HCO.out.1 1 1 f x rfl (by omega) hf1 hx
          obtain ⟨r2, A2, hj⟩ : ∃ r2 A2, joinA A1 1 f x = (r2, A2) := ⟨_, _, rfl⟩
          have hr := HRR2.out
          simp only at hr
          rw [hj] at hr hjo hjc
          simp only at hjo hjc
          have HJO := Lib.hid hjo
          have HJC := Lib.hid hjc
          have HRR3 := Lib.hid hr
          clear hx hf1 hjo hjc hj hr
          go_wp2_with (fail)
          refine Calls.mono HJC.out ?_
          rintro e w7 ⟨he, g7, hg7, hA7, hK7⟩
          have HA7 := Lib.hid hA7
          have HG7 : Hid (g7 = g ∨ w3.heap.size ≤ g7) := Lib.hid (by
            have := HG6.out
            have := HK6.out.size
            rcases hg7 with h1 | h1 <;> omega)
          have HK7 := Lib.hid (keep3 HG6.out HK6.out hK7)
          clear hg7 hA7 hK7 HJC
          cases r2 with
          | none =>
            have he : e = .returned (.tuple #[.int .i64 0, .int .i64 20]) := he
            subst he
            have hr := HRR3.out
            simp only at hr
            have HRES := Lib.hid hr
            have HCUT := Lib.hid (cut_calls HA7.out HJO.out.1 (A.nodes.length : Int) A.nodes.length (by have := HO.out.two; omega))
            clear hr
            go_wp2_with (fail)
            refine Calls.mono HCUT.out ?_
            rintro e w8 ⟨he, hA8, hK8⟩
            subst he
            have HFIN := Lib.hid (rang_end HRES.out HP3.out HG7.out HK3.out HK7.out hA8 hK8)
            clear hA8 hK8 HCUT
            go_wp2_with (fail)
            exact bodyPost_ret (v := .tuple #[.int .i64 0, .int .i64 20]) (by simp [results, Try.results71, go_sem]) rfl ⟨bs, HCH.out, HFIN.out⟩
          | some f2 =>
            have he : e = .returned (.tuple #[.int .i64 (f2 : Int), .int .i64 0]) := he
            subst he
            have hr := HRR3.out
            simp only at hr
            have HRX := Lib.hid hr
            clear hr
            go_wp2_with (fail)
            go_roundg (gk - 1)
            case measure => have := HGK.out; omega
            case rel => exact ⟨i + 1, f2, g7, A2, by have := HGK.out; omega, by go_num, rfl, HA7.out, HJO.out.1, HJO.out.2.2 f2 rfl, Nat.le_trans HFB.out.2 (Nat.le_trans HCO.out.2.1.len HJO.out.2.1.len), HRX.out, HG7.out, HK7.out⟩
      · obtain rfl : i = bs.length := by have := HGK.out; omega
        have hr := HR.out
        rw [List.drop_eq_nil_of_le (Nat.le_refl _)] at hr
        have HRES := Lib.hid hr
        clear hr
        go_wp2_with (fail)
        refine bodyPost_ret (v := .tuple #[.int .i64 (f : Int), .int .i64 0]) (by simp [results, Try.results71, go_sem]) rfl ⟨bs, HCH.out, ?_⟩
        rw [HRES.out]
        exact rang_done HP3.out HGP.out HK3.out HKR.out HAB.out
end Go.Proofs.Ytakgghhmecphmaa
