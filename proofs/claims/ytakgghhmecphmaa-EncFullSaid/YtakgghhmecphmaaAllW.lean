/- The walks of enc's all and Filter. -/
import Derived.Test.YtakgghhmecphmaaClosW
namespace Go.Proofs.Ytakgghhmecphmaa
set_option linter.unusedVariables false
set_option linter.unusedSimpArgs false
open Go.RowKit

/-- What each maker's set has. -/
def FM (f : Fv) : Nat → Fn
  | 0 => fun b => agree b (litL 0 f.da 32 f.dn)
  | 1 => fun b => agree b (litL 32 f.sa 32 f.sn)
  | 2 => fun b => f.pr == -1 || agree b (litL 64 f.pr.toNat 8 8)
  | 3 => fun b => decide (f.sl ≤ fieldN b 72 16 ∧ fieldN b 72 16 < f.sh + 1)
  | _ => fun b => decide (f.dl ≤ fieldN b 88 16 ∧ fieldN b 88 16 < f.dh + 1)
theorem all_snoc (f : Fv) (k : Nat) (b : Nat → Bool) : opF 0 ((List.range k).all fun j => FM f j b) (FM f k b) = (List.range (k + 1)).all fun j => FM f j b := by
  rw [List.range_succ, List.all_append]
  simp [opF]
theorem noneg {p g mb g' ab fb z : Nat} (hg : g' = g ∨ z ≤ g') (h : (ab ∉ [p, g, mb] ∧ fb ∉ [p, g, mb]) ∧ ab < z ∧ fb < z) : ab ∉ [p, g', mb] ∧ fb ∉ [p, g', mb] := by
  simp only [List.mem_cons, List.not_mem_nil, or_false, not_or] at h ⊢
  omega
def MkBox (w : World) (mk ab fb : Nat) : Prop := w.heap[mk]? = some (.cells #[.func (.func 66) #[] #[.pointer (some ⟨ab, 0, none⟩), .pointer (some ⟨fb, 0, none⟩)], .func (.func 67) #[] #[.pointer (some ⟨ab, 0, none⟩), .pointer (some ⟨fb, 0, none⟩)], .func (.func 68) #[] #[.pointer (some ⟨fb, 0, none⟩), .pointer (some ⟨ab, 0, none⟩)], .func (.func 70) #[] #[.pointer (some ⟨ab, 0, none⟩), .pointer (some ⟨fb, 0, none⟩)], .func (.func 72) #[] #[.pointer (some ⟨ab, 0, none⟩), .pointer (some ⟨fb, 0, none⟩)]] 114 (0, 0))
variable {w : World} {p g mb ab fb mk : Nat} {A : Arn} {f : Fv}
set_option maxRecDepth 100000 in
set_option maxHeartbeats 16000000 in
theorem all_calls (h : ArenaAt w p g mb A) (hOK : A.OK) (hab : ABox w ab p) (hfb : FBox w fb f) (hmk : MkBox w mk ab fb) (hf : f.Ok) (hne : ab ∉ [p, g, mb] ∧ fb ∉ [p, g, mb]) (hnm : mk ∉ [p, g, mb]) :
    Calls Try.prog 65 #[.pointer (some ⟨p, 0, none⟩), .slice (some ⟨mk, 0, none⟩) 5 5] w (MakPost w p g mb (fun b => (List.range 5).all fun j => FM f j b) A) := by
  have HA := Lib.hid h
  have HO := Lib.hid hOK
  have HF := Lib.hid hf
  have HAX := Lib.hid hab
  have HFX0 := Lib.hid hfb
  have HMX := Lib.hid hmk
  have HNE : Hid ((ab ∉ [p, g, mb] ∧ fb ∉ [p, g, mb]) ∧ ab < w.heap.size ∧ fb < w.heap.size) := Lib.hid ⟨hne, lt_of_block hab, lt_of_block hfb⟩
  have HNM := Lib.hid hnm
  have HLEN := Lib.hid (len_calls h)
  clear h hOK hab hfb hmk hf hne hnm
  go_enter Try.func65, Try.ntmps65
  go_wp2_with (fail)
  refine Calls.mono HLEN.out ?_
  rintro e w1' ⟨he, rfl⟩
  subst he
  go_wp2_with (fail)
  go_loopg [7, 16] 5 (fun gk vx vi wr => ∃ (i x g' : Nat) (B : Arn), i + gk = 5 ∧ vi = .int .i64 (i : Int) ∧ vx = .int .i64 (x : Int) ∧ ArenaAt wr p g' mb B ∧ B.OK ∧ Ext A B ∧ (x < B.nodes.length ∧ ∀ b, inA B b x = (List.range i).all fun j => FM f j b) ∧ (g' = g ∨ w.heap.size ≤ g') ∧ Kept [p, g, mb] w wr)
  case atStart => exact ⟨0, 1, g, A, by omega, rfl, rfl, HA.out, HO.out, Ext.refl A, ⟨by have := HO.out.two; omega, fun b => inA_one A b⟩, Or.inl rfl, Kept.refl _ _⟩
  case round =>
    obtain ⟨i, x, g', B, hgk, rfl, rfl, hA, hOK, hE, hx, hg', hK⟩ := hrel
    have HAB := Lib.hid hA
    have HOB := Lib.hid hOK
    have HEX := Lib.hid hE
    have HFX := Lib.hid hx
    have HGP := Lib.hid hg'
    have HKR := Lib.hid hK
    have HGK := Lib.hid hgk
    have hABx : Hid (ABox wr ab p) := Lib.hid ((hK.block ab (lt_of_block HAX.out) HNE.out.1.1).trans HAX.out)
    have hFBx : Hid (FBox wr fb f) := Lib.hid ((hK.block fb (lt_of_block HFX0.out) HNE.out.1.2).trans HFX0.out)
    have hmk : wr.heap[mk]? = some (.cells #[.func (.func 66) #[] #[.pointer (some ⟨ab, 0, none⟩), .pointer (some ⟨fb, 0, none⟩)], .func (.func 67) #[] #[.pointer (some ⟨ab, 0, none⟩), .pointer (some ⟨fb, 0, none⟩)], .func (.func 68) #[] #[.pointer (some ⟨fb, 0, none⟩), .pointer (some ⟨ab, 0, none⟩)], .func (.func 70) #[] #[.pointer (some ⟨ab, 0, none⟩), .pointer (some ⟨fb, 0, none⟩)], .func (.func 72) #[] #[.pointer (some ⟨ab, 0, none⟩), .pointer (some ⟨fb, 0, none⟩)]] 114 (0, 0)) := (hK.block mk (lt_of_block HMX.out) HNM.out).trans HMX.out
    clear hA hOK hE hx hg' hK
    have hi : i = 0 ∨ i = 1 ∨ i = 2 ∨ i = 3 ∨ i = 4 ∨ i = 5 := by omega
    clear hgk
    rcases hi with rfl | rfl | rfl | rfl | rfl | rfl
    · have hcell := cell_of hmk 0
      simp only [List.getElem?_toArray, List.getElem?_cons_zero, List.getElem?_cons_succ] at hcell
      have HMC := Lib.hid (clos1_calls HAB.out HOB.out (hABx.out) (hFBx.out) HF.out)
      clear hmk
      go_wp2_with (fail)
      refine Calls.mono HMC.out ?_
      rintro e w5 ⟨r, A1, ⟨he, g5, hg5, hA5, hK5⟩, hmk5⟩
      have HA5 := Lib.hid hA5
      have HG5 : Hid (g5 = g ∨ w.heap.size ≤ g5) := Lib.hid (by
        have := HGP.out
        have := HKR.out.size
        rcases hg5 with h1 | h1 <;> omega)
      have HK5 := Lib.hid (keep3 HGP.out HKR.out hK5)
      clear hg5 hA5 hK5 HMC hcell
      rcases hmk5 with ⟨rfl, rfl⟩ | ⟨y, rfl, o1, e1, l1, s1⟩
      · have he : e = .returned (.tuple #[.int .i64 0, .int .i64 20]) := he
        subst he
        have HCUT := Lib.hid (cut_calls HA5.out HOB.out (A.nodes.length : Int) A.nodes.length (by have := HO.out.two; omega))
        rw [upTo_ext HEX.out] at HCUT
        go_wp2_with (fail)
        refine Calls.mono HCUT.out ?_
        rintro e w7 ⟨he, hA7, hK7⟩
        subst he
        have HFIN : Hid (MakPost w p g mb (fun b => (List.range 5).all fun j => FM f j b) A (.returned (.tuple #[.int .i64 0, .int .i64 20])) w7) := Lib.hid ⟨none, A, ⟨rfl, g5, HG5.out, hA7, keep3 HG5.out HK5.out hK7⟩, Or.inl ⟨rfl, rfl⟩⟩
        clear hA7 hK7 HCUT
        go_wp2_with (fail)
        exact bodyPost_ret (v := .tuple #[.int .i64 0, .int .i64 20]) (by simp [results, Try.results65, go_sem]) rfl HFIN.out
      · have he : e = .returned (.tuple #[.int .i64 (y : Int), .int .i64 0]) := he
        subst he
        have hx1 := Nat.lt_of_lt_of_le HFX.out.1 e1.len
        have hjo := joinA_ok o1 (k := 0) (by omega) hx1 l1
        have hjs := fun z (h : (joinA A1 0 x y).1 = some z) b => joinA_sem o1 (k := 0) (by omega) hx1 l1 h b
        have hjc := Join_calls HA5.out o1 0 0 x y rfl (by omega) hx1 l1
        have hsx : ∀ b, inA A1 b x = (List.range 0).all fun j => FM f j b := fun b => by rw [inA_ext HOB.out o1 e1 b x HFX.out.1]; exact HFX.out.2 b
        obtain ⟨r2, A2, hj⟩ : ∃ r2 A2, joinA A1 0 x y = (r2, A2) := ⟨_, _, rfl⟩
        rw [hj] at hjo hjc hjs
        simp only at hjo hjc hjs
        have HJO := Lib.hid hjo
        have HJS := Lib.hid (And.intro hjs (And.intro hsx s1))
        have HJC := Lib.hid hjc
        have HE1 := Lib.hid (HEX.out.trans e1)
        clear hx1 hjo hjc hj hjs hsx s1 o1 e1 l1
        go_wp2_with (fail)
        refine Calls.mono HJC.out ?_
        rintro e w6 ⟨he, g6, hg6, hA6, hK6⟩
        have HA6 := Lib.hid hA6
        have HG6 : Hid (g6 = g ∨ w.heap.size ≤ g6) := Lib.hid (by
          have := HG5.out
          have := HK5.out.size
          rcases hg6 with h1 | h1 <;> omega)
        have HK6 := Lib.hid (keep3 HG5.out HK5.out hK6)
        clear hg6 hA6 hK6 HJC
        cases r2 with
        | none =>
          have he : e = .returned (.tuple #[.int .i64 0, .int .i64 20]) := he
          subst he
          have HCUT := Lib.hid (cut_calls HA6.out HJO.out.1 (A.nodes.length : Int) A.nodes.length (by have := HO.out.two; omega))
          rw [upTo_ext (HE1.out.trans HJO.out.2.1)] at HCUT
          go_wp2_with (fail)
          refine Calls.mono HCUT.out ?_
          rintro e w7 ⟨he, hA7, hK7⟩
          subst he
          have HFIN : Hid (MakPost w p g mb (fun b => (List.range 5).all fun j => FM f j b) A (.returned (.tuple #[.int .i64 0, .int .i64 20])) w7) := Lib.hid ⟨none, A, ⟨rfl, g6, HG6.out, hA7, keep3 HG6.out HK6.out hK7⟩, Or.inl ⟨rfl, rfl⟩⟩
          clear hA7 hK7 HCUT
          go_wp2_with (fail)
          exact bodyPost_ret (v := .tuple #[.int .i64 0, .int .i64 20]) (by simp [results, Try.results65, go_sem]) rfl HFIN.out
        | some z =>
          have he : e = .returned (.tuple #[.int .i64 (z : Int), .int .i64 0]) := he
          subst he
          go_wp2_with (fail)
          go_roundg (gk - 1)
          case measure => have := HGK.out; omega
          case rel => exact ⟨1, z, g6, A2, by have := HGK.out; omega, by go_num, rfl, HA6.out, HJO.out.1, HE1.out.trans HJO.out.2.1, ⟨HJO.out.2.2 z rfl, fun b => by rw [HJS.out.1 z rfl b, HJS.out.2.1 b, HJS.out.2.2 b]; exact all_snoc f 0 b⟩, HG6.out, HK6.out⟩
    · have hcell := cell_of hmk 1
      simp only [List.getElem?_toArray, List.getElem?_cons_zero, List.getElem?_cons_succ] at hcell
      have HMC := Lib.hid (clos2_calls HAB.out HOB.out (hABx.out) (hFBx.out) HF.out)
      clear hmk
      go_wp2_with (fail)
      refine Calls.mono HMC.out ?_
      rintro e w5 ⟨r, A1, ⟨he, g5, hg5, hA5, hK5⟩, hmk5⟩
      have HA5 := Lib.hid hA5
      have HG5 : Hid (g5 = g ∨ w.heap.size ≤ g5) := Lib.hid (by
        have := HGP.out
        have := HKR.out.size
        rcases hg5 with h1 | h1 <;> omega)
      have HK5 := Lib.hid (keep3 HGP.out HKR.out hK5)
      clear hg5 hA5 hK5 HMC hcell
      rcases hmk5 with ⟨rfl, rfl⟩ | ⟨y, rfl, o1, e1, l1, s1⟩
      · have he : e = .returned (.tuple #[.int .i64 0, .int .i64 20]) := he
        subst he
        have HCUT := Lib.hid (cut_calls HA5.out HOB.out (A.nodes.length : Int) A.nodes.length (by have := HO.out.two; omega))
        rw [upTo_ext HEX.out] at HCUT
        go_wp2_with (fail)
        refine Calls.mono HCUT.out ?_
        rintro e w7 ⟨he, hA7, hK7⟩
        subst he
        have HFIN : Hid (MakPost w p g mb (fun b => (List.range 5).all fun j => FM f j b) A (.returned (.tuple #[.int .i64 0, .int .i64 20])) w7) := Lib.hid ⟨none, A, ⟨rfl, g5, HG5.out, hA7, keep3 HG5.out HK5.out hK7⟩, Or.inl ⟨rfl, rfl⟩⟩
        clear hA7 hK7 HCUT
        go_wp2_with (fail)
        exact bodyPost_ret (v := .tuple #[.int .i64 0, .int .i64 20]) (by simp [results, Try.results65, go_sem]) rfl HFIN.out
      · have he : e = .returned (.tuple #[.int .i64 (y : Int), .int .i64 0]) := he
        subst he
        have hx1 := Nat.lt_of_lt_of_le HFX.out.1 e1.len
        have hjo := joinA_ok o1 (k := 0) (by omega) hx1 l1
        have hjs := fun z (h : (joinA A1 0 x y).1 = some z) b => joinA_sem o1 (k := 0) (by omega) hx1 l1 h b
        have hjc := Join_calls HA5.out o1 0 0 x y rfl (by omega) hx1 l1
        have hsx : ∀ b, inA A1 b x = (List.range 1).all fun j => FM f j b := fun b => by rw [inA_ext HOB.out o1 e1 b x HFX.out.1]; exact HFX.out.2 b
        obtain ⟨r2, A2, hj⟩ : ∃ r2 A2, joinA A1 0 x y = (r2, A2) := ⟨_, _, rfl⟩
        rw [hj] at hjo hjc hjs
        simp only at hjo hjc hjs
        have HJO := Lib.hid hjo
        have HJS := Lib.hid (And.intro hjs (And.intro hsx s1))
        have HJC := Lib.hid hjc
        have HE1 := Lib.hid (HEX.out.trans e1)
        clear hx1 hjo hjc hj hjs hsx s1 o1 e1 l1
        go_wp2_with (fail)
        refine Calls.mono HJC.out ?_
        rintro e w6 ⟨he, g6, hg6, hA6, hK6⟩
        have HA6 := Lib.hid hA6
        have HG6 : Hid (g6 = g ∨ w.heap.size ≤ g6) := Lib.hid (by
          have := HG5.out
          have := HK5.out.size
          rcases hg6 with h1 | h1 <;> omega)
        have HK6 := Lib.hid (keep3 HG5.out HK5.out hK6)
        clear hg6 hA6 hK6 HJC
        cases r2 with
        | none =>
          have he : e = .returned (.tuple #[.int .i64 0, .int .i64 20]) := he
          subst he
          have HCUT := Lib.hid (cut_calls HA6.out HJO.out.1 (A.nodes.length : Int) A.nodes.length (by have := HO.out.two; omega))
          rw [upTo_ext (HE1.out.trans HJO.out.2.1)] at HCUT
          go_wp2_with (fail)
          refine Calls.mono HCUT.out ?_
          rintro e w7 ⟨he, hA7, hK7⟩
          subst he
          have HFIN : Hid (MakPost w p g mb (fun b => (List.range 5).all fun j => FM f j b) A (.returned (.tuple #[.int .i64 0, .int .i64 20])) w7) := Lib.hid ⟨none, A, ⟨rfl, g6, HG6.out, hA7, keep3 HG6.out HK6.out hK7⟩, Or.inl ⟨rfl, rfl⟩⟩
          clear hA7 hK7 HCUT
          go_wp2_with (fail)
          exact bodyPost_ret (v := .tuple #[.int .i64 0, .int .i64 20]) (by simp [results, Try.results65, go_sem]) rfl HFIN.out
        | some z =>
          have he : e = .returned (.tuple #[.int .i64 (z : Int), .int .i64 0]) := he
          subst he
          go_wp2_with (fail)
          go_roundg (gk - 1)
          case measure => have := HGK.out; omega
          case rel => exact ⟨2, z, g6, A2, by have := HGK.out; omega, by go_num, rfl, HA6.out, HJO.out.1, HE1.out.trans HJO.out.2.1, ⟨HJO.out.2.2 z rfl, fun b => by rw [HJS.out.1 z rfl b, HJS.out.2.1 b, HJS.out.2.2 b]; exact all_snoc f 1 b⟩, HG6.out, HK6.out⟩
    · have hcell := cell_of hmk 2
      simp only [List.getElem?_toArray, List.getElem?_cons_zero, List.getElem?_cons_succ] at hcell
      have HMC := Lib.hid (clos3_calls HAB.out HOB.out (hABx.out) (hFBx.out) HF.out (noneg HGP.out HNE.out))
      clear hmk
      go_wp2_with (fail)
      refine Calls.mono HMC.out ?_
      rintro e w5 ⟨r, A1, ⟨he, g5, hg5, hA5, hK5⟩, hmk5⟩
      have HA5 := Lib.hid hA5
      have HG5 : Hid (g5 = g ∨ w.heap.size ≤ g5) := Lib.hid (by
        have := HGP.out
        have := HKR.out.size
        rcases hg5 with h1 | h1 <;> omega)
      have HK5 := Lib.hid (keep3 HGP.out HKR.out hK5)
      clear hg5 hA5 hK5 HMC hcell
      rcases hmk5 with ⟨rfl, rfl⟩ | ⟨y, rfl, o1, e1, l1, s1⟩
      · have he : e = .returned (.tuple #[.int .i64 0, .int .i64 20]) := he
        subst he
        have HCUT := Lib.hid (cut_calls HA5.out HOB.out (A.nodes.length : Int) A.nodes.length (by have := HO.out.two; omega))
        rw [upTo_ext HEX.out] at HCUT
        go_wp2_with (fail)
        refine Calls.mono HCUT.out ?_
        rintro e w7 ⟨he, hA7, hK7⟩
        subst he
        have HFIN : Hid (MakPost w p g mb (fun b => (List.range 5).all fun j => FM f j b) A (.returned (.tuple #[.int .i64 0, .int .i64 20])) w7) := Lib.hid ⟨none, A, ⟨rfl, g5, HG5.out, hA7, keep3 HG5.out HK5.out hK7⟩, Or.inl ⟨rfl, rfl⟩⟩
        clear hA7 hK7 HCUT
        go_wp2_with (fail)
        exact bodyPost_ret (v := .tuple #[.int .i64 0, .int .i64 20]) (by simp [results, Try.results65, go_sem]) rfl HFIN.out
      · have he : e = .returned (.tuple #[.int .i64 (y : Int), .int .i64 0]) := he
        subst he
        have hx1 := Nat.lt_of_lt_of_le HFX.out.1 e1.len
        have hjo := joinA_ok o1 (k := 0) (by omega) hx1 l1
        have hjs := fun z (h : (joinA A1 0 x y).1 = some z) b => joinA_sem o1 (k := 0) (by omega) hx1 l1 h b
        have hjc := Join_calls HA5.out o1 0 0 x y rfl (by omega) hx1 l1
        have hsx : ∀ b, inA A1 b x = (List.range 2).all fun j => FM f j b := fun b => by rw [inA_ext HOB.out o1 e1 b x HFX.out.1]; exact HFX.out.2 b
        obtain ⟨r2, A2, hj⟩ : ∃ r2 A2, joinA A1 0 x y = (r2, A2) := ⟨_, _, rfl⟩
        rw [hj] at hjo hjc hjs
        simp only at hjo hjc hjs
        have HJO := Lib.hid hjo
        have HJS := Lib.hid (And.intro hjs (And.intro hsx s1))
        have HJC := Lib.hid hjc
        have HE1 := Lib.hid (HEX.out.trans e1)
        clear hx1 hjo hjc hj hjs hsx s1 o1 e1 l1
        go_wp2_with (fail)
        refine Calls.mono HJC.out ?_
        rintro e w6 ⟨he, g6, hg6, hA6, hK6⟩
        have HA6 := Lib.hid hA6
        have HG6 : Hid (g6 = g ∨ w.heap.size ≤ g6) := Lib.hid (by
          have := HG5.out
          have := HK5.out.size
          rcases hg6 with h1 | h1 <;> omega)
        have HK6 := Lib.hid (keep3 HG5.out HK5.out hK6)
        clear hg6 hA6 hK6 HJC
        cases r2 with
        | none =>
          have he : e = .returned (.tuple #[.int .i64 0, .int .i64 20]) := he
          subst he
          have HCUT := Lib.hid (cut_calls HA6.out HJO.out.1 (A.nodes.length : Int) A.nodes.length (by have := HO.out.two; omega))
          rw [upTo_ext (HE1.out.trans HJO.out.2.1)] at HCUT
          go_wp2_with (fail)
          refine Calls.mono HCUT.out ?_
          rintro e w7 ⟨he, hA7, hK7⟩
          subst he
          have HFIN : Hid (MakPost w p g mb (fun b => (List.range 5).all fun j => FM f j b) A (.returned (.tuple #[.int .i64 0, .int .i64 20])) w7) := Lib.hid ⟨none, A, ⟨rfl, g6, HG6.out, hA7, keep3 HG6.out HK6.out hK7⟩, Or.inl ⟨rfl, rfl⟩⟩
          clear hA7 hK7 HCUT
          go_wp2_with (fail)
          exact bodyPost_ret (v := .tuple #[.int .i64 0, .int .i64 20]) (by simp [results, Try.results65, go_sem]) rfl HFIN.out
        | some z =>
          have he : e = .returned (.tuple #[.int .i64 (z : Int), .int .i64 0]) := he
          subst he
          go_wp2_with (fail)
          go_roundg (gk - 1)
          case measure => have := HGK.out; omega
          case rel => exact ⟨3, z, g6, A2, by have := HGK.out; omega, by go_num, rfl, HA6.out, HJO.out.1, HE1.out.trans HJO.out.2.1, ⟨HJO.out.2.2 z rfl, fun b => by rw [HJS.out.1 z rfl b, HJS.out.2.1 b, HJS.out.2.2 b]; exact all_snoc f 2 b⟩, HG6.out, HK6.out⟩
    · have hcell := cell_of hmk 3
      simp only [List.getElem?_toArray, List.getElem?_cons_zero, List.getElem?_cons_succ] at hcell
      have HMC := Lib.hid (clos4_calls HAB.out HOB.out (hABx.out) (hFBx.out) HF.out)
      clear hmk
      go_wp2_with (fail)
      refine Calls.mono HMC.out ?_
      rintro e w5 ⟨r, A1, ⟨he, g5, hg5, hA5, hK5⟩, hmk5⟩
      have HA5 := Lib.hid hA5
      have HG5 : Hid (g5 = g ∨ w.heap.size ≤ g5) := Lib.hid (by
        have := HGP.out
        have := HKR.out.size
        rcases hg5 with h1 | h1 <;> omega)
      have HK5 := Lib.hid (keep3 HGP.out HKR.out hK5)
      clear hg5 hA5 hK5 HMC hcell
      rcases hmk5 with ⟨rfl, rfl⟩ | ⟨y, rfl, o1, e1, l1, s1⟩
      · have he : e = .returned (.tuple #[.int .i64 0, .int .i64 20]) := he
        subst he
        have HCUT := Lib.hid (cut_calls HA5.out HOB.out (A.nodes.length : Int) A.nodes.length (by have := HO.out.two; omega))
        rw [upTo_ext HEX.out] at HCUT
        go_wp2_with (fail)
        refine Calls.mono HCUT.out ?_
        rintro e w7 ⟨he, hA7, hK7⟩
        subst he
        have HFIN : Hid (MakPost w p g mb (fun b => (List.range 5).all fun j => FM f j b) A (.returned (.tuple #[.int .i64 0, .int .i64 20])) w7) := Lib.hid ⟨none, A, ⟨rfl, g5, HG5.out, hA7, keep3 HG5.out HK5.out hK7⟩, Or.inl ⟨rfl, rfl⟩⟩
        clear hA7 hK7 HCUT
        go_wp2_with (fail)
        exact bodyPost_ret (v := .tuple #[.int .i64 0, .int .i64 20]) (by simp [results, Try.results65, go_sem]) rfl HFIN.out
      · have he : e = .returned (.tuple #[.int .i64 (y : Int), .int .i64 0]) := he
        subst he
        have hx1 := Nat.lt_of_lt_of_le HFX.out.1 e1.len
        have hjo := joinA_ok o1 (k := 0) (by omega) hx1 l1
        have hjs := fun z (h : (joinA A1 0 x y).1 = some z) b => joinA_sem o1 (k := 0) (by omega) hx1 l1 h b
        have hjc := Join_calls HA5.out o1 0 0 x y rfl (by omega) hx1 l1
        have hsx : ∀ b, inA A1 b x = (List.range 3).all fun j => FM f j b := fun b => by rw [inA_ext HOB.out o1 e1 b x HFX.out.1]; exact HFX.out.2 b
        obtain ⟨r2, A2, hj⟩ : ∃ r2 A2, joinA A1 0 x y = (r2, A2) := ⟨_, _, rfl⟩
        rw [hj] at hjo hjc hjs
        simp only at hjo hjc hjs
        have HJO := Lib.hid hjo
        have HJS := Lib.hid (And.intro hjs (And.intro hsx s1))
        have HJC := Lib.hid hjc
        have HE1 := Lib.hid (HEX.out.trans e1)
        clear hx1 hjo hjc hj hjs hsx s1 o1 e1 l1
        go_wp2_with (fail)
        refine Calls.mono HJC.out ?_
        rintro e w6 ⟨he, g6, hg6, hA6, hK6⟩
        have HA6 := Lib.hid hA6
        have HG6 : Hid (g6 = g ∨ w.heap.size ≤ g6) := Lib.hid (by
          have := HG5.out
          have := HK5.out.size
          rcases hg6 with h1 | h1 <;> omega)
        have HK6 := Lib.hid (keep3 HG5.out HK5.out hK6)
        clear hg6 hA6 hK6 HJC
        cases r2 with
        | none =>
          have he : e = .returned (.tuple #[.int .i64 0, .int .i64 20]) := he
          subst he
          have HCUT := Lib.hid (cut_calls HA6.out HJO.out.1 (A.nodes.length : Int) A.nodes.length (by have := HO.out.two; omega))
          rw [upTo_ext (HE1.out.trans HJO.out.2.1)] at HCUT
          go_wp2_with (fail)
          refine Calls.mono HCUT.out ?_
          rintro e w7 ⟨he, hA7, hK7⟩
          subst he
          have HFIN : Hid (MakPost w p g mb (fun b => (List.range 5).all fun j => FM f j b) A (.returned (.tuple #[.int .i64 0, .int .i64 20])) w7) := Lib.hid ⟨none, A, ⟨rfl, g6, HG6.out, hA7, keep3 HG6.out HK6.out hK7⟩, Or.inl ⟨rfl, rfl⟩⟩
          clear hA7 hK7 HCUT
          go_wp2_with (fail)
          exact bodyPost_ret (v := .tuple #[.int .i64 0, .int .i64 20]) (by simp [results, Try.results65, go_sem]) rfl HFIN.out
        | some z =>
          have he : e = .returned (.tuple #[.int .i64 (z : Int), .int .i64 0]) := he
          subst he
          go_wp2_with (fail)
          go_roundg (gk - 1)
          case measure => have := HGK.out; omega
          case rel => exact ⟨4, z, g6, A2, by have := HGK.out; omega, by go_num, rfl, HA6.out, HJO.out.1, HE1.out.trans HJO.out.2.1, ⟨HJO.out.2.2 z rfl, fun b => by rw [HJS.out.1 z rfl b, HJS.out.2.1 b, HJS.out.2.2 b]; exact all_snoc f 3 b⟩, HG6.out, HK6.out⟩
    · have hcell := cell_of hmk 4
      simp only [List.getElem?_toArray, List.getElem?_cons_zero, List.getElem?_cons_succ] at hcell
      have HMC := Lib.hid (clos5_calls HAB.out HOB.out (hABx.out) (hFBx.out) HF.out)
      clear hmk
      go_wp2_with (fail)
      refine Calls.mono HMC.out ?_
      rintro e w5 ⟨r, A1, ⟨he, g5, hg5, hA5, hK5⟩, hmk5⟩
      have HA5 := Lib.hid hA5
      have HG5 : Hid (g5 = g ∨ w.heap.size ≤ g5) := Lib.hid (by
        have := HGP.out
        have := HKR.out.size
        rcases hg5 with h1 | h1 <;> omega)
      have HK5 := Lib.hid (keep3 HGP.out HKR.out hK5)
      clear hg5 hA5 hK5 HMC hcell
      rcases hmk5 with ⟨rfl, rfl⟩ | ⟨y, rfl, o1, e1, l1, s1⟩
      · have he : e = .returned (.tuple #[.int .i64 0, .int .i64 20]) := he
        subst he
        have HCUT := Lib.hid (cut_calls HA5.out HOB.out (A.nodes.length : Int) A.nodes.length (by have := HO.out.two; omega))
        rw [upTo_ext HEX.out] at HCUT
        go_wp2_with (fail)
        refine Calls.mono HCUT.out ?_
        rintro e w7 ⟨he, hA7, hK7⟩
        subst he
        have HFIN : Hid (MakPost w p g mb (fun b => (List.range 5).all fun j => FM f j b) A (.returned (.tuple #[.int .i64 0, .int .i64 20])) w7) := Lib.hid ⟨none, A, ⟨rfl, g5, HG5.out, hA7, keep3 HG5.out HK5.out hK7⟩, Or.inl ⟨rfl, rfl⟩⟩
        clear hA7 hK7 HCUT
        go_wp2_with (fail)
        exact bodyPost_ret (v := .tuple #[.int .i64 0, .int .i64 20]) (by simp [results, Try.results65, go_sem]) rfl HFIN.out
      · have he : e = .returned (.tuple #[.int .i64 (y : Int), .int .i64 0]) := he
        subst he
        have hx1 := Nat.lt_of_lt_of_le HFX.out.1 e1.len
        have hjo := joinA_ok o1 (k := 0) (by omega) hx1 l1
        have hjs := fun z (h : (joinA A1 0 x y).1 = some z) b => joinA_sem o1 (k := 0) (by omega) hx1 l1 h b
        have hjc := Join_calls HA5.out o1 0 0 x y rfl (by omega) hx1 l1
        have hsx : ∀ b, inA A1 b x = (List.range 4).all fun j => FM f j b := fun b => by rw [inA_ext HOB.out o1 e1 b x HFX.out.1]; exact HFX.out.2 b
        obtain ⟨r2, A2, hj⟩ : ∃ r2 A2, joinA A1 0 x y = (r2, A2) := ⟨_, _, rfl⟩
        rw [hj] at hjo hjc hjs
        simp only at hjo hjc hjs
        have HJO := Lib.hid hjo
        have HJS := Lib.hid (And.intro hjs (And.intro hsx s1))
        have HJC := Lib.hid hjc
        have HE1 := Lib.hid (HEX.out.trans e1)
        clear hx1 hjo hjc hj hjs hsx s1 o1 e1 l1
        go_wp2_with (fail)
        refine Calls.mono HJC.out ?_
        rintro e w6 ⟨he, g6, hg6, hA6, hK6⟩
        have HA6 := Lib.hid hA6
        have HG6 : Hid (g6 = g ∨ w.heap.size ≤ g6) := Lib.hid (by
          have := HG5.out
          have := HK5.out.size
          rcases hg6 with h1 | h1 <;> omega)
        have HK6 := Lib.hid (keep3 HG5.out HK5.out hK6)
        clear hg6 hA6 hK6 HJC
        cases r2 with
        | none =>
          have he : e = .returned (.tuple #[.int .i64 0, .int .i64 20]) := he
          subst he
          have HCUT := Lib.hid (cut_calls HA6.out HJO.out.1 (A.nodes.length : Int) A.nodes.length (by have := HO.out.two; omega))
          rw [upTo_ext (HE1.out.trans HJO.out.2.1)] at HCUT
          go_wp2_with (fail)
          refine Calls.mono HCUT.out ?_
          rintro e w7 ⟨he, hA7, hK7⟩
          subst he
          have HFIN : Hid (MakPost w p g mb (fun b => (List.range 5).all fun j => FM f j b) A (.returned (.tuple #[.int .i64 0, .int .i64 20])) w7) := Lib.hid ⟨none, A, ⟨rfl, g6, HG6.out, hA7, keep3 HG6.out HK6.out hK7⟩, Or.inl ⟨rfl, rfl⟩⟩
          clear hA7 hK7 HCUT
          go_wp2_with (fail)
          exact bodyPost_ret (v := .tuple #[.int .i64 0, .int .i64 20]) (by simp [results, Try.results65, go_sem]) rfl HFIN.out
        | some z =>
          have he : e = .returned (.tuple #[.int .i64 (z : Int), .int .i64 0]) := he
          subst he
          go_wp2_with (fail)
          go_roundg (gk - 1)
          case measure => have := HGK.out; omega
          case rel => exact ⟨5, z, g6, A2, by have := HGK.out; omega, by go_num, rfl, HA6.out, HJO.out.1, HE1.out.trans HJO.out.2.1, ⟨HJO.out.2.2 z rfl, fun b => by rw [HJS.out.1 z rfl b, HJS.out.2.1 b, HJS.out.2.2 b]; exact all_snoc f 4 b⟩, HG6.out, HK6.out⟩
    · have HFIN : Hid (MakPost w p g mb (fun b => (List.range 5).all fun j => FM f j b) A (.returned (.tuple #[.int .i64 (x : Int), .int .i64 0])) wr) := Lib.hid ⟨some x, B, ⟨rfl, g', HGP.out, HAB.out, HKR.out⟩, Or.inr ⟨x, rfl, HOB.out, HEX.out, HFX.out.1, HFX.out.2⟩⟩
      clear hmk
      go_wp2_with (fail)
      exact bodyPost_ret (v := .tuple #[.int .i64 (x : Int), .int .i64 0]) (by simp [results, Try.results65, go_sem]) rfl HFIN.out
end Go.Proofs.Ytakgghhmecphmaa
