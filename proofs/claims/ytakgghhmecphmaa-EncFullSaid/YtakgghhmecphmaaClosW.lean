/- The five makers that enc's Filter hands on: the walks of its closures. -/
import Derived.Test.YtakgghhmecphmaaRangW
import Derived.Test.YtakgghhmecphmaaPortP
import Derived.Deep.RegionHeld3
namespace Go.Proofs.Ytakgghhmecphmaa
set_option linter.unusedVariables false
set_option linter.unusedSimpArgs false
open Go.RowKit

/-- A filter. -/
structure Fv where
  da : Nat
  dn : Nat
  sa : Nat
  sn : Nat
  pr : Int
  sl : Nat
  sh : Nat
  dl : Nat
  dh : Nat
structure Fv.Ok (f : Fv) : Prop where
  da : f.da < 2 ^ 32
  dn : f.dn ≤ 32
  dr : rtB ⟨f.da, f.dn⟩ = true
  sa : f.sa < 2 ^ 32
  sn : f.sn ≤ 32
  sr : rtB ⟨f.sa, f.sn⟩ = true
  pr : -1 ≤ f.pr ∧ f.pr ≤ 255
  sle : f.sl ≤ f.sh
  sh : f.sh < 65536
  dle : f.dl ≤ f.dh
  dh : f.dh < 65536
def ABox (w : World) (ab p : Nat) : Prop := w.heap[ab]? = some (.cells #[.pointer (some ⟨p, 0, none⟩)] 26 (0, 0))
def FBox (w : World) (fb : Nat) (f : Fv) : Prop := w.heap[fb]? = some (.cells #[.int .u32 (f.da : Int), .int .i64 (f.dn : Int), .int .u32 (f.sa : Int), .int .i64 (f.sn : Int), .int .i64 f.pr, .int .u16 (f.sl : Int), .int .u16 (f.sh : Int), .int .u16 (f.dl : Int), .int .u16 (f.dh : Int)] 77 (0, 0))
/-- What a maker leaves. -/
def MakPost (w : World) (p g mb : Nat) (F : Fn) (A : Arn) (e : Ending) (w' : World) : Prop := ∃ r A', ArenaPost w p g mb r A' e w' ∧ MkR F A r A'
theorem MkR.congr {F G : Fn} {A A' : Arn} {r : Option Nat} (h : MkR F A r A') (hg : ∀ b, F b = G b) : MkR G A r A' := by
  rcases h with h | ⟨x, a1, a2, a3, a4, a5⟩
  · exact Or.inl h
  · exact Or.inr ⟨x, a1, a2, a3, a4, fun b => by rw [a5 b, hg b]⟩
theorem port_any {lo hi : Nat} {bs : List (Nat × Nat)} (h : Chain lo bs (hi + 1)) (hh : hi + 1 ≤ 65536) (b : Nat → Bool) (s : Nat) : (bs.any fun c => agree b (litL s c.1 16 c.2)) = decide (lo ≤ fieldN b s 16 ∧ fieldN b s 16 < hi + 1) := by
  rw [← h.any (fieldN b s 16), Bool.eq_iff_iff, List.any_eq_true, List.any_eq_true]
  have key : ∀ c ∈ bs, agree b (litL s c.1 16 c.2) = inBlk c (fieldN b s 16) := fun c hc => by
    obtain ⟨h1, h2⟩ := h.mem c hc
    exact agree_blk b s c h1 (by omega)
  constructor
  · rintro ⟨c, hc, h1⟩
    exact ⟨c, hc, by rw [← key c hc]; exact h1⟩
  · rintro ⟨c, hc, h1⟩
    exact ⟨c, hc, by rw [key c hc]; exact h1⟩
variable {w : World} {p g mb ab fb : Nat} {A : Arn} {f : Fv}
set_option maxRecDepth 100000 in
set_option maxHeartbeats 4000000 in
theorem clos1_calls (h : ArenaAt w p g mb A) (hOK : A.OK) (hab : ABox w ab p) (hfb : FBox w fb f) (hf : f.Ok) : Calls Try.prog 66 #[.pointer (some ⟨ab, 0, none⟩), .pointer (some ⟨fb, 0, none⟩)] w (MakPost w p g mb (fun b => agree b (litL 0 f.da 32 f.dn)) A) := by
  unfold ABox at hab
  unfold FBox at hfb
  have HA := Lib.hid h
  have HO := Lib.hid hOK
  have z0 := cell_of hab 0
  have c0 := cell_of hfb 0
  have c1 := cell_of hfb 1
  have c2 := cell_of hfb 2
  have c3 := cell_of hfb 3
  have c4 := cell_of hfb 4
  have c5 := cell_of hfb 5
  have c6 := cell_of hfb 6
  have c7 := cell_of hfb 7
  have c8 := cell_of hfb 8
  simp only [List.getElem?_toArray, List.getElem?_cons_zero, List.getElem?_cons_succ] at z0 c0 c1 c2 c3 c4 c5 c6 c7 c8
  have hc := encPrefix_calls h hOK 0 (by omega) 0 rfl f.da f.dn hf.da hf.dn hf.dr
  have hm := mkR_cube hOK (litL_rise 0 f.da 32 (k := f.dn) (by have := hf.dn; omega))
  obtain ⟨r, A', hr⟩ : ∃ r A', cubeF A (litL 0 f.da 32 f.dn) = (r, A') := ⟨_, _, rfl⟩
  rw [hr] at hc hm
  simp only at hc hm
  have HC := Lib.hid hc
  have HM := Lib.hid hm
  clear h hOK hab hfb hf hc hm hr
  go_enter Try.func66, Try.ntmps66
  go_wp2_with (fail)
  refine Calls.mono HC.out ?_
  rintro e w4 hp4
  have HP4 := Lib.hid hp4
  obtain ⟨he, _⟩ := hp4
  have he : e = .returned (.tuple #[.int .i64 ((r.getD 0 : Nat) : Int), .int .i64 (if r.isSome then 0 else 20)]) := he
  subst he
  have HFIN : Hid (MakPost w p g mb (fun b => agree b (litL 0 f.da 32 f.dn)) A (.returned (.tuple #[.int .i64 ((r.getD 0 : Nat) : Int), .int .i64 (if r.isSome then 0 else 20)])) w4) := Lib.hid ⟨r, A', HP4.out, HM.out⟩
  generalize hx : ((r.getD 0 : Nat) : Int) = x at *
  generalize hy : (if r.isSome then (0 : Int) else 20) = y at *
  clear hx hy
  go_wp2_with (fail)
  exact bodyPost_ret (v := .tuple #[.int .i64 x, .int .i64 y]) (by simp [results, Try.results66, go_sem]) rfl HFIN.out
set_option maxRecDepth 100000 in
set_option maxHeartbeats 4000000 in
theorem clos2_calls (h : ArenaAt w p g mb A) (hOK : A.OK) (hab : ABox w ab p) (hfb : FBox w fb f) (hf : f.Ok) : Calls Try.prog 67 #[.pointer (some ⟨ab, 0, none⟩), .pointer (some ⟨fb, 0, none⟩)] w (MakPost w p g mb (fun b => agree b (litL 32 f.sa 32 f.sn)) A) := by
  unfold ABox at hab
  unfold FBox at hfb
  have HA := Lib.hid h
  have HO := Lib.hid hOK
  have z0 := cell_of hab 0
  have c0 := cell_of hfb 0
  have c1 := cell_of hfb 1
  have c2 := cell_of hfb 2
  have c3 := cell_of hfb 3
  have c4 := cell_of hfb 4
  have c5 := cell_of hfb 5
  have c6 := cell_of hfb 6
  have c7 := cell_of hfb 7
  have c8 := cell_of hfb 8
  simp only [List.getElem?_toArray, List.getElem?_cons_zero, List.getElem?_cons_succ] at z0 c0 c1 c2 c3 c4 c5 c6 c7 c8
  have hc := encPrefix_calls h hOK 32 (by omega) 32 rfl f.sa f.sn hf.sa hf.sn hf.sr
  have hm := mkR_cube hOK (litL_rise 32 f.sa 32 (k := f.sn) (by have := hf.sn; omega))
  obtain ⟨r, A', hr⟩ : ∃ r A', cubeF A (litL 32 f.sa 32 f.sn) = (r, A') := ⟨_, _, rfl⟩
  rw [hr] at hc hm
  simp only at hc hm
  have HC := Lib.hid hc
  have HM := Lib.hid hm
  clear h hOK hab hfb hf hc hm hr
  go_enter Try.func67, Try.ntmps67
  go_wp2_with (fail)
  refine Calls.mono HC.out ?_
  rintro e w4 hp4
  have HP4 := Lib.hid hp4
  obtain ⟨he, _⟩ := hp4
  have he : e = .returned (.tuple #[.int .i64 ((r.getD 0 : Nat) : Int), .int .i64 (if r.isSome then 0 else 20)]) := he
  subst he
  have HFIN : Hid (MakPost w p g mb (fun b => agree b (litL 32 f.sa 32 f.sn)) A (.returned (.tuple #[.int .i64 ((r.getD 0 : Nat) : Int), .int .i64 (if r.isSome then 0 else 20)])) w4) := Lib.hid ⟨r, A', HP4.out, HM.out⟩
  generalize hx : ((r.getD 0 : Nat) : Int) = x at *
  generalize hy : (if r.isSome then (0 : Int) else 20) = y at *
  clear hx hy
  go_wp2_with (fail)
  exact bodyPost_ret (v := .tuple #[.int .i64 x, .int .i64 y]) (by simp [results, Try.results67, go_sem]) rfl HFIN.out
set_option maxRecDepth 100000 in
set_option maxHeartbeats 4000000 in
theorem clos3_calls (h : ArenaAt w p g mb A) (hOK : A.OK) (hab : ABox w ab p) (hfb : FBox w fb f) (hf : f.Ok) (hne : ab ∉ [p, g, mb] ∧ fb ∉ [p, g, mb]) : Calls Try.prog 68 #[.pointer (some ⟨fb, 0, none⟩), .pointer (some ⟨ab, 0, none⟩)] w (MakPost w p g mb (fun b => f.pr == -1 || agree b (litL 64 f.pr.toNat 8 8)) A) := by
  unfold ABox at hab
  unfold FBox at hfb
  have HA := Lib.hid h
  have HO := Lib.hid hOK
  have z0 := cell_of hab 0
  have c0 := cell_of hfb 0
  have c1 := cell_of hfb 1
  have c2 := cell_of hfb 2
  have c3 := cell_of hfb 3
  have c4 := cell_of hfb 4
  have c5 := cell_of hfb 5
  have c6 := cell_of hfb 6
  have c7 := cell_of hfb 7
  have c8 := cell_of hfb 8
  simp only [List.getElem?_toArray, List.getElem?_cons_zero, List.getElem?_cons_succ] at z0 c0 c1 c2 c3 c4 c5 c6 c7 c8
  have hpr := hf.pr
  clear c0 c1 c2 c3 c5 c6 c7 c8
  by_cases hm1 : f.pr = -1
  · rw [hm1] at c4 ⊢
    have HFIN : Hid (MakPost w p g mb (fun b => (-1 : Int) == -1 || agree b (litL 64 (-1 : Int).toNat 8 8)) A (.returned (.tuple #[.int .i64 1, .int .i64 0])) w) := Lib.hid ⟨some 1, A, ⟨rfl, g, Or.inl rfl, h, Kept.refl _ _⟩, (mkR_true hOK).congr (fun b => rfl)⟩
    clear h hOK hab hfb hf hpr hm1
    go_enter Try.func68, Try.ntmps68
    go_wp2_with (fail)
    exact bodyPost_ret (v := .tuple #[.int .i64 1, .int .i64 0]) (by simp [results, Try.results68, go_sem]) rfl HFIN.out
  · obtain ⟨n, hn⟩ : ∃ n : Nat, f.pr = n := ⟨f.pr.toNat, by omega⟩
    rw [hn] at c4 ⊢
    have hn8 : n < 256 := by omega
    have hnb : ((n : Int) == -1) = false := beq_eq_false_iff_ne.2 (by omega)
    have hnw : IntKind.u32.wrap (n : Int) = (n : Int) := in32 n (by omega)
    have hrise := litL_rise 64 n 8 (k := 8) (by omega)
    have hm := (mkR_cube hOK hrise).congr (G := fun b => (n : Int) == -1 || agree b (litL 64 (n : Int).toNat 8 8)) (fun b => by rw [hnb, Bool.false_or]; rfl)
    obtain ⟨r, A', hr⟩ : ∃ r A', cubeF A (litL 64 n 8 8) = (r, A') := ⟨_, _, rfl⟩
    rw [hr] at hm
    simp only at hm
    have HM := Lib.hid hm
    have HR := Lib.hid hr
    have HLT := Lib.hid h.lt
    have HLI : Hid (∀ X, Below w.heap.size w X → Calls Try.prog 69 #[.int .i64 64, .int .u32 (n : Int), .int .i64 8, .int .i64 8] X (LitsPost X (litL 64 n 8 8))) := Lib.hid (fun X _ => litsI_calls X 64 n 8 8 64 8 rfl rfl (by omega) (by omega) (by omega) (by omega))
    have HABX := Lib.hid hab
    have HFBX := Lib.hid hfb
    clear h hOK hab hfb hf hpr hm1 hn hm hr hrise
    go_enter Try.func68, Try.ntmps68
    go_wp2_with (fail)
    go_region_held3 (fun X => X.cell? ⟨ab, 0, none⟩ = some (.pointer (some ⟨p, 0, none⟩)) ∧ X.cell? ⟨fb, 4, none⟩ = some (.int .i64 (n : Int))) (go_keep) (first | (go_at_call 69; refine Calls.mono (HLI.out _ (by first | exact Below.refl _ _ | exact (Below.refl _ _).drew)) ?_; rintro e w5 ⟨vl, he, how, k5⟩; subst he; have hb5 : Below w.heap.size w w5 := (by first | exact k5 | exact (Below.refl w.heap.size w).drew.trans k5); have HB5 := Lib.hid hb5; have HOW := Lib.hid how; have s1 := (Kept.of_below (S := []) hb5).cell z0 (by simp); have s2 := (Kept.of_below (S := []) hb5).cell c4 (by simp); clear how k5 hb5) | (go_at_call 22; refine Calls.mono (cubeRow_calls (HA.out.kept (Kept.of_below (S := []) HB5.out) (by simp) (by simp) (by simp)) HO.out HOW.out (litL_rise _ _ _ (by omega)) (by rw [litL_length]; omega) HLT.out.1 HLT.out.2.1 HLT.out.2.2) ?_; rw [HR.out]; rintro e w6 hp6; have HP6 := Lib.hid (hp6.from HB5.out); obtain ⟨he, g6, hg6, hA6, hK6⟩ := hp6; have he : e = .returned (.tuple #[.int .i64 ((r.getD 0 : Nat) : Int), .int .i64 (if r.isSome then 0 else 20)]) := he; subst he; have t1 := hK6.cell s1 hne.1; have t2 := hK6.cell s2 hne.2; have HFIN : Hid (MakPost w p g mb (fun b => (n : Int) == -1 || agree b (litL 64 (n : Int).toNat 8 8)) A (.returned (.tuple #[.int .i64 ((r.getD 0 : Nat) : Int), .int .i64 (if r.isSome then 0 else 20)])) w6) := Lib.hid ⟨r, A', HP6.out, HM.out⟩; clear hg6 hA6 hK6 HP6; generalize hx : ((r.getD 0 : Nat) : Int) = x at *; generalize hy : (if r.isSome then (0 : Int) else 20) = y at *; clear hx hy))
    all_goals
      go_wp2_with (fail)
      exact bodyPost_ret (v := .tuple #[.int .i64 x, .int .i64 y]) (by simp [results, Try.results68, go_sem]) rfl HFIN.out
set_option maxRecDepth 100000 in
set_option maxHeartbeats 4000000 in
theorem clos4_calls (h : ArenaAt w p g mb A) (hOK : A.OK) (hab : ABox w ab p) (hfb : FBox w fb f) (hf : f.Ok) : Calls Try.prog 70 #[.pointer (some ⟨ab, 0, none⟩), .pointer (some ⟨fb, 0, none⟩)] w (MakPost w p g mb (fun b => decide (f.sl ≤ fieldN b 72 16 ∧ fieldN b 72 16 < f.sh + 1)) A) := by
  unfold ABox at hab
  unfold FBox at hfb
  have HA := Lib.hid h
  have HO := Lib.hid hOK
  have z0 := cell_of hab 0
  have c0 := cell_of hfb 0
  have c1 := cell_of hfb 1
  have c2 := cell_of hfb 2
  have c3 := cell_of hfb 3
  have c4 := cell_of hfb 4
  have c5 := cell_of hfb 5
  have c6 := cell_of hfb 6
  have c7 := cell_of hfb 7
  have c8 := cell_of hfb 8
  simp only [List.getElem?_toArray, List.getElem?_cons_zero, List.getElem?_cons_succ] at z0 c0 c1 c2 c3 c4 c5 c6 c7 c8
  have HC := Lib.hid (encRange_calls h hOK 72 (by omega) 72 rfl f.sl f.sh hf.sle hf.sh)
  have HLT := Lib.hid hf.sh
  clear h hOK hab hfb hf
  go_enter Try.func70, Try.ntmps70
  go_wp2_with (fail)
  refine Calls.mono HC.out ?_
  rintro e w4 ⟨bs, hch, hp4⟩
  have hm := mkR_range (field := 72) (by omega) HO.out (bs := bs) (fun c hc => (hch.mem c hc).1)
  have hm := MkR.congr hm (fun b => port_any hch (by have := HLT.out; omega) b 72)
  obtain ⟨r, A', hr⟩ : ∃ r A', rangeGo 72 A.nodes.length bs 0 A = (r, A') := ⟨_, _, rfl⟩
  rw [hr] at hp4 hm
  simp only at hp4 hm
  have HFIN0 := Lib.hid (And.intro hp4 hm)
  obtain ⟨he, _⟩ := hp4
  have he : e = .returned (.tuple #[.int .i64 ((r.getD 0 : Nat) : Int), .int .i64 (if r.isSome then 0 else 20)]) := he
  subst he
  have HFIN : Hid (MakPost w p g mb (fun b => decide (f.sl ≤ fieldN b 72 16 ∧ fieldN b 72 16 < f.sh + 1)) A (.returned (.tuple #[.int .i64 ((r.getD 0 : Nat) : Int), .int .i64 (if r.isSome then 0 else 20)])) w4) := Lib.hid ⟨r, A', HFIN0.out.1, HFIN0.out.2⟩
  clear HFIN0 hm hr hch
  generalize hx : ((r.getD 0 : Nat) : Int) = x at *
  generalize hy : (if r.isSome then (0 : Int) else 20) = y at *
  clear hx hy
  go_wp2_with (fail)
  exact bodyPost_ret (v := .tuple #[.int .i64 x, .int .i64 y]) (by simp [results, Try.results70, go_sem]) rfl HFIN.out
set_option maxRecDepth 100000 in
set_option maxHeartbeats 4000000 in
theorem clos5_calls (h : ArenaAt w p g mb A) (hOK : A.OK) (hab : ABox w ab p) (hfb : FBox w fb f) (hf : f.Ok) : Calls Try.prog 72 #[.pointer (some ⟨ab, 0, none⟩), .pointer (some ⟨fb, 0, none⟩)] w (MakPost w p g mb (fun b => decide (f.dl ≤ fieldN b 88 16 ∧ fieldN b 88 16 < f.dh + 1)) A) := by
  unfold ABox at hab
  unfold FBox at hfb
  have HA := Lib.hid h
  have HO := Lib.hid hOK
  have z0 := cell_of hab 0
  have c0 := cell_of hfb 0
  have c1 := cell_of hfb 1
  have c2 := cell_of hfb 2
  have c3 := cell_of hfb 3
  have c4 := cell_of hfb 4
  have c5 := cell_of hfb 5
  have c6 := cell_of hfb 6
  have c7 := cell_of hfb 7
  have c8 := cell_of hfb 8
  simp only [List.getElem?_toArray, List.getElem?_cons_zero, List.getElem?_cons_succ] at z0 c0 c1 c2 c3 c4 c5 c6 c7 c8
  have HC := Lib.hid (encRange_calls h hOK 88 (by omega) 88 rfl f.dl f.dh hf.dle hf.dh)
  have HLT := Lib.hid hf.dh
  clear h hOK hab hfb hf
  go_enter Try.func72, Try.ntmps72
  go_wp2_with (fail)
  refine Calls.mono HC.out ?_
  rintro e w4 ⟨bs, hch, hp4⟩
  have hm := mkR_range (field := 88) (by omega) HO.out (bs := bs) (fun c hc => (hch.mem c hc).1)
  have hm := MkR.congr hm (fun b => port_any hch (by have := HLT.out; omega) b 88)
  obtain ⟨r, A', hr⟩ : ∃ r A', rangeGo 88 A.nodes.length bs 0 A = (r, A') := ⟨_, _, rfl⟩
  rw [hr] at hp4 hm
  simp only at hp4 hm
  have HFIN0 := Lib.hid (And.intro hp4 hm)
  obtain ⟨he, _⟩ := hp4
  have he : e = .returned (.tuple #[.int .i64 ((r.getD 0 : Nat) : Int), .int .i64 (if r.isSome then 0 else 20)]) := he
  subst he
  have HFIN : Hid (MakPost w p g mb (fun b => decide (f.dl ≤ fieldN b 88 16 ∧ fieldN b 88 16 < f.dh + 1)) A (.returned (.tuple #[.int .i64 ((r.getD 0 : Nat) : Int), .int .i64 (if r.isSome then 0 else 20)])) w4) := Lib.hid ⟨r, A', HFIN0.out.1, HFIN0.out.2⟩
  clear HFIN0 hm hr hch
  generalize hx : ((r.getD 0 : Nat) : Int) = x at *
  generalize hy : (if r.isSome then (0 : Int) else 20) = y at *
  clear hx hy
  go_wp2_with (fail)
  exact bodyPost_ret (v := .tuple #[.int .i64 x, .int .i64 y]) (by simp [results, Try.results72, go_sem]) rfl HFIN.out
end Go.Proofs.Ytakgghhmecphmaa
