/- The walk of enc's Prefix. -/
import Derived.Test.YtakgghhmecphmaaBlocksW
import Derived.Test.YtakgghhmecphmaaCidA
import Derived.Test.YtakgghhmecphmaaCube2
namespace Go.Proofs.Ytakgghhmecphmaa
set_option linter.unusedVariables false
set_option linter.unusedSimpArgs false
open Go.RowKit

variable {w : World} {p g mb : Nat} {A : Arn}
/-- Cube at literals in a row of the call's own, maybe none. -/
theorem cubeRow_calls {base : Nat} {vo : Value} {L : List (Nat × Bool)} (h : ArenaAt w p g mb A) (hOK : A.OK) (how : w.ownsRow base 38 2 vo L.length (ltCells (litN L))) (hR : Rise L) (hL : L.length ≤ 104) (hp : p < base) (hg : g < base) (hm : mb < base) :
    Calls Try.prog 22 #[.pointer (some ⟨p, 0, none⟩), vo] w (ArenaPost w p g mb (cubeF A L).1 (cubeF A L).2) := by
  rcases Nat.eq_zero_or_pos L.length with h0 | h0
  · obtain rfl := List.length_eq_zero_iff.1 h0
    obtain ⟨ao, cap, rfl⟩ : ∃ ao cap, vo = .slice ao 0 cap := by
      rcases how.2 with ⟨h0, h1⟩ | ⟨g', cap', cur, h0, _⟩
      · exact ⟨none, 0, h0⟩
      · exact ⟨_, cap', h0⟩
    refine (cube_empty h ao cap).mono ?_
    rintro e w' ⟨he, rfl⟩
    exact ⟨he, g, Or.inl rfl, h, Kept.refl _ _⟩
  · obtain ⟨s0, cap, rfl, hb, hz⟩ := how.form h0
    exact cube_calls h hOK s0 0 cap L.length L rfl hL h0 hR (own_lits how) (by omega) (by omega) (by omega)
/-- Behind a stretch that only laid new blocks. -/
theorem ArenaPost.from {w w1 : World} {p g mb : Nat} {r : Option Nat} {A' : Arn} {e : Ending} {w' : World} (k : Below w.heap.size w w1) (h : ArenaPost w1 p g mb r A' e w') : ArenaPost w p g mb r A' e w' := by
  obtain ⟨he, g', hg, ha, hk⟩ := h
  refine ⟨he, g', ?_, ha, (Kept.of_below k).trans hk (fun x hx => Or.inl hx)⟩
  rcases hg with h1 | h1
  · exact Or.inl h1
  · exact Or.inr (Nat.le_trans k.size h1)
theorem u32_of16 (q : Nat) (h : q < 65536) : IntKind.u32.wrap (q : Int) = (q : Int) := in32 q (by omega)

theorem litsI_calls (w : World) (first n long m : Nat) (fi li : Int) (h1 : fi = first) (h2 : li = long) (hf : first + m ≤ 104) (hl : m ≤ long) (hl2 : long ≤ 32) (hn : n < 2 ^ 32) :
    Calls Try.prog 69 #[.int .i64 fi, .int .u32 (n : Int), .int .i64 li, .int .i64 (m : Int)] w (LitsPost w (litL first n long m)) := by
  subst h1 h2
  exact lits_calls w first n long m hf hl hl2 hn
set_option maxRecDepth 100000 in
set_option maxHeartbeats 4000000 in
theorem encPrefix_calls (h : ArenaAt w p g mb A) (hOK : A.OK) (field : Nat) (hf : field = 0 ∨ field = 32) (fi : Int) (hfi : fi = field) (a n : Nat) (ha : a < 2 ^ 32) (hn : n ≤ 32) (hr : rtB ⟨a, n⟩ = true) :
    Calls Try.prog 54 #[.pointer (some ⟨p, 0, none⟩), .int .i64 fi, .agg #[.int .u32 (a : Int), .int .i64 (n : Int)]] w (ArenaPost w p g mb (cubeF A (litL field a 32 n)).1 (cubeF A (litL field a 32 n)).2) := by
  have HX := Lib.hid (heap_alloc_new w (.cells #[.int .u32 (a : Int), .int .i64 (n : Int)] 73))
  have HK := Lib.hid ((Below.refl w.heap.size w).alloc (Nat.le_refl _) (.cells #[.int .u32 (a : Int), .int .i64 (n : Int)] 73))
  have HA := Lib.hid h
  have HO := Lib.hid hOK
  have hlt := h.lt
  have HLT := Lib.hid hlt
  clear h hOK hlt
  rcases hf with rfl | rfl
  · obtain rfl : fi = 0 := hfi
    obtain ⟨r, A', hrc⟩ : ∃ r A', cubeF A (litL 0 a 32 n) = (r, A') := ⟨_, _, rfl⟩
    rw [hrc]
    simp only
    have HRC := Lib.hid hrc
    clear hrc
    go_enter Try.func54, Try.ntmps54
    go_upto_region 1 with (fail)
    generalize w.alloc (.cells #[.int .u32 (a : Int), .int .i64 (n : Int)] 73) = w1 at *
    have c0 := cell_of HX.out 0
    have c1 := cell_of HX.out 1
    simp only [List.getElem?_toArray, List.getElem?_cons_zero, List.getElem?_cons_succ] at c0 c1
    have HRT := Lib.hid (cright_calls w1 ⟨a, n⟩ ha)
    unfold Pf.val at HRT
    rw [hr] at HRT
    simp only at HRT
    go_wp2_with (fail)
    refine Calls.mono HRT.out ?_
    rintro e w2 ⟨he, k2⟩
    subst he
    have hx2 := (k2.block _ (lt_of_block HX.out)).trans HX.out
    have HK2 := Lib.hid (HK.out.trans (k2.mono HK.out.size))
    clear k2 c0 c1
    have c0 := cell_of hx2 0
    have c1 := cell_of hx2 1
    simp only [List.getElem?_toArray, List.getElem?_cons_zero, List.getElem?_cons_succ] at c0 c1
    have HLI := Lib.hid (litsI_calls w2 0 a 32 n 0 32 rfl rfl (by omega) hn (by omega) ha)
    clear hx2
    go_wp2_with (fail)
    refine Calls.mono HLI.out ?_
    rintro e w3 ⟨vo, he, how, k3⟩
    subst he
    have HK3 := Lib.hid (HK2.out.trans (k3.mono HK2.out.size))
    have hb : p < w2.heap.size ∧ g < w2.heap.size ∧ mb < w2.heap.size := by
      have := HLT.out
      have := HK2.out.size
      omega
    have hcc := cubeRow_calls (HA.out.kept (Kept.of_below (S := []) HK3.out) (by simp) (by simp) (by simp)) HO.out how (litL_rise _ _ _ (by omega)) (by rw [litL_length]; omega) hb.1 hb.2.1 hb.2.2
    rw [HRC.out] at hcc
    simp only at hcc
    have HCC := Lib.hid hcc
    clear how k3 hb hcc c0 c1
    go_wp2_with (fail)
    refine Calls.mono HCC.out ?_
    rintro e w4 hp4
    have HP4 := Lib.hid (hp4.from HK3.out)
    obtain ⟨he, _⟩ := hp4
    have he : e = .returned (.tuple #[.int .i64 ((r.getD 0 : Nat) : Int), .int .i64 (if r.isSome then 0 else 20)]) := he
    subst he
    generalize hx : ((r.getD 0 : Nat) : Int) = x at *
    generalize hy : (if r.isSome then (0 : Int) else 20) = y at *
    clear hx hy
    go_wp2_with (fail)
    exact bodyPost_ret (v := .tuple #[.int .i64 x, .int .i64 y]) (by simp [results, Try.results54, go_sem]) rfl HP4.out
  · obtain rfl : fi = 32 := hfi
    obtain ⟨r, A', hrc⟩ : ∃ r A', cubeF A (litL 32 a 32 n) = (r, A') := ⟨_, _, rfl⟩
    rw [hrc]
    simp only
    have HRC := Lib.hid hrc
    clear hrc
    go_enter Try.func54, Try.ntmps54
    go_upto_region 1 with (fail)
    generalize w.alloc (.cells #[.int .u32 (a : Int), .int .i64 (n : Int)] 73) = w1 at *
    have c0 := cell_of HX.out 0
    have c1 := cell_of HX.out 1
    simp only [List.getElem?_toArray, List.getElem?_cons_zero, List.getElem?_cons_succ] at c0 c1
    have HRT := Lib.hid (cright_calls w1 ⟨a, n⟩ ha)
    unfold Pf.val at HRT
    rw [hr] at HRT
    simp only at HRT
    go_wp2_with (fail)
    refine Calls.mono HRT.out ?_
    rintro e w2 ⟨he, k2⟩
    subst he
    have hx2 := (k2.block _ (lt_of_block HX.out)).trans HX.out
    have HK2 := Lib.hid (HK.out.trans (k2.mono HK.out.size))
    clear k2 c0 c1
    have c0 := cell_of hx2 0
    have c1 := cell_of hx2 1
    simp only [List.getElem?_toArray, List.getElem?_cons_zero, List.getElem?_cons_succ] at c0 c1
    have HLI := Lib.hid (litsI_calls w2 32 a 32 n 32 32 rfl rfl (by omega) hn (by omega) ha)
    clear hx2
    go_wp2_with (fail)
    refine Calls.mono HLI.out ?_
    rintro e w3 ⟨vo, he, how, k3⟩
    subst he
    have HK3 := Lib.hid (HK2.out.trans (k3.mono HK2.out.size))
    have hb : p < w2.heap.size ∧ g < w2.heap.size ∧ mb < w2.heap.size := by
      have := HLT.out
      have := HK2.out.size
      omega
    have hcc := cubeRow_calls (HA.out.kept (Kept.of_below (S := []) HK3.out) (by simp) (by simp) (by simp)) HO.out how (litL_rise _ _ _ (by omega)) (by rw [litL_length]; omega) hb.1 hb.2.1 hb.2.2
    rw [HRC.out] at hcc
    simp only at hcc
    have HCC := Lib.hid hcc
    clear how k3 hb hcc c0 c1
    go_wp2_with (fail)
    refine Calls.mono HCC.out ?_
    rintro e w4 hp4
    have HP4 := Lib.hid (hp4.from HK3.out)
    obtain ⟨he, _⟩ := hp4
    have he : e = .returned (.tuple #[.int .i64 ((r.getD 0 : Nat) : Int), .int .i64 (if r.isSome then 0 else 20)]) := he
    subst he
    generalize hx : ((r.getD 0 : Nat) : Int) = x at *
    generalize hy : (if r.isSome then (0 : Int) else 20) = y at *
    clear hx hy
    go_wp2_with (fail)
    exact bodyPost_ret (v := .tuple #[.int .i64 x, .int .i64 y]) (by simp [results, Try.results54, go_sem]) rfl HP4.out
end Go.Proofs.Ytakgghhmecphmaa
