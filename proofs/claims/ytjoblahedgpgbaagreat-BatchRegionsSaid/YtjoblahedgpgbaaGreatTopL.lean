/- Topologies: the ends of links, by the document. · Topologies: links. -/
import Derived.Test.YtjoblahedgpgbaaGreatTopC
import Derived.Test.YtjoblahedgpgbaaGreatRDrop
import Derived.Deep.AppendLies
import Derived.Deep.Onto
import Derived.DeepKeys4
namespace Go.Proofs.YtjoblahedgpgbaaGreat
set_option linter.unusedVariables false
set_option linter.unusedSimpArgs false
open Go.RowKit

def ends (l : List Lk) : List (Int × Int) := l.flatMap fun x => [(x.dev, x.port), (x.peer, x.far)]
def prCellsT (l : List (Int × Int)) : List Value := l.flatMap fun e => [.int .i64 e.1, .int .i64 e.2]
theorem prCellsT_length (l : List (Int × Int)) : (prCellsT l).length = l.length * 2 := by
  induction l with
  | nil => rfl
  | cons a l ih =>
    have e : prCellsT (a :: l) = [.int .i64 a.1, .int .i64 a.2] ++ prCellsT l := rfl
    rw [e, List.length_append, ih]
    simp
    omega
theorem prCells_get : ∀ (l : List (Int × Int)) (i : Nat) (h : i < l.length), (prCellsT l)[i * 2]? = some (.int .i64 l[i].1) ∧ (prCellsT l)[i * 2 + 1]? = some (.int .i64 l[i].2)
  | a :: l, 0, _ => ⟨rfl, rfl⟩
  | a :: l, i + 1, h => by
    have ih := prCells_get l i (by simpa using h)
    have e : prCellsT (a :: l) = [.int .i64 a.1, .int .i64 a.2] ++ prCellsT l := rfl
    rw [e, show (i + 1) * 2 = 2 + i * 2 by omega]
    refine ⟨?_, ?_⟩
    · rw [List.getElem?_append_right (by simp)]
      simpa using ih.1
    · rw [List.getElem?_append_right (by simp; omega), show 2 + i * 2 + 1 - [Value.int .i64 a.1, .int .i64 a.2].length = i * 2 + 1 by simp; omega]
      simpa using ih.2
theorem ends_len (l : List Lk) : (ends l).length = 2 * l.length := by
  induction l with
  | nil => rfl
  | cons a l ih =>
    have e : ends (a :: l) = [(a.dev, a.port), (a.peer, a.far)] ++ ends l := rfl
    rw [e, List.length_append, ih]
    simp
    omega
theorem ends_snoc (l : List Lk) (x : Lk) : ends (l ++ [x]) = ends l ++ [(x.dev, x.port), (x.peer, x.far)] := by simp [ends]
theorem lkCells_at : ∀ (l : List Lk) (i : Nat) (h : i < l.length), (lkCells l)[i * 4]? = some (.int .i64 l[i].dev) ∧ (lkCells l)[i * 4 + 1]? = some (.int .i64 l[i].port) ∧ (lkCells l)[i * 4 + 2]? = some (.int .i64 l[i].peer) ∧ (lkCells l)[i * 4 + 3]? = some (.int .i64 l[i].far)
  | a :: l, 0, _ => ⟨rfl, rfl, rfl, rfl⟩
  | a :: l, i + 1, h => by
    have ih := lkCells_at l i (by simpa using h)
    have e : lkCells (a :: l) = a.cells ++ lkCells l := rfl
    have hl : a.cells.length = 4 := rfl
    rw [e, show (i + 1) * 4 = 4 + i * 4 by omega]
    refine ⟨?_, ?_, ?_, ?_⟩
    · rw [List.getElem?_append_right (by omega), hl, show 4 + i * 4 - 4 = i * 4 by omega]
      simpa using ih.1
    · rw [List.getElem?_append_right (by omega), hl, show 4 + i * 4 + 1 - 4 = i * 4 + 1 by omega]
      simpa using ih.2.1
    · rw [List.getElem?_append_right (by omega), hl, show 4 + i * 4 + 2 - 4 = i * 4 + 2 by omega]
      simpa using ih.2.2.1
    · rw [List.getElem?_append_right (by omega), hl, show 4 + i * 4 + 3 - 4 = i * 4 + 3 by omega]
      simpa using ih.2.2.2
theorem pr_info : (Tryz.prog.info? 229).map (fun i => (i.zero, i.size, i.bytes)) = some (some (.agg #[.int .i64 0, .int .i64 0]), 2, 16) := by kernel_rfl

variable {B : Nat} {w : World} {vp vl va : Value} {T : Tp}
/-- The cells of a link in a row that was handed in. -/
theorem TpIn.link (h : TpIn B w vp vl va T) {i : Nat} (hi : i < T.links.length) : ∃ b off cap, vl = .slice (some ⟨b, off, none⟩) T.links.length cap ∧ w.cell? ⟨b, off + i * 4, none⟩ = some (.int .i64 T.links[i].dev) ∧ w.cell? ⟨b, off + i * 4 + 1, none⟩ = some (.int .i64 T.links[i].port) ∧ w.cell? ⟨b, off + i * 4 + 2, none⟩ = some (.int .i64 T.links[i].peer) ∧ w.cell? ⟨b, off + i * 4 + 3, none⟩ = some (.int .i64 T.links[i].far) := by
  obtain ⟨ao, cap, hv, hc⟩ := h.links
  obtain ⟨c0, c1, c2, c3⟩ := lkCells_at T.links i hi
  obtain ⟨b, off, rfl, _, d0⟩ := hc _ _ c0
  obtain ⟨b1, o1, e1, _, d1⟩ := hc _ _ c1
  obtain ⟨b2, o2, e2, _, d2⟩ := hc _ _ c2
  obtain ⟨b3, o3, e3, _, d3⟩ := hc _ _ c3
  cases e1
  cases e2
  cases e3
  exact ⟨b, off, cap, hv, d0, d1, d2, d3⟩

set_option maxRecDepth 100000 in
set_option maxHeartbeats 4000000 in
theorem rends_calls (h : TpIn B w vp vl va T) (hB : B ≤ w.heap.size) (hl : T.links.length ≤ 100) : Calls Tryz.prog 142 #[.agg #[vp, vl, va]] w fun e w' => ∃ vo, e = .returned vo ∧ w'.ownsRow w.heap.size 229 2 vo (ends T.links).length (prCellsT (ends T.links)) ∧ Below w.heap.size w w' := by
  obtain ⟨i0, hi, hz0, hz1, hz2⟩ := info_parts pr_info
  have H := Lib.hid h
  obtain ⟨ap, cp, rfl, _⟩ := h.ports
  obtain ⟨al, cl, rfl, _⟩ := h.links
  obtain ⟨aa, ca, rfl, _⟩ := h.aces
  clear h
  have HX := Lib.hid (heap_alloc_new w (.cells #[.slice ap T.ports.length cp, .slice al T.links.length cl, .slice aa T.aces.length ca] 26))
  have HK := Lib.hid ((Below.refl w.heap.size w).alloc (Nat.le_refl _) (.cells #[.slice ap T.ports.length cp, .slice al T.links.length cl, .slice aa T.aces.length ca] 26))
  go_enter Tryz.func142, Tryz.ntmps142
  go_upto_region 1 with (fail)
  generalize w.alloc (.cells #[.slice ap T.ports.length cp, .slice al T.links.length cl, .slice aa T.aces.length ca] 26) = w1 at *
  go_wp2_with (fail)
  go_loopg [3, 4] T.links.length (fun gk vo vi wr => ∃ i : Nat, i + gk = T.links.length ∧ vi = .int .i64 (i : Int) ∧ wr.ownsRow (w.heap.size + 1) 229 2 vo (ends (T.links.take i)).length (prCellsT (ends (T.links.take i))) ∧ Below w.heap.size w wr ∧ wr.heap[w.heap.size]? = some (.cells #[.slice ap T.ports.length cp, .slice al T.links.length cl, .slice aa T.aces.length ca] 26 (0, 0)))
  case atStart => exact ⟨0, by omega, rfl, World.ownsRow_nil _ _ _ _, HK.out, HX.out⟩
  case round =>
    obtain ⟨i, hgk, rfl, hO, hK, hB2⟩ := hrel
    have HO := Lib.hid hO
    have HKR := Lib.hid hK
    have HB2 := Lib.hid hB2
    have c1 := cell_of hB2 1
    simp only [List.getElem?_toArray, List.getElem?_cons_zero, List.getElem?_cons_succ] at c1
    clear hO hB2
    by_cases hlt : i < T.links.length
    · obtain ⟨b, off, cap', he, d0, d1, d2, d3⟩ := (H.out.next hB hK).link hlt
      cases he
      have HTK : Hid (T.links.take (i + 1) = T.links.take i ++ [T.links[i]]) := Lib.hid (by rw [List.take_add_one, List.getElem?_eq_getElem hlt]; rfl)
      generalize T.links[i] = x at *
      have hel := ends_len (T.links.take i)
      have htl : (T.links.take i).length ≤ i := by simp; omega
      have hez : (ends (T.links.take i)).length ≤ 200 := by omega
      have HXL := Lib.hid (heap_alloc_new wr (.cells #[.int .i64 x.dev, .int .i64 x.port, .int .i64 x.peer, .int .i64 x.far] 348))
      have HKL := Lib.hid ((Below.refl wr.heap.size wr).alloc (Nat.le_refl _) (.cells #[.int .i64 x.dev, .int .i64 x.port, .int .i64 x.peer, .int .i64 x.far] 348))
      clear hel htl hK
      go_upto_region 6 with (fail)
      generalize wr.alloc (.cells #[.int .i64 x.dev, .int .i64 x.port, .int .i64 x.peer, .int .i64 x.far] 348) = wa at *
      have f0 := cell_of HXL.out 0
      have f1 := cell_of HXL.out 1
      have f2 := cell_of HXL.out 2
      have f3 := cell_of HXL.out 3
      simp only [List.getElem?_toArray, List.getElem?_cons_zero, List.getElem?_cons_succ] at f0 f1 f2 f3
      have HOA := Lib.hid (own_kept HO.out (Kept.of_below (S := []) HKL.out) (by simp))
      have HBA := Lib.hid ((HKL.out.block _ (lt_of_block HB2.out)).trans HB2.out)
      have HKA := Lib.hid (HKR.out.trans (HKL.out.mono HKR.out.size))
      clear d0 d1 d2 d3 c1
      go_wp2_with (at_builtin; go_must (refine wpList_append_lies _ rfl (.tmp 18) (.tmp 29) 261 rfl (w.heap.size + 1) 229 i0 _ 2 16 Tryz.underlying261 hi hz0 hz1 hz2 rfl (by decide) _ (ends (T.links.take i)).length (prCellsT (ends (T.links.take i))) rfl ?_ ⟨wa.heap.size, 0, none⟩ 2 2 [.int .i64 x.dev, .int .i64 x.port, .int .i64 x.peer, .int .i64 x.far] rfl rfl ?_ ?_ (by omega) ?_ ?_ ?_ _ rfl ?_); (· exact own_kept HOA.out ((Kept.refl [] _).alloc _) (by simp)); (· exact news_atT (by simp)); (· simp [Value.oneCell']); (· unfold maxLen; omega); (· omega); (· have := lt_of_block HBA.out; simp; omega); intro g9 cap9 w9 how9 hgr9 hat9 hlt9; have HOW9 := Lib.hid how9; have HGR9 := Lib.hid hgr9; clear how9 hgr9 hat9 hlt9)
      go_roundg (gk - 1)
      case measure => omega
      case rel =>
        have hpast := own_pastT HOA.out
        have hbl := lt_of_block HBA.out
        refine ⟨i + 1, by omega, by go_num, ?_, HKA.out.trans (((Below.refl w.heap.size wa).alloc (by omega) _).trans (below_grew HGR9.out (by simp; omega) (fun k e => by have := hpast k e; omega))), ?_⟩
        · have h9 := HOW9.out
          rw [HTK.out, ends_snoc]
          simp only [prCellsT, List.flatMap_append, List.length_append] at h9 ⊢
          exact h9
        · exact (HGR9.out.block w.heap.size (by simp; omega) (fun e => by have := hpast _ e.symm; omega)).trans (blk_alloc HBA.out _)
    · obtain rfl : i = T.links.length := by omega
      have how := HO.out
      rw [List.take_length] at how
      have HOE := Lib.hid (how.mono (show w.heap.size ≤ w.heap.size + 1 by omega))
      clear how hK
      go_wp2_with (fail)
      exact bodyPost_ret (v := u3) (by simp [results, Tryz.results142, go_sem]) rfl ⟨_, rfl, HOE.out, HKR.out⟩
end Go.Proofs.YtjoblahedgpgbaaGreat

namespace Go.Proofs.YtjoblahedgpgbaaGreat
open Go.RowKit Go.Maps

/-- What is wrong with the ends of links, one behind the other. -/
def linksT (ports : List Int) (seen : List (Int × Int)) : List (Int × Int) → Int
  | [] => 0
  | e :: es => if portT ports e.1 e.2 ≠ 0 then portT ports e.1 e.2 else if e ∈ seen then 12 else linksT ports (seen ++ [e]) es

def ekE (e : Int × Int) : Value := .agg #[.int .i64 e.1, .int .i64 e.2]
def evB (b : Bool) : Value := .bool b
def mf (seen : List (Int × Int)) (e : Int × Int) : Option Bool := if e ∈ seen then some true else none
theorem wf_i64b {x : Int} (h0 : -9223372036854775808 ≤ x) (h1 : x ≤ 9223372036854775807) : (Lit.int .i64 x).wf = true := WalkArith.wf_i64 (by omega)
theorem endKeyed : Keyed Tryz.prog 357 := Keyed.of_law (deep_law_laid (m := 3) (by kernel_rfl) (by omega) (of_decide_eq_true (by kernel_rfl)) (by kernel_rfl) (by kernel_rfl))
theorem ekE_inj (x y : Int × Int) (h : ekE x = ekE y) : x = y := by
  cases x; cases y
  simpa [ekE] using h
theorem zeroBT (w : World) : (zeroValue 4).run Tryz.prog w = .ok (.bool false) w := by kernel_rfl
theorem end_key {a b : Int} (h0 : (Lit.int .i64 a).wf = true) (h1 : (Lit.int .i64 b).wf = true) : ∃ l, keyOf Tryz.prog 357 (ekE (a, b)) = some l := by
  obtain ⟨m, hm⟩ : ∃ m, Tryz.prog.types.size = m + 1 := ⟨Tryz.prog.types.size - 1, by kernel_rfl⟩
  have ec : Tryz.prog.cellsOf 357 = 2 := by kernel_rfl
  have ic : Tryz.prog.cellsOf 3 = 1 := by kernel_rfl
  have ek : Tryz.prog.keyType 357 = true := by kernel_rfl
  have kl : ∀ x : Int, (Lit.int .i64 x).wf = true → ∀ d, Tryz.prog.keyLits (d + 1) 3 [.int .i64 x] = some [.int .i64 x] := fun x hx d => by simp [Program.keyLits, Tryz.underlying3, hx]
  unfold keyOf ekE
  simp only [Tryz.underlying357]
  rw [if_pos (by simp [ek, Value.formed, Tryz.underlying357, ec]), hm]
  unfold Program.keyLits
  simp only [Tryz.underlying357, Value.cells]
  rw [if_pos ⟨by rw [ec]; rfl, by simp⟩]
  simp [List.mapM_cons, ic, kl, h0, h1]

theorem end_index0 (a b c d : Int) (W : World) : (Instr.index 358 (.agg #[.int .i64 a, .int .i64 b, .int .i64 c, .int .i64 d]) (.int .i64 0)).run Tryz.prog W = .ok (.agg #[.int .i64 a, .int .i64 b]) W := by kernel_rfl
theorem end_index1 (a b c d : Int) (W : World) : (Instr.index 358 (.agg #[.int .i64 a, .int .i64 b, .int .i64 c, .int .i64 d]) (.int .i64 1)).run Tryz.prog W = .ok (.agg #[.int .i64 c, .int .i64 d]) W := by kernel_rfl
theorem port_small {ports : List Int} (hb : ports.any badP = false) {d p : Int} (h : portT ports d p = 0) (hl : ports.length ≤ 1000) : 0 ≤ d ∧ d < 1000 ∧ 0 ≤ p ∧ p < 8 := by
  unfold portT at h
  by_cases h1 : d < 0 ∨ (ports.length : Int) ≤ d
  · rw [if_pos h1] at h
    cases h
  · rw [if_neg h1] at h
    by_cases h2 : p < 0 ∨ ports[d.toNat]! ≤ p
    · rw [if_pos h2] at h
      cases h
    · have hk : d.toNat < ports.length := by omega
      rw [getElem!_pos ports _ hk] at h2
      have h3 := List.any_eq_false.1 hb _ (List.getElem_mem hk)
      unfold badP at h3
      simp only [decide_eq_true_eq] at h3
      omega

variable {B : Nat} {w : World} {vp vl va : Value} {T : Tp}
set_option maxRecDepth 100000 in
set_option maxHeartbeats 4000000 in
theorem tlinks_calls (h : TpIn B w vp vl va T) (hB : B ≤ w.heap.size) (hl : T.links.length ≤ 100) (hpl : T.ports.length ≤ 1000) (hbad : T.ports.any badP = false) : Calls Tryz.prog 158 #[.agg #[vp, vl, va]] w fun e w' => e = .returned (.int .i64 (linksT T.ports [] (ends T.links))) ∧ Below w.heap.size w w' := by
  have hmm := @run_makeMap Tryz.prog
  have hi0 := end_index0
  have hi1 := end_index1
  have H := Lib.hid h
  obtain ⟨ap, cp, rfl, _⟩ := h.ports
  obtain ⟨al, cl, rfl, _⟩ := h.links
  obtain ⟨aa, ca, rfl, _⟩ := h.aces
  clear h
  have HBAD := Lib.hid hbad
  clear hbad
  have HX := Lib.hid (heap_alloc_new w (.cells #[.slice ap T.ports.length cp, .slice al T.links.length cl, .slice aa T.aces.length ca] 26))
  have HK := Lib.hid ((Below.refl w.heap.size w).alloc (Nat.le_refl _) (.cells #[.slice ap T.ports.length cp, .slice al T.links.length cl, .slice aa T.aces.length ca] 26))
  obtain ⟨r, hr⟩ : ∃ r, r = linksT T.ports [] (ends T.links) := ⟨_, rfl⟩
  rw [← hr]
  have HR := Lib.hid hr
  clear hr
  go_enter Tryz.func158, Tryz.ntmps158
  go_upto_region 1 with (fail)
  generalize w.alloc (.cells #[.slice ap T.ports.length cp, .slice al T.links.length cl, .slice aa T.aces.length ca] 26) = w1 at *
  have HMM := Lib.hid (IsMapOf.made w1 Tryz.prog 357 ekE evB)
  have HK1 := Lib.hid ((Below.refl w1.heap.size w1).alloc (Nat.le_refl _) (.map #[] 0))
  go_upto_region 2 with (fail)
  generalize w1.alloc (.map #[] 0) = w2 at *
  have HX2 := Lib.hid ((HK1.out.block _ (lt_of_block HX.out)).trans HX.out)
  have K2 := Lib.hid (HK.out.trans (HK1.out.mono HK.out.size))
  have hmb : w.heap.size ≤ w1.heap.size := HK.out.size
  have hmx : w.heap.size < w1.heap.size := lt_of_block HX.out
  generalize w1.heap.size = mb at *
  have c1 := cell_of HX2.out 1
  simp only [List.getElem?_toArray, List.getElem?_cons_zero, List.getElem?_cons_succ] at c1
  go_wp2_with (fail)
  go_loopg [13] T.links.length (fun gk vi wr => ∃ (i n : Nat), i + gk = T.links.length ∧ vi = .int .i64 (i : Int) ∧ IsMapOf Tryz.prog 357 ekE evB wr mb n (mf (ends (T.links.take i))) ∧ Below w.heap.size w wr ∧ wr.heap[w.heap.size]? = some (.cells #[.slice ap T.ports.length cp, .slice al T.links.length cl, .slice aa T.aces.length ca] 26 (0, 0)) ∧ r = linksT T.ports (ends (T.links.take i)) (ends (T.links.drop i)))
  case atStart => exact ⟨0, 0, by omega, rfl, HMM.out.congr (fun x => by simp [mf, ends]), K2.out, HX2.out, by simpa [ends] using HR.out⟩
  case round =>
    obtain ⟨i, n, hgk, rfl, hM, hK, hB2, hri⟩ := hrel
    have HM := Lib.hid hM
    have HKR := Lib.hid hK
    have HB2 := Lib.hid hB2
    have HRI := Lib.hid hri
    clear hM hB2 hri
    by_cases hlt : i < T.links.length
    · obtain ⟨b, off, cap', he, d0, d1, d2, d3⟩ := (H.out.next hB hK).link hlt
      cases he
      have HTK : Hid (T.links.take (i + 1) = T.links.take i ++ [T.links[i]]) := Lib.hid (by rw [List.take_add_one, List.getElem?_eq_getElem hlt]; rfl)
      have HDR : Hid (T.links.drop i = T.links[i] :: T.links.drop (i + 1)) := Lib.hid (List.drop_eq_getElem_cons hlt)
      generalize T.links[i] = x at *
      have HXL := Lib.hid (heap_alloc_new wr (.cells #[.int .i64 x.dev, .int .i64 x.port, .int .i64 x.peer, .int .i64 x.far] 348))
      have HKL := Lib.hid ((Below.refl wr.heap.size wr).alloc (Nat.le_refl _) (.cells #[.int .i64 x.dev, .int .i64 x.port, .int .i64 x.peer, .int .i64 x.far] 348))
      clear hK
      go_upto_region 5 with (fail)
      generalize wr.alloc (.cells #[.int .i64 x.dev, .int .i64 x.port, .int .i64 x.peer, .int .i64 x.far] 348) = wa at *
      have f0 := cell_of HXL.out 0
      have f1 := cell_of HXL.out 1
      have f2 := cell_of HXL.out 2
      have f3 := cell_of HXL.out 3
      simp only [List.getElem?_toArray, List.getElem?_cons_zero, List.getElem?_cons_succ] at f0 f1 f2 f3
      have HMA := Lib.hid (HM.out.of_block (HKL.out.block _ HM.out.lt))
      have HBA := Lib.hid ((HKL.out.block _ (lt_of_block HB2.out)).trans HB2.out)
      have HKA := Lib.hid (HKR.out.trans (HKL.out.mono HKR.out.size))
      clear d0 d1 d2 d3
      go_wp2_with (fail)
      generalize gk = gko at *
      go_loopg [28] 2 (fun gk vj w5 => ∃ (j n5 : Nat), j + gk = 2 ∧ vj = .int .i64 (j : Int) ∧ IsMapOf Tryz.prog 357 ekE evB w5 mb n5 (mf (ends (T.links.take i) ++ [(x.dev, x.port), (x.peer, x.far)].take j)) ∧ Below w.heap.size w w5 ∧ w5.heap[w.heap.size]? = some (.cells #[.slice ap T.ports.length cp, .slice (some ⟨b, off, none⟩) T.links.length cl, .slice aa T.aces.length ca] 26 (0, 0)) ∧ r = linksT T.ports (ends (T.links.take i) ++ [(x.dev, x.port), (x.peer, x.far)].take j) ([(x.dev, x.port), (x.peer, x.far)].drop j ++ ends (T.links.drop (i + 1))))
      case atStart => exact ⟨0, n, by omega, rfl, by simpa using HMA.out, HKA.out, HBA.out, by have := HRI.out; rw [HDR.out] at this; simpa [ends] using this⟩
      case round =>
        obtain ⟨j, n5, hgj, rfl, hM5, hK5, hB5, hr5⟩ := hrel
        have HM5 := Lib.hid hM5
        have HK5 := Lib.hid hK5
        have HB5 := Lib.hid hB5
        have HR5 := Lib.hid hr5
        clear hM5 hK5 hB5 hr5
        by_cases hj : j < 2
        · obtain ⟨e, he⟩ : ∃ e, [(x.dev, x.port), (x.peer, x.far)][j]? = some e := ⟨_, List.getElem?_eq_getElem (by simpa using hj)⟩
          have HTJ : Hid ([(x.dev, x.port), (x.peer, x.far)].take (j + 1) = [(x.dev, x.port), (x.peer, x.far)].take j ++ [e]) := Lib.hid (by rw [List.take_add_one, he]; rfl)
          have HDJ : Hid ([(x.dev, x.port), (x.peer, x.far)].drop j = e :: [(x.dev, x.port), (x.peer, x.far)].drop (j + 1)) := Lib.hid (by
            have := List.drop_eq_getElem_cons (l := [(x.dev, x.port), (x.peer, x.far)]) (i := j) (by simpa using hj)
            rw [this]
            congr 1
            have h2 := List.getElem?_eq_getElem (l := [(x.dev, x.port), (x.peer, x.far)]) (i := j) (by simpa using hj)
            rw [h2] at he
            exact Option.some.inj he)
          have hjj : (j = 0 ∧ e = (x.dev, x.port)) ∨ (j = 1 ∧ e = (x.peer, x.far)) := by
            rcases Nat.lt_or_ge j 1 with h1 | h1
            · obtain rfl : j = 0 := by omega
              exact Or.inl ⟨rfl, by simpa using he.symm⟩
            · obtain rfl : j = 1 := by omega
              exact Or.inr ⟨rfl, by simpa using he.symm⟩
          have HSJ : Hid (ends (T.links.take i) ++ [(x.dev, x.port), (x.peer, x.far)].take (j + 1) = (ends (T.links.take i) ++ [(x.dev, x.port), (x.peer, x.far)].take j) ++ [e]) := Lib.hid (by rw [HTJ.out, List.append_assoc])
          have HR8 : Hid (r = linksT T.ports (ends (T.links.take i) ++ [(x.dev, x.port), (x.peer, x.far)].take j) (e :: ([(x.dev, x.port), (x.peer, x.far)].drop (j + 1) ++ ends (T.links.drop (i + 1))))) := Lib.hid (by have := HR5.out; rw [HDJ.out] at this; exact this)
          clear he HTJ HDJ HR5
          rcases hjj with ⟨rfl, rfl⟩ | ⟨rfl, rfl⟩
          · have HY6 := Lib.hid (heap_alloc_new wr (.cells #[.int .i64 x.dev, .int .i64 x.port] 357))
            have HK6 := Lib.hid ((Below.refl wr.heap.size wr).alloc (Nat.le_refl _) (.cells #[.int .i64 x.dev, .int .i64 x.port] 357))
            obtain ⟨S, hS⟩ : ∃ S, S = ends (T.links.take i) ++ [(x.dev, x.port), (x.peer, x.far)].take 0 := ⟨_, rfl⟩
            rw [← hS] at HM5 HSJ HR8
            clear hS
            go_upto_region 8 with (fail)
            generalize wr.alloc (.cells #[.int .i64 x.dev, .int .i64 x.port] 357) = w6 at *
            have y0 := cell_of HY6.out 0
            have y1 := cell_of HY6.out 1
            have hb6 := (HK6.out.block _ (lt_of_block HB5.out)).trans HB5.out
            have z0 := cell_of hb6 0
            have z1 := cell_of hb6 1
            have z2 := cell_of hb6 2
            simp only [List.getElem?_toArray, List.getElem?_cons_zero, List.getElem?_cons_succ] at y0 y1 z0 z1 z2
            have HB6 := Lib.hid hb6
            have hk6 := HK5.out.trans (HK6.out.mono HK5.out.size)
            have HKK6 := Lib.hid hk6
            have HPC := Lib.hid (tport_calls (H.out.next hB hk6) (Nat.le_trans hB hk6.size) x.dev x.port)
            have HM6 := Lib.hid (HM5.out.of_block (HK6.out.block _ HM5.out.lt))
            clear hb6 hk6
            go_wp2_with (fail)
            refine Calls.mono HPC.out ?_
            rintro e7 w7 ⟨he7, k7⟩
            have HM7 := Lib.hid (HM6.out.of_block (k7.block _ HM6.out.lt))
            have HB7 := Lib.hid ((k7.block _ (lt_of_block HB6.out)).trans HB6.out)
            have HY7 := Lib.hid ((k7.block _ (lt_of_block HY6.out)).trans HY6.out)
            have HK7 := Lib.hid (HKK6.out.trans (k7.mono HKK6.out.size))
            have hr8 := HR8.out
            unfold linksT at hr8
            simp only at hr8
            clear k7 y0 y1 z0 z1 z2
            by_cases hq : portT T.ports x.dev x.port = 0
            · have hsm := port_small HBAD.out hq hpl
              have hkey := end_key (a := x.dev) (b := x.port) (wf_i64b (by omega) (by omega)) (wf_i64b (by omega) (by omega))
              have HKEY := Lib.hid hkey
              have hlk := HM7.out.look endKeyed ekE_inj Tryz.underlying355 (zeroBT w7) (x.dev, x.port) hkey false
              rw [if_neg (by simpa using hq)] at hr8
              rw [hq] at he7
              subst he7
              have y0 := cell_of HY7.out 0
              have y1 := cell_of HY7.out 1
              simp only [List.getElem?_toArray, List.getElem?_cons_zero, List.getElem?_cons_succ] at y0 y1
              simp only [ekE, Bool.false_eq_true, if_false] at hlk
              clear hq hsm hkey
              by_cases hin : (x.dev, x.port) ∈ S
              · rw [if_pos hin] at hr8
                subst hr8
                rw [show mf S (x.dev, x.port) = some true from if_pos hin] at hlk
                simp only [Option.map_some, Option.getD_some, evB] at hlk
                clear hin
                go_wp2_with (fail)
                go_ret
                exact ⟨rfl, HK7.out⟩
              · rw [if_neg hin] at hr8
                have HR9 := Lib.hid hr8
                rw [show mf S (x.dev, x.port) = none from if_neg hin] at hlk
                simp only [Option.map_none, Option.getD_none] at hlk
                have HIN := Lib.hid hin
                clear hr8 hin
                go_wp2_with (at_mapUpdate; go_must (refine wpList_put _ rfl _ _ _ 355 4 rfl endKeyed ekE_inj Tryz.underlying355 HM7.out (x.dev, x.port) true HKEY.out rfl rfl rfl ?_); intro w8 m8 hg8; have HM8 := Lib.hid m8; have HG8 := Lib.hid hg8; clear m8 hg8)
                go_roundg (gk - 1)
                case measure => omega
                case rel =>
                  refine ⟨1, _, by omega, by go_num, HM8.out.congr (fun y => ?_), HK7.out.trans (below_grew HG8.out HK7.out.size (fun k e => by cases e; exact hmb)), (HG8.out.block w.heap.size (lt_of_block HB7.out) (fun e => by cases e; omega)).trans HB7.out, ?_⟩
                  · rw [HSJ.out]
                    unfold upd mf
                    by_cases hy : y = (x.dev, x.port)
                    · subst hy
                      simp
                    · by_cases hyS : y ∈ S
                      · simp [hy, hyS]
                      · simp [hy, hyS]
                  · rw [HSJ.out]
                    exact HR9.out
            · rw [if_pos (by simpa using hq)] at hr8
              rw [← hr8] at he7 hq
              subst he7
              have hq2 : (r == 0) = false := beq_eq_false_iff_ne.2 hq
              clear hr8
              go_wp2_with (fail)
              go_ret
              exact ⟨rfl, HK7.out⟩
          · have HY6 := Lib.hid (heap_alloc_new wr (.cells #[.int .i64 x.peer, .int .i64 x.far] 357))
            have HK6 := Lib.hid ((Below.refl wr.heap.size wr).alloc (Nat.le_refl _) (.cells #[.int .i64 x.peer, .int .i64 x.far] 357))
            obtain ⟨S, hS⟩ : ∃ S, S = ends (T.links.take i) ++ [(x.dev, x.port), (x.peer, x.far)].take 1 := ⟨_, rfl⟩
            rw [← hS] at HM5 HSJ HR8
            clear hS
            go_upto_region 8 with (fail)
            generalize wr.alloc (.cells #[.int .i64 x.peer, .int .i64 x.far] 357) = w6 at *
            have y0 := cell_of HY6.out 0
            have y1 := cell_of HY6.out 1
            have hb6 := (HK6.out.block _ (lt_of_block HB5.out)).trans HB5.out
            have z0 := cell_of hb6 0
            have z1 := cell_of hb6 1
            have z2 := cell_of hb6 2
            simp only [List.getElem?_toArray, List.getElem?_cons_zero, List.getElem?_cons_succ] at y0 y1 z0 z1 z2
            have HB6 := Lib.hid hb6
            have hk6 := HK5.out.trans (HK6.out.mono HK5.out.size)
            have HKK6 := Lib.hid hk6
            have HPC := Lib.hid (tport_calls (H.out.next hB hk6) (Nat.le_trans hB hk6.size) x.peer x.far)
            have HM6 := Lib.hid (HM5.out.of_block (HK6.out.block _ HM5.out.lt))
            clear hb6 hk6
            go_wp2_with (fail)
            refine Calls.mono HPC.out ?_
            rintro e7 w7 ⟨he7, k7⟩
            have HM7 := Lib.hid (HM6.out.of_block (k7.block _ HM6.out.lt))
            have HB7 := Lib.hid ((k7.block _ (lt_of_block HB6.out)).trans HB6.out)
            have HY7 := Lib.hid ((k7.block _ (lt_of_block HY6.out)).trans HY6.out)
            have HK7 := Lib.hid (HKK6.out.trans (k7.mono HKK6.out.size))
            have hr8 := HR8.out
            unfold linksT at hr8
            simp only at hr8
            clear k7 y0 y1 z0 z1 z2
            by_cases hq : portT T.ports x.peer x.far = 0
            · have hsm := port_small HBAD.out hq hpl
              have hkey := end_key (a := x.peer) (b := x.far) (wf_i64b (by omega) (by omega)) (wf_i64b (by omega) (by omega))
              have HKEY := Lib.hid hkey
              have hlk := HM7.out.look endKeyed ekE_inj Tryz.underlying355 (zeroBT w7) (x.peer, x.far) hkey false
              rw [if_neg (by simpa using hq)] at hr8
              rw [hq] at he7
              subst he7
              have y0 := cell_of HY7.out 0
              have y1 := cell_of HY7.out 1
              simp only [List.getElem?_toArray, List.getElem?_cons_zero, List.getElem?_cons_succ] at y0 y1
              simp only [ekE, Bool.false_eq_true, if_false] at hlk
              clear hq hsm hkey
              by_cases hin : (x.peer, x.far) ∈ S
              · rw [if_pos hin] at hr8
                subst hr8
                rw [show mf S (x.peer, x.far) = some true from if_pos hin] at hlk
                simp only [Option.map_some, Option.getD_some, evB] at hlk
                clear hin
                go_wp2_with (fail)
                go_ret
                exact ⟨rfl, HK7.out⟩
              · rw [if_neg hin] at hr8
                have HR9 := Lib.hid hr8
                rw [show mf S (x.peer, x.far) = none from if_neg hin] at hlk
                simp only [Option.map_none, Option.getD_none] at hlk
                have HIN := Lib.hid hin
                clear hr8 hin
                go_wp2_with (at_mapUpdate; go_must (refine wpList_put _ rfl _ _ _ 355 4 rfl endKeyed ekE_inj Tryz.underlying355 HM7.out (x.peer, x.far) true HKEY.out rfl rfl rfl ?_); intro w8 m8 hg8; have HM8 := Lib.hid m8; have HG8 := Lib.hid hg8; clear m8 hg8)
                go_roundg (gk - 1)
                case measure => omega
                case rel =>
                  refine ⟨2, _, by omega, by go_num, HM8.out.congr (fun y => ?_), HK7.out.trans (below_grew HG8.out HK7.out.size (fun k e => by cases e; exact hmb)), (HG8.out.block w.heap.size (lt_of_block HB7.out) (fun e => by cases e; omega)).trans HB7.out, ?_⟩
                  · rw [HSJ.out]
                    unfold upd mf
                    by_cases hy : y = (x.peer, x.far)
                    · subst hy
                      simp
                    · by_cases hyS : y ∈ S
                      · simp [hy, hyS]
                      · simp [hy, hyS]
                  · rw [HSJ.out]
                    exact HR9.out
            · rw [if_pos (by simpa using hq)] at hr8
              rw [← hr8] at he7 hq
              subst he7
              have hq2 : (r == 0) = false := beq_eq_false_iff_ne.2 hq
              clear hr8
              go_wp2_with (fail)
              go_ret
              exact ⟨rfl, HK7.out⟩
        · obtain rfl : j = 2 := by omega
          go_wp2_with (fail)
          go_roundg (gko - 1)
          case measure => omega
          case rel =>
            have hm := HM5.out
            have hq := HR5.out
            refine ⟨i + 1, n5, by omega, by go_num, ?_, HK5.out, HB5.out, ?_⟩
            · rw [HTK.out, ends_snoc]
              exact hm
            · rw [HTK.out, ends_snoc]
              simpa using hq
    · obtain rfl : i = T.links.length := by omega
      clear hK
      obtain rfl : r = 0 := by
        have := HRI.out
        rw [List.drop_length] at this
        exact this
      go_wp2_with (fail)
      go_ret
      exact ⟨rfl, HKR.out⟩
end Go.Proofs.YtjoblahedgpgbaaGreat
