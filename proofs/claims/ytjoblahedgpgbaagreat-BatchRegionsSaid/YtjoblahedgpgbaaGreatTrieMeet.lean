/- The values of all prefixes that meet one: the walk of Meeting. -/
import Derived.Test.YtjoblahedgpgbaaGreatTrieWalk
import Derived.Deep.AppendLies
import Derived.Deep.RegionLaw
namespace Go.Proofs.YtjoblahedgpgbaaGreat
set_option linter.unusedVariables false
set_option linter.unusedSimpArgs false
open Go.RowKit

theorem out_block {w w1 w9 : World} {ob : Nat} {vo : Value} {es : List Ent} (h : OutAt w ob vo es) (k1 : Kept [] w w1) (hgr9 : w1.grownBy w9 vo.ownBlock) : w9.heap[ob]? = some (.cells #[vo] 350 (0, 0)) := by
  have h1 := h.kept k1 (by simp) (by simp)
  have kk := Kept.grown_rowT (S := vo.ownBlock.toList) ((Kept.refl [] w1).mono (by simp)) hgr9 (fun k hk => Or.inl (by rw [hk]; simp))
  exact (kk.block ob (lt_of_block h1.1) (fun hm => h.2.2 ob (by simpa using hm) rfl)).trans h1.1

theorem out_append {w w1 w9 w9' : World} {ob g9 cap9 : Nat} {vo : Value} {es : List Ent} {z : Nat} {b v : Int} (h : OutAt w ob vo es) (k1 : Kept [] w w1) (how9 : w9.ownsRow 0 405 3 (.slice (some ⟨g9, 0, none⟩) (es.length + 1) cap9) (es.length + 1) (entCells es ++ [.int .u32 (z : Int), .int .i64 b, .int .i64 v]))
    (hgr9 : w1.grownBy w9 vo.ownBlock) (hat9 : vo.ownBlock = some g9 ∨ g9 = w1.heap.size) (k9 : Kept [] w9 w9') : OutPost w (w9'.setCell ⟨ob, 0, none⟩ (.slice (some ⟨g9, 0, none⟩) (es.length + 1) cap9)) ob vo (es ++ [⟨z, b, v⟩]) := by
  have hx9 := out_block h k1 hgr9
  have hx9' := (k9.block ob (lt_of_block hx9) (by simp)).trans hx9
  have hob := lt_of_block h.1
  have hz1 := k1.size
  have hg9 : vo.ownBlock = some g9 ∨ w1.heap.size ≤ g9 := hat9.imp id (fun e => by rw [e]; exact Nat.le_refl _)
  have hne : g9 ≠ ob := by
    rcases hg9 with h2 | h2
    · exact h.2.2 g9 h2
    · omega
  have kk := Kept.grown_rowT (S := vo.ownBlock.toList) ((Kept.refl [] w1).mono (by simp)) hgr9 (fun k hk => Or.inl (by rw [hk]; simp))
  refine ⟨.slice (some ⟨g9, 0, none⟩) (es.length + 1) cap9, ⟨?_, ?_, fun y hy => ?_⟩, ((((k1.mono (S' := ob :: vo.ownBlock.toList) (by simp)).trans kk (fun i hi => Or.inl (by simp [hi]))).trans k9 (by simp)).setCell _ _ (Or.inl (by simp))), fun y hy => ?_⟩
  · exact set_block hx9' 0 _
  · have := own_kept how9 ((k9.mono (S' := [ob]) (by simp)).setCell ⟨ob, 0, none⟩ (.slice (some ⟨g9, 0, none⟩) (es.length + 1) cap9) (by simp)) (fun y hy => by simp [Value.ownBlock] at hy; simp; omega)
    rw [List.length_append, entCells_snoc]
    exact this
  · simp [Value.ownBlock] at hy
    omega
  · simp [Value.ownBlock] at hy
    subst hy
    rcases hg9 with h | h
    · exact Or.inl h
    · exact Or.inr (by omega)

theorem WalkAt.base {w0 w : World} {p n0 : Nat} {F : List Nat} {B : List Bool → Option (Nat × Nat)} {S : List Bool → Value} {V : List Bool → List Int} {ob : Nat} {vo : Value} {es : List Ent} (h : WalkAt w0 w p F B S V ob (.slice none 0 0) vo es) (hn : n0 ≤ w0.heap.size) : w.ownsRow n0 405 3 vo es.length (entCells es) := by
  refine ⟨h.out.2.1.1, ?_⟩
  rcases h.out.2.1.2 with h0 | ⟨g', cap', cur, h0, h1, r⟩
  · exact Or.inl h0
  · refine Or.inr ⟨g', cap', cur, h0, ?_, r⟩
    rcases h.own g' (by rw [h0]; rfl) with h2 | h2
    · simp [Value.ownBlock] at h2
    · omega
theorem WalkAt.below {w w0 w' : World} {p : Nat} {F : List Nat} {B : List Bool → Option (Nat × Nat)} {S : List Bool → Value} {V : List Bool → List Int} {ob : Nat} {vo : Value} {es : List Ent} (h : WalkAt w0 w' p F B S V ob (.slice none 0 0) vo es) (k : Kept [] w w0) (hn : w.heap.size ≤ ob) : Below w.heap.size w w' :=
  (k.trans h.kept (fun i hi => Or.inr (by simp [Value.ownBlock] at hi; omega))).below (Nat.le_refl _) (by simp)

set_option maxRecDepth 100000 in
set_option maxHeartbeats 4000000 in
theorem tmeet_calls {w : World} {p : Nat} {F : List Nat} {B : List Bool → Option (Nat × Nat)} {S : List Bool → Value} {V : List Bool → List Int} (h : TreeAt w p F B S V) (hF : ∀ x ∈ F, x < w.heap.size) (a n : Nat) (ha : a < 2 ^ 32) (hn : n ≤ 32) (hr : rtB ⟨a, n⟩ = true)
    (hN : (ofL V a n).length + (subL V (32 - n) (pth a n)).length < 1000000) :
    Calls Tryz.prog 262 #[.pointer (some ⟨p, 1, none⟩), .agg #[.int .u32 (a : Int), .int .i64 (n : Int)]] w fun e w' => ∃ vo es, e = .returned vo ∧ w'.ownsRow w.heap.size 405 3 vo es.length (entCells es) ∧ es.map (·.v) = ofL V a n ++ subL V (32 - n) (pth a n) ∧ Below w.heap.size w w' := by
  obtain ⟨i0, hi, hz0, hz1, hz2⟩ := info_parts ent_info
  have hpz := h.lt h.root
  have HR := Lib.hid (fun w' => cright_calls w' ⟨a, n⟩ ha)
  have k0 := (Kept.refl [] w).alloc (.cells #[.int .u32 (a : Int), .int .i64 (n : Int)] 48)
  have hX := heap_alloc_new w (.cells #[.int .u32 (a : Int), .int .i64 (n : Int)] 48)
  rw [hr] at HR
  have HT := Lib.hid h
  have HF := Lib.hid hF
  have HN := Lib.hid hN
  have HOF := Lib.hid (fun w' n hn => cof_calls w' a n ha hn)
  have H33 := Lib.hid hn
  clear h hF hN hr
  go_enter Tryz.func262, Tryz.ntmps262
  go_wp2_with (fail)
  generalize w.alloc (.cells #[.int .u32 (a : Int), .int .i64 (n : Int)] 48) = w1 at *
  refine (HR.out _).mono ?_
  rintro e w2 ⟨he, k2⟩
  subst he
  have K2 := Lib.hid (k0.trans (Kept.of_below (S := []) k2) (by simp))
  have hX2 := (k2.block _ (lt_of_block hX)).trans hX
  have dx := And.intro (cell_of hX2 0) (cell_of hX2 1)
  simp only [List.getElem?_toArray, List.getElem?_cons_zero, List.getElem?_cons_succ] at dx
  have HX2 := Lib.hid hX2
  clear k0 hX k2 hX2
  have k3 := (Kept.refl [] w2).alloc (.cells #[.slice none 0 0] 350)
  have hO : OutAt (w2.alloc (.cells #[.slice none 0 0] 350)) w2.heap.size (.slice none 0 0) [] := ⟨heap_alloc_new w2 _, ⟨rfl, Or.inl ⟨rfl, rfl⟩⟩, by simp [Value.ownBlock]⟩
  have k03 := K2.out.trans k3 (by simp)
  have HT3 := Lib.hid (HT.out.kept k03 HF.out (by simp))
  have HF3 : ∀ x ∈ F, x < (w2.alloc (.cells #[.slice none 0 0] 350)).heap.size := fun x hx => Nat.lt_of_lt_of_le (HF.out x hx) k03.size
  have hX3 := (k3.block _ (lt_of_block HX2.out) (by simp)).trans HX2.out
  have dx3 := And.intro (cell_of hX3 0) (cell_of hX3 1)
  simp only [List.getElem?_toArray, List.getElem?_cons_zero, List.getElem?_cons_succ] at dx3
  have HX3 := Lib.hid hX3
  clear hX3
  go_wp2_with (fail)
  have hz3 : w2.heap.size < (w2.alloc (.cells #[.slice none 0 0] 350)).heap.size := by simp
  have hlX := lt_of_block HX2.out
  have hlF : ∀ x ∈ F, x ≠ w2.heap.size := fun x hx => by have := HF.out x hx; have := K2.out.size; omega
  generalize w2.alloc (.cells #[.slice none 0 0] 350) = w3 at *
  generalize hob : w2.heap.size = ob at *
  refine (way_there HT3.out HF3 a n ha hn).mono ?_
  rintro e w4 ⟨m, vl, he, hm, hall, hlast, how, k4⟩
  subst he
  obtain ⟨s0, cap0, rfl, hsb, hsz⟩ := how.form (by omega)
  have HL := Lib.hid (fun j (hj : j ≤ m) => (how.cellAt j (by omega)).trans (wayL_at B a (m + 1) (by omega)))
  have k4' := Kept.of_below (S := []) k4
  have HK4 := Lib.hid (k03.trans k4' (by simp))
  have HT4 := HT3.out.kept k4' HF3 (by simp)
  have HO4 := hO.kept k4' (by simp) (by simp)
  have HX4 := Lib.hid ((k4'.block _ (lt_of_block HX3.out) (by simp)).trans HX3.out)
  have HW := Lib.hid (WalkAt.start HT4 (fun x hx => Nat.lt_of_lt_of_le (HF3 x hx) k4'.size) HO4 (fun x hx => ⟨hlF x hx, fun y hy => by simp [Value.ownBlock] at hy⟩))
  have HALL := Lib.hid hall
  have HLAST := Lib.hid hlast
  have hs0 : s0 ≠ ob := by omega
  have hbo : w.heap.size ≠ ob := by omega
  clear how hall hlast k4 k4' HT4 HO4 HX3 hO k3 k03 HF3 dx dx3
  go_wp2_with (fail)
  go_loopg [23] (m + 1) (fun gk vi wr => ∃ (i : Nat) (v2 : Value) (es : List Ent), i + gk = m + 1 ∧ vi = .int .i64 (i : Int) ∧ WalkAt w4 wr p F B S V ob (.slice none 0 0) v2 es ∧ es.map (·.v) = ofL V a (min i n))
  case atStart => exact ⟨0, _, [], by omega, rfl, HW.out, by simp [ofL]⟩
  case round =>
    obtain ⟨i, v2, es, hgk, rfl, hW1, hes⟩ := hrel
    have HW1 := Lib.hid hW1
    have HES := Lib.hid hes
    have dx := hW1.block HX4.out hbo (fun y hy => by simp [Value.ownBlock] at hy)
    have dx := And.intro (cell_of dx 0) (cell_of dx 1)
    simp only [List.getElem?_toArray, List.getElem?_cons_zero, List.getElem?_cons_succ] at dx
    clear hW1 hes
    by_cases hlt : i < m + 1
    · have hci := HW1.out.kept.cell (HL.out i (by omega)) (by simp [Value.ownBlock]; exact hs0)
      obtain ⟨⟨g, o⟩, hgo⟩ := Option.isSome_iff_exists.1 (HALL.out i (by omega))
      rw [hgo] at hci
      unfold kidV at hci
      by_cases hin : i < n
      · obtain ⟨n1, n2, n3, n4, n5⟩ := HW1.out.tree.node _ _ _ hgo
        have hva := HW1.out.tree.vals (pth a i) (by rw [hgo]; rfl)
        obtain ⟨aoV, capV, hSV⟩ : ∃ ao cap, S (pth a i) = .slice ao (V (pth a i)).length cap := by
          rcases hva.2 with ⟨h0, h1⟩ | ⟨g', cap', cur, h0, _⟩
          · exact ⟨none, 0, by rw [h0, h1]⟩
          · exact ⟨_, cap', h0⟩
        have hgV : ∀ y, (S (pth a i)).ownBlock = some y → y ∈ F := fun y hy => (HW1.out.tree.own _ y (by rw [hgo]; rfl) hy).1
        have c0 := n2
        rw [hSV] at c0 hva hgV
        have HVA := Lib.hid hva
        have HGV := Lib.hid hgV
        have HSV := Lib.hid hSV
        have HGO := Lib.hid hgo
        have hle := ofL_le V a (m := i + 1) (n := n) (by omega)
        rw [ofL_succ, List.length_append] at hle
        have hN1 := HN.out
        have hOL := ofL_succ V a i
        rw [show i + 1 = min (i + 1) n by omega] at hOL
        have HOL := Lib.hid hOL
        have hes := HES.out
        rw [show min i n = i by omega] at hes
        have hesl : es.length = (ofL V a i).length := by rw [← hes, List.length_map]
        have HES1 := Lib.hid hes
        clear hva hSV n2 n3 n4 n5 hgV hOL hes
        generalize hVV : V (pth a i) = vs at *
        have HVV := Lib.hid hVV
        clear hVV
        have hvsl : vs.length < 1000000 := by omega
        have hi33 : i < 33 := by omega
        have hi32 : i ≤ 32 := by omega
        go_wp2_with (fail)
        go_loopg [37] vs.length (fun gk2 vt wq => ∃ (t : Nat) (v3 : Value) (es2 : List Ent), t + gk2 = vs.length ∧ vt = .int .i64 (t : Int) ∧ WalkAt w4 wq p F B S V ob (.slice none 0 0) v3 es2 ∧ es2.map (·.v) = ofL V a i ++ vs.take t)
        case atStart => exact ⟨0, v2, es, by omega, rfl, HW1.out, by rw [HES1.out]; simp⟩
        case round =>
          obtain ⟨t, v3, es2, hgk2, rfl, hW2, hes2⟩ := hrel
          have HW2 := Lib.hid hW2
          have HES2 := Lib.hid hes2
          have dx2 := hW2.block HX4.out hbo (fun y hy => by simp [Value.ownBlock] at hy)
          have dx2 := And.intro (cell_of dx2 0) (cell_of dx2 1)
          simp only [List.getElem?_toArray, List.getElem?_cons_zero, List.getElem?_cons_succ] at dx2
          clear hW2 hes2
          by_cases hlt2 : t < vs.length
          · have hesl2 : es2.length < 1000000 := by
              have e1 : es2.length = (ofL V a i).length + t := by rw [← List.length_map (f := (·.v)), HES2.out, List.length_append, List.length_take]; omega
              omega
            obtain ⟨gv, hgv⟩ : ∃ gv, aoV = some ⟨gv, 0, none⟩ := by
              rcases HVA.out.2 with ⟨h0, h1⟩ | ⟨g', cap', cur, h0, _⟩
              · omega
              · injection h0 with h0; exact ⟨g', h0⟩
            subst hgv
            have hva2 := HW2.out.tree.vals (pth a i) (by rw [HGO.out]; rfl)
            rw [HSV.out, HVV.out] at hva2
            have hcv := hva2.cellAt t (by omega)
            rw [List.getElem?_map, List.getElem?_eq_getElem hlt2] at hcv
            have hts := take_snoc_i64 hlt2
            have hcv2 : wr.cell? ⟨gv, t, none⟩ = some (.int .i64 (vs.getD t 0)) := by
              rw [List.getD_eq_getElem?_getD, List.getElem?_eq_getElem hlt2]
              exact hcv
            have HTS := Lib.hid hts
            clear hcv hts hesl hva2
            generalize vs.getD t 0 = x at *
            have dc := And.intro (cell_of HW2.out.out.1 0) (unfrozen_of HW2.out.out.1 0)
            simp only [List.getElem?_toArray, List.getElem?_cons_zero] at dc
            have HOFi := Lib.hid (fun w' => HOF.out w' i hi32)
            generalize a / 2 ^ (32 - i) * 2 ^ (32 - i) = z at *
            go_upto_region 12 with (fail)
            go_region_law (first | (refine step_append_lies _ rfl (.tmp 41) (.tmp 48) 350 rfl 0 405 i0 _ 3 24 Tryz.underlying350 hi hz0 hz1 hz2 rfl (by decide) v3 es2.length (entCells es2) rfl ?_ ⟨w5.heap.size, 0, none⟩ 1 1 [.int .u32 (z : Int), .int .i64 (i : Int), .int .i64 x] rfl rfl ?_ ?_ (by omega) ?_ ?_ (by simp) _ rfl ?_; (· exact own_kept HW5.out.out.2.1 ((Kept.refl [] _).alloc _) (by simp)); (· exact news_atT (by simp)); (· simp [Value.oneCell']); (· unfold maxLen; omega); (· omega); intro g9 cap9 w9 how9 hgr9 hat9 hlt9; have HOW9 := Lib.hid how9; have HGR9 := Lib.hid hgr9; have HAT9 := Lib.hid hat9; have hx9 := out_block HW5.out.out ((Kept.refl [] _).alloc _) hgr9; have f9 := unfrozen_of hx9 0; have c9 := cell_of hx9 0; simp only [List.getElem?_toArray, List.getElem?_cons_zero] at c9; clear how9 hgr9 hat9 hlt9 hx9) | (go_simp; go_at_call 162; refine (HOFi.out _).mono ?_; rintro e w5 ⟨he, k5⟩; subst he; have hkk5 := ((Kept.refl [] wr).drew).trans (Kept.of_below (S := []) k5) (by simp); have HW5 := Lib.hid (HW2.out.kept0 hkk5); have c5 := cell_of HW5.out.out.1 0; simp only [List.getElem?_toArray, List.getElem?_cons_zero] at c5; have c5a := (Kept.of_alloc (S := []) w5 (.cells #[.int .u32 (z : Int), .int .i64 (i : Int), .int .i64 x] 405)).cell c5 (by simp); clear k5 hkk5))
            all_goals (
              have hpost := out_append HW5.out.out ((Kept.refl [] _).alloc _) HOW9.out HGR9.out HAT9.out (Kept.refl _ _)
              obtain ⟨v4, hW6⟩ := HW5.out.step hpost
              have HW6 := Lib.hid hW6
              clear hpost hW6 c9 f9
              go_wp2_with (fail)
              go_roundg (gk - 1)
              case measure => omega
              case rel => exact ⟨t + 1, v4, es2 ++ [⟨z, i, x⟩], by omega, by go_num, HW6.out, by rw [List.map_append, HES2.out, HTS.out, List.append_assoc]; rfl⟩)
          · obtain rfl : t = vs.length := by omega
            go_wp2_with (fail)
            go_roundg (m + 1 - (i + 1))
            case measure => omega
            case rel => exact ⟨i + 1, v3, es2, by omega, by go_num, HW2.out, by rw [HES2.out, HOL.out, List.take_length]⟩
      · have hin' : (n : Int) ≤ i := by omega
        go_wp2_with (fail)
        go_roundg (gk - 1)
        case measure => omega
        case rel => exact ⟨i + 1, v2, es, by omega, by go_num, HW1.out, by rw [HES.out]; congr 1; omega⟩
    · obtain rfl : i = m + 1 := by omega
      have dc := cell_of HW1.out.out.1 0
      simp only [List.getElem?_toArray, List.getElem?_cons_zero] at dc
      by_cases hmn : m = n
      · subst hmn
        have hci := HW1.out.kept.cell (HL.out m (by omega)) (by simp [Value.ownBlock]; exact hs0)
        have HD := Lib.hid (HW1.out.kept0 (Kept.refl _ _).drew)
        have dxd : wr.drew.cell? ⟨w.heap.size, 0, none⟩ = some (.int .u32 (a : Int)) ∧ wr.drew.cell? ⟨w.heap.size, 1, none⟩ = some (.int .i64 (m : Int)) := dx
        have hcid : wr.drew.cell? ⟨s0, m, none⟩ = some (kidV (B (pth a m))) := hci
        go_upto_region 16 with (fail)
        go_still_tail 7, (by kernel_rfl)
        change wpList _ _ _ _ _ wr.drew
        generalize wr.drew = wd at *
        go_wp2_with (fail)
        have hap := HD.out.ap
        have hesl : es.length = (ofL V a m).length := by rw [← List.length_map (f := (·.v)), HES.out, show min (m + 1) m = m by omega]
        have hc := twalk_calls yields_meet (fun _ _ => rfl) (32 - m) (pth a m) wd ob v2 es a m (by omega) ha HD.out.tree HD.out.ltw HD.out.out HD.out.ap (by have := HN.out; omega)
        refine hc.mono ?_
        rintro ew wt ⟨rfl, es3, hes3, hpost⟩
        obtain ⟨v3, hW3⟩ := HD.out.step hpost
        have dc3 := cell_of hW3.out.1 0
        simp only [List.getElem?_toArray, List.getElem?_cons_zero] at dc3
        have HW3 := Lib.hid hW3
        rw [HES.out, show min (m + 1) m = m by omega] at hes3
        have HES3 := Lib.hid hes3
        clear hap hc hpost hW3 hes3 dc dxd hcid
        go_wp2_with (fail)
        exact bodyPost_ret (v := v3) (by simp [results, Tryz.results262, go_sem]) rfl ⟨v3, es3, rfl, HW3.out.base (by have := HK4.out.size; omega), HES3.out, HW3.out.below HK4.out (by omega)⟩
      · have hlst := HLAST.out (by omega)
        have hV : ofL V a n = ofL V a (m + 1) := by
          have := ofL_end (V := V) (a := a) (m := m + 1) (n - (m + 1)) (fun j hj => HT3.out.past hlst j hj)
          rwa [show m + 1 + (n - (m + 1)) = n by omega] at this
        have hBn : B (pth a n) = none := by
          cases hb : B (pth a n) with
          | none => rfl
          | some x =>
            have := HT3.out.pre a n (m + 1) (by omega) (by rw [hb]; rfl)
            rw [hlst] at this
            cases this
        have hsub := subL_nil HT3.out (32 - n) _ hBn
        have HVV := Lib.hid (And.intro hV hsub)
        clear hlst hV hBn hsub
        have hmn' : ¬ ((n : Int) < (m : Int) + 1) := by omega
        go_wp2_with (fail)
        have hfin : es.map (·.v) = ofL V a n ++ subL V (32 - n) (pth a n) := by rw [HES.out, HVV.out.2, HVV.out.1, List.append_nil, show min (m + 1) n = m + 1 by omega]
        exact bodyPost_ret (v := v2) (by simp [results, Tryz.results262, go_sem]) rfl ⟨v2, rfl, es, HW1.out.base (by have := HK4.out.size; omega), hfin, HW1.out.below HK4.out (by omega)⟩
end Go.Proofs.YtjoblahedgpgbaaGreat
