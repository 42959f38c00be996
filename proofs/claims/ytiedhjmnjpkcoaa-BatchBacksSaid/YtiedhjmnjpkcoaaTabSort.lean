/- A slice of rules, sorted by the library. -/
import Derived.Test.YtiedhjmnjpkcoaaTab
import Derived.Test.YtiedhjmnjpkcoaaShelfB
import Derived.Shelf.SlSortCmp.WholeK
import Derived.Deep.AppendLies
import Derived.Deep.RegionLaw
namespace Go.Proofs.Ytiedhjmnjpkcoaa
set_option linter.unusedVariables false
set_option linter.unusedSimpArgs false
open Go.RowKit Go.Sort Go.Shelf Go.Proofs

instance : Inhabited Rl := ⟨noRule⟩
def rlCells (l : List Rl) : List Value := l.flatMap Rl.cells
theorem rlCells_length (l : List Rl) : (rlCells l).length = l.length * 6 := by
  induction l with
  | nil => rfl
  | cons e l ih =>
    rw [show rlCells (e :: l) = e.cells ++ rlCells l from rfl, List.length_append, ih, List.length_cons]
    simp [Rl.cells]
    omega
theorem rlCells_snoc (l : List Rl) (e : Rl) : rlCells (l ++ [e]) = rlCells l ++ e.cells := by simp [rlCells]
theorem rlCells_get : ∀ (l : List Rl) (t : Nat), t < l.length * 6 → (rlCells l)[t]? = some ((l[t / 6]!).cells[t % 6]!)
  | [], t, h => by simp at h
  | a :: l, t, h => by
    have hc : a.cells.length = 6 := rfl
    rw [show rlCells (a :: l) = a.cells ++ rlCells l from rfl]
    by_cases ht : t < 6
    · rw [List.getElem?_append_left (by omega), show t / 6 = 0 by omega, show t % 6 = t by omega]
      simp [hc, ht]
    · rw [List.getElem?_append_right (by omega), hc, rlCells_get l (t - 6) (by simp at h; omega), show t / 6 = (t - 6) / 6 + 1 by omega, show (t - 6) % 6 = t % 6 by omega]
      simp
theorem flat_rl (l : List Rl) : (flatK Rl.cells 6 l.toArray).toList = rlCells l := by
  apply List.ext_getElem?
  intro t
  by_cases ht : t < l.length * 6
  · rw [rlCells_get l t ht, Array.getElem?_toList]
    simp [flatK, ht]
  · rw [List.getElem?_eq_none (by simp; omega), List.getElem?_eq_none (by rw [rlCells_length]; omega)]

theorem holdsK_own {w : World} {base g cap : Nat} {l : List Rl} (h : w.ownsRow base 26 6 (.slice (some ⟨g, 0, none⟩) l.length cap) l.length (rlCells l)) : HoldsK Rl.cells 6 w g 0 l.toArray ∧ g < w.heap.size := by
  rcases h.2 with ⟨h0, _⟩ | ⟨g', cap', cur, hv, hg, hb, hn, hcap, hcs, htk⟩
  · cases h0
  · cases hv
    refine ⟨fun j hj => ?_, lt_of_block hb⟩
    have hj' : j < l.length * 6 := by simpa using hj
    refine ⟨?_, by simp [World.frozen?, hb]⟩
    have h1 : (cur.toList.take (l.length * 6))[j]? = (rlCells l)[j]? := by rw [htk]
    rw [List.getElem?_take_of_lt hj'] at h1
    simp only [World.cell?, hb, Nat.zero_add]
    simp only [Option.isSome_none, Bool.false_eq_true, if_false]
    rw [← Array.getElem?_toList, h1, rlCells_get l j hj', get_flatK _ _ _ _ (by simpa using hj')]
    simp

theorem heap_sortedK {w : World} {g n : Nat} {os : Array Obj} {cur : Array Value} {e : TypeId} {fr : Nat × Nat} (d : Array Rl) (hb : w.heap[g]? = some (.cells cur e fr)) :
    (sortWorldK Rl.cells 6 w g 0 n d os).heap[g]? = some (.cells (putCells id 0 (flatK Rl.cells 6 d) cur) e fr) := by
  have hg : g < w.heap.size := lt_of_block hb
  unfold sortWorldK putRowK
  rw [heap_grow_old _ _ (by simpa using hg)]
  simp [putRow, mapBlock, Sort.ahead, Array.getElem?_modify, hb, onCells]

theorem kept_sortedK {w : World} {g n : Nat} {os : Array Obj} (d : Array Rl) : Kept [g] w (sortWorldK Rl.cells 6 w g 0 n d os) := by
  unfold sortWorldK putRowK
  refine ⟨rfl, rfl, rfl, by simp, fun k hk hne => ?_⟩
  rw [heap_grow_old _ _ (by simpa using hk)]
  have : g ≠ k := fun e => hne (by simp [e])
  simp [putRow, mapBlock, Sort.ahead, Array.getElem?_modify, this]

theorem own_sortedK {w : World} {base g cap n : Nat} {os : Array Obj} {l l' : List Rl} (h : w.ownsRow base 26 6 (.slice (some ⟨g, 0, none⟩) l.length cap) l.length (rlCells l)) (hl : l'.length = l.length) :
    (sortWorldK Rl.cells 6 w g 0 n l'.toArray os).ownsRow base 26 6 (.slice (some ⟨g, 0, none⟩) l.length cap) l.length (rlCells l') := by
  refine ⟨by rw [rlCells_length, hl], ?_⟩
  rcases h.2 with ⟨h0, _⟩ | ⟨g', cap', cur, hv, hg, hb, hn, hcap, hcs, htk⟩
  · cases h0
  · cases hv
    refine Or.inr ⟨g, cap, _, rfl, hg, heap_sortedK _ hb, hn, hcap, by simp [putCells, hcs], ?_⟩
    apply List.ext_getElem?
    intro j
    by_cases hj : j < l.length * 6
    · have h2 : j < cur.size := by rw [hcs]; exact Nat.lt_of_lt_of_le hj (Nat.mul_le_mul_right _ hn)
      rw [List.getElem?_take_of_lt hj, Array.getElem?_toList, rlCells_get l' j (by omega)]
      have h3 : (flatK Rl.cells 6 l'.toArray)[j]? = some ((l'[j / 6]!).cells[j % 6]!) := by rw [← Array.getElem?_toList, flat_rl, rlCells_get l' j (by omega)]
      obtain ⟨h4, h5⟩ := Array.getElem?_eq_some_iff.1 h3
      simp [putCells, h2, hl, hj]
      rw [h5]
      simp
    · rw [List.getElem?_take_eq_none (by omega), List.getElem?_eq_none (by rw [rlCells_length]; omega)]

/-- Their order. -/
theorem swoR : SWO (ltOf cmpR) where
  irrefl x := by unfold ltOf; rw [cmpR_ahead]; simp [aheadR]
  trans x y z h1 h2 := by
    unfold ltOf at *
    rw [cmpR_ahead] at *
    rw [ahead_iff] at *
    omega
  ntrans x y z h1 h2 := by
    unfold ltOf at *
    rw [cmpR_ahead] at *
    rw [ahead_false] at *
    omega
theorem ltR_total {x y : Rl} (h1 : ltOf cmpR x y = false) (h2 : ltOf cmpR y x = false) : x.id = y.id := by
  unfold ltOf at *
  rw [cmpR_ahead] at *
  rw [ahead_false] at *
  omega
/-- Sorted rules. -/
def Sorted (l : List Rl) : Prop := l.Pairwise fun a b => aheadR a b = true
theorem sorted_one : ∀ {l l' : List Rl}, l.Perm l' → (l.map (·.id)).Nodup → l.Pairwise (fun a b => aheadR b a = false) → Sorted l' → l = l'
  | [], l', hp, _, _, _ => (List.nil_perm.1 hp).symm
  | a :: l, [], hp, _, _, _ => absurd hp.length_eq (by simp)
  | a :: l, b :: l', hp, hn, h1, h2 => by
    obtain ⟨a1, a2⟩ := List.pairwise_cons.1 h1
    obtain ⟨b1, b2⟩ := List.pairwise_cons.1 h2
    rw [List.map_cons, List.nodup_cons] at hn
    have hab : a = b := by
      have ha := hp.mem_iff.1 (List.mem_cons_self)
      rcases List.mem_cons.1 ha with e | ha
      · exact e
      · have hb := hp.mem_iff.2 (List.mem_cons_self)
        rcases List.mem_cons.1 hb with e | hb
        · exact e.symm
        · have h3 := b1 a ha
          have h4 := a1 b hb
          rw [h3] at h4
          cases h4
    subst hab
    rw [sorted_one hp.cons_inv hn.2 a2 b2]

theorem compare_enters : ∀ args w, (callFunc 15 args).run Try.prog w = .ok (.enter 15 args) w := enters_of Try.func15 (by kernel_rfl) rfl
theorem compare_lays (g n : Nat) (w : World) : CmpLays Try.prog 15 #[] Rl.cells 6 cmpR g 0 n w := by
  intro m os dk _ x y
  exact compare_calls _ x y
theorem rule_one (x : Rl) : ∀ v ∈ Rl.cells x, v.oneCell' = true := by
  intro v hv
  simp [Rl.cells] at hv
  rcases hv with rfl | rfl | rfl | rfl | rfl | rfl <;> rfl
theorem rule_agg (w : World) : (isAgg 26).run Try.prog w = .ok true w := by kernel_rfl
theorem rule_size (w : World) : (Go.sizeOf 26).run Try.prog w = .ok 6 w := by kernel_rfl

theorem sort_some {w : World} {base g cap : Nat} {l : List Rl} (h : w.ownsRow base 26 6 (.slice (some ⟨g, 0, none⟩) l.length cap) l.length (rlCells l)) (hsz : l.length < 1000000) :
    Calls Try.prog 80 #[.slice (some ⟨g, 0, none⟩) l.length cap, .func (.func 15) #[] #[]] w fun e w' => e = .returned (.tuple #[]) ∧ ∃ l' : List Rl, l'.Perm l ∧ l'.Pairwise (fun a b => aheadR b a = false) ∧ w'.ownsRow base 26 6 (.slice (some ⟨g, 0, none⟩) l.length cap) l.length (rlCells l') ∧ Kept [g] w w' := by
  obtain ⟨hH, hg⟩ := holdsK_own h
  have hcon := AnyQ.slices_SortFunc laySort 6 rule_agg rule_size Rl.cells (fun _ => rfl) rule_one cmpR swoR 15 #[] g 0 cap l.toArray w compare_enters (compare_lays g l.toArray.size w) hH hg (by simp; omega)
  rw [show l.toArray.size = l.length by simp] at hcon
  refine Calls.mono hcon ?_
  rintro e w' ⟨he, d', n, os, hp, hs, rfl⟩
  obtain ⟨hp1, _, hp3⟩ := hp
  have hd : d' = d'.toList.toArray := by simp
  have hsz' : d'.size = l.length := by simpa using hp1
  refine ⟨he, d'.toList, ?_, ?_, ?_, kept_sortedK d'⟩
  · have e1 : (d'.extract 0 l.length).toList = d'.toList := by rw [← hsz']; simp
    have e2 : (l.toArray.extract 0 l.length).toList = l := by simp
    rwa [e1, e2] at hp3
  · rw [List.pairwise_iff_getElem]
    intro i j hi hj hij
    have := hs i j (Nat.zero_le _) hij (by simpa [hsz'] using hj)
    unfold ltOf at this
    rw [cmpR_ahead] at this
    rw [getElem!_pos d' j (by simpa using hj), getElem!_pos d' i (by simpa using hi)] at this
    simpa using this
  · rw [hd]
    exact own_sortedK h (by simp [hsz'])

set_option maxRecDepth 100000 in
theorem ins_none (w : World) (lim : Int) (fv : Value) : Calls Try.prog 112 #[.slice none 0 0, .int .i64 0, .int .i64 0, fv] w fun e w' => e = .returned (.tuple #[]) ∧ w' = w := by
  go_enter Try.func112, Try.ntmps112
  go_wp2
  refine wp_loop_rounds 1 ?_
  rw [rounds_succ]
  go_wp2
  go_end0
  exact ⟨rfl, rfl⟩
set_option maxRecDepth 100000 in
theorem pdq_none (w : World) (lim : Int) (fv : Value) : Calls Try.prog 102 #[.slice none 0 0, .int .i64 0, .int .i64 0, .int .i64 lim, fv] w fun e w' => e = .returned (.tuple #[]) ∧ w' = w := by
  have hi := Lib.hid (fun W => ins_none W lim fv)
  go_enter Try.func102, Try.ntmps102
  go_wp2_with (fail)
  refine wp_loop_rounds 1 ?_
  rw [rounds_succ]
  go_wp2_with (fail)
  refine (hi.out _).mono ?_
  rintro e w' ⟨rfl, rfl⟩
  go_wp2_with (fail)
  exact bodyPost_ret (v := .tuple #[]) (by simp [results, Try.results102, go_sem]) rfl ⟨rfl, rfl⟩
set_option maxRecDepth 100000 in
theorem sort_none (w : World) (fv : Value) : Calls Try.prog 80 #[.slice none 0 0, fv] w fun e w' => e = .returned (.tuple #[]) ∧ w' = w := by
  have hp := Lib.hid (fun lim W => pdq_none W lim fv)
  have hl : ∀ W, Calls Try.prog 103 #[.int .u64 0] W fun e w' => e = .returned (.int .i64 (Go.Lib.bitLen 0 : Nat)) ∧ w' = W := fun W => Any.bits_Len (SlLaysF0.n15.bits (P := Try.prog) (ρ := laySort_ren) { laySort with }) 0 W (by omega) (by omega)
  have HL := Lib.hid hl
  go_enter Try.func80, Try.ntmps80
  go_wp2_with (fail)
  refine (HL.out _).mono ?_
  rintro e w' ⟨rfl, rfl⟩
  go_wp2_with (fail)
  refine (hp.out _ _).mono ?_
  rintro e w' ⟨rfl, rfl⟩
  go_wp2_with (fail)
  go_end0
  exact ⟨rfl, rfl⟩

theorem sort_rules {w : World} {base : Nat} {v : Value} {l : List Rl} (h : w.ownsRow base 26 6 v l.length (rlCells l)) (hsz : l.length < 1000000) :
    Calls Try.prog 80 #[v, .func (.func 15) #[] #[]] w fun e w' => e = .returned (.tuple #[]) ∧ ∃ l' : List Rl, l'.Perm l ∧ l'.Pairwise (fun a b => aheadR b a = false) ∧ w'.ownsRow base 26 6 v l.length (rlCells l') ∧ Kept v.ownBlock.toList w w' := by
  rcases h.2 with ⟨h0, h1⟩ | ⟨g, cap, cur, h0, _⟩
  · obtain rfl : l = [] := List.length_eq_zero_iff.1 h1
    subst h0
    refine (sort_none w _).mono ?_
    rintro e w' ⟨rfl, rfl⟩
    exact ⟨rfl, [], List.Perm.refl _, List.Pairwise.nil, h, Kept.refl _ _⟩
  · subst h0
    exact sort_some h hsz

theorem rule_info : (Try.prog.info? 26).map (fun i => (i.zero, i.size, i.bytes)) = some (some noRule.val, 6, 48) := by kernel_rfl

theorem entCells_get : ∀ (l : List Ent) (i : Nat) (h : i < l.length), (entCells l)[i * 3]? = some (.int .u32 (l[i].addr : Int)) ∧ (entCells l)[i * 3 + 1]? = some (.int .i64 l[i].bits) ∧ (entCells l)[i * 3 + 2]? = some (.int .i64 l[i].v)
  | a :: l, 0, _ => ⟨rfl, rfl, rfl⟩
  | a :: l, i + 1, h => by
    have ih := entCells_get l i (by simpa using h)
    have e : entCells (a :: l) = [.int .u32 (a.addr : Int), .int .i64 a.bits, .int .i64 a.v] ++ entCells l := rfl
    rw [e, show (i + 1) * 3 = 3 + i * 3 by omega]
    refine ⟨?_, ?_, ?_⟩
    · rw [List.getElem?_append_right (by simp)]
      simpa using ih.1
    · rw [List.getElem?_append_right (by simp; omega), show 3 + i * 3 + 1 - [Value.int .u32 (a.addr : Int), .int .i64 a.bits, .int .i64 a.v].length = i * 3 + 1 by simp; omega]
      simpa using ih.2.1
    · rw [List.getElem?_append_right (by simp; omega), show 3 + i * 3 + 2 - [Value.int .u32 (a.addr : Int), .int .i64 a.bits, .int .i64 a.v].length = i * 3 + 2 by simp; omega]
      simpa using ih.2.2

/-- The rules of entries. -/
def ofEnts (L : List Rl) (es : List Ent) : List Rl := es.map fun e => (findR L e.v).getD noRule

set_option maxRecDepth 100000 in
set_option maxHeartbeats 2000000 in
theorem tsorted_calls {w : World} {p mb base : Nat} {F : List Nat} {L : List Rl} {vo : Value} {es : List Ent} (h : TabAt w p mb F L) (ho : w.ownsRow base 153 3 vo es.length (entCells es)) (hl : es.length < 100000) (hk : ∀ e ∈ es, okI e.v) :
    Calls Try.prog 58 #[.pointer (some ⟨p, 0, none⟩), vo] w fun e w' => ∃ vr l', e = .returned vr ∧ l'.Perm (ofEnts L es) ∧ l'.Pairwise (fun a b => aheadR b a = false) ∧ w'.ownsRow w.heap.size 26 6 vr l'.length (rlCells l') ∧ Below w.heap.size w w' := by
  obtain ⟨i0, hi, hz0, hz1, hz2⟩ := info_parts rule_info
  obtain ⟨ao, cap, hvo⟩ : ∃ ao cap, vo = .slice ao es.length cap := by
    rcases ho.2 with ⟨h0, h1⟩ | ⟨g', cap', cur, h0, _⟩
    · exact ⟨none, 0, by rw [h0, h1]⟩
    · exact ⟨_, cap', h0⟩
  subst hvo
  have H0 := Lib.hid h
  have HO := Lib.hid ho
  have HK := Lib.hid hk
  have HL := Lib.hid hl
  clear h ho hk
  go_enter Try.func58, Try.ntmps58
  go_wp2_with (fail)
  go_loopg [5, 10] es.length (fun gk vr vi wr => ∃ i : Nat, i + gk = es.length ∧ vi = .int .i64 (i : Int) ∧ wr.ownsRow w.heap.size 26 6 vr i (rlCells (ofEnts L (es.take i))) ∧ Kept [] w wr)
  case atStart => exact ⟨0, by omega, rfl, World.ownsRow_nil _ _ _ _, Kept.refl _ _⟩
  case round =>
    obtain ⟨i, hgk, rfl, how, hK⟩ := hrel
    have HOW := Lib.hid how
    have HKE := Lib.hid hK
    clear how hK
    by_cases hlt : i < es.length
    · obtain ⟨ge, hge⟩ : ∃ ge, ao = some ⟨ge, 0, none⟩ := by
        rcases HO.out.2 with ⟨h0, h1⟩ | ⟨g', cap', cur, h0, _⟩
        · omega
        · injection h0 with h0; exact ⟨g', h0⟩
      subst hge
      have hE := own_kept HO.out HKE.out (by simp)
      obtain ⟨e0, e1, e2⟩ := entCells_get es i hlt
      have d0 := hE.cellAt (i * 3) (by omega)
      have d1 := hE.cellAt (i * 3 + 1) (by omega)
      have d2 := hE.cellAt (i * 3 + 2) (by omega)
      rw [e0] at d0
      rw [e1] at d1
      rw [e2] at d2
      have hid := HK.out _ (List.getElem_mem hlt)
      have HNX := Lib.hid (show ofEnts L (es.take (i + 1)) = ofEnts L (es.take i) ++ [(findR L es[i].v).getD noRule] by rw [List.take_add_one, List.getElem?_eq_getElem hlt]; unfold ofEnts; rw [List.map_append]; rfl)
      generalize hen : es[i] = en at *
      have kb := HKE.out.trans (Kept.of_alloc (S := []) wr (.cells #[.int .u32 (en.addr : Int), .int .i64 en.bits, .int .i64 en.v] 153)) (by simp)
      have hxb := heap_alloc_new wr (.cells #[.int .u32 (en.addr : Int), .int .i64 en.bits, .int .i64 en.v] 153)
      have hob := own_kept HOW.out (Kept.of_alloc (S := []) wr (.cells #[.int .u32 (en.addr : Int), .int .i64 en.bits, .int .i64 en.v] 153)) (by simp)
      have HKB := Lib.hid kb.drew
      have HXB := Lib.hid (blk_drew hxb)
      have HOB := Lib.hid (own_kept hob ((Kept.refl [] _).drew) (by simp))
      clear kb hxb hob
      go_upto_region 5 with (fail)
      clear d0 d1 d2
      generalize wr.alloc (.cells #[.int .u32 (en.addr : Int), .int .i64 en.bits, .int .i64 en.v] 153) = w5 at *
      generalize wr.heap.size = bx at *
      have HT := Lib.hid (H0.out.kept HKB.out (by simp) (by simp))
      have c0 := HT.out.head
      have hlk := HT.out.look (w' := w5.drew) rfl hid false
      have cv := cell_of HXB.out 2
      simp only [List.getElem?_toArray, List.getElem?_cons_zero, List.getElem?_cons_succ] at cv
      simp only [Bool.false_eq_true, if_false] at hlk
      generalize (findR L en.v).getD noRule = rr at *
      unfold Rl.val at hlk
      generalize hwd : w5.drew = w6 at *
      go_region_law (refine step_append_lies _ rfl (.tmp 14) (.tmp 22) 33 rfl w.heap.size 26 i0 _ 6 48 Try.underlying33 hi hz0 hz1 hz2 rfl (by decide) _ i (rlCells (ofEnts L (es.take i))) rfl ?_ ⟨w6.heap.size, 0, none⟩ 1 1 [.int .i64 rr.id, .int .i64 rr.dev, .int .u32 (rr.addr : Int), .int .i64 rr.bits, .int .i64 rr.prio, .int .i64 rr.out] rfl rfl ?_ ?_ (by omega) ?_ ?_ ?_ _ rfl ?_; (· exact own_kept HOB.out ((Kept.refl [] _).alloc _) (by simp)); (· exact news_at (by simp)); (· simp [Value.oneCell']); (· unfold maxLen; omega); (· omega); (· have := HKB.out.size; simp; omega); intro g9 cap9 w9 how9 hgr9 hat9 hlt9; have HOW9 := Lib.hid how9; have HGR9 := Lib.hid hgr9; clear how9 hgr9 hat9 hlt9)
      all_goals (
        go_wp2_with (fail)
        go_roundg (gk - 1)
        case measure => omega
        case rel =>
          refine ⟨i + 1, by omega, by go_num, ?_, ?_⟩
          · rw [HNX.out, rlCells_snoc]
            exact HOW9.out
          · exact Kept.grown_row (HKB.out.alloc _) HGR9.out (fun g hg => Or.inr (own_past HOB.out g hg)))
    · obtain rfl : i = es.length := by omega
      have how := HOW.out
      rw [List.take_length] at how
      have hme : (ofEnts L es).length = es.length := by simp [ofEnts]
      rw [← hme] at how
      have hc := sort_rules how (by rw [hme]; have := HL.out; omega)
      have HOW1 := Lib.hid how
      go_wp2_with (fail)
      refine hc.mono ?_
      rintro e w7 ⟨he, l', hp, hs, how7, k7⟩
      subst he
      have H7 := Lib.hid (And.intro hp (And.intro hs (And.intro how7 k7)))
      clear hc how hp hs how7 k7
      go_wp2_with (fail)
      obtain ⟨hp, hs, how7, k7⟩ := H7.out
      refine bodyPost_ret (v := u5) (by simp [results, Try.results58, go_sem]) rfl ⟨u5, l', rfl, hp, hs, ?_, ?_⟩
      · rw [hp.length_eq]; exact how7
      · exact (HKE.out.trans k7 (fun x hx => Or.inr (own_past HOW1.out x (by simpa using hx)))).below (Nat.le_refl _) (by simp)
end Go.Proofs.Ytiedhjmnjpkcoaa
