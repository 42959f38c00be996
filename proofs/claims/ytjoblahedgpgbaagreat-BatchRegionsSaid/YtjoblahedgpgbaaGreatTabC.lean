/- A slice of rules, sorted by the library. · The table's questions: Rules, Meeting, Best. · The table's Clone. -/
import Derived.Test.YtjoblahedgpgbaaGreatTab
import Derived.Test.YtjoblahedgpgbaaGreatShelfB
import Derived.Shelf.SlSortCmp.WholeK
import Derived.Deep.AppendLies
import Derived.Deep.RegionLaw
namespace Go.Proofs.YtjoblahedgpgbaaGreat
set_option linter.unusedVariables false
set_option linter.unusedSimpArgs false
open Go.RowKit Go.Sort Go.Shelf Go.Proofs

instance : Inhabited Rl := ⟨noRule⟩
def rlCells (l : List Rl) : List Value := l.flatMap Rl.cells
theorem rlCells_length (l : List Rl) : (rlCells l).length = l.length * 6 := by
  induction l with
  | nil => rfl
  | cons e l ih =>
    rw [show rlCells (e :: l) = e.cells ++ rlCells l from rfl, List.length_append, ih, List.length_cons]
    simp [Rl.cells]
    omega
theorem rlCells_snoc (l : List Rl) (e : Rl) : rlCells (l ++ [e]) = rlCells l ++ e.cells := by simp [rlCells]
theorem rlCells_get : ∀ (l : List Rl) (t : Nat), t < l.length * 6 → (rlCells l)[t]? = some ((l[t / 6]!).cells[t % 6]!)
  | [], t, h => by simp at h
  | a :: l, t, h => by
    have hc : a.cells.length = 6 := rfl
    rw [show rlCells (a :: l) = a.cells ++ rlCells l from rfl]
    by_cases ht : t < 6
    · rw [List.getElem?_append_left (by omega), show t / 6 = 0 by omega, show t % 6 = t by omega]
      simp [hc, ht]
    · rw [List.getElem?_append_right (by omega), hc, rlCells_get l (t - 6) (by simp at h; omega), show t / 6 = (t - 6) / 6 + 1 by omega, show (t - 6) % 6 = t % 6 by omega]
      simp
theorem flat_rl (l : List Rl) : (flatK Rl.cells 6 l.toArray).toList = rlCells l := by
  apply List.ext_getElem?
  intro t
  by_cases ht : t < l.length * 6
  · rw [rlCells_get l t ht, Array.getElem?_toList]
    simp [flatK, ht]
  · rw [List.getElem?_eq_none (by simp; omega), List.getElem?_eq_none (by rw [rlCells_length]; omega)]

theorem holdsK_own {w : World} {base g cap : Nat} {l : List Rl} (h : w.ownsRow base 89 6 (.slice (some ⟨g, 0, none⟩) l.length cap) l.length (rlCells l)) : HoldsK Rl.cells 6 w g 0 l.toArray ∧ g < w.heap.size := by
  rcases h.2 with ⟨h0, _⟩ | ⟨g', cap', cur, hv, hg, hb, hn, hcap, hcs, htk⟩
  · cases h0
  · cases hv
    refine ⟨fun j hj => ?_, lt_of_block hb⟩
    have hj' : j < l.length * 6 := by simpa using hj
    refine ⟨?_, by simp [World.frozen?, hb]⟩
    have h1 : (cur.toList.take (l.length * 6))[j]? = (rlCells l)[j]? := by rw [htk]
    rw [List.getElem?_take_of_lt hj'] at h1
    simp only [World.cell?, hb, Nat.zero_add]
    simp only [Option.isSome_none, Bool.false_eq_true, if_false]
    rw [← Array.getElem?_toList, h1, rlCells_get l j hj', get_flatK _ _ _ _ (by simpa using hj')]
    simp

theorem heap_sortedK {w : World} {g n : Nat} {os : Array Obj} {cur : Array Value} {e : TypeId} {fr : Nat × Nat} (d : Array Rl) (hb : w.heap[g]? = some (.cells cur e fr)) :
    (sortWorldK Rl.cells 6 w g 0 n d os).heap[g]? = some (.cells (putCells id 0 (flatK Rl.cells 6 d) cur) e fr) := by
  have hg : g < w.heap.size := lt_of_block hb
  unfold sortWorldK putRowK
  rw [heap_grow_old _ _ (by simpa using hg)]
  simp [putRow, mapBlock, Sort.ahead, Array.getElem?_modify, hb, onCells]

theorem kept_sortedK {w : World} {g n : Nat} {os : Array Obj} (d : Array Rl) : Kept [g] w (sortWorldK Rl.cells 6 w g 0 n d os) := by
  unfold sortWorldK putRowK
  refine ⟨rfl, rfl, rfl, by simp, fun k hk hne => ?_⟩
  rw [heap_grow_old _ _ (by simpa using hk)]
  have : g ≠ k := fun e => hne (by simp [e])
  simp [putRow, mapBlock, Sort.ahead, Array.getElem?_modify, this]

theorem own_sortedK {w : World} {base g cap n : Nat} {os : Array Obj} {l l' : List Rl} (h : w.ownsRow base 89 6 (.slice (some ⟨g, 0, none⟩) l.length cap) l.length (rlCells l)) (hl : l'.length = l.length) :
    (sortWorldK Rl.cells 6 w g 0 n l'.toArray os).ownsRow base 89 6 (.slice (some ⟨g, 0, none⟩) l.length cap) l.length (rlCells l') := by
  refine ⟨by rw [rlCells_length, hl], ?_⟩
  rcases h.2 with ⟨h0, _⟩ | ⟨g', cap', cur, hv, hg, hb, hn, hcap, hcs, htk⟩
  · cases h0
  · cases hv
    refine Or.inr ⟨g, cap, _, rfl, hg, heap_sortedK _ hb, hn, hcap, by simp [putCells, hcs], ?_⟩
    apply List.ext_getElem?
    intro j
    by_cases hj : j < l.length * 6
    · have h2 : j < cur.size := by rw [hcs]; exact Nat.lt_of_lt_of_le hj (Nat.mul_le_mul_right _ hn)
      rw [List.getElem?_take_of_lt hj, Array.getElem?_toList, rlCells_get l' j (by omega)]
      have h3 : (flatK Rl.cells 6 l'.toArray)[j]? = some ((l'[j / 6]!).cells[j % 6]!) := by rw [← Array.getElem?_toList, flat_rl, rlCells_get l' j (by omega)]
      obtain ⟨h4, h5⟩ := Array.getElem?_eq_some_iff.1 h3
      simp [putCells, h2, hl, hj]
      rw [h5]
      simp
    · rw [List.getElem?_take_eq_none (by omega), List.getElem?_eq_none (by rw [rlCells_length]; omega)]

/-- Their order. -/
theorem swoR : SWO (ltOf cmpR) where
  irrefl x := by unfold ltOf; rw [cmpR_ahead]; simp [aheadR]
  trans x y z h1 h2 := by
    unfold ltOf at *
    rw [cmpR_ahead] at *
    rw [ahead_iff] at *
    omega
  ntrans x y z h1 h2 := by
    unfold ltOf at *
    rw [cmpR_ahead] at *
    rw [ahead_false] at *
    omega
theorem ltR_total {x y : Rl} (h1 : ltOf cmpR x y = false) (h2 : ltOf cmpR y x = false) : x.id = y.id := by
  unfold ltOf at *
  rw [cmpR_ahead] at *
  rw [ahead_false] at *
  omega
/-- Sorted rules. -/
def Sorted (l : List Rl) : Prop := l.Pairwise fun a b => aheadR a b = true
theorem sorted_one : ∀ {l l' : List Rl}, l.Perm l' → (l.map (·.id)).Nodup → l.Pairwise (fun a b => aheadR b a = false) → Sorted l' → l = l'
  | [], l', hp, _, _, _ => (List.nil_perm.1 hp).symm
  | a :: l, [], hp, _, _, _ => absurd hp.length_eq (by simp)
  | a :: l, b :: l', hp, hn, h1, h2 => by
    obtain ⟨a1, a2⟩ := List.pairwise_cons.1 h1
    obtain ⟨b1, b2⟩ := List.pairwise_cons.1 h2
    rw [List.map_cons, List.nodup_cons] at hn
    have hab : a = b := by
      have ha := hp.mem_iff.1 (List.mem_cons_self)
      rcases List.mem_cons.1 ha with e | ha
      · exact e
      · have hb := hp.mem_iff.2 (List.mem_cons_self)
        rcases List.mem_cons.1 hb with e | hb
        · exact e.symm
        · have h3 := b1 a ha
          have h4 := a1 b hb
          rw [h3] at h4
          cases h4
    subst hab
    rw [sorted_one hp.cons_inv hn.2 a2 b2]

theorem compare_enters : ∀ args w, (callFunc 246 args).run Tryz.prog w = .ok (.enter 246 args) w := enters_of Tryz.func246 (by kernel_rfl) rfl
theorem compare_lays (g n : Nat) (w : World) : CmpLays Tryz.prog 246 #[] Rl.cells 6 cmpR g 0 n w := by
  intro m os dk _ x y
  exact compare_calls _ x y
theorem rule_one (x : Rl) : ∀ v ∈ Rl.cells x, v.oneCell' = true := by
  intro v hv
  simp [Rl.cells] at hv
  rcases hv with rfl | rfl | rfl | rfl | rfl | rfl <;> rfl
theorem rule_agg (w : World) : (isAgg 89).run Tryz.prog w = .ok true w := by kernel_rfl
theorem rule_size (w : World) : (Go.sizeOf 89).run Tryz.prog w = .ok 6 w := by kernel_rfl

theorem sort_some {w : World} {base g cap : Nat} {l : List Rl} (h : w.ownsRow base 89 6 (.slice (some ⟨g, 0, none⟩) l.length cap) l.length (rlCells l)) (hsz : l.length < 1000000) :
    Calls Tryz.prog 245 #[.slice (some ⟨g, 0, none⟩) l.length cap, .func (.func 246) #[] #[]] w fun e w' => e = .returned (.tuple #[]) ∧ ∃ l' : List Rl, l'.Perm l ∧ l'.Pairwise (fun a b => aheadR b a = false) ∧ w'.ownsRow base 89 6 (.slice (some ⟨g, 0, none⟩) l.length cap) l.length (rlCells l') ∧ Kept [g] w w' := by
  obtain ⟨hH, hg⟩ := holdsK_own h
  have hcon := AnyQ.slices_SortFunc laySort 6 rule_agg rule_size Rl.cells (fun _ => rfl) rule_one cmpR swoR 246 #[] g 0 cap l.toArray w compare_enters (compare_lays g l.toArray.size w) hH hg (by simp; omega)
  rw [show l.toArray.size = l.length by simp] at hcon
  refine Calls.mono hcon ?_
  rintro e w' ⟨he, d', n, os, hp, hs, rfl⟩
  obtain ⟨hp1, _, hp3⟩ := hp
  have hd : d' = d'.toList.toArray := by simp
  have hsz' : d'.size = l.length := by simpa using hp1
  refine ⟨he, d'.toList, ?_, ?_, ?_, kept_sortedK d'⟩
  · have e1 : (d'.extract 0 l.length).toList = d'.toList := by rw [← hsz']; simp
    have e2 : (l.toArray.extract 0 l.length).toList = l := by simp
    rwa [e1, e2] at hp3
  · rw [List.pairwise_iff_getElem]
    intro i j hi hj hij
    have := hs i j (Nat.zero_le _) hij (by simpa [hsz'] using hj)
    unfold ltOf at this
    rw [cmpR_ahead] at this
    rw [getElem!_pos d' j (by simpa using hj), getElem!_pos d' i (by simpa using hi)] at this
    simpa using this
  · rw [hd]
    exact own_sortedK h (by simp [hsz'])

set_option maxRecDepth 100000 in
theorem ins_none (w : World) (lim : Int) (fv : Value) : Calls Tryz.prog 293 #[.slice none 0 0, .int .i64 0, .int .i64 0, fv] w fun e w' => e = .returned (.tuple #[]) ∧ w' = w := by
  go_enter Tryz.func293, Tryz.ntmps293
  go_wp2
  refine wp_loop_rounds 1 ?_
  rw [rounds_succ]
  go_wp2
  go_end0
  exact ⟨rfl, rfl⟩
set_option maxRecDepth 100000 in
theorem pdq_none (w : World) (lim : Int) (fv : Value) : Calls Tryz.prog 279 #[.slice none 0 0, .int .i64 0, .int .i64 0, .int .i64 lim, fv] w fun e w' => e = .returned (.tuple #[]) ∧ w' = w := by
  have hi := Lib.hid (fun W => ins_none W lim fv)
  go_enter Tryz.func279, Tryz.ntmps279
  go_wp2_with (fail)
  refine wp_loop_rounds 1 ?_
  rw [rounds_succ]
  go_wp2_with (fail)
  refine (hi.out _).mono ?_
  rintro e w' ⟨rfl, rfl⟩
  go_wp2_with (fail)
  exact bodyPost_ret (v := .tuple #[]) (by simp [results, Tryz.results279, go_sem]) rfl ⟨rfl, rfl⟩
set_option maxRecDepth 100000 in
theorem sort_none (w : World) (fv : Value) : Calls Tryz.prog 245 #[.slice none 0 0, fv] w fun e w' => e = .returned (.tuple #[]) ∧ w' = w := by
  have hp := Lib.hid (fun lim W => pdq_none W lim fv)
  have hl : ∀ W, Calls Tryz.prog 234 #[.int .u64 0] W fun e w' => e = .returned (.int .i64 (Go.Lib.bitLen 0 : Nat)) ∧ w' = W := fun W => Any.bits_Len (SlLaysF0.n15.bits (P := Tryz.prog) (ρ := laySort_ren) { laySort with }) 0 W (by omega) (by omega)
  have HL := Lib.hid hl
  go_enter Tryz.func245, Tryz.ntmps245
  go_wp2_with (fail)
  refine (HL.out _).mono ?_
  rintro e w' ⟨rfl, rfl⟩
  go_wp2_with (fail)
  refine (hp.out _ _).mono ?_
  rintro e w' ⟨rfl, rfl⟩
  go_wp2_with (fail)
  go_end0
  exact ⟨rfl, rfl⟩

theorem sort_rules {w : World} {base : Nat} {v : Value} {l : List Rl} (h : w.ownsRow base 89 6 v l.length (rlCells l)) (hsz : l.length < 1000000) :
    Calls Tryz.prog 245 #[v, .func (.func 246) #[] #[]] w fun e w' => e = .returned (.tuple #[]) ∧ ∃ l' : List Rl, l'.Perm l ∧ l'.Pairwise (fun a b => aheadR b a = false) ∧ w'.ownsRow base 89 6 v l.length (rlCells l') ∧ Kept v.ownBlock.toList w w' := by
  rcases h.2 with ⟨h0, h1⟩ | ⟨g, cap, cur, h0, _⟩
  · obtain rfl : l = [] := List.length_eq_zero_iff.1 h1
    subst h0
    refine (sort_none w _).mono ?_
    rintro e w' ⟨rfl, rfl⟩
    exact ⟨rfl, [], List.Perm.refl _, List.Pairwise.nil, h, Kept.refl _ _⟩
  · subst h0
    exact sort_some h hsz

theorem rule_info : (Tryz.prog.info? 89).map (fun i => (i.zero, i.size, i.bytes)) = some (some noRule.val, 6, 48) := by kernel_rfl

theorem entCells_get : ∀ (l : List Ent) (i : Nat) (h : i < l.length), (entCells l)[i * 3]? = some (.int .u32 (l[i].addr : Int)) ∧ (entCells l)[i * 3 + 1]? = some (.int .i64 l[i].bits) ∧ (entCells l)[i * 3 + 2]? = some (.int .i64 l[i].v)
  | a :: l, 0, _ => ⟨rfl, rfl, rfl⟩
  | a :: l, i + 1, h => by
    have ih := entCells_get l i (by simpa using h)
    have e : entCells (a :: l) = [.int .u32 (a.addr : Int), .int .i64 a.bits, .int .i64 a.v] ++ entCells l := rfl
    rw [e, show (i + 1) * 3 = 3 + i * 3 by omega]
    refine ⟨?_, ?_, ?_⟩
    · rw [List.getElem?_append_right (by simp)]
      simpa using ih.1
    · rw [List.getElem?_append_right (by simp; omega), show 3 + i * 3 + 1 - [Value.int .u32 (a.addr : Int), .int .i64 a.bits, .int .i64 a.v].length = i * 3 + 1 by simp; omega]
      simpa using ih.2.1
    · rw [List.getElem?_append_right (by simp; omega), show 3 + i * 3 + 2 - [Value.int .u32 (a.addr : Int), .int .i64 a.bits, .int .i64 a.v].length = i * 3 + 2 by simp; omega]
      simpa using ih.2.2

/-- The rules of entries. -/
def ofEnts (L : List Rl) (es : List Ent) : List Rl := es.map fun e => (findR L e.v).getD noRule

set_option maxRecDepth 100000 in
set_option maxHeartbeats 2000000 in
theorem tsorted_calls {w : World} {p mb base : Nat} {F : List Nat} {L : List Rl} {vo : Value} {es : List Ent} (h : TabAt w p mb F L) (ho : w.ownsRow base 405 3 vo es.length (entCells es)) (hl : es.length < 100000) (hk : ∀ e ∈ es, okI e.v) :
    Calls Tryz.prog 210 #[.pointer (some ⟨p, 0, none⟩), vo] w fun e w' => ∃ vr l', e = .returned vr ∧ l'.Perm (ofEnts L es) ∧ l'.Pairwise (fun a b => aheadR b a = false) ∧ w'.ownsRow w.heap.size 89 6 vr l'.length (rlCells l') ∧ Below w.heap.size w w' := by
  obtain ⟨i0, hi, hz0, hz1, hz2⟩ := info_parts rule_info
  obtain ⟨ao, cap, hvo⟩ : ∃ ao cap, vo = .slice ao es.length cap := by
    rcases ho.2 with ⟨h0, h1⟩ | ⟨g', cap', cur, h0, _⟩
    · exact ⟨none, 0, by rw [h0, h1]⟩
    · exact ⟨_, cap', h0⟩
  subst hvo
  have H0 := Lib.hid h
  have HO := Lib.hid ho
  have HK := Lib.hid hk
  have HL := Lib.hid hl
  clear h ho hk
  go_enter Tryz.func210, Tryz.ntmps210
  go_wp2_with (fail)
  go_loopg [5, 10] es.length (fun gk vr vi wr => ∃ i : Nat, i + gk = es.length ∧ vi = .int .i64 (i : Int) ∧ wr.ownsRow w.heap.size 89 6 vr i (rlCells (ofEnts L (es.take i))) ∧ Kept [] w wr)
  case atStart => exact ⟨0, by omega, rfl, World.ownsRow_nil _ _ _ _, Kept.refl _ _⟩
  case round =>
    obtain ⟨i, hgk, rfl, how, hK⟩ := hrel
    have HOW := Lib.hid how
    have HKE := Lib.hid hK
    clear how hK
    by_cases hlt : i < es.length
    · obtain ⟨ge, hge⟩ : ∃ ge, ao = some ⟨ge, 0, none⟩ := by
        rcases HO.out.2 with ⟨h0, h1⟩ | ⟨g', cap', cur, h0, _⟩
        · omega
        · injection h0 with h0; exact ⟨g', h0⟩
      subst hge
      have hE := own_kept HO.out HKE.out (by simp)
      obtain ⟨e0, e1, e2⟩ := entCells_get es i hlt
      have d0 := hE.cellAt (i * 3) (by omega)
      have d1 := hE.cellAt (i * 3 + 1) (by omega)
      have d2 := hE.cellAt (i * 3 + 2) (by omega)
      rw [e0] at d0
      rw [e1] at d1
      rw [e2] at d2
      have hid := HK.out _ (List.getElem_mem hlt)
      have HNX := Lib.hid (show ofEnts L (es.take (i + 1)) = ofEnts L (es.take i) ++ [(findR L es[i].v).getD noRule] by rw [List.take_add_one, List.getElem?_eq_getElem hlt]; unfold ofEnts; rw [List.map_append]; rfl)
      generalize hen : es[i] = en at *
      have kb := HKE.out.trans (Kept.of_alloc (S := []) wr (.cells #[.int .u32 (en.addr : Int), .int .i64 en.bits, .int .i64 en.v] 405)) (by simp)
      have hxb := heap_alloc_new wr (.cells #[.int .u32 (en.addr : Int), .int .i64 en.bits, .int .i64 en.v] 405)
      have hob := own_kept HOW.out (Kept.of_alloc (S := []) wr (.cells #[.int .u32 (en.addr : Int), .int .i64 en.bits, .int .i64 en.v] 405)) (by simp)
      have HKB := Lib.hid kb.drew
      have HXB := Lib.hid (blk_drew hxb)
      have HOB := Lib.hid (own_kept hob ((Kept.refl [] _).drew) (by simp))
      clear kb hxb hob
      go_upto_region 5 with (fail)
      clear d0 d1 d2
      generalize wr.alloc (.cells #[.int .u32 (en.addr : Int), .int .i64 en.bits, .int .i64 en.v] 405) = w5 at *
      generalize wr.heap.size = bx at *
      have HT := Lib.hid (H0.out.kept HKB.out (by simp) (by simp))
      have c0 := HT.out.head
      have hlk := HT.out.look (w' := w5.drew) rfl hid false
      have cv := cell_of HXB.out 2
      simp only [List.getElem?_toArray, List.getElem?_cons_zero, List.getElem?_cons_succ] at cv
      simp only [Bool.false_eq_true, if_false] at hlk
      generalize (findR L en.v).getD noRule = rr at *
      unfold Rl.val at hlk
      generalize hwd : w5.drew = w6 at *
      go_region_law (refine step_append_lies _ rfl (.tmp 14) (.tmp 22) 183 rfl w.heap.size 89 i0 _ 6 48 Tryz.underlying183 hi hz0 hz1 hz2 rfl (by decide) _ i (rlCells (ofEnts L (es.take i))) rfl ?_ ⟨w6.heap.size, 0, none⟩ 1 1 [.int .i64 rr.id, .int .i64 rr.dev, .int .u32 (rr.addr : Int), .int .i64 rr.bits, .int .i64 rr.prio, .int .i64 rr.out] rfl rfl ?_ ?_ (by omega) ?_ ?_ ?_ _ rfl ?_; (· exact own_kept HOB.out ((Kept.refl [] _).alloc _) (by simp)); (· exact news_atT (by simp)); (· simp [Value.oneCell']); (· unfold maxLen; omega); (· omega); (· have := HKB.out.size; simp; omega); intro g9 cap9 w9 how9 hgr9 hat9 hlt9; have HOW9 := Lib.hid how9; have HGR9 := Lib.hid hgr9; clear how9 hgr9 hat9 hlt9)
      all_goals (
        go_wp2_with (fail)
        go_roundg (gk - 1)
        case measure => omega
        case rel =>
          refine ⟨i + 1, by omega, by go_num, ?_, ?_⟩
          · rw [HNX.out, rlCells_snoc]
            exact HOW9.out
          · exact Kept.grown_rowT (HKB.out.alloc _) HGR9.out (fun g hg => Or.inr (own_pastT HOB.out g hg)))
    · obtain rfl : i = es.length := by omega
      have how := HOW.out
      rw [List.take_length] at how
      have hme : (ofEnts L es).length = es.length := by simp [ofEnts]
      rw [← hme] at how
      have hc := sort_rules how (by rw [hme]; have := HL.out; omega)
      have HOW1 := Lib.hid how
      go_wp2_with (fail)
      refine hc.mono ?_
      rintro e w7 ⟨he, l', hp, hs, how7, k7⟩
      subst he
      have H7 := Lib.hid (And.intro hp (And.intro hs (And.intro how7 k7)))
      clear hc how hp hs how7 k7
      go_wp2_with (fail)
      obtain ⟨hp, hs, how7, k7⟩ := H7.out
      refine bodyPost_ret (v := u5) (by simp [results, Tryz.results210, go_sem]) rfl ⟨u5, l', rfl, hp, hs, ?_, ?_⟩
      · rw [hp.length_eq]; exact how7
      · exact (HKE.out.trans k7 (fun x hx => Or.inr (own_pastT HOW1.out x (by simpa using hx)))).below (Nat.le_refl _) (by simp)
end Go.Proofs.YtjoblahedgpgbaaGreat

namespace Go.Proofs.YtjoblahedgpgbaaGreat
set_option linter.unusedVariables false
set_option linter.unusedSimpArgs false
open Go.RowKit

theorem ents_perm {L : List Rl} {es : List Ent} {q : Rl → Bool} (hn : (L.map (·.id)).Nodup) (h : (es.map (·.v)).Perm ((L.filter q).map (·.id))) : (ofEnts L es).Perm (L.filter q) := by
  have e1 : ofEnts L es = (es.map (·.v)).map fun id => (findR L id).getD noRule := by unfold ofEnts; rw [List.map_map]; rfl
  rw [e1]
  refine (h.map _).trans ?_
  rw [List.map_map]
  have : (L.filter q).map ((fun id => (findR L id).getD noRule) ∘ (·.id)) = L.filter q := by
    conv => rhs; rw [← List.map_id (L.filter q)]
    refine List.map_congr_left fun r hr => ?_
    show (findR L r.id).getD noRule = r
    rw [find_mem hn (List.mem_filter.1 hr).1]
    rfl
  rw [this]
theorem ents_ok {L : List Rl} {es : List Ent} {q : Rl → Bool} (ho : ∀ r ∈ L, r.Ok) (h : (es.map (·.v)).Perm ((L.filter q).map (·.id))) : ∀ e ∈ es, okI e.v := by
  intro e he
  have h1 : e.v ∈ (L.filter q).map (·.id) := h.mem_iff.1 (List.mem_map_of_mem he)
  obtain ⟨r, hr, h2⟩ := List.mem_map.1 h1
  rw [← h2]
  exact (ho r (List.mem_filter.1 hr).1).2.2
theorem ents_len {L : List Rl} {es : List Ent} {q : Rl → Bool} (h : (es.map (·.v)).Perm ((L.filter q).map (·.id))) : es.length ≤ L.length := by
  have := h.length_eq
  rw [List.length_map, List.length_map] at this
  rw [this]
  exact List.length_filter_le _ _

/-- A rule whose prefix has an address. -/
def onWay (a : Nat) (r : Rl) : Bool := decide (r.path.length < 33 ∧ r.path = pth a r.path.length)

set_option maxRecDepth 100000 in
set_option maxHeartbeats 2000000 in
theorem tbest_calls {w : World} {p mb : Nat} {F : List Nat} {L : List Rl} (h : TabAt w p mb F L) (hl : L.length < 100000) (a : Nat) (ha : a < 2 ^ 32) :
    Calls Tryz.prog 205 #[.pointer (some ⟨p, 0, none⟩), .int .u32 (a : Int)] w fun e w' => ∃ l' : List Rl, l'.Perm (L.filter (onWay a)) ∧ l'.Pairwise (fun a b => aheadR b a = false) ∧ e = .returned (.tuple #[(l'.headD noRule).val, .bool (!l'.isEmpty)]) ∧ Below w.heap.size w w' := by
  obtain ⟨B, S, V, hT, hV⟩ := h.tree
  have k0 := (Kept.refl [] w).alloc (.cells #[.int .i64 0, .int .i64 0, .int .u32 0, .int .i64 0, .int .i64 0, .int .i64 0] 89)
  have hX := heap_alloc_new w (.cells #[.int .i64 0, .int .i64 0, .int .u32 0, .int .i64 0, .int .i64 0, .int .i64 0] 89)
  have hper := ofL_perm hV a 33
  have hlen : (ofL V a 33).length ≤ L.length := by
    rw [hper.length_eq, List.length_map]
    exact List.length_filter_le _ _
  have HT := Lib.hid (hT.kept k0 h.lt (by simp))
  have HF := Lib.hid (show ∀ x ∈ F, x < (w.alloc (.cells #[.int .i64 0, .int .i64 0, .int .u32 0, .int .i64 0, .int .i64 0, .int .i64 0] 89)).heap.size from fun x hx => Nat.lt_of_lt_of_le (h.lt x hx) k0.size)
  have HP := Lib.hid hper
  have H0 := Lib.hid h
  have HK0 := Lib.hid k0
  have HX := Lib.hid hX
  clear h hT hV hper hX k0
  go_enter Tryz.func205, Tryz.ntmps205
  go_wp2_with (fail)
  generalize w.alloc (.cells #[.int .i64 0, .int .i64 0, .int .u32 0, .int .i64 0, .int .i64 0, .int .i64 0] 89) = w1 at *
  refine (tof_calls HT.out HF.out a ha (by omega)).mono ?_
  rintro e w2 ⟨vo, es, he, how, hk2, hes⟩
  subst he
  have hpe : (es.map (·.v)).Perm ((L.filter (onWay a)).map (·.id)) := by rw [hes]; exact HP.out
  have k2 := HK0.out.trans (Kept.of_below (S := []) hk2) (by simp)
  have HK2 := Lib.hid k2
  have HB2 := Lib.hid hk2
  have HX2 := Lib.hid ((hk2.block _ (lt_of_block HX.out)).trans HX.out)
  have hc := tsorted_calls (H0.out.kept k2 (by simp) (by simp)) how (by have := ents_len hpe; omega) (ents_ok H0.out.ok hpe)
  have HPE := Lib.hid (ents_perm H0.out.ids hpe)
  clear hk2 how hes hpe k2
  go_wp2_with (fail)
  refine hc.mono ?_
  rintro e w3 ⟨vr, l', he, hp, hs, how3, hk3⟩
  subst he
  have HX3 := Lib.hid ((hk3.block _ (lt_of_block HX2.out)).trans HX2.out)
  have HB3 := Lib.hid (HK2.out.trans (Kept.of_below (S := []) hk3) (by simp))
  have HPP := Lib.hid (hp.trans HPE.out)
  have HS := Lib.hid hs
  have H3 := Lib.hid how3
  have x0 := And.intro (cell_of HX3.out 0) (unfrozen_of HX3.out 0)
  have x1 := And.intro (cell_of HX3.out 1) (unfrozen_of HX3.out 1)
  have x2 := And.intro (cell_of HX3.out 2) (unfrozen_of HX3.out 2)
  have x3 := And.intro (cell_of HX3.out 3) (unfrozen_of HX3.out 3)
  have x4 := And.intro (cell_of HX3.out 4) (unfrozen_of HX3.out 4)
  have x5 := And.intro (cell_of HX3.out 5) (unfrozen_of HX3.out 5)
  simp only [List.getElem?_toArray, List.getElem?_cons_zero, List.getElem?_cons_succ] at x0 x1 x2 x3 x4 x5
  clear hc hp hs hk3
  generalize hbx : w.heap.size = bx at *
  have HBX := Lib.hid hbx
  clear hbx
  rcases l' with _ | ⟨r, l'⟩
  · obtain ⟨ao, cap, rfl⟩ : ∃ ao cap, vr = .slice ao 0 cap := by
      rcases how3.2 with ⟨h0, h1⟩ | ⟨g', cap', cur, h0, _⟩
      · exact ⟨none, 0, h0⟩
      · exact ⟨_, cap', h0⟩
    clear how3
    go_wp2_with (fail)
    simp [bodyPost, results, Tryz.results205, go_sem, x0, x1, x2, x3, x4, x5]
    refine ⟨[], HPP.out, HS.out, ⟨rfl, rfl⟩, ?_⟩
    exact ((((((((HB3.out.mono (S' := [bx]) (by simp)).setCell _ _ (by simp)).setCell _ _ (by simp)).setCell _ _ (by simp)).setCell _ _ (by simp)).setCell _ _ (by simp)).setCell _ _ (by simp)).below (Nat.le_refl _) (by simp [HBX.out]))
  · obtain ⟨g, cap, rfl⟩ : ∃ g cap, vr = .slice (some ⟨g, 0, none⟩) (l'.length + 1) cap := by
      rcases how3.2 with ⟨h0, h1⟩ | ⟨g', cap', cur, h0, _⟩
      · simp at h1
      · exact ⟨g', cap', h0⟩
    have d0 := how3.cellAt 0 (by have : (r :: l').length = l'.length + 1 := rfl; omega)
    have d1 := how3.cellAt 1 (by have : (r :: l').length = l'.length + 1 := rfl; omega)
    have d2 := how3.cellAt 2 (by have : (r :: l').length = l'.length + 1 := rfl; omega)
    have d3 := how3.cellAt 3 (by have : (r :: l').length = l'.length + 1 := rfl; omega)
    have d4 := how3.cellAt 4 (by have : (r :: l').length = l'.length + 1 := rfl; omega)
    have d5 := how3.cellAt 5 (by have : (r :: l').length = l'.length + 1 := rfl; omega)
    rw [show rlCells (r :: l') = r.cells ++ rlCells l' from rfl] at d0 d1 d2 d3 d4 d5
    simp [Rl.cells] at d0 d1 d2 d3 d4 d5
    clear how3
    go_wp2_with (fail)
    simp [bodyPost, results, Tryz.results205, go_sem, x0, x1, x2, x3, x4, x5]
    refine ⟨r :: l', HPP.out, HS.out, ⟨rfl, by simp⟩, ?_⟩
    exact ((((((((HB3.out.mono (S' := [bx]) (by simp)).setCell _ _ (by simp)).setCell _ _ (by simp)).setCell _ _ (by simp)).setCell _ _ (by simp)).setCell _ _ (by simp)).setCell _ _ (by simp)).below (Nat.le_refl _) (by simp [HBX.out]))

set_option maxRecDepth 100000 in
set_option maxHeartbeats 2000000 in
theorem trules_calls {w : World} {p mb : Nat} {F : List Nat} {L : List Rl} (h : TabAt w p mb F L) (hl : L.length < 100000) :
    Calls Tryz.prog 147 #[.pointer (some ⟨p, 0, none⟩)] w fun e w' => ∃ (vr : Value) (l' : List Rl), l'.Perm L ∧ l'.Pairwise (fun a b => aheadR b a = false) ∧ e = .returned vr ∧ w'.ownsRow w.heap.size 89 6 vr l'.length (rlCells l') ∧ Below w.heap.size w w' := by
  obtain ⟨B, S, V, hT, hV⟩ := h.tree
  have hper := subL_perm hV 32 []
  have hall : (L.filter fun r => decide ([] <+: r.path ∧ r.path.length ≤ ([] : List Bool).length + 32)) = L := by
    refine List.filter_eq_self.2 fun r hr => decide_eq_true ⟨List.nil_prefix, ?_⟩
    obtain ⟨_, hrt, _⟩ := h.ok r hr
    obtain ⟨hb0, hb1, _⟩ := (rtB_iff _).1 hrt
    have h0 : 0 ≤ r.bits := hb0
    have h1 : r.bits ≤ 32 := hb1
    unfold Rl.path
    rw [pth_length]
    simp
    omega
  have hlen : (subL V 32 []).length ≤ L.length := by
    rw [hper.length_eq, List.length_map]
    exact List.length_filter_le _ _
  have HT := Lib.hid hT
  have HP := Lib.hid hper
  have HALL := Lib.hid hall
  have H0 := Lib.hid h
  go_enter Tryz.func147, Tryz.ntmps147
  go_wp2_with (fail)
  refine (tall_calls HT.out H0.out.lt (by omega)).mono ?_
  rintro e w2 ⟨vo, es, he, how, hes, hk2⟩
  subst he
  have hpe : (es.map (·.v)).Perm ((L.filter fun r => decide ([] <+: r.path ∧ r.path.length ≤ ([] : List Bool).length + 32)).map (·.id)) := by rw [hes]; exact HP.out
  have k2 := Kept.of_below (S := []) hk2
  have HK2 := Lib.hid hk2
  have hc := tsorted_calls (H0.out.kept k2 (by simp) (by simp)) how (by have := ents_len hpe; omega) (ents_ok H0.out.ok hpe)
  have hpp := ents_perm H0.out.ids hpe
  rw [HALL.out] at hpp
  have HPE := Lib.hid hpp
  clear hT hV hper hall h how hes hpe k2 hk2 hpp
  go_wp2_with (fail)
  refine hc.mono ?_
  rintro e w3 ⟨vr, l', he, hp, hs, how3, hk3⟩
  subst he
  have H3 := Lib.hid (And.intro hp (And.intro hs (And.intro how3 hk3)))
  clear hc hp hs how3 hk3
  go_wp2_with (fail)
  obtain ⟨hp, hs, how3, hk3⟩ := H3.out
  refine bodyPost_ret (v := vr) (by simp [results, Tryz.results147, go_sem]) rfl ⟨vr, l', hp.trans HPE.out, hs, rfl, ⟨how3.1, ?_⟩, HK2.out.trans (hk3.mono HK2.out.size)⟩
  rcases how3.2 with h1 | ⟨g', cap, cur, h1, h2, r⟩
  · exact Or.inl h1
  · exact Or.inr ⟨g', cap, cur, h1, Nat.le_trans HK2.out.size h2, r⟩

/-- A rule whose prefix meets one (both right). -/
def meetsW (a n : Nat) (r : Rl) : Bool := decide ((r.path.length < n ∧ r.path = pth a r.path.length) ∨ pth a n <+: r.path)
theorem meets_perm {V : List Bool → List Int} {L : List Rl} (h : TVals V L) (ho : ∀ r ∈ L, r.Ok) (a n : Nat) (hn : n ≤ 32) : (ofL V a n ++ subL V (32 - n) (pth a n)).Perm ((L.filter (meetsW a n)).map (·.id)) := by
  refine (List.Perm.append (ofL_perm h a n) (subL_perm h (32 - n) (pth a n))).trans ?_
  rw [← List.map_append]
  refine List.Perm.map _ ?_
  have hlen : ∀ r ∈ L, r.path.length ≤ 32 := fun r hr => by
    obtain ⟨_, hrt, _⟩ := ho r hr
    obtain ⟨hb0, hb1, _⟩ := (rtB_iff _).1 hrt
    have h0 : 0 ≤ r.bits := hb0
    have h1 : r.bits ≤ 32 := hb1
    unfold Rl.path
    rw [pth_length]
    omega
  have e2 : L.filter (fun r => decide (pth a n <+: r.path ∧ r.path.length ≤ (pth a n).length + (32 - n))) = L.filter fun r => decide (pth a n <+: r.path) := by
    refine List.filter_congr fun r hr => ?_
    have := hlen r hr
    rw [pth_length]
    exact decide_eq_decide.2 ⟨fun h => h.1, fun h => ⟨h, by omega⟩⟩
  rw [e2]
  have := filter_split3 (meetsW a n) (fun r : Rl => decide (r.path.length < n ∧ r.path = pth a r.path.length)) (fun r => decide (pth a n <+: r.path)) (fun _ => false) (fun r => ?_) (fun r e => ?_) (fun r e => rfl) (fun r e => rfl) L
  · rwa [show L.filter (fun _ => false) = [] from List.filter_eq_nil_iff.2 fun _ _ => by simp, List.append_nil] at this
  · unfold meetsW
    rw [Bool.eq_iff_iff]
    simp only [Bool.or_eq_true, decide_eq_true_eq, Bool.false_eq_true, or_false]
  · have e := of_decide_eq_true e
    refine decide_eq_false fun h2 => ?_
    have := h2.length_le
    rw [pth_length] at this
    omega

set_option maxRecDepth 100000 in
set_option maxHeartbeats 2000000 in
theorem tmeeting_calls {w : World} {p mb : Nat} {F : List Nat} {L : List Rl} (h : TabAt w p mb F L) (hl : L.length < 100000) (a n : Nat) (ha : a < 2 ^ 32) (hn : n ≤ 32) (hr : rtB ⟨a, n⟩ = true) :
    Calls Tryz.prog 231 #[.pointer (some ⟨p, 0, none⟩), .agg #[.int .u32 (a : Int), .int .i64 (n : Int)]] w fun e w' => ∃ (vr : Value) (l' : List Rl), l'.Perm (L.filter (meetsW a n)) ∧ l'.Pairwise (fun a b => aheadR b a = false) ∧ e = .returned vr ∧ w'.ownsRow w.heap.size 89 6 vr l'.length (rlCells l') ∧ Below w.heap.size w w' := by
  obtain ⟨B, S, V, hT, hV⟩ := h.tree
  have hper := meets_perm hV h.ok a n hn
  have hlen : (ofL V a n).length + (subL V (32 - n) (pth a n)).length ≤ L.length := by
    rw [← List.length_append, hper.length_eq, List.length_map]
    exact List.length_filter_le _ _
  have k0 := (Kept.refl [] w).alloc (.cells #[.int .u32 (a : Int), .int .i64 (n : Int)] 48)
  have hX := blk_drew (heap_alloc_new w (.cells #[.int .u32 (a : Int), .int .i64 (n : Int)] 48))
  have dx := And.intro (cell_of hX 0) (cell_of hX 1)
  simp only [List.getElem?_toArray, List.getElem?_cons_zero, List.getElem?_cons_succ] at dx
  have HK0 := Lib.hid k0.drew
  have HP := Lib.hid hper
  have H0 := Lib.hid h
  have HT := Lib.hid (hT.kept k0.drew h.lt (by simp))
  have HN := Lib.hid hlen
  go_enter Tryz.func231, Tryz.ntmps231
  go_wp2_with (fail)
  clear hT hV hper h hX k0
  generalize w.alloc (.cells #[.int .u32 (a : Int), .int .i64 (n : Int)] 48) = w1 at *
  generalize hwd : w1.drew = wd at *
  have hm := tmeet_calls HT.out (fun x hx => Nat.lt_of_lt_of_le (H0.out.lt x hx) HK0.out.size) a n ha hn hr (by have := HN.out; omega)
  have HM := Lib.hid hm
  have HD0 := Lib.hid dx
  clear hm
  go_region_law (first | (go_simp; go_at_call 262; refine HM.out.mono ?_; rintro e w2 ⟨vo, es, he, how, hes, hk2⟩; subst he; have hpe : (es.map (·.v)).Perm ((L.filter (meetsW a n)).map (·.id)) := (by rw [hes]; exact HP.out); have HK2 := Lib.hid (HK0.out.trans (Kept.of_below (S := []) hk2) (by simp)); have HC := Lib.hid (tsorted_calls (H0.out.kept HK2.out (by simp) (by simp)) how (by have := ents_len hpe; omega) (ents_ok H0.out.ok hpe)); have HPE := Lib.hid (ents_perm H0.out.ids hpe); clear how hes hk2 hpe) | (go_simp; go_at_call 210; refine HC.out.mono ?_; rintro e w3 ⟨vr, l', he, hp, hs, how3, hk3⟩; subst he; have H3 := Lib.hid (And.intro hp (And.intro hs (And.intro how3 hk3))); clear hp hs how3 hk3))
  all_goals (
    go_wp2_with (fail)
    obtain ⟨hp, hs, how3, hk3⟩ := H3.out
    refine bodyPost_ret (v := vr) (by simp [results, Tryz.results231, go_sem]) rfl ⟨vr, l', hp.trans HPE.out, hs, rfl, ⟨how3.1, ?_⟩, (HK2.out.trans (Kept.of_below (S := []) hk3) (by simp)).below (Nat.le_refl _) (by simp)⟩
    rcases how3.2 with h1 | ⟨g', cap, cur, h1, h2, r⟩
    · exact Or.inl h1
    · exact Or.inr ⟨g', cap, cur, h1, Nat.le_trans HK2.out.size h2, r⟩)
end Go.Proofs.YtjoblahedgpgbaaGreat

namespace Go.Proofs.YtjoblahedgpgbaaGreat
set_option linter.unusedVariables false
set_option linter.unusedSimpArgs false
open Go.RowKit

theorem rlCells_at (l : List Rl) (i : Nat) (h : i < l.length) : ∀ j, j < 6 → (rlCells l)[i * 6 + j]? = some (l[i].cells[j]!) := by
  intro j hj
  rw [rlCells_get l (i * 6 + j) (by omega), show (i * 6 + j) / 6 = i by omega, show (i * 6 + j) % 6 = j by omega, getElem!_pos l i h]

set_option maxRecDepth 100000 in
set_option maxHeartbeats 2000000 in
theorem tclone_calls {w : World} {p mb : Nat} {F : List Nat} {L : List Rl} (h : TabAt w p mb F L) (hl : L.length < 100000) :
    Calls Tryz.prog 138 #[.pointer (some ⟨p, 0, none⟩)] w fun e w' => ∃ p2 mb2 F2, e = .returned (.pointer (some ⟨p2, 0, none⟩)) ∧ TabAt w' p2 mb2 F2 L ∧ (∀ x ∈ F2, w.heap.size ≤ x) ∧ w.heap.size ≤ mb2 ∧ Below w.heap.size w w' := by
  have H0 := Lib.hid h
  clear h
  go_enter Tryz.func138, Tryz.ntmps138
  go_wp2_with (fail)
  refine (tnew_calls w).mono ?_
  rintro e w1 ⟨p2, mb2, he, hT, hp, hm, hk⟩
  subst he
  have HT := Lib.hid hT
  have HK := Lib.hid hk
  clear hT hk
  go_wp2_with (fail)
  refine (trules_calls (H0.out.kept (Kept.of_below (S := []) HK.out) (by simp) (by simp)) hl).mono ?_
  rintro e w2 ⟨vr, l', hperm, hs, he, how, hk2⟩
  subst he
  have hll := hperm.length_eq
  obtain ⟨ao, cap, hvr⟩ : ∃ ao cap, vr = .slice ao l'.length cap := by
    rcases how.2 with ⟨h0, h1⟩ | ⟨g', cap', cur, h0, _⟩
    · exact ⟨none, 0, by rw [h0, h1]⟩
    · exact ⟨_, cap', h0⟩
  subst hvr
  have HPM := Lib.hid hperm
  have HOW := Lib.hid how
  have HT2 := Lib.hid (HT.out.kept (Kept.of_below (S := []) hk2) (by simp) (by simp))
  have HK2 := Lib.hid (HK.out.trans (hk2.mono HK.out.size))
  have HPA := Lib.hid (own_pastT how)
  have hmb2 := HT.out.map.lt
  have hp2 := HT.out.lt p2 (by simp)
  have hnd : (l'.map (·.id)).Nodup := (hperm.map _).nodup_iff.2 H0.out.ids
  have HND := Lib.hid hnd
  have HOK := Lib.hid (show ∀ r ∈ l', r.Ok from fun r hr => H0.out.ok r (hperm.mem_iff.1 hr))
  clear hperm hs how hk2 hnd
  go_wp2_with (fail)
  go_loopg [10] l'.length (fun gk vi wr => ∃ (i : Nat) (F2 : List Nat), i + gk = l'.length ∧ vi = .int .i64 (i : Int) ∧ TabAt wr p2 mb2 F2 (l'.take i).reverse ∧ (∀ x ∈ F2, w.heap.size ≤ x) ∧ (∀ g, ao.map (·.block) = some g → g ∉ F2 ∧ g ≠ mb2) ∧ wr.ownsRow w1.heap.size 89 6 (.slice ao l'.length cap) l'.length (rlCells l') ∧ Below w.heap.size w wr)
  case atStart =>
    refine ⟨0, [p2], by omega, rfl, HT2.out, by simpa using hp, fun g hg => ?_, HOW.out, HK2.out⟩
    have := HPA.out g (by cases ao with | none => cases hg | some x => simpa [Value.ownBlock] using hg)
    simp
    omega
  case round =>
    obtain ⟨i, F2, hgk, rfl, hT3, hF2, hg2, how3, hk3⟩ := hrel
    have HT3 := Lib.hid hT3
    have HF2 := Lib.hid hF2
    have HG2 := Lib.hid hg2
    have HO3 := Lib.hid how3
    have HK3 := Lib.hid hk3
    by_cases hlt : i < l'.length
    · obtain ⟨g, hg⟩ : ∃ g, ao = some ⟨g, 0, none⟩ := by
        rcases how3.2 with ⟨h0, h1⟩ | ⟨g', cap', cur, h0, _⟩
        · omega
        · injection h0 with h0; exact ⟨g', h0⟩
      subst hg
      have hc := fun j (hj : j < 6) => (how3.cellAt (i * 6 + j) (by omega)).trans (rlCells_at l' i hlt j hj)
      have d0 := hc 0 (by omega)
      have d1 := hc 1 (by omega)
      have d2 := hc 2 (by omega)
      have d3 := hc 3 (by omega)
      have d4 := hc 4 (by omega)
      have d5 := hc 5 (by omega)
      have hrm := List.getElem_mem hlt
      have htk : l'.take (i + 1) = l'.take i ++ [l'[i]] := by rw [List.take_add_one, List.getElem?_eq_getElem hlt]; rfl
      have HTK := Lib.hid htk
      have HRM := Lib.hid hrm
      have hfn : findR (l'.take i).reverse l'[i].id = none := by
        refine find_none.2 fun r hr he => ?_
        have hn := HND.out
        rw [← List.take_append_drop (i + 1) l', List.map_append, htk, List.map_append] at hn
        have h1 := (List.nodup_append.1 hn).1
        exact (List.nodup_append.1 h1).2.2 r.id (List.mem_map_of_mem (List.mem_reverse.1 hr)) l'[i].id (by simp) he
      have HFN := Lib.hid hfn
      clear hc hT3 hF2 hg2 how3 hk3 htk hrm hfn
      generalize l'[i] = r at *
      simp [Rl.cells] at d0 d1 d2 d3 d4 d5
      have kb := Kept.of_alloc (S := []) wr (.cells #[.int .i64 r.id, .int .i64 r.dev, .int .u32 (r.addr : Int), .int .i64 r.bits, .int .i64 r.prio, .int .i64 r.out] 89)
      have HTB := Lib.hid (HT3.out.kept kb (by simp) (by simp))
      have HOB := Lib.hid (own_kept HO3.out kb (by simp))
      have HKB := Lib.hid (HK3.out.alloc HK3.out.size (.cells #[.int .i64 r.id, .int .i64 r.dev, .int .u32 (r.addr : Int), .int .i64 r.bits, .int .i64 r.prio, .int .i64 r.out] 89))
      go_wp2_with (fail)
      obtain ⟨hr1, hr2, hr3⟩ := HOK.out r HRM.out
      have hca := tabadd_calls HTB.out (by rw [List.length_reverse, List.length_take]; omega) r hr1 hr3
      have haddt : addT (l'.take i).reverse r = (r :: (l'.take i).reverse, 0) := by unfold addT; rw [hr2, HFN.out]; rfl
      rw [haddt] at hca
      refine Calls.mono hca ?_
      rintro e w4 ⟨he, F4, hT4, hf4, hk4⟩
      subst he
      have hg3 := HG2.out g rfl
      have hgl : g < wr.heap.size := (HO3.out.lt g rfl).2
      have HT4 := Lib.hid (show TabAt w4 p2 mb2 F4 (l'.take (i + 1)).reverse by rw [HTK.out, List.reverse_append]; exact hT4)
      have hzb : wr.heap.size ≤ (wr.alloc (.cells #[.int .i64 r.id, .int .i64 r.dev, .int .u32 (r.addr : Int), .int .i64 r.bits, .int .i64 r.prio, .int .i64 r.out] 89)).heap.size := by simp
      have hwz := HK3.out.size
      have HO4 := Lib.hid (own_kept HOB.out hk4 (by intro y hy hm; simp [Value.ownBlock] at hy; subst hy; rcases List.mem_cons.1 hm with e | hm; exact hg3.2 e; exact hg3.1 hm))
      have HF4 := Lib.hid (show ∀ x ∈ F4, w.heap.size ≤ x from fun x hx => by rcases hf4 x hx with h1 | h1; exact HF2.out x h1; omega)
      have HG4 := Lib.hid (show ∀ g', (some (⟨g, 0, none⟩ : Addr)).map (·.block) = some g' → g' ∉ F4 ∧ g' ≠ mb2 from fun g' hg' => by
        obtain rfl : g = g' := by simpa using hg'
        refine ⟨fun hm => ?_, hg3.2⟩
        rcases hf4 g hm with h1 | h1
        · exact hg3.1 h1
        · omega)
      have HK4 := Lib.hid (HKB.out.trans (hk4.below (B := w.heap.size) (by omega) (by intro x hx; rcases List.mem_cons.1 hx with rfl | hx; exact hm; exact HF2.out x hx)))
      clear hca hT4 hf4 hk4
      go_wp2_with (fail)
      go_roundg (gk - 1)
      case measure => omega
      case rel => exact ⟨i + 1, F4, by omega, by go_num, HT4.out, HF4.out, HG4.out, HO4.out, HK4.out⟩
    · obtain rfl : i = l'.length := by omega
      go_wp2_with (fail)
      refine bodyPost_ret (v := .pointer (some ⟨p2, 0, none⟩)) (by simp [results, Tryz.results138, go_sem]) rfl ⟨p2, mb2, F2, rfl, HT3.out.perm ?_, HF2.out, hm, HK3.out⟩
      rw [List.take_length]
      exact (List.reverse_perm _).trans HPM.out
end Go.Proofs.YtjoblahedgpgbaaGreat
