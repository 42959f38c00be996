/- The values of all prefixes that have an address: the walk of Of. -/
import Derived.Test.YtjoblahedgpgbaaGreatTrieDrop
namespace Go.Proofs.YtjoblahedgpgbaaGreat
set_option linter.unusedVariables false
set_option linter.unusedSimpArgs false
open Go.RowKit

structure Ent where
  addr : Nat
  bits : Int
  v : Int
def entCells (l : List Ent) : List Value := l.flatMap fun e => [.int .u32 (e.addr : Int), .int .i64 e.bits, .int .i64 e.v]
theorem entCells_length (l : List Ent) : (entCells l).length = l.length * 3 := by
  induction l with
  | nil => rfl
  | cons e l ih =>
    rw [show entCells (e :: l) = [.int .u32 (e.addr : Int), .int .i64 e.bits, .int .i64 e.v] ++ entCells l from rfl, List.length_append, ih, List.length_cons]
    simp
    omega
theorem entCells_snoc (l : List Ent) (e : Ent) : entCells (l ++ [e]) = entCells l ++ [.int .u32 (e.addr : Int), .int .i64 e.bits, .int .i64 e.v] := by simp [entCells]
theorem ent_info : (Tryz.prog.info? 405).map (fun i => (i.zero, i.size, i.bytes)) = some (some (.agg #[.int .u32 0, .int .i64 0, .int .i64 0]), 3, 24) := by kernel_rfl

/-- The values of the first m nodes on the way. -/
def ofL (V : List Bool → List Int) (a m : Nat) : List Int := (List.range m).flatMap fun j => V (pth a j)
theorem ofL_succ (V : List Bool → List Int) (a m : Nat) : ofL V a (m + 1) = ofL V a m ++ V (pth a m) := by simp [ofL, List.range_succ]
theorem ofL_mono (V : List Bool → List Int) (a : Nat) : ∀ d m, (ofL V a m).length ≤ (ofL V a (m + d)).length
  | 0, m => Nat.le_refl _
  | d + 1, m => by
    have := ofL_mono V a d m
    rw [← Nat.add_assoc, ofL_succ, List.length_append]
    omega
theorem ofL_le (V : List Bool → List Int) (a : Nat) {m n : Nat} (h : m ≤ n) : (ofL V a m).length ≤ (ofL V a n).length := by
  have := ofL_mono V a (n - m) m
  rwa [show m + (n - m) = n by omega] at this
theorem ofL_end {V : List Bool → List Int} {a m : Nat} : ∀ d, (∀ j, m ≤ j → V (pth a j) = []) → ofL V a (m + d) = ofL V a m
  | 0, _ => rfl
  | d + 1, h => by rw [← Nat.add_assoc, ofL_succ, h _ (by omega), List.append_nil, ofL_end d h]

theorem take_snoc_i64 {l : List Int} {t : Nat} (h : t < l.length) : l.take (t + 1) = l.take t ++ [l.getD t 0] := by
  rw [List.take_add_one, List.getD_eq_getElem?_getD, List.getElem?_eq_getElem h]
  rfl

/-- The way's nodes past the last one have no values. -/
theorem TreeAt.past {w : World} {p : Nat} {F : List Nat} {B : List Bool → Option (Nat × Nat)} {S : List Bool → Value} {V : List Bool → List Int} (h : TreeAt w p F B S V) {a m : Nat} (hn : B (pth a (m + 1)) = none) (j : Nat) (hj : m + 1 ≤ j) : V (pth a j) = [] := by
  cases hb : B (pth a j) with
  | none => exact h.empty _ hb
  | some x =>
    have := h.pre a j (m + 1) hj (by rw [hb]; rfl)
    rw [hn] at this
    cases this

set_option maxRecDepth 100000 in
set_option maxHeartbeats 2000000 in
theorem tof_calls {w : World} {p : Nat} {F : List Nat} {B : List Bool → Option (Nat × Nat)} {S : List Bool → Value} {V : List Bool → List Int} (h : TreeAt w p F B S V) (hF : ∀ x ∈ F, x < w.heap.size) (a : Nat) (ha : a < 2 ^ 32) (hN : (ofL V a 33).length ≤ 1000000) :
    Calls Tryz.prog 239 #[.pointer (some ⟨p, 1, none⟩), .int .u32 (a : Int)] w fun e w' => ∃ vo es, e = .returned vo ∧ w'.ownsRow w.heap.size 405 3 vo es.length (entCells es) ∧ Below w.heap.size w w' ∧ es.map (·.v) = ofL V a 33 := by
  obtain ⟨i0, hi, hz0, hz1, hz2⟩ := info_parts ent_info
  have HT := Lib.hid h
  have HF := Lib.hid hF
  have HN := Lib.hid hN
  have hway := Lib.hid (way_there h hF a 32 ha (by omega))
  have HOF := Lib.hid (fun w' n hn => cof_calls w' a n ha hn)
  clear h hF hN
  go_enter Tryz.func239, Tryz.ntmps239
  go_wp2_with (fail)
  refine hway.out.mono ?_
  rintro e w1 ⟨m, vl, he, hm, hall, hlast, how, k1⟩
  subst he
  obtain ⟨s0, cap0, rfl, hsb, hsz⟩ := how.form (by omega)
  have HL := Lib.hid (fun j (hj : j ≤ m) => (how.cellAt j (by omega)).trans (wayL_at B a (m + 1) (by omega)))
  have HT1 := Lib.hid (HT.out.kept (Kept.of_below (S := []) k1) HF.out (by simp))
  have HALL := Lib.hid hall
  have HEND : ofL V a 33 = ofL V a (m + 1) := by
    rcases Nat.lt_or_ge m 32 with h1 | h1
    · have := ofL_end (V := V) (a := a) (m := m + 1) (32 - m) (fun j hj => HT1.out.past (hlast h1) j hj)
      rwa [show m + 1 + (32 - m) = 33 by omega] at this
    · obtain rfl : m = 32 := by omega
      rfl
  have HEND := Lib.hid HEND
  have K1 := Lib.hid k1
  clear how hall hlast k1 hway
  go_wp2_with (fail)
  go_loopg [5, 17] (m + 1) (fun gk vo vi wr => ∃ (i : Nat) (es : List Ent), i + gk = m + 1 ∧ vi = .int .i64 (i : Int) ∧ wr.ownsRow w1.heap.size 405 3 vo es.length (entCells es) ∧ es.map (·.v) = ofL V a i ∧ Kept [] w1 wr)
  case atStart => exact ⟨0, [], by omega, rfl, World.ownsRow_nil _ _ _ _, rfl, Kept.refl _ _⟩
  case round =>
    obtain ⟨i, es, hgk, rfl, how, hes, hK⟩ := hrel
    have HO := Lib.hid how
    have HES := Lib.hid hes
    have HK := Lib.hid hK
    clear how hes hK
    by_cases hlt : i < m + 1
    · have hci := HK.out.cell (HL.out i (by omega)) (by simp)
      obtain ⟨⟨g, o⟩, hgo⟩ := Option.isSome_iff_exists.1 (HALL.out i (by omega))
      rw [hgo] at hci
      unfold kidV at hci
      obtain ⟨n1, n2, n3, n4, n5⟩ := HT1.out.node _ _ _ hgo
      have hva := HT1.out.vals (pth a i) (by rw [hgo]; rfl)
      obtain ⟨aoV, capV, hSV⟩ : ∃ ao cap, S (pth a i) = .slice ao (V (pth a i)).length cap := by
        rcases hva.2 with ⟨h0, h1⟩ | ⟨g', cap', cur, h0, _⟩
        · exact ⟨none, 0, by rw [h0, h1]⟩
        · exact ⟨_, cap', h0⟩
      have c0 := HK.out.cell n2 (by simp)
      rw [hSV] at c0 hva
      have HVA := Lib.hid hva
      have hle := ofL_le V a (m := i + 1) (n := 33) (by omega)
      rw [ofL_succ, List.length_append] at hle
      have hN1 := HN.out
      have HOL := Lib.hid (ofL_succ V a i)
      have hesl : es.length = (ofL V a i).length := by rw [← HES.out, List.length_map]
      clear hva hSV n2 n3 n4 n5
      generalize hVV : V (pth a i) = vs at *
      have hi33 : i < 33 := by omega
      go_wp2_with (fail)
      go_loopg [5, 27] vs.length (fun gk2 vo vt wq => ∃ (t : Nat) (es2 : List Ent), t + gk2 = vs.length ∧ vt = .int .i64 (t : Int) ∧ wq.ownsRow w1.heap.size 405 3 vo es2.length (entCells es2) ∧ es2.map (·.v) = ofL V a i ++ vs.take t ∧ Kept [] w1 wq)
      case atStart => exact ⟨0, es, by omega, rfl, HO.out, by rw [HES.out]; simp, HK.out⟩
      case round =>
        obtain ⟨t, es2, hgk2, rfl, how2, hes2, hK2⟩ := hrel
        have HO2 := Lib.hid how2
        have HES2 := Lib.hid hes2
        have HK2 := Lib.hid hK2
        have hwz := hK2.size
        clear how2 hes2 hK2
        by_cases hlt2 : t < vs.length
        · have hesl2 : es2.length < 1000000 := by
            have e1 : es2.length = (ofL V a i).length + t := by rw [← List.length_map (f := (·.v)), HES2.out, List.length_append, List.length_take]; omega
            omega
          obtain ⟨gv, hgv⟩ : ∃ gv, aoV = some ⟨gv, 0, none⟩ := by
            rcases HVA.out.2 with ⟨h0, h1⟩ | ⟨g', cap', cur, h0, _⟩
            · omega
            · injection h0 with h0; exact ⟨g', h0⟩
          subst hgv
          have hcv := HVA.out.cellAt t (by omega)
          rw [List.getElem?_map, List.getElem?_eq_getElem hlt2] at hcv
          have hts := take_snoc_i64 hlt2
          have hcv2 : wr.cell? ⟨gv, t, none⟩ = some (.int .i64 (vs.getD t 0)) := by
            rw [List.getD_eq_getElem?_getD, List.getElem?_eq_getElem hlt2]
            exact HK2.out.cell hcv (by simp)
          have HTS := Lib.hid hts
          clear hcv hts hesl
          generalize vs.getD t 0 = x at *
          go_wp2_with (fail)
          refine (HOF.out _ i (by omega)).mono ?_
          rintro e w5 ⟨he, k5⟩
          subst he
          have HK5 := Lib.hid (HK2.out.trans (Kept.of_below (S := []) k5) (by simp))
          have HO5 := Lib.hid (own_kept HO2.out (Kept.of_below (S := []) k5) (by simp))
          have hz5 := k5.size
          clear k5 HO2
          generalize a / 2 ^ (32 - i) * 2 ^ (32 - i) = z at *
          go_wp2_with (at_builtin; refine wpList_append_lies _ rfl (.tmp 31) (.tmp 37) 350 rfl w1.heap.size 405 i0 _ 3 24 Tryz.underlying350 hi hz0 hz1 hz2 rfl (by decide) _ es2.length (entCells es2) rfl ?_ ⟨w5.heap.size, 0, none⟩ 1 1 [.int .u32 (z : Int), .int .i64 (i : Int), .int .i64 x] rfl rfl ?_ ?_ (by omega) ?_ ?_ ?_ _ rfl ?_; (· exact own_kept HO5.out ((Kept.refl [] _).alloc _) (by simp)); (· exact news_atT (by simp)); (· simp [Value.oneCell']); (· unfold maxLen; omega); (· omega); (· simp; omega); intro g9 cap9 w9 how9 hgr9 hat9 hlt9; have HOW9 := Lib.hid how9; have HGR9 := Lib.hid hgr9; clear how9 hgr9 hat9 hlt9)
          go_roundg (gk - 1)
          case measure => omega
          case rel =>
            refine ⟨t + 1, es2 ++ [⟨z, i, x⟩], by omega, by go_num, ?_, ?_, Kept.grown_rowT (HK5.out.alloc _) HGR9.out (fun g hg => Or.inr (own_pastT HO5.out g hg))⟩
            · rw [List.length_append, entCells_snoc]
              exact HOW9.out
            · rw [List.map_append, HES2.out, HTS.out, List.append_assoc]
              rfl
        · obtain rfl : t = vs.length := by omega
          go_wp2_with (fail)
          go_roundg (m + 1 - (i + 1))
          case measure => omega
          case rel => exact ⟨i + 1, es2, by omega, by go_num, HO2.out, by rw [HES2.out, HOL.out, List.take_length], HK2.out⟩
    · obtain rfl : i = m + 1 := by omega
      go_wp2_with (fail)
      go_ret
      refine ⟨_, es, rfl, ⟨HO.out.1, ?_⟩, K1.out.trans (HK.out.below K1.out.size (by simp)), by rw [HES.out, HEND.out]⟩
      rcases HO.out.2 with h1 | ⟨g', cap, cur, h1, h2, r⟩
      · exact Or.inl h1
      · exact Or.inr ⟨g', cap, cur, h1, Nat.le_trans K1.out.size h2, r⟩

end Go.Proofs.YtjoblahedgpgbaaGreat
