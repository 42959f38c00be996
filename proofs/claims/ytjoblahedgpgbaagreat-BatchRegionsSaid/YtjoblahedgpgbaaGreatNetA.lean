/- Nets in memory. · Nets: how many rules; whether there is one. · Nets: a rule that goes. · Nets: a rule that comes. -/
import Derived.Test.YtjoblahedgpgbaaGreatTopG
import Derived.Test.YtjoblahedgpgbaaGreatPlay
import Derived.Test.YtjoblahedgpgbaaGreatArgsO
namespace Go.Proofs.YtjoblahedgpgbaaGreat
set_option linter.unusedVariables false
set_option linter.unusedSimpArgs false
open Go.RowKit

/-- A table of a net: where it lies, and its rules. -/
structure TD where
  p : Nat
  mb : Nat
  F : List Nat
  L : List Rl
def TD.foot (t : TD) : List Nat := t.mb :: t.F
def tdV (t : TD) : Value := .pointer (some ⟨t.p, 0, none⟩)

structure NetAt (w : World) (B nb : Nat) (vp vl va vt : Value) (ts : List TD) : Prop where
  head : w.heap[nb]? = some (.cells #[vp, vl, va, vt] 173 (0, 0))
  row : w.ownsRow B 174 1 vt ts.length (ts.map tdV)
  tab : ∀ t ∈ ts, TabAt w t.p t.mb t.F t.L
  apart : ts.Pairwise fun a b => ∀ x ∈ a.foot, x ∉ b.foot
  far : ∀ t ∈ ts, nb ∉ t.foot ∧ ∀ g, vt.ownBlock = some g → g ∉ t.foot
  lo : B ≤ nb ∧ ∀ t ∈ ts, ∀ x ∈ t.foot, B ≤ x
  size : B ≤ w.heap.size

variable {w w' : World} {B nb : Nat} {vp vl va vt : Value} {ts : List TD}
theorem own_inN {w : World} {base : Nat} {e : TypeId} {size : Nat} {v : Value} {n : Nat} {xs : List Value} (h : w.ownsRow base e size v n xs) {g : Nat} (hg : v.ownBlock = some g) : g < w.heap.size := by
  rcases h.2 with ⟨rfl, _⟩ | ⟨g', cap, cur, rfl, h1, h2, _⟩
  · cases hg
  · cases hg
    exact (Array.getElem?_eq_some_iff.1 h2).1
theorem TabAt.foot_lt {p mb : Nat} {F : List Nat} {L : List Rl} (h : TabAt w p mb F L) : ∀ x ∈ mb :: F, x < w.heap.size := by
  intro x hx
  rcases List.mem_cons.1 hx with rfl | hx
  · exact h.map.lt
  · exact h.lt x hx
theorem NetAt.below (h : NetAt w B nb vp vl va vt ts) (k : Below w.heap.size w w') : NetAt w' B nb vp vl va vt ts :=
  ⟨(k.block _ (lt_of_block h.head)).trans h.head, own_kept h.row (Kept.of_below (S := []) k) (by simp), fun t ht => (h.tab t ht).kept (Kept.of_below (S := []) k) (by simp) (by simp), h.apart, h.far, h.lo, Nat.le_trans h.size k.size⟩
/-- The pointer of a table in the row. -/
theorem NetAt.at (h : NetAt w B nb vp vl va vt ts) {i : Nat} (hi : i < ts.length) : ∃ g cap, vt = .slice (some ⟨g, 0, none⟩) ts.length cap ∧ w.cell? ⟨g, i, none⟩ = some (.pointer (some ⟨ts[i].p, 0, none⟩)) := by
  rcases h.row.2 with ⟨_, h1⟩ | ⟨g, cap, cur, h0, _⟩
  · omega
  · have hr := h.row
    rw [h0] at hr
    have := hr.cellAt (i * 1) (by omega)
    rw [Nat.mul_one, List.getElem?_map, List.getElem?_eq_getElem hi] at this
    exact ⟨g, cap, h0, this⟩
/-- One table turned. -/
theorem NetAt.step (h : NetAt w B nb vp vl va vt ts) {i : Nat} (hi : i < ts.length) {L' : List Rl} (hp : TabPost w w' ts[i].p ts[i].mb ts[i].F L') : ∃ F', NetAt w' B nb vp vl va vt (ts.set i ⟨ts[i].p, ts[i].mb, F', L'⟩) ∧ Below B w w' ∧ Kept (ts[i].mb :: ts[i].F) w w' ∧ ∀ x ∈ F', x ∈ ts[i].F ∨ w.heap.size ≤ x := by
  obtain ⟨F', hT, hF, hk⟩ := hp
  have hti := List.getElem_mem hi
  have hfoot : ∀ x ∈ ts[i].mb :: F', x ∈ ts[i].foot ∨ w.heap.size ≤ x := by
    intro x hx
    rcases List.mem_cons.1 hx with rfl | hx
    · exact Or.inl (List.mem_cons_self)
    · rcases hF x hx with h1 | h1
      · exact Or.inl (List.mem_cons_of_mem _ h1)
      · exact Or.inr h1
  have hlo := h.lo.2 _ hti
  have hother : ∀ j (hj : j < ts.length), j ≠ i → (∀ x ∈ ts[j].foot, x ∉ ts[i].foot) := by
    intro j hj hne x hx hx2
    have hpw := List.pairwise_iff_getElem.1 h.apart
    rcases Nat.lt_or_gt_of_ne hne with h1 | h1
    · exact hpw j i hj hi h1 x hx hx2
    · exact hpw i j hi hj h1 x hx2 hx
  have hmem : ∀ t ∈ ts.set i ⟨ts[i].p, ts[i].mb, F', L'⟩, t = ⟨ts[i].p, ts[i].mb, F', L'⟩ ∨ ∃ j, ∃ hj : j < ts.length, j ≠ i ∧ t = ts[j] := by
    intro t ht
    obtain ⟨j, hj, rfl⟩ := List.mem_iff_getElem.1 ht
    rw [List.length_set] at hj
    by_cases e : j = i
    · subst e
      exact Or.inl (by simp)
    · exact Or.inr ⟨j, hj, e, by rw [List.getElem_set_ne (Ne.symm e)]⟩
  have hnew : ∀ t ∈ ts.set i ⟨ts[i].p, ts[i].mb, F', L'⟩, ∀ y, y < w.heap.size → (∀ t ∈ ts, y ∉ t.foot) → y ∉ t.foot := by
    intro t ht y hy hno hm
    rcases hmem t ht with rfl | ⟨j, hj, _, rfl⟩
    · rcases hfoot y hm with h1 | h1
      · exact hno _ hti h1
      · omega
    · exact hno _ (List.getElem_mem hj) hm
  refine ⟨F', ⟨?_, ?_, ?_, ?_, ?_, ?_, Nat.le_trans h.size hk.size⟩, hk.below h.size (fun x hx => hlo x hx), hk, hF⟩
  · exact (hk.block nb (lt_of_block h.head) (h.far _ hti).1).trans h.head
  · have e1 : (ts.set i ⟨ts[i].p, ts[i].mb, F', L'⟩).map tdV = ts.map tdV := by
      rw [List.map_set, show tdV ⟨ts[i].p, ts[i].mb, F', L'⟩ = tdV ts[i] from rfl]
      apply List.ext_getElem?
      intro j
      rw [List.getElem?_set]
      split
      · rename_i e
        subst e
        simp [hi]
      · rfl
    rw [e1, List.length_set]
    exact own_kept h.row hk (fun g hg => (h.far _ hti).2 g hg)
  · intro t ht
    rcases hmem t ht with rfl | ⟨j, hj, hne, rfl⟩
    · exact hT
    · have ho := hother j hj hne
      exact (h.tab _ (List.getElem_mem hj)).kept hk (fun x hx => ho x (List.mem_cons_of_mem _ hx)) (ho _ List.mem_cons_self)
  · rw [List.pairwise_iff_getElem]
    intro a b ha hb hab x hx hx2
    have ha' : a < ts.length := by simpa using ha
    have hb' : b < ts.length := by simpa using hb
    have hpw := List.pairwise_iff_getElem.1 h.apart a b ha' hb' hab
    have hfa : ∀ j (hj : j < ts.length), j ≠ i → x ∈ ts[j].foot → x ∈ ts[i].mb :: F' → False := by
      intro j hj hne hxj hxi
      rcases hfoot x hxi with h1 | h1
      · exact hother j hj hne x hxj h1
      · have := (h.tab _ (List.getElem_mem hj)).foot_lt x hxj
        omega
    by_cases ea : a = i
    · subst ea
      rw [List.getElem_set_self] at hx
      rw [List.getElem_set_ne (by omega)] at hx2
      exact hfa b hb' (by omega) hx2 hx
    · rw [List.getElem_set_ne (Ne.symm ea)] at hx
      by_cases eb : b = i
      · subst eb
        rw [List.getElem_set_self] at hx2
        exact hfa a ha' ea hx hx2
      · rw [List.getElem_set_ne (Ne.symm eb)] at hx2
        exact hpw x hx hx2
  · intro t ht
    exact ⟨hnew t ht nb (lt_of_block h.head) (fun t ht => (h.far t ht).1), fun g hg => hnew t ht g (own_inN h.row hg) (fun t ht => (h.far t ht).2 g hg)⟩
  · refine ⟨h.lo.1, fun t ht x hx => ?_⟩
    rcases hmem t ht with rfl | ⟨j, hj, _, rfl⟩
    · rcases hfoot x hx with h1 | h1
      · exact hlo x h1
      · exact Nat.le_trans h.size h1
    · exact h.lo.2 _ (List.getElem_mem hj) x hx
/-- The blocks that a net's tables turn. -/
def feet (ts : List TD) : List Nat := ts.flatMap TD.foot
theorem mem_feet {ts : List TD} {x : Nat} : x ∈ feet ts ↔ ∃ t ∈ ts, x ∈ t.foot := by simp [feet]
/-- Of what there was nothing outside S has turned; what may turn next is S', of S or new. -/
structure Turn (S S' : List Nat) (w w' : World) : Prop where
  kept : Kept S w w'
  feet : ∀ x ∈ S', x ∈ S ∨ w.heap.size ≤ x
section
variable {S S1 S2 : List Nat} {a b c : World}
theorem Turn.refl (S : List Nat) (w : World) : Turn S S w w := ⟨Kept.refl _ _, fun _ h => Or.inl h⟩
theorem Turn.trans (h : Turn S S1 a b) (k : Turn S1 S2 b c) : Turn S S2 a c :=
  ⟨h.kept.trans k.kept h.feet, fun x hx => by
    rcases k.feet x hx with h1 | h1
    · exact h.feet x h1
    · exact Or.inr (Nat.le_trans h.kept.size h1)⟩
theorem Turn.of_below (S : List Nat) (k : Below a.heap.size a b) : Turn S S a b := ⟨Kept.of_below k, fun _ h => Or.inl h⟩
theorem Turn.seq (h : Turn S S1 a b) (k : Below b.heap.size b c) : Turn S S1 a c := h.trans (Turn.of_below S1 k)
theorem Turn.drew (h : Turn S S1 a b) : Turn S S1 a b.drew := ⟨h.kept.drew, h.feet⟩
theorem Turn.size (h : Turn S S1 a b) : a.heap.size ≤ b.heap.size := h.kept.size
theorem Turn.below {B : Nat} (h : Turn S S1 a b) (hB : B ≤ a.heap.size) (hS : ∀ x ∈ S, B ≤ x) : Below B a b := h.kept.below hB hS
end
theorem NetAt.feet_lo (h : NetAt w B nb vp vl va vt ts) : ∀ x ∈ feet ts, B ≤ x := fun x hx => by
  obtain ⟨t, ht, hx⟩ := mem_feet.1 hx
  exact h.lo.2 t ht x hx
theorem NetAt.feet_lt (h : NetAt w B nb vp vl va vt ts) : ∀ x ∈ feet ts, x < w.heap.size := fun x hx => by
  obtain ⟨t, ht, hx⟩ := mem_feet.1 hx
  exact (h.tab t ht).foot_lt x hx
/-- A net that others' turns leave alone. -/
theorem NetAt.kept {S : List Nat} (h : NetAt w B nb vp vl va vt ts) (k : Kept S w w') (h1 : nb ∉ S) (h2 : ∀ g, vt.ownBlock = some g → g ∉ S) (h3 : ∀ x ∈ feet ts, x ∉ S) : NetAt w' B nb vp vl va vt ts :=
  ⟨(k.block _ (lt_of_block h.head) h1).trans h.head, own_kept h.row k h2, fun t ht => (h.tab t ht).kept k (fun x hx => h3 x (mem_feet.2 ⟨t, ht, List.mem_cons_of_mem _ hx⟩)) (h3 _ (mem_feet.2 ⟨t, ht, List.mem_cons_self⟩)), h.apart, h.far, h.lo, Nat.le_trans h.size k.size⟩
theorem NetAt.turn {i : Nat} {F' : List Nat} {L' : List Rl} (hi : i < ts.length) (hk : Kept (ts[i].mb :: ts[i].F) w w') (hF : ∀ x ∈ F', x ∈ ts[i].F ∨ w.heap.size ≤ x) : Turn (feet ts) (feet (ts.set i ⟨ts[i].p, ts[i].mb, F', L'⟩)) w w' := by
  have hti := List.getElem_mem hi
  refine ⟨hk.mono fun x hx => Or.inl (mem_feet.2 ⟨_, hti, hx⟩), fun x hx => ?_⟩
  obtain ⟨t, ht, hx⟩ := mem_feet.1 hx
  rcases List.mem_or_eq_of_mem_set ht with h1 | h1
  · exact Or.inl (mem_feet.2 ⟨t, h1, hx⟩)
  · subst h1
    rcases List.mem_cons.1 hx with h2 | h2
    · exact Or.inl (mem_feet.2 ⟨_, hti, by rw [h2]; exact List.mem_cons_self⟩)
    · rcases hF x h2 with h3 | h3
      · exact Or.inl (mem_feet.2 ⟨_, hti, List.mem_cons_of_mem _ h3⟩)
      · exact Or.inr h3
end Go.Proofs.YtjoblahedgpgbaaGreat

namespace Go.Proofs.YtjoblahedgpgbaaGreat
open Go.RowKit

def lenS (ts : List TD) : Nat := (ts.map fun t => t.L.length).sum
theorem lenS_snoc (ts : List TD) (t : TD) : lenS (ts ++ [t]) = lenS ts + t.L.length := by simp [lenS]
theorem lenS_le (ts : List TD) (h : ∀ t ∈ ts, t.L.length < 100000) : lenS ts ≤ ts.length * 100000 := by
  induction ts with
  | nil => simp [lenS]
  | cons t ts ih =>
    have h1 := ih fun x hx => h x (List.mem_cons_of_mem _ hx)
    have h2 := h t (by simp)
    simp only [lenS, List.map_cons, List.sum_cons, List.length_cons] at *
    omega
def hasS (ts : List TD) (id : Int) : Bool := ts.any fun t => (findR t.L id).isSome

variable {w : World} {B nb : Nat} {vp vl va vt : Value} {ts : List TD}
theorem NetAt.shape (h : NetAt w B nb vp vl va vt ts) : ∃ ao cap, vt = .slice ao ts.length cap ∧ ∀ i, i < ts.length → ∃ g, ao = some ⟨g, 0, none⟩ := by
  rcases h.row.2 with ⟨h0, h1⟩ | ⟨g', cap', cur, h0, _, _, h3, _⟩
  · exact ⟨none, 0, by rw [h0, h1], fun i hi => by omega⟩
  · exact ⟨_, cap', h0, fun i _ => ⟨g', rfl⟩⟩

set_option maxRecDepth 100000 in
set_option maxHeartbeats 2000000 in
theorem nlen_calls (h : NetAt w B nb vp vl va vt ts) (hl : ts.length ≤ 40) (hL : ∀ t ∈ ts, t.L.length < 100000) : Calls Tryz.prog 145 #[.pointer (some ⟨nb, 0, none⟩)] w fun e w' => e = .returned (.int .i64 (lenS ts : Int)) ∧ Below w.heap.size w w' := by
  have H := Lib.hid h
  have HL := Lib.hid hL
  obtain ⟨ao, cap, rfl, hao⟩ := h.shape
  have HAO := Lib.hid hao
  have c3 := cell_of h.head 3
  simp only [List.getElem?_toArray, List.getElem?_cons_zero, List.getElem?_cons_succ] at c3
  clear h hL hao
  go_enter Tryz.func145, Tryz.ntmps145
  go_wp2_with (fail)
  go_loopg [3, 13] ts.length (fun gk vs vi wr => ∃ i : Nat, i + gk = ts.length ∧ vi = .int .i64 (i : Int) ∧ vs = .int .i64 (lenS (ts.take i) : Int) ∧ Below w.heap.size w wr)
  case atStart => exact ⟨0, by omega, rfl, rfl, Below.refl _ _⟩
  case round =>
    obtain ⟨i, hgk, rfl, rfl, hK⟩ := hrel
    have HK := Lib.hid hK
    by_cases hlt : i < ts.length
    · obtain ⟨g, rfl⟩ := HAO.out i hlt
      have hn := H.out.below hK
      obtain ⟨g2, cap2, he, e0⟩ := hn.at hlt
      cases he
      have HT := Lib.hid (tlen_calls (hn.tab _ (List.getElem_mem hlt)))
      have HTK : Hid (ts.take (i + 1) = ts.take i ++ [ts[i]]) := Lib.hid (by rw [List.take_add_one, List.getElem?_eq_getElem hlt]; rfl)
      have hb1 := lenS_le (ts.take i) (fun t ht => HL.out t (List.mem_of_mem_take ht))
      have hb2 : (ts.take i).length ≤ 40 := by simp; omega
      have hb3 := HL.out _ (List.getElem_mem hlt)
      generalize ts[i] = t at *
      have hsum : IntKind.i64.wrap ((lenS (ts.take i) : Int) + (t.L.length : Int)) = (lenS (ts.take i) : Int) + (t.L.length : Int) := by rw [IntKind.wrap_i64]; omega
      clear hn hK hb1 hb2 hb3
      generalize hgs : lenS (ts.take i) = s at *
      have HS := Lib.hid hgs
      clear hgs
      go_wp2_with (fail)
      refine Calls.mono HT.out ?_
      rintro e w2 ⟨he, rfl⟩
      subst he
      go_wp2_with (fail)
      go_roundg (gk - 1)
      case measure => omega
      case rel =>
        exact ⟨i + 1, by omega, by go_num, by rw [HTK.out, lenS_snoc, HS.out]; simp, HK.out⟩
    · obtain rfl : i = ts.length := by omega
      rw [List.take_length]
      clear hK
      go_wp2_with (fail)
      go_ret
      exact ⟨rfl, HK.out⟩

set_option maxRecDepth 100000 in
set_option maxHeartbeats 2000000 in
theorem nhas_calls (h : NetAt w B nb vp vl va vt ts) (hl : ts.length ≤ 40) (id : Int) (hid : okI id) : Calls Tryz.prog 140 #[.pointer (some ⟨nb, 0, none⟩), .int .i64 id] w fun e w' => e = .returned (.bool (hasS ts id)) ∧ Below w.heap.size w w' := by
  have H := Lib.hid h
  obtain ⟨ao, cap, rfl, hao⟩ := h.shape
  have HAO := Lib.hid hao
  have c3 := cell_of h.head 3
  simp only [List.getElem?_toArray, List.getElem?_cons_zero, List.getElem?_cons_succ] at c3
  obtain ⟨r, hr⟩ : ∃ r, r = hasS ts id := ⟨_, rfl⟩
  rw [← hr]
  have HR := Lib.hid hr
  clear h hao hr
  go_enter Tryz.func140, Tryz.ntmps140
  go_wp2_with (fail)
  go_loopg [16] ts.length (fun gk vi wr => ∃ i : Nat, i + gk = ts.length ∧ vi = .int .i64 (i : Int) ∧ Below w.heap.size w wr ∧ hasS (ts.take i) id = false)
  case atStart => exact ⟨0, by omega, rfl, Below.refl _ _, rfl⟩
  case round =>
    obtain ⟨i, hgk, rfl, hK, hN⟩ := hrel
    have HK := Lib.hid hK
    have HN := Lib.hid hN
    clear hN
    by_cases hlt : i < ts.length
    · obtain ⟨g, rfl⟩ := HAO.out i hlt
      have hn := H.out.below hK
      obtain ⟨g2, cap2, he, e0⟩ := hn.at hlt
      cases he
      have hget := tget_calls (hn.tab _ (List.getElem_mem hlt)) id hid
      have HTK : Hid (ts.take (i + 1) = ts.take i ++ [ts[i]]) := Lib.hid (by rw [List.take_add_one, List.getElem?_eq_getElem hlt]; rfl)
      have HME : Hid (ts[i] ∈ ts) := Lib.hid (List.getElem_mem hlt)
      generalize ts[i] = t at *
      obtain ⟨s, hs⟩ : ∃ s, s = (findR t.L id).getD noRule := ⟨_, rfl⟩
      obtain ⟨b, hb⟩ : ∃ b, b = (findR t.L id).isSome := ⟨_, rfl⟩
      rw [← hs, ← hb] at hget
      have HG := Lib.hid hget
      have HB := Lib.hid hb
      clear hn hK hs hb hget
      go_wp2_with (fail)
      refine Calls.mono HG.out ?_
      rintro e w2 ⟨he, k2⟩
      have he : e = .returned (.tuple #[.agg #[.int .i64 s.id, .int .i64 s.dev, .int .u32 (s.addr : Int), .int .i64 s.bits, .int .i64 s.prio, .int .i64 s.out], .bool b]) := he
      subst he
      have HK2 := Lib.hid (HK.out.trans (k2.mono HK.out.size))
      clear k2 e0
      cases b with
      | true =>
        obtain rfl : r = true := by
          rw [HR.out]
          exact List.any_eq_true.2 ⟨t, HME.out, HB.out.symm⟩
        go_wp2_with (fail)
        go_ret
        exact ⟨rfl, HK2.out.alloc HK2.out.size _⟩
      | false =>
        go_wp2_with (fail)
        go_roundg (gk - 1)
        case measure => omega
        case rel =>
          refine ⟨i + 1, by omega, by go_num, HK2.out.alloc HK2.out.size _, ?_⟩
          rw [HTK.out]
          unfold hasS at *
          rw [List.any_append, HN.out]
          simp [← HB.out]
    · obtain rfl : i = ts.length := by omega
      obtain rfl : r = false := by
        rw [HR.out]
        have := HN.out
        rwa [List.take_length] at this
      clear hK
      go_wp2_with (fail)
      go_ret
      exact ⟨rfl, HK.out⟩
end Go.Proofs.YtjoblahedgpgbaaGreat

namespace Go.Proofs.YtjoblahedgpgbaaGreat
open Go.RowKit

/-- A rule goes from the first device that has it. -/
def delS : List (List Rl) → Int → List (List Rl) × Int
  | [], _ => ([], 3)
  | L :: rest, id => if (findR L id).isSome = true then ((dropT L id).1 :: rest, 0) else (L :: (delS rest id).1, (delS rest id).2)
theorem delS_len (Ls : List (List Rl)) (id : Int) : (delS Ls id).1.length = Ls.length := by
  induction Ls with
  | nil => rfl
  | cons L rest ih =>
    unfold delS
    split <;> simp [ih]
def TD.Ls (ts : List TD) : List (List Rl) := ts.map (·.L)

variable {w : World} {B nb : Nat} {vp vl va vt : Value} {ts : List TD}
set_option maxRecDepth 100000 in
set_option maxHeartbeats 4000000 in
theorem nchange_del (h : NetAt w B nb vp vl va vt ts) (hl : ts.length ≤ 40) (hL : ∀ t ∈ ts, t.L.length < 100000) (r : Rl) (hid : okI r.id) :
    Calls Tryz.prog 71 #[.pointer (some ⟨nb, 0, none⟩), .agg #[.bool true, .int .i64 r.id, .int .i64 r.dev, .int .u32 (r.addr : Int), .int .i64 r.bits, .int .i64 r.prio, .int .i64 r.out]] w fun e w' =>
      ∃ ts', e = .returned (.int .i64 (delS (TD.Ls ts) r.id).2) ∧ NetAt w' B nb vp vl va vt ts' ∧ TD.Ls ts' = (delS (TD.Ls ts) r.id).1 ∧ Turn (feet ts) (feet ts') w w' := by
  have hX := heap_alloc_new w (.cells #[.bool true, .int .i64 r.id, .int .i64 r.dev, .int .u32 (r.addr : Int), .int .i64 r.bits, .int .i64 r.prio, .int .i64 r.out] 91)
  have hk := (Below.refl w.heap.size w).alloc (Nat.le_refl _) (.cells #[.bool true, .int .i64 r.id, .int .i64 r.dev, .int .u32 (r.addr : Int), .int .i64 r.bits, .int .i64 r.prio, .int .i64 r.out] 91)
  have H := Lib.hid (h.below hk)
  have HX := Lib.hid hX
  have HLL : Hid (∀ L ∈ TD.Ls ts, L.length < 100000) := Lib.hid (fun L hm => by
    obtain ⟨t, ht, rfl⟩ := List.mem_map.1 hm
    exact hL t ht)
  have HFAR : Hid (∀ t ∈ ts, w.heap.size ∉ t.foot) := Lib.hid (fun t ht hm => by have := (h.tab t ht).foot_lt _ hm; omega)
  have hfeet0 : Turn (feet ts) (feet ts) w (w.alloc (.cells #[.bool true, .int .i64 r.id, .int .i64 r.dev, .int .u32 (r.addr : Int), .int .i64 r.bits, .int .i64 r.prio, .int .i64 r.out] 91)) := Turn.of_below _ hk
  obtain ⟨ao, cap, rfl, hao⟩ := h.shape
  have HAO := Lib.hid hao
  obtain ⟨Ls, hLs⟩ : ∃ Ls, Ls = TD.Ls ts := ⟨_, rfl⟩
  obtain ⟨n, hn⟩ : ∃ n, n = ts.length := ⟨_, rfl⟩
  have hnL : Ls.length = n := by rw [hLs, hn]; simp [TD.Ls]
  rw [← hLs] at HLL ⊢
  rw [← hn] at H HAO hl ⊢
  have hst : ∃ ts', NetAt (w.alloc (.cells #[.bool true, .int .i64 r.id, .int .i64 r.dev, .int .u32 (r.addr : Int), .int .i64 r.bits, .int .i64 r.prio, .int .i64 r.out] 91)) B nb vp vl va (.slice ao n cap) ts' ∧ TD.Ls ts' = Ls ∧ (∀ t ∈ ts', w.heap.size ∉ t.foot) ∧ Turn (feet ts) (feet ts') w (w.alloc (.cells #[.bool true, .int .i64 r.id, .int .i64 r.dev, .int .u32 (r.addr : Int), .int .i64 r.bits, .int .i64 r.prio, .int .i64 r.out] 91)) := ⟨ts, H.out, hLs.symm, HFAR.out, hfeet0⟩
  have HST := Lib.hid hst
  generalize feet ts = S0 at *
  clear h hX hk hL hao hLs hn hst H HFAR hfeet0
  obtain ⟨res, hres⟩ : ∃ res, res = delS Ls r.id := ⟨_, rfl⟩
  rw [← hres]
  have HRES := Lib.hid hres
  clear hres
  go_enter Tryz.func71, Tryz.ntmps71
  go_upto_region 1 with (fail)
  generalize w.alloc (.cells #[.bool true, .int .i64 r.id, .int .i64 r.dev, .int .u32 (r.addr : Int), .int .i64 r.bits, .int .i64 r.prio, .int .i64 r.out] 91) = w1 at *
  generalize w.heap.size = xb at *
  have x0 := cell_of HX.out 0
  simp only [List.getElem?_toArray, List.getElem?_cons_zero] at x0
  have c3 := (let ⟨ts', h1, _⟩ := HST.out; cell_of h1.head 3)
  simp only [List.getElem?_toArray, List.getElem?_cons_zero, List.getElem?_cons_succ] at c3
  go_wp2_with (fail)
  go_loopg [16] n (fun gk vi wr => ∃ (i : Nat) (ts' : List TD), i + gk = n ∧ vi = .int .i64 (i : Int) ∧ NetAt wr B nb vp vl va (.slice ao n cap) ts' ∧ TD.Ls ts' = Ls ∧ (∀ t ∈ ts', xb ∉ t.foot) ∧ wr.heap[xb]? = some (.cells #[.bool true, .int .i64 r.id, .int .i64 r.dev, .int .u32 (r.addr : Int), .int .i64 r.bits, .int .i64 r.prio, .int .i64 r.out] 91 (0, 0)) ∧ Turn S0 (feet ts') w wr ∧ res = (Ls.take i ++ (delS (Ls.drop i) r.id).1, (delS (Ls.drop i) r.id).2))
  case atStart =>
    obtain ⟨ts', h1, h2, h3, h4⟩ := HST.out
    exact ⟨0, ts', by omega, rfl, h1, h2, h3, HX.out, h4, by simpa using HRES.out⟩
  case round =>
    obtain ⟨i, ts', hgk, rfl, hN, hLs, hfar, hx, hK, hr⟩ := hrel
    have HN := Lib.hid hN
    have HFAR := Lib.hid hfar
    have HXR := Lib.hid hx
    have HKR := Lib.hid hK
    have HR := Lib.hid hr
    have HLS := Lib.hid hLs
    have hlen : ts'.length = n := by
      have := congrArg List.length hLs
      rw [hnL] at this
      simpa [TD.Ls] using this
    clear hfar hK hr
    by_cases hlt : i < n
    · obtain ⟨g, rfl⟩ := HAO.out i hlt
      have hlt' : i < ts'.length := by omega
      have hltL : i < Ls.length := by omega
      obtain ⟨g2, cap2, he, e0⟩ := hN.at hlt'
      have he : (Value.slice (some ⟨g, 0, none⟩) n cap) = .slice (some ⟨g2, 0, none⟩) n cap2 := by rw [he, hlen]
      cases he
      have hLi : ts'[i].L = Ls[i] := by
        have : (TD.Ls ts')[i]? = Ls[i]? := by rw [hLs]
        rw [List.getElem?_eq_getElem hltL] at this
        simpa [TD.Ls, hlt'] using this
      have HDR : Hid (Ls.drop i = Ls[i] :: Ls.drop (i + 1)) := Lib.hid (List.drop_eq_getElem_cons hltL)
      have HTK : Hid (Ls.take (i + 1) = Ls.take i ++ [Ls[i]]) := Lib.hid (by rw [List.take_add_one, List.getElem?_eq_getElem hltL]; rfl)
      have HD := Lib.hid (tabdrop_calls (hN.tab _ (List.getElem_mem hlt')) (by rw [hLi]; exact HLL.out _ (List.getElem_mem hltL)) r.id hid)
      have HLI := Lib.hid hLi
      have x1 := cell_of hx 1
      simp only [List.getElem?_toArray, List.getElem?_cons_zero, List.getElem?_cons_succ] at x1
      clear hN hx hLs hLi
      go_wp2_with (fail)
      refine Calls.mono HD.out ?_
      rintro e w2 ⟨he, hpost⟩
      obtain ⟨F', hN2, hb2, hk2, hF2⟩ := HN.out.step hlt' hpost
      rw [HLI.out] at he hN2
      have hx2 := (hk2.block xb (lt_of_block HXR.out) (HFAR.out _ (List.getElem_mem hlt'))).trans HXR.out
      have hset : TD.Ls (ts'.set i ⟨ts'[i].p, ts'[i].mb, F', (dropT Ls[i] r.id).1⟩) = Ls.set i (dropT Ls[i] r.id).1 := by
        unfold TD.Ls at HLS ⊢
        rw [List.map_set, HLS.out]
      have hfar2 : ∀ t ∈ ts'.set i ⟨ts'[i].p, ts'[i].mb, F', (dropT Ls[i] r.id).1⟩, xb ∉ t.foot := by
        intro t ht hm
        rcases List.mem_or_eq_of_mem_set ht with h1 | h1
        · exact HFAR.out t h1 hm
        · subst h1
          have hfi := HFAR.out _ (List.getElem_mem hlt')
          have hxl := lt_of_block HXR.out
          rcases List.mem_cons.1 hm with h2 | h2
          · exact hfi (by rw [h2]; exact List.mem_cons_self)
          · rcases hF2 xb h2 with h3 | h3
            · exact hfi (List.mem_cons_of_mem _ h3)
            · omega
      have hr := HR.out
      rw [HDR.out] at hr
      unfold delS at hr
      have HK2 := Lib.hid (HKR.out.trans (NetAt.turn (L' := (dropT Ls[i] r.id).1) hlt' hk2 hF2))
      have HN2 := Lib.hid hN2
      have HX2 := Lib.hid hx2
      have HSET := Lib.hid hset
      have HF2 := Lib.hid hfar2
      clear hpost hN2 hb2 hk2 hx2 hset hfar2 x1 e0 hF2
      cases hf : (findR Ls[i] r.id).isSome with
      | true =>
        have hd : dropT Ls[i] r.id = (Ls[i].filter fun x => decide (x.id ≠ r.id), 0) := by unfold dropT; rw [if_pos hf]
        rw [if_pos hf] at hr
        rw [hd] at he
        have HRR := Lib.hid hr
        simp only at he
        subst he
        clear hf hd hr
        go_wp2_with (fail)
        refine bodyPost_ret (v := .int .i64 0) (by simp [results, Tryz.results71, go_sem]) rfl ⟨_, by rw [HRR.out], HN2.out, ?_, HK2.out⟩
        rw [HSET.out, HRR.out]
        simp only
        rw [List.set_eq_take_append_cons_drop, if_pos hltL]
      | false =>
        have hd : dropT Ls[i] r.id = (Ls[i], 3) := by unfold dropT; rw [if_neg (by simp [hf])]
        rw [if_neg (by simp [hf])] at hr
        rw [hd] at he
        have HRR := Lib.hid hr
        have HDD := Lib.hid hd
        simp only at he
        subst he
        clear hf hd hr
        go_wp2_with (fail)
        go_roundg (gk - 1)
        case measure => omega
        case rel =>
          refine ⟨i + 1, _, by omega, by go_num, HN2.out, ?_, HF2.out, HX2.out, HK2.out, ?_⟩
          · rw [HSET.out, HDD.out]
            exact List.set_getElem_self hltL
          · rw [HRR.out, HTK.out]
            simp only [List.append_assoc, List.cons_append, List.nil_append]
    · obtain rfl : i = n := by omega
      have hr := HR.out
      rw [List.drop_eq_nil_of_le (by omega), List.take_of_length_le (by omega)] at hr
      simp only [delS, List.append_nil] at hr
      subst hr
      clear hN hx hLs
      go_wp2_with (fail)
      exact bodyPost_ret (v := .int .i64 3) (by simp [results, Tryz.results71, go_sem]) rfl (by first | exact ⟨ts', rfl, HN.out, HLS.out, HKR.out⟩ | exact ⟨rfl, ts', HN.out, HLS.out, HKR.out⟩)
end Go.Proofs.YtjoblahedgpgbaaGreat

namespace Go.Proofs.YtjoblahedgpgbaaGreat
open Go.RowKit

def hasL (Ls : List (List Rl)) (id : Int) : Bool := Ls.any fun L => (findR L id).isSome
/-- A rule comes. -/
def insS (ports : List Int) (Ls : List (List Rl)) (r : Rl) : List (List Rl) × Int :=
  if r.dev < 0 ∨ (Ls.length : Int) ≤ r.dev then (Ls, 10) else if r.out < -1 ∨ ports[r.dev.toNat]! ≤ r.out then (Ls, 11) else if hasL Ls r.id = true then (Ls, 4) else (Ls.set r.dev.toNat (addT Ls[r.dev.toNat]! r).1, (addT Ls[r.dev.toNat]! r).2)
theorem hasL_S (ts : List TD) (id : Int) : hasS ts id = hasL (TD.Ls ts) id := by
  unfold hasS hasL TD.Ls
  rw [List.any_map]
  rfl

variable {w : World} {B B0 nb : Nat} {vp vl va vt : Value} {ts : List TD} {T : Tp}
set_option maxRecDepth 100000 in
set_option maxHeartbeats 4000000 in
theorem nchange_add (h : NetAt w B nb vp vl va vt ts) (hT : TpIn B0 w vp vl va T) (hB0 : B0 ≤ B) (hnp : T.ports.length = ts.length) (hl : ts.length ≤ 40) (hL : ∀ t ∈ ts, t.L.length < 100000) (r : Rl) (hra : r.addr < 2 ^ 32) (hid : okI r.id) :
    Calls Tryz.prog 71 #[.pointer (some ⟨nb, 0, none⟩), .agg #[.bool false, .int .i64 r.id, .int .i64 r.dev, .int .u32 (r.addr : Int), .int .i64 r.bits, .int .i64 r.prio, .int .i64 r.out]] w fun e w' =>
      ∃ ts', e = .returned (.int .i64 (insS T.ports (TD.Ls ts) r).2) ∧ NetAt w' B nb vp vl va vt ts' ∧ TD.Ls ts' = (insS T.ports (TD.Ls ts) r).1 ∧ Turn (feet ts) (feet ts') w w' := by
  obtain ⟨rid, rdev, rad, rbi, rpr, rou⟩ := r
  simp only at hid hra ⊢
  have hX := heap_alloc_new w (.cells #[.bool false, .int .i64 rid, .int .i64 rdev, .int .u32 (rad : Int), .int .i64 rbi, .int .i64 rpr, .int .i64 rou] 91)
  have hk := (Below.refl w.heap.size w).alloc (Nat.le_refl _) (.cells #[.bool false, .int .i64 rid, .int .i64 rdev, .int .u32 (rad : Int), .int .i64 rbi, .int .i64 rpr, .int .i64 rou] 91)
  have H := Lib.hid (h.below hk)
  have HKB := Lib.hid (Turn.of_below (feet ts) hk)
  have HT := Lib.hid (hT.kept (hk.mono (Nat.le_trans hB0 h.size)))
  have HX := Lib.hid hX
  have HLL := Lib.hid hL
  obtain ⟨ap, cp, rfl, _⟩ := hT.ports
  obtain ⟨al, cl, rfl, _⟩ := hT.links
  obtain ⟨aa, ca, rfl, _⟩ := hT.aces
  obtain ⟨ao, cap, rfl, hao⟩ := h.shape
  have HAO := Lib.hid hao
  have hLs : (TD.Ls ts).length = ts.length := by simp [TD.Ls]
  obtain ⟨res, hres⟩ : ∃ res, res = insS T.ports (TD.Ls ts) ⟨rid, rdev, rad, rbi, rpr, rou⟩ := ⟨_, rfl⟩
  rw [← hres]
  unfold insS at hres
  simp only at hres
  rw [hLs, ← hasL_S] at hres
  have HNP := Lib.hid hnp
  clear h hX hk hL hao hT hnp
  go_enter Tryz.func71, Tryz.ntmps71
  go_upto_region 1 with (fail)
  generalize w.alloc (.cells #[.bool false, .int .i64 rid, .int .i64 rdev, .int .u32 (rad : Int), .int .i64 rbi, .int .i64 rpr, .int .i64 rou] 91) = w1 at *
  generalize w.heap.size = xb at *
  have x0 := cell_of HX.out 0
  have x1 := cell_of HX.out 1
  have x2 := cell_of HX.out 2
  have x3 := cell_of HX.out 3
  have x4 := cell_of HX.out 4
  have x5 := cell_of HX.out 5
  have x6 := cell_of HX.out 6
  have c0 := cell_of H.out.head 0
  have c3 := cell_of H.out.head 3
  simp only [List.getElem?_toArray, List.getElem?_cons_zero, List.getElem?_cons_succ] at x0 x1 x2 x3 x4 x5 x6 c0 c3
  by_cases h1 : rdev < 0
  · rw [if_pos (Or.inl h1)] at hres
    subst hres
    go_wp2_with (fail)
    go_region
    go_wp2_with (fail)
    exact bodyPost_ret (v := .int .i64 10) (by simp [results, Tryz.results71, go_sem]) rfl (by first | exact ⟨ts, rfl, H.out.below (Below.refl _ _).drew, rfl, HKB.out.drew⟩ | exact ⟨rfl, ts, H.out.below (Below.refl _ _).drew, rfl, HKB.out.drew⟩)
  · by_cases h2 : (ts.length : Int) ≤ rdev
    · rw [if_pos (Or.inr h2)] at hres
      subst hres
      have h1' : decide (rdev < 0) = false := decide_eq_false h1
      have h2' : decide ((ts.length : Int) ≤ rdev) = true := decide_eq_true h2
      clear h1 h2
      go_wp2_with (fail)
      go_region
      go_wp2_with (fail)
      exact bodyPost_ret (v := .int .i64 10) (by simp [results, Tryz.results71, go_sem]) rfl (by first | exact ⟨ts, rfl, H.out.below (Below.refl _ _).drew, rfl, HKB.out.drew⟩ | exact ⟨rfl, ts, H.out.below (Below.refl _ _).drew, rfl, HKB.out.drew⟩)
    · rw [if_neg (by omega)] at hres
      obtain ⟨d, rfl⟩ : ∃ d : Nat, rdev = d := ⟨rdev.toNat, by omega⟩
      have hdl : d < ts.length := by omega
      have hdp : d < T.ports.length := by have := HNP.out; omega
      have h1' : decide (((d : Nat) : Int) < 0) = false := decide_eq_false h1
      have h2' : decide ((ts.length : Int) ≤ (d : Int)) = false := decide_eq_false h2
      clear h1 h2
      obtain ⟨bp, op, cp2, hep, hpc⟩ := HT.out.portAt hdp
      cases hep
      have hg : T.ports[((d : Nat) : Int).toNat]! = T.ports[d] := by rw [Int.toNat_natCast, getElem!_pos T.ports d hdp]
      simp only [hg] at hres
      generalize T.ports[d] = y at *
      clear hg
      go_wp2_with (fail)
      go_region
      by_cases h3 : rou < -1
      · rw [if_pos (Or.inl h3)] at hres
        subst hres
        have h3' : decide (rou < -1) = true := decide_eq_true h3
        clear h3
        go_wp2_with (fail)
        go_region
        go_wp2_with (fail)
        exact bodyPost_ret (v := .int .i64 11) (by simp [results, Tryz.results71, go_sem]) rfl (by first | exact ⟨ts, rfl, H.out.below (Below.refl _ _).drew.drew, rfl, HKB.out.drew.drew⟩ | exact ⟨rfl, ts, H.out.below (Below.refl _ _).drew.drew, rfl, HKB.out.drew.drew⟩)
      · by_cases h4 : y ≤ rou
        · rw [if_pos (Or.inr h4)] at hres
          subst hres
          have h3' : decide (rou < -1) = false := decide_eq_false h3
          have h4' : decide (y ≤ rou) = true := decide_eq_true h4
          have h5' : (d : Int) < (T.ports.length : Int) := by omega
          clear h3 h4
          go_wp2_with (fail)
          go_region
          go_wp2_with (fail)
          exact bodyPost_ret (v := .int .i64 11) (by simp [results, Tryz.results71, go_sem]) rfl (by first | exact ⟨ts, rfl, H.out.below (Below.refl _ _).drew.drew, rfl, HKB.out.drew.drew⟩ | exact ⟨rfl, ts, H.out.below (Below.refl _ _).drew.drew, rfl, HKB.out.drew.drew⟩)
        · rw [if_neg (by omega)] at hres
          have h3' : decide (rou < -1) = false := decide_eq_false h3
          have h4' : decide (y ≤ rou) = false := decide_eq_false h4
          have h5' : (d : Int) < (T.ports.length : Int) := by omega
          clear h3 h4
          go_wp2_with (fail)
          go_region
          have hkd : Below w1.heap.size w1 w1.drew.drew := (Below.refl _ _).drew.drew
          have HND := Lib.hid (H.out.below hkd)
          have HKD := Lib.hid (HKB.out.seq hkd)
          have HXD := Lib.hid ((hkd.block _ (lt_of_block HX.out)).trans HX.out)
          have y1 := cell_of HXD.out 1
          simp only [List.getElem?_toArray, List.getElem?_cons_zero, List.getElem?_cons_succ] at y1
          clear hkd x0 x1 x2 x3 x4 x5 x6 c0 c3 hpc h3' h4' h5' h1' h2'
          generalize w1.drew.drew = wd at *
          have HH := Lib.hid (nhas_calls HND.out hl rid hid)
          go_wp2_with (fail)
          refine Calls.mono HH.out ?_
          rintro e w2 ⟨he, k2⟩
          have HN2 := Lib.hid (HND.out.below k2)
          have HK2 := Lib.hid (HKD.out.seq k2)
          have HX2 := Lib.hid ((k2.block _ (lt_of_block HXD.out)).trans HXD.out)
          clear k2 y1
          cases hb : hasS ts rid with
          | true =>
            rw [hb] at he
            rw [if_pos hb] at hres
            subst he
            subst hres
            clear hb
            go_wp2_with (fail)
            exact bodyPost_ret (v := .int .i64 4) (by simp [results, Tryz.results71, go_sem]) rfl (by first | exact ⟨ts, rfl, HN2.out, rfl, HK2.out⟩ | exact ⟨rfl, ts, HN2.out, rfl, HK2.out⟩)
          | false =>
            rw [hb] at he
            rw [if_neg (by simp [hb])] at hres
            subst he
            clear hb
            obtain ⟨g, rfl⟩ := HAO.out d hdl
            obtain ⟨g2, cap2, he2, e0⟩ := HN2.out.at hdl
            cases he2
            have hLi : (TD.Ls ts)[((d : Nat) : Int).toNat]! = ts[d].L := by
              rw [Int.toNat_natCast, getElem!_pos (TD.Ls ts) d (by simpa [TD.Ls] using hdl)]
              simp [TD.Ls]
            rw [hLi, Int.toNat_natCast] at hres
            have HADD := Lib.hid (fun W (hW : TabAt W ts[d].p ts[d].mb ts[d].F ts[d].L) => tabadd_calls hW (HLL.out _ (List.getElem_mem hdl)) ⟨rid, (d : Int), rad, rbi, rpr, rou⟩ hra hid)
            have hkd2 : Below w2.heap.size w2 w2.drew := (Below.refl _ _).drew
            have hND := HN2.out.below hkd2
            have hTD := hND.tab _ (List.getElem_mem hdl)
            have q0 := cell_of hND.head 3
            have hxd := (hkd2.block _ (lt_of_block HX2.out)).trans HX2.out
            have q1 := cell_of hxd 1
            have q2 := cell_of hxd 2
            have q3 := cell_of hxd 3
            have q4 := cell_of hxd 4
            have q5 := cell_of hxd 5
            have q6 := cell_of hxd 6
            simp only [List.getElem?_toArray, List.getElem?_cons_zero, List.getElem?_cons_succ] at q0 q1 q2 q3 q4 q5 q6
            have e0' : w2.drew.cell? ⟨g, d, none⟩ = some (.pointer (some ⟨ts[d].p, 0, none⟩)) := e0
            have HNDD := Lib.hid hND
            have HKDD := Lib.hid (HK2.out.seq hkd2)
            have hS : w2.cell? ⟨nb, 3, none⟩ = some (.slice (some ⟨g, 0, none⟩) ts.length cap) ∧ w2.cell? ⟨g, d, none⟩ = some (.pointer (some ⟨ts[d].p, 0, none⟩)) ∧ w2.cell? ⟨xb, 1, none⟩ = some (.int .i64 rid) ∧ w2.cell? ⟨xb, 2, none⟩ = some (.int .i64 (d : Int)) ∧ w2.cell? ⟨xb, 3, none⟩ = some (.int .u32 (rad : Int)) ∧ w2.cell? ⟨xb, 4, none⟩ = some (.int .i64 rbi) ∧ w2.cell? ⟨xb, 5, none⟩ = some (.int .i64 rpr) ∧ w2.cell? ⟨xb, 6, none⟩ = some (.int .i64 rou) := ⟨q0, e0', q1, q2, q3, q4, q5, q6⟩
            have hdi : (d : Int) < (ts.length : Int) := by omega
            have HRES := Lib.hid hres
            clear hkd2 hND hxd q0 q1 q2 q3 q4 q5 q6 e0' e0 hres hLi
            generalize hgt : ts[d] = td at *
            have HGT := Lib.hid hgt
            clear hgt
            go_upto_region 17 with (fail)
            obtain ⟨q0, q1, q2, q3, q4, q5, q6, q7⟩ := hS
            have HTD := Lib.hid hTD
            clear hTD
            go_region_law (go_simp; go_at_call 141; refine Calls.mono (HADD.out _ HTD.out) ?_; rintro e w7 ⟨he, hpost⟩; subst he; have HPO := Lib.hid hpost; clear hpost)
            all_goals
              have hpost := HPO.out
              rw [← HGT.out] at hpost
              obtain ⟨F', hN3, _, hk3, hF3⟩ := HNDD.out.step hdl hpost
              have hres := HRES.out
              have HN3 := Lib.hid hN3
              have HB3 := Lib.hid (HKDD.out.trans (NetAt.turn (L' := (addT ts[d].L ⟨rid, (d : Int), rad, rbi, rpr, rou⟩).1) hdl hk3 hF3))
              clear hpost hN3 hk3 hF3 hres
              go_wp2_with (fail)
              refine bodyPost_ret (v := .int .i64 (addT td.L ⟨rid, (d : Int), rad, rbi, rpr, rou⟩).2) (by simp [results, Tryz.results71, go_sem]) rfl ⟨_, by rw [HRES.out], HN3.out, ?_, HB3.out⟩
              rw [HRES.out]
              unfold TD.Ls
              rw [List.map_set]
              simp only [HGT.out]
end Go.Proofs.YtjoblahedgpgbaaGreat
