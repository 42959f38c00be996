/- The walk of the document's Bits of a header. -/
import Derived.Test.YtakgghhmecphmaaEncP
import Derived.Test.YtakgghhmecphmaaMakeA
namespace Go.Proofs.Ytakgghhmecphmaa
set_option linter.unusedVariables false
set_option linter.unusedSimpArgs false
open Go.RowKit Go.Maps

theorem bool_info : (Try.prog.info? 4).map (fun i => (i.zero, i.size, i.bytes)) = some (some (.bool false), 1, 1) := by kernel_rfl
/-- The first t bits of a number of so many, the highest first. -/
def addN (n long t : Nat) : List Value := (List.range t).map fun j => .bool (n.testBit (long - 1 - j))
theorem addN_succ (n long t : Nat) : addN n long (t + 1) = addN n long t ++ [.bool (n.testBit (long - 1 - t))] := by simp [addN, List.range_succ]

theorem tmod_bit (n j : Nat) : ((((n : Int) / 2 ^ j).tmod 2) == 1) = n.testBit j := by
  have e : ((n : Int) / 2 ^ j) = ((n / 2 ^ j : Nat) : Int) := by norm_cast
  have e2 : (((n / 2 ^ j : Nat) : Int).tmod 2) = ((n / 2 ^ j % 2 : Nat) : Int) := rfl
  rw [e, e2, Nat.testBit_eq_decide_div_mod_eq]
  by_cases h : n / 2 ^ j % 2 = 1
  · simp [h]
  · simp [h]
    omega
theorem own_past3 {w : World} {base : Nat} {e : TypeId} {size : Nat} {v : Value} {n : Nat} {xs : List Value} (h : w.ownsRow base e size v n xs) : ∀ g, v.ownBlock = some g → base ≤ g := by
  intro g hg
  rcases h.2 with ⟨h0, h1⟩ | ⟨g', cap, cur, rfl, hb, _⟩
  · rw [h0] at hg; cases hg
  · cases hg; exact hb

theorem below_grown {base : Nat} {w w1 w2 : World} {row : Option Nat} (h : Below base w w1) (hg : w1.grownBy w2 row) (hr : ∀ g, row = some g → base ≤ g) (hb : base ≤ w1.heap.size) : Below base w w2 :=
  ⟨hg.os.trans h.os, hg.tape.trans h.tape, hg.output.trans h.output, Nat.le_trans h.size hg.size, fun k hk => (hg.block k (by omega) (fun e => by have := hr k e.symm; omega)).trans (h.block k hk)⟩

set_option maxRecDepth 100000 in
set_option maxHeartbeats 1000000 in
theorem add_calls {w : World} {base : Nat} (hb : base ≤ w.heap.size) (vo : Value) (k : Nat) (xs : List Value) (n long : Nat) (hn : n < 2 ^ 32) (hl : long ≤ 32) (hk : k ≤ 104) (how : w.ownsRow base 4 1 vo k xs) :
    Calls Try.prog 82 #[vo, .int .u32 (n : Int), .int .i64 (long : Int)] w fun e w' => ∃ v', e = .returned v' ∧ w'.ownsRow base 4 1 v' (k + long) (xs ++ addN n long long) ∧ Below base w w' := by
  obtain ⟨i0, hi, hz0, hz1, hz2⟩ := info_parts bool_info
  have HOW := Lib.hid how
  clear how
  go_enter Try.func82, Try.ntmps82
  go_wp2_with (fail)
  go_loopg [0, 7] long (fun gk v vi wr => ∃ t : Nat, t + gk = long ∧ vi = .int .i64 ((long : Int) - 1 - (t : Int)) ∧ wr.ownsRow base 4 1 v (k + t) (xs ++ addN n long t) ∧ Below base w wr)
  case atStart => exact ⟨0, by omega, by simp, by simpa [addN] using HOW.out, Below.refl _ _⟩
  case round =>
    obtain ⟨t, ht, rfl, ho, hB⟩ := hrel
    have HO := Lib.hid ho
    have HB := Lib.hid hB
    have hwz := hB.size
    clear ho hB
    by_cases hlt : t < long
    · obtain ⟨j, hj⟩ : ∃ j : Nat, (long : Int) - 1 - (t : Int) = (j : Int) := ⟨long - 1 - t, by omega⟩
      have hjn : long - 1 - t = j := by omega
      rw [hj]
      have HJ := Lib.hid hjn
      have hj32 : j < 32 := by omega
      have hj2 : (j : Int) + 1 + (t : Int) = (long : Int) := by omega
      clear hj hjn
      generalize hv : (((n : Int) / 2 ^ j).tmod 2 == 1) = bv
      have HBV := Lib.hid ((tmod_bit n j).symm.trans hv)
      go_wp2_with (at_builtin; refine wpList_append_lies _ rfl (.tmp 14) (.tmp 20) 35 rfl base 4 i0 _ 1 1 Try.underlying35 hi hz0 hz1 hz2 rfl (by decide) _ (k + t) (xs ++ addN n long t) rfl ?_ ⟨wr.heap.size, 0, none⟩ 1 1 [.bool bv] rfl rfl ?_ ?_ (by omega) ?_ ?_ ?_ _ rfl ?_; (· exact own_kept HO.out ((Kept.refl [] _).alloc _) (by simp)); (· exact news_at (by simp)); (· simp [Value.oneCell']); (· unfold maxLen; omega); (· omega); (· simp; omega); intro g9 cap9 w9 how9 hgr9 hat9 hlt9; have HOW9 := Lib.hid how9; have HGR9 := Lib.hid hgr9; clear how9 hgr9 hat9 hlt9)
      go_roundg (gk - 1)
      case measure => omega
      case rel =>
        refine ⟨t + 1, by omega, ?_, ?_, ?_⟩
        · congr 1
          first | omega | (rw [IntKind.wrap_i64]; omega)
        · have := HOW9.out
          rw [addN_succ, ← List.append_assoc, HJ.out, HBV.out]
          exact this
        · exact below_grown (HB.out.alloc (by omega) _) HGR9.out (fun g hg => own_past3 HO.out g hg) (by simp; omega)
    · obtain rfl : t = long := by omega
      rw [show ((t : Int) - 1 - (t : Int)) = -1 by omega]
      go_wp2_with (fail)
      go_ret
      exact ⟨_, rfl, HO.out, HB.out⟩

/-- All bits of a header. -/
def bitsH (h : Hd) : List Value := addN h.dst 32 32 ++ addN h.src 32 32 ++ addN h.proto 8 8 ++ addN h.sport 16 16 ++ addN h.dport 16 16
set_option maxRecDepth 100000 in
set_option maxHeartbeats 1000000 in
theorem bits_calls (w : World) (h : Hd) (hw : h.Wf) :
    Calls Try.prog 53 #[h.val] w fun e w' => ∃ v', e = .returned v' ∧ w'.ownsRow w.heap.size 4 1 v' 104 (bitsH h) ∧ Below w.heap.size w w' := by
  obtain ⟨d, s, p, sp, dp⟩ := h
  obtain ⟨h1, h2, h3, h4, h5⟩ := hw
  unfold Hd.val
  simp only at *
  go_enter Try.func53, Try.ntmps53
  go_wp2_with (fail)
  have B1 := (Below.refl w.heap.size w).alloc (Nat.le_refl _) (.cells #[.int .u32 (d : Int), .int .u32 (s : Int), .int .u8 (p : Int), .int .u16 (sp : Int), .int .u16 (dp : Int)] 25)
  have X1 := heap_alloc_new w (.cells #[.int .u32 (d : Int), .int .u32 (s : Int), .int .u8 (p : Int), .int .u16 (sp : Int), .int .u16 (dp : Int)] 25)
  have hz : w.heap.size + 1 = (w.alloc (.cells #[.int .u32 (d : Int), .int .u32 (s : Int), .int .u8 (p : Int), .int .u16 (sp : Int), .int .u16 (dp : Int)] 25)).heap.size := by simp
  generalize w.alloc (.cells #[.int .u32 (d : Int), .int .u32 (s : Int), .int .u8 (p : Int), .int .u16 (sp : Int), .int .u16 (dp : Int)] 25) = w1 at *
  refine (add_calls (base := w.heap.size + 1) (w := w1) (by omega) (.slice none 0 0) (0) ([]) d 32 h1 (by omega) (by omega) (World.ownsRow_nil _ _ _ _)).mono ?_
  rintro e w2 ⟨v2, he, o2, k2⟩
  subst he
  have HO2 := Lib.hid o2
  have HB2 := Lib.hid (k2)
  have X2 := (HB2.out.block w.heap.size (by omega)).trans X1
  have dx2 := And.intro (cell_of X2 0) (And.intro (cell_of X2 1) (And.intro (cell_of X2 2) (And.intro (cell_of X2 3) (cell_of X2 4))))
  simp only [List.getElem?_toArray, List.getElem?_cons_zero, List.getElem?_cons_succ] at dx2
  clear o2 k2 X2
  go_wp2_with (fail)
  refine (add_calls (base := w.heap.size + 1) (w := w2) (by have := HB2.out.size; omega) v2 (0 + 32) ([] ++ addN d 32 32) s 32 h2 (by omega) (by omega) HO2.out).mono ?_
  rintro e w3 ⟨v3, he, o3, k3⟩
  subst he
  have HO3 := Lib.hid o3
  have HB3 := Lib.hid ((HB2.out.trans k3))
  have X3 := (HB3.out.block w.heap.size (by omega)).trans X1
  have dx3 := And.intro (cell_of X3 0) (And.intro (cell_of X3 1) (And.intro (cell_of X3 2) (And.intro (cell_of X3 3) (cell_of X3 4))))
  simp only [List.getElem?_toArray, List.getElem?_cons_zero, List.getElem?_cons_succ] at dx3
  clear o3 k3 X3
  go_wp2_with (fail)
  refine (add_calls (base := w.heap.size + 1) (w := w3) (by have := HB3.out.size; omega) v3 (0 + 32 + 32) ([] ++ addN d 32 32 ++ addN s 32 32) p 8 (show p < 2 ^ 32 by omega) (by omega) (by omega) HO3.out).mono ?_
  rintro e w4 ⟨v4, he, o4, k4⟩
  subst he
  have HO4 := Lib.hid o4
  have HB4 := Lib.hid ((HB3.out.trans k4))
  have X4 := (HB4.out.block w.heap.size (by omega)).trans X1
  have dx4 := And.intro (cell_of X4 0) (And.intro (cell_of X4 1) (And.intro (cell_of X4 2) (And.intro (cell_of X4 3) (cell_of X4 4))))
  simp only [List.getElem?_toArray, List.getElem?_cons_zero, List.getElem?_cons_succ] at dx4
  clear o4 k4 X4
  go_wp2_with (fail)
  refine (add_calls (base := w.heap.size + 1) (w := w4) (by have := HB4.out.size; omega) v4 (0 + 32 + 32 + 8) ([] ++ addN d 32 32 ++ addN s 32 32 ++ addN p 8 8) sp 16 (show sp < 2 ^ 32 by omega) (by omega) (by omega) HO4.out).mono ?_
  rintro e w5 ⟨v5, he, o5, k5⟩
  subst he
  have HO5 := Lib.hid o5
  have HB5 := Lib.hid ((HB4.out.trans k5))
  have X5 := (HB5.out.block w.heap.size (by omega)).trans X1
  have dx5 := And.intro (cell_of X5 0) (And.intro (cell_of X5 1) (And.intro (cell_of X5 2) (And.intro (cell_of X5 3) (cell_of X5 4))))
  simp only [List.getElem?_toArray, List.getElem?_cons_zero, List.getElem?_cons_succ] at dx5
  clear o5 k5 X5
  go_wp2_with (fail)
  refine (add_calls (base := w.heap.size + 1) (w := w5) (by have := HB5.out.size; omega) v5 (0 + 32 + 32 + 8 + 16) ([] ++ addN d 32 32 ++ addN s 32 32 ++ addN p 8 8 ++ addN sp 16 16) dp 16 (show dp < 2 ^ 32 by omega) (by omega) (by omega) HO5.out).mono ?_
  rintro e w6 ⟨v6, he, o6, k6⟩
  subst he
  have HO6 := Lib.hid o6
  have HB6 := Lib.hid ((HB5.out.trans k6))
  have X6 := (HB6.out.block w.heap.size (by omega)).trans X1
  have dx6 := And.intro (cell_of X6 0) (And.intro (cell_of X6 1) (And.intro (cell_of X6 2) (And.intro (cell_of X6 3) (cell_of X6 4))))
  simp only [List.getElem?_toArray, List.getElem?_cons_zero, List.getElem?_cons_succ] at dx6
  clear o6 k6 X6
  go_wp2_with (fail)
  go_ret
  refine ⟨_, rfl, ?_, B1.trans (HB6.out.mono (by omega))⟩
  have hq := HO6.out
  simp only [List.nil_append] at hq
  refine ⟨hq.1, ?_⟩
  rcases hq.2 with h | ⟨g, cap, cur, e, hb, r⟩
  · exact Or.inl h
  · exact Or.inr ⟨g, cap, cur, e, by omega, r⟩

end Go.Proofs.Ytakgghhmecphmaa
