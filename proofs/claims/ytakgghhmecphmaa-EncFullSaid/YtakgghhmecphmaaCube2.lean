/- The walks of Cube where the bits don't rise, and of Var. -/
import Derived.Test.YtakgghhmecphmaaCube
namespace Go.Proofs.Ytakgghhmecphmaa
set_option linter.unusedVariables false
set_option linter.unusedSimpArgs false
open Go.RowKit Go.Maps

set_option maxRecDepth 100000 in
set_option maxHeartbeats 1000000 in
theorem cube_bad {w : World} {p : Nat} (b off cap n : Nat) (l : List (Int × Bool)) (hnm : n ≤ 104) (hL : LitsAt w b off l) (kb : Nat) (hkb : kb < n)
    (hgood : ∀ i, i < kb → ∃ x : Int × Bool, l[i]? = some x ∧ 0 ≤ x.1 ∧ x.1 < 104 ∧ (0 < i → ∃ y : Int × Bool, l[i - 1]? = some y ∧ y.1 < x.1))
    (hbad : ∃ x : Int × Bool, l[kb]? = some x ∧ (x.1 < 0 ∨ 104 ≤ x.1 ∨ (0 < kb ∧ ∃ y : Int × Bool, l[kb - 1]? = some y ∧ x.1 ≤ y.1))) :
    Calls Try.prog 22 #[.pointer (some ⟨p, 0, none⟩), .slice (some ⟨b, off, none⟩) n cap] w fun e w' => e = .returned (.tuple #[.int .i64 0, .int .i64 1]) ∧ Below w.heap.size w w' := by
  have HL := Lib.hid hL
  have HX := Lib.hid hgood
  have HB := Lib.hid hbad
  clear hL hgood hbad
  go_enter Try.func22, Try.ntmps22
  go_wp2
  go_loopw [18] (fun i wr => ∃ k : Nat, k ≤ kb ∧ i = .int .i64 (k : Int) ∧ Kept [] w wr) (fun i _ => n - (intOf i).toNat)
  case atStart => exact ⟨0, Nat.zero_le _, rfl, Kept.refl _ _⟩
  case round =>
    obtain ⟨k, hk, rfl, hK⟩ := hrel
    have HK := Lib.hid hK
    clear hK
    have hkn : k < n := by omega
    by_cases hlt : k < kb
    · obtain ⟨x, hx, hxz, hx4, hx0⟩ := HX.out k hlt
      obtain ⟨k0, k1⟩ := (HL.out.kept HK.out (by simp)).at_ hx
      have t1 : decide (x.1 < 0) = false := decide_eq_false (by omega)
      have t2 : decide (104 ≤ x.1) = false := decide_eq_false (by omega)
      by_cases hkz : k = 0
      · generalize x.1 = xv at *
        generalize x.2 = xo at *
        subst hkz
        simp at k0 k1
        clear hx0 hx hx4
        go_wp2
        go_quiet (fail)
        go_wp2
        go_roundw
        case rel => exact ⟨1, by omega, by go_num, (HK.out.alloc _).drewN _⟩
        case measure => simp [intOf]; omega
      · obtain ⟨y, hy, hyx⟩ := hx0 (by omega)
        obtain ⟨j, rfl⟩ : ∃ j, k = j + 1 := ⟨k - 1, by omega⟩
        obtain ⟨y0, y1⟩ := (HL.out.kept HK.out (by simp)).at_ (i := j) (x := y) hy
        have hbz : b < wr.heap.size := World.block_lt_of_cell? wr _ y0
        have t3 : decide (x.1 ≤ y.1) = false := decide_eq_false (by omega)
        have hjn : (j : Int) < n := by omega
        have hj0 : 0 < j + 1 := by omega
        have hw : IntKind.i64.wrap (j : Int) = (j : Int) := IntWalk.i64_in _ (by omega)
        generalize x.1 = xv at *
        generalize x.2 = xo at *
        generalize y.1 = yv at *
        clear hx0 hx hx4 hyx hy
        go_wp2
        go_quiet (fail)
        go_wp2
        go_roundw
        case rel => exact ⟨j + 2, by omega, by go_num, (HK.out.alloc _).drewN _⟩
        case measure => simp [intOf]; omega
    · obtain rfl : k = kb := by omega
      have hend : ∀ m o, Below w.heap.size w ((wr.alloc o).drewN m) := fun m o => Kept.below ((HK.out.alloc o).drewN m) (Nat.le_refl _) (by simp)
      have HE := Lib.hid hend
      clear hend
      obtain ⟨x, hx, hbx⟩ := HB.out
      obtain ⟨k0, k1⟩ := (HL.out.kept HK.out (by simp)).at_ hx
      by_cases h1 : x.1 < 0
      · have t1 : decide (x.1 < 0) = true := decide_eq_true h1
        generalize x.1 = xv at *
        generalize x.2 = xo at *
        clear hx hbx h1
        go_wp2
        go_quiet (fail)
        go_wp2
        go_ret2
        exact ⟨rfl, HE.out _ _⟩
      · have t1 : decide (x.1 < 0) = false := decide_eq_false h1
        by_cases h2 : 104 ≤ x.1
        · have t2 : decide (104 ≤ x.1) = true := decide_eq_true h2
          generalize x.1 = xv at *
          generalize x.2 = xo at *
          clear hx hbx h1 h2
          go_wp2
          go_quiet (fail)
          go_wp2
          go_ret2
          exact ⟨rfl, HE.out _ _⟩
        · have t2 : decide (104 ≤ x.1) = false := decide_eq_false h2
          obtain ⟨hk0, y, hy, hyx⟩ : 0 < k ∧ ∃ y : Int × Bool, l[k - 1]? = some y ∧ x.1 ≤ y.1 := by
            rcases hbx with h | h | h
            · exact absurd h h1
            · exact absurd h h2
            · exact h
          obtain ⟨j, rfl⟩ : ∃ j, k = j + 1 := ⟨k - 1, by omega⟩
          obtain ⟨y0, y1⟩ := (HL.out.kept HK.out (by simp)).at_ (i := j) (x := y) hy
          have hbz : b < wr.heap.size := World.block_lt_of_cell? wr _ y0
          have t3 : decide (x.1 ≤ y.1) = true := decide_eq_true hyx
          have hjn : (j : Int) < n := by omega
          have hw : IntKind.i64.wrap (j : Int) = (j : Int) := IntWalk.i64_in _ (by omega)
          generalize x.1 = xv at *
          generalize x.2 = xo at *
          generalize y.1 = yv at *
          clear hx hbx h1 h2 hyx hy
          go_wp2
          go_quiet (fail)
          go_wp2
          go_ret2
          exact ⟨rfl, HE.out _ _⟩

theorem cube_nil (w : World) (v : Value) : Calls Try.prog 22 #[.pointer none, v] w fun e w' => e = .returned (.tuple #[.int .i64 0, .int .i64 2]) ∧ w = w' := by
  go_enter Try.func22, Try.ntmps22
  go_wp2
  go_ret2
  exact ⟨rfl, rfl⟩

theorem var_nil (w : World) (i : Int) : Calls Try.prog 37 #[.pointer none, .int .i64 i] w fun e w' => e = .returned (.tuple #[.int .i64 0, .int .i64 2]) ∧ Below w.heap.size w w' := by
  go_enter Try.func37, Try.ntmps37
  go_wp2_with (go_at_call 22; refine (cube_nil _ _).mono ?_; rintro e w' ⟨rfl, rfl⟩)
  go_ret2
  exact ⟨rfl, (Below.refl _ _).alloc (Nat.le_refl _) _⟩

theorem lits_new {w : World} {t : TypeId} (l : List (Int × Bool)) {b : Nat} (hb : w.heap[b]? = some (.cells (ltCells l).toArray t (0, 0))) : LitsAt w b 0 l := by
  intro j u hu
  rw [Nat.zero_add, cell_of hb j]
  simpa using hu

theorem var_calls {w : World} {p g mb : Nat} {A : Arn} (h : ArenaAt w p g mb A) (hOK : A.OK) (i : Nat) (hi : i < 104) :
    Calls Try.prog 37 #[.pointer (some ⟨p, 0, none⟩), .int .i64 (i : Int)] w (ArenaPost w p g mb (cubeF A [(i, true)]).1 (cubeF A [(i, true)]).2) := by
  have hlt := h.lt
  have C := Lib.hid (fun (h1 : ArenaAt (w.alloc (.cells #[.int .i64 (i : Int), .bool true] 38)) p g mb A) hL => cube_calls h1 hOK w.heap.size 0 1 1 [(i, true)] rfl (by omega) (by omega) ⟨by simpa using hi, by simp⟩ hL (by omega) (by omega) (by omega))
  have H1 := Lib.hid (h.kept ((Kept.refl [] w).alloc (.cells #[.int .i64 (i : Int), .bool true] 38)) (by simp) (by simp) (by simp))
  have HL := Lib.hid (lits_new (w := w.alloc (.cells #[.int .i64 (i : Int), .bool true] 38)) [((i : Int), true)] (blk_new rfl))
  generalize cubeF A [(i, true)] = R at *
  obtain ⟨r, A'⟩ := R
  clear h hOK
  go_enter Try.func37, Try.ntmps37
  go_wp2_with (fail)
  refine (C.out H1.out HL.out).mono ?_
  rintro e w2 ⟨rfl, g2, hg2, A2, K2⟩
  have A2 := Lib.hid A2
  have K2' := Lib.hid (((Kept.refl [p, g, mb] w).alloc (.cells #[.int .i64 (i : Int), .bool true] 38)).trans K2 (by simp))
  have hg2z : g2 = g ∨ w.heap.size ≤ g2 := by simp at hg2; omega
  clear K2 hg2
  cases r with
  | none =>
    simp only [resV, Option.getD_none, Option.isSome_none, Bool.false_eq_true, if_false]
    go_wp2
    go_ret2
    exact ⟨rfl, g2, hg2z, A2.out, K2'.out⟩
  | some x =>
    simp only [resV, Option.getD_some, Option.isSome_some, if_true]
    go_wp2
    go_ret2
    exact ⟨rfl, g2, hg2z, A2.out, K2'.out⟩

theorem var_bad {w : World} {p : Nat} (i : Int) (hi : i < 0 ∨ 104 ≤ i) :
    Calls Try.prog 37 #[.pointer (some ⟨p, 0, none⟩), .int .i64 i] w fun e w' => e = .returned (.tuple #[.int .i64 0, .int .i64 1]) ∧ Below w.heap.size w w' := by
  have C := Lib.hid (fun hL => cube_bad (w := w.alloc (.cells #[.int .i64 i, .bool true] 38)) (p := p) w.heap.size 0 1 1 [(i, true)] (by omega) hL 0 (by omega) (by intro j hj; omega) ⟨(i, true), rfl, by rcases hi with h | h; exact Or.inl h; exact Or.inr (Or.inl h)⟩)
  have HL := Lib.hid (lits_new (w := w.alloc (.cells #[.int .i64 i, .bool true] 38)) [(i, true)] (blk_new rfl))
  clear hi
  go_enter Try.func37, Try.ntmps37
  go_wp2_with (fail)
  refine (C.out HL.out).mono ?_
  rintro e w2 ⟨rfl, hb⟩
  have K2' := Lib.hid (Kept.below (((Kept.refl [] w).alloc (.cells #[.int .i64 i, .bool true] 38)).trans (Kept.of_below (S := []) hb) (by simp)) (Nat.le_refl _) (by simp))
  clear hb
  go_wp2
  go_ret2
  exact ⟨rfl, K2'.out⟩

end Go.Proofs.Ytakgghhmecphmaa
