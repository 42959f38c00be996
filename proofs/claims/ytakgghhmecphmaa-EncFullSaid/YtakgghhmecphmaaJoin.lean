/- The walks of an arena's mk, whole, of short and parts. -/
import Derived.Test.YtakgghhmecphmaaMk
namespace Go.Proofs.Ytakgghhmecphmaa
set_option linter.unusedVariables false
set_option linter.unusedSimpArgs false
open Go.RowKit Go.Maps

/-- What a call that makes sets in the arena behind p leaves: r, the arena A'. -/
def ArenaPost (w : World) (p g mb : Nat) (r : Option Nat) (A' : Arn) : Ending → World → Prop := fun e w' =>
  e = .returned (resV r) ∧ ∃ g', (g' = g ∨ w.heap.size ≤ g') ∧ ArenaAt w' p g' mb A' ∧ Kept [p, g, mb] w w'

theorem ArenaAt.apart {w : World} {p g mb : Nat} {A : Arn} (h : ArenaAt w p g mb A) : p ≠ g ∧ p ≠ mb ∧ g ≠ mb := by
  obtain ⟨cap, n, b1, b2, b3⟩ := h
  refine ⟨?_, ?_, ?_⟩
  · rcases b2.2 with ⟨h, _⟩ | ⟨g1, _, _, hv, _, hh, _⟩
    · cases h
    · injection hv with hv; injection hv with hv; injection hv with hv
      subst hv
      exact block_ne b1 hh (by intro h; injection h with _ h; exact absurd h (by decide))
  · obtain ⟨es, clock, hb, _⟩ := b3; exact block_ne b1 hb (by intro h; cases h)
  · rcases b2.2 with ⟨h, _⟩ | ⟨g1, _, _, hv, _, hh, _⟩
    · cases h
    · injection hv with hv; injection hv with hv; injection hv with hv
      subst hv
      obtain ⟨es, clock, hb, _⟩ := b3; exact block_ne hh hb (by intro h; cases h)

theorem ArenaAt.below {w w' : World} {p g mb : Nat} {A : Arn} (h : ArenaAt w p g mb A) (k : Below w.heap.size w w') : ArenaAt w' p g mb A :=
  h.kept (Kept.of_below (S := []) k) (by simp) (by simp) (by simp)

theorem mk_calls {w : World} {p g mb : Nat} {A : Arn} (h : ArenaAt w p g mb A) (hOK : A.OK) (level low high : Nat) (hl : level < 1048576) (hlo : low < 1048576) (hhi : high < 1048576) :
    Calls Try.prog 55 #[.pointer (some ⟨p, 0, none⟩), .int .i64 (level : Int), .int .i64 (low : Int), .int .i64 (high : Int)] w (ArenaPost w p g mb (mkF A level low high).1 (mkF A level low high).2) := by
  by_cases hne : low = high
  · subst hne
    refine (mk_same w p level low).mono ?_
    rintro e w' ⟨rfl, rfl⟩
    have : mkF A level low low = (some low, A) := by simp [mkF]
    rw [this]
    exact ⟨rfl, g, Or.inl rfl, h, Kept.refl _ _⟩
  · cases hf : findF A.nodes ⟨level, low, high⟩ with
    | some i =>
      refine (mk_found h hne hf).mono ?_
      rintro e w' ⟨rfl, hb⟩
      have : mkF A level low high = (some i, A) := by simp [mkF, hne, hf]
      rw [this]
      exact ⟨rfl, g, Or.inl rfl, h.below hb, Kept.of_below hb⟩
    | none =>
      by_cases hm : A.most ≤ A.nodes.length
      · refine (mk_full h hl hlo hhi hne hf hm).mono ?_
        rintro e w' ⟨rfl, hb⟩
        have : mkF A level low high = (none, A) := by simp [mkF, hne, hf, hm]
        rw [this]
        exact ⟨rfl, g, Or.inl rfl, h.below hb, Kept.of_below hb⟩
      · refine (mk_new h hl hlo hhi hne hf (by omega) hOK).mono ?_
        rintro e w' ⟨rfl, hb⟩
        have : mkF A level low high = (some A.nodes.length, { A with nodes := A.nodes ++ [⟨level, low, high⟩] }) := by simp [mkF, hne, hf, hm]
        rw [this]
        exact ⟨rfl, hb⟩

theorem short_calls0 (f g : Nat) (w : World) : Calls Try.prog 85 #[.int .i64 0, .int .i64 (f : Int), .int .i64 (g : Int)] w fun e w' =>
    e = .returned (.tuple #[.int .i64 (((shortF 0 f g).getD 0 : Nat) : Int), .bool (shortF 0 f g).isSome]) ∧ w = w' := by
  go_enter Try.func85, Try.ntmps85
  go_wp2
  all_goals (
    go_ret2
    refine ⟨?_, rfl⟩
    simp at *
    unfold shortF
    (repeat' split) <;> first | rfl | (exfalso; omega) | (simp <;> omega))

theorem short_calls1 (f g : Nat) (w : World) : Calls Try.prog 85 #[.int .i64 1, .int .i64 (f : Int), .int .i64 (g : Int)] w fun e w' =>
    e = .returned (.tuple #[.int .i64 (((shortF 1 f g).getD 0 : Nat) : Int), .bool (shortF 1 f g).isSome]) ∧ w = w' := by
  go_enter Try.func85, Try.ntmps85
  go_wp2
  all_goals (
    go_ret2
    refine ⟨?_, rfl⟩
    simp at *
    unfold shortF
    (repeat' split) <;> first | rfl | (exfalso; omega) | (simp <;> omega))

theorem short_calls2 (f g : Nat) (w : World) : Calls Try.prog 85 #[.int .i64 2, .int .i64 (f : Int), .int .i64 (g : Int)] w fun e w' =>
    e = .returned (.tuple #[.int .i64 (((shortF 2 f g).getD 0 : Nat) : Int), .bool (shortF 2 f g).isSome]) ∧ w = w' := by
  go_enter Try.func85, Try.ntmps85
  go_wp2
  all_goals (
    go_ret2
    refine ⟨?_, rfl⟩
    simp at *
    unfold shortF
    (repeat' split) <;> first | rfl | (exfalso; omega) | (simp <;> omega))

theorem short_calls3 (f g : Nat) (w : World) : Calls Try.prog 85 #[.int .i64 3, .int .i64 (f : Int), .int .i64 (g : Int)] w fun e w' =>
    e = .returned (.tuple #[.int .i64 (((shortF 3 f g).getD 0 : Nat) : Int), .bool (shortF 3 f g).isSome]) ∧ w = w' := by
  go_enter Try.func85, Try.ntmps85
  go_wp2
  all_goals (
    go_ret2
    refine ⟨?_, rfl⟩
    simp at *
    unfold shortF
    (repeat' split) <;> first | rfl | (exfalso; omega) | (simp <;> omega))

theorem short_calls (k f g : Nat) (kind : Int) (hk : kind = k) (h3 : k ≤ 3) (w : World) : Calls Try.prog 85 #[.int .i64 kind, .int .i64 (f : Int), .int .i64 (g : Int)] w fun e w' =>
    e = .returned (.tuple #[.int .i64 (((shortF k f g).getD 0 : Nat) : Int), .bool (shortF k f g).isSome]) ∧ w = w' := by
  obtain rfl | rfl | rfl | rfl : k = 0 ∨ k = 1 ∨ k = 2 ∨ k = 3 := by omega
  · obtain rfl : kind = 0 := by omega
    exact short_calls0 f g w
  · obtain rfl : kind = 1 := by omega
    exact short_calls1 f g w
  · obtain rfl : kind = 2 := by omega
    exact short_calls2 f g w
  · obtain rfl : kind = 3 := by omega
    exact short_calls3 f g w

theorem parts_calls {w : World} {p g mb : Nat} {A : Arn} (h : ArenaAt w p g mb A) (f level : Nat) (lvl : Int) (hlvl : lvl = level) (hf : f < A.nodes.length) :
    Calls Try.prog 86 #[.pointer (some ⟨p, 0, none⟩), .int .i64 (f : Int), .int .i64 lvl] w fun e w' =>
      e = .returned (.tuple #[.int .i64 ((partsF A f level).1 : Int), .int .i64 ((partsF A f level).2 : Int)]) ∧ Below w.heap.size w w' := by
  subst hlvl
  have hn : A.nodes[f]? = some (A.nd f) := by simp [Arn.nd, List.getD_eq_getElem?_getD, List.getElem?_eq_getElem hf]
  obtain ⟨k0, k1, k2⟩ := h.nd hn
  unfold partsF
  generalize A.nd f = N at *
  obtain ⟨cap, n, b1, b2, b3⟩ := h
  have hsz := lt_of_block b1
  have c0 := cell_of b1 0
  simp at c0
  clear b1 b2 b3 hn
  by_cases hl : N.level = level
  · rw [if_pos hl]
    subst hl
    go_enter Try.func86, Try.ntmps86
    go_wp2
    go_quiet (fail)
    go_wp2
    go_ret2
    exact ⟨rfl, ((Below.refl _ _).alloc (Nat.le_refl _) _).trans (Kept.below (Kept.of_drewN (S := []) _ _) (by simp) (by simp))⟩
  · rw [if_neg hl]
    have hl' : ((N.level : Int) == (level : Int)) = false := by simp; omega
    go_enter Try.func86, Try.ntmps86
    go_wp2
    go_ret2
    exact ⟨rfl, (Below.refl _ _).alloc (Nat.le_refl _) _⟩

end Go.Proofs.Ytakgghhmecphmaa
