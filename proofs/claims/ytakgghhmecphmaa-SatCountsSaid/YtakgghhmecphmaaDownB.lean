/- The walks of sat.Least and sat.Most; the document's example of layer 8. -/
import Derived.Test.YtakgghhmecphmaaDown
import Derived.Test.YtakgghhmecphmaaCountB
import Derived.Test.YtakgghhmecphmaaLaw
namespace Go.Proofs.Ytakgghhmecphmaa
set_option linter.unusedVariables false
set_option linter.unusedSimpArgs false
open Go.RowKit Go.Maps

set_option maxRecDepth 100000 in
theorem walk_none {w : World} {p g mb : Nat} {A : Arn} (h : ArenaAt w p g mb A) (f : Int) (hf : ¬ (0 ≤ f ∧ f < A.nodes.length) ∨ f = 0) (on : Bool) :
    Calls Try.prog 56 #[.pointer (some ⟨p, 0, none⟩), .int .i64 f, .bool on] w fun e w' => e = .returned (.tuple #[hdZ.val, .bool false]) ∧ Below w.heap.size w w' := by
  have HH := Lib.hid (fun w' (k : Below w.heap.size w w') => has_calls (h.below k) f)
  by_cases h1 : 0 ≤ f ∧ f < A.nodes.length
  · have E0 := Lib.hid (decide_eq_true h1)
    have hf0 : f = 0 := hf.elim (fun h => absurd h1 h) id
    have t1 : (f == 0) = true := by rw [hf0]; rfl
    clear h1 hf hf0
    go_enter Try.func56, Try.ntmps56
    go_wp2_with (fail)
    refine (HH.out _ (((Below.refl _ _).alloc (Nat.le_refl _) _).alloc (by simp) _)).mono ?_
    rintro e w' ⟨he, hw⟩
    subst he hw
    rw [E0.out]
    go_wp2_with (fail)
    simp [bodyPost, results, Try.results56, go_sem]
    exact ⟨rfl, ((Below.refl _ _).alloc (Nat.le_refl _) _).alloc (by simp) _⟩
  · have E0 := Lib.hid (decide_eq_false h1)
    clear h1 hf
    go_enter Try.func56, Try.ntmps56
    go_wp2_with (fail)
    refine (HH.out _ (((Below.refl _ _).alloc (Nat.le_refl _) _).alloc (by simp) _)).mono ?_
    rintro e w' ⟨he, hw⟩
    subst he hw
    rw [E0.out]
    go_wp2_with (fail)
    simp [bodyPost, results, Try.results56, go_sem]
    exact ⟨rfl, ((Below.refl _ _).alloc (Nat.le_refl _) _).alloc (by simp) _⟩

set_option maxRecDepth 100000 in
theorem least_calls {w : World} {p g mb : Nat} {A : Arn} (h : ArenaAt w p g mb A) (hO : A.OK) (f : Nat) (hf : f < A.nodes.length) (h0 : f ≠ 0) :
    Calls Try.prog 23 #[.pointer (some ⟨p, 0, none⟩), .int .i64 (f : Int)] w fun e w' => (∃ hd, Least A f false hd ∧ e = .returned (.tuple #[hd.val, .bool true])) ∧ Below w.heap.size w w' := by
  have HA := Lib.hid h
  have HO := Lib.hid hO
  clear h hO
  go_enter Try.func23, Try.ntmps23
  go_wp2_with (fail)
  have B1 := (Below.refl w.heap.size w).alloc (Nat.le_refl _) (.cells #[.int .u32 0, .int .u32 0, .int .u8 0, .int .u16 0, .int .u16 0] 25)
  have Y1 := heap_alloc_new w (.cells #[.int .u32 0, .int .u32 0, .int .u8 0, .int .u16 0, .int .u16 0] 25)
  have HW := walk_calls (HA.out.below B1) HO.out f hf h0 false
  refine HW.mono ?_
  rintro e w2 ⟨⟨hd, HL, he⟩, k2⟩
  subst he
  have K2 := Lib.hid ((Kept.of_below (S := [w.heap.size]) B1).trans (Kept.of_below (S := []) k2) (by simp))
  have Y2 := (k2.block _ (lt_of_block Y1)).trans Y1
  have dy := And.intro (cell_of Y2 0) (And.intro (cell_of Y2 1) (And.intro (cell_of Y2 2) (And.intro (cell_of Y2 3) (cell_of Y2 4))))
  simp only [List.getElem?_toArray, List.getElem?_cons_zero, List.getElem?_cons_succ] at dy
  have fy := And.intro (unfrozen_of Y2 0) (And.intro (unfrozen_of Y2 1) (And.intro (unfrozen_of Y2 2) (And.intro (unfrozen_of Y2 3) (unfrozen_of Y2 4))))
  have HY2 := Lib.hid Y2
  clear Y1 Y2 B1 k2 HW
  unfold Hd.val
  go_wp2_with (fail)
  have E0 := set_block HY2.out 0 (.int .u32 (hd.dst : Int))
  have q0 := cell_of E0 0
  have E1 := set_block E0 1 (.int .u32 (hd.src : Int))
  have q1 := cell_of E1 1
  have E2 := set_block E1 2 (.int .u8 (hd.proto : Int))
  have q2 := cell_of E2 2
  have E3 := set_block E2 3 (.int .u16 (hd.sport : Int))
  have q3 := cell_of E3 3
  have E4 := set_block E3 4 (.int .u16 (hd.dport : Int))
  have q4 := cell_of E4 4
  simp at q0 q1 q2 q3 q4
  clear E0 E1 E2 E3 E4
  simp [bodyPost, results, Try.results23, go_sem, q0, q1, q2, q3, q4]
  exact ⟨⟨hd, HL, rfl⟩, (K2.out.trans (kept5 _ w.heap.size _ _ _ _ _) (by simp)).below (Nat.le_refl _) (by simp)⟩

set_option maxRecDepth 100000 in
theorem most_calls {w : World} {p g mb : Nat} {A : Arn} (h : ArenaAt w p g mb A) (hO : A.OK) (f : Nat) (hf : f < A.nodes.length) (h0 : f ≠ 0) :
    Calls Try.prog 52 #[.pointer (some ⟨p, 0, none⟩), .int .i64 (f : Int)] w fun e w' => (∃ hd, Least A f true hd ∧ e = .returned (.tuple #[hd.val, .bool true])) ∧ Below w.heap.size w w' := by
  have HA := Lib.hid h
  have HO := Lib.hid hO
  clear h hO
  go_enter Try.func52, Try.ntmps52
  go_wp2_with (fail)
  have B1 := (Below.refl w.heap.size w).alloc (Nat.le_refl _) (.cells #[.int .u32 0, .int .u32 0, .int .u8 0, .int .u16 0, .int .u16 0] 25)
  have Y1 := heap_alloc_new w (.cells #[.int .u32 0, .int .u32 0, .int .u8 0, .int .u16 0, .int .u16 0] 25)
  have HW := walk_calls (HA.out.below B1) HO.out f hf h0 true
  refine HW.mono ?_
  rintro e w2 ⟨⟨hd, HL, he⟩, k2⟩
  subst he
  have K2 := Lib.hid ((Kept.of_below (S := [w.heap.size]) B1).trans (Kept.of_below (S := []) k2) (by simp))
  have Y2 := (k2.block _ (lt_of_block Y1)).trans Y1
  have dy := And.intro (cell_of Y2 0) (And.intro (cell_of Y2 1) (And.intro (cell_of Y2 2) (And.intro (cell_of Y2 3) (cell_of Y2 4))))
  simp only [List.getElem?_toArray, List.getElem?_cons_zero, List.getElem?_cons_succ] at dy
  have fy := And.intro (unfrozen_of Y2 0) (And.intro (unfrozen_of Y2 1) (And.intro (unfrozen_of Y2 2) (And.intro (unfrozen_of Y2 3) (unfrozen_of Y2 4))))
  have HY2 := Lib.hid Y2
  clear Y1 Y2 B1 k2 HW
  unfold Hd.val
  go_wp2_with (fail)
  have E0 := set_block HY2.out 0 (.int .u32 (hd.dst : Int))
  have q0 := cell_of E0 0
  have E1 := set_block E0 1 (.int .u32 (hd.src : Int))
  have q1 := cell_of E1 1
  have E2 := set_block E1 2 (.int .u8 (hd.proto : Int))
  have q2 := cell_of E2 2
  have E3 := set_block E2 3 (.int .u16 (hd.sport : Int))
  have q3 := cell_of E3 3
  have E4 := set_block E3 4 (.int .u16 (hd.dport : Int))
  have q4 := cell_of E4 4
  simp at q0 q1 q2 q3 q4
  clear E0 E1 E2 E3 E4
  simp [bodyPost, results, Try.results52, go_sem, q0, q1, q2, q3, q4]
  exact ⟨⟨hd, HL, rfl⟩, (K2.out.trans (kept5 _ w.heap.size _ _ _ _ _) (by simp)).below (Nat.le_refl _) (by simp)⟩

set_option maxRecDepth 100000 in
theorem least_none {w : World} {p g mb : Nat} {A : Arn} (h : ArenaAt w p g mb A) (hO : A.OK) (f : Int) (hf : ¬ (0 ≤ f ∧ f < A.nodes.length) ∨ f = 0) :
    Calls Try.prog 23 #[.pointer (some ⟨p, 0, none⟩), .int .i64 f] w fun e w' => e = .returned (.tuple #[hdZ.val, .bool false]) ∧ Below w.heap.size w w' := by
  have HA := Lib.hid h
  have HO := Lib.hid hO
  clear h hO
  go_enter Try.func23, Try.ntmps23
  go_wp2_with (fail)
  have B1 := (Below.refl w.heap.size w).alloc (Nat.le_refl _) (.cells #[.int .u32 0, .int .u32 0, .int .u8 0, .int .u16 0, .int .u16 0] 25)
  have Y1 := heap_alloc_new w (.cells #[.int .u32 0, .int .u32 0, .int .u8 0, .int .u16 0, .int .u16 0] 25)
  have HW := walk_none (HA.out.below B1) f hf false
  refine HW.mono ?_
  rintro e w2 ⟨he, k2⟩
  subst he
  generalize hZ : hdZ = hd at *
  have HZ := Lib.hid hZ
  clear hZ
  have K2 := Lib.hid ((Kept.of_below (S := [w.heap.size]) B1).trans (Kept.of_below (S := []) k2) (by simp))
  have Y2 := (k2.block _ (lt_of_block Y1)).trans Y1
  have dy := And.intro (cell_of Y2 0) (And.intro (cell_of Y2 1) (And.intro (cell_of Y2 2) (And.intro (cell_of Y2 3) (cell_of Y2 4))))
  simp only [List.getElem?_toArray, List.getElem?_cons_zero, List.getElem?_cons_succ] at dy
  have fy := And.intro (unfrozen_of Y2 0) (And.intro (unfrozen_of Y2 1) (And.intro (unfrozen_of Y2 2) (And.intro (unfrozen_of Y2 3) (unfrozen_of Y2 4))))
  have HY2 := Lib.hid Y2
  clear Y1 Y2 B1 k2 HW
  unfold Hd.val
  go_wp2_with (fail)
  have E0 := set_block HY2.out 0 (.int .u32 (hd.dst : Int))
  have q0 := cell_of E0 0
  have E1 := set_block E0 1 (.int .u32 (hd.src : Int))
  have q1 := cell_of E1 1
  have E2 := set_block E1 2 (.int .u8 (hd.proto : Int))
  have q2 := cell_of E2 2
  have E3 := set_block E2 3 (.int .u16 (hd.sport : Int))
  have q3 := cell_of E3 3
  have E4 := set_block E3 4 (.int .u16 (hd.dport : Int))
  have q4 := cell_of E4 4
  simp at q0 q1 q2 q3 q4
  clear E0 E1 E2 E3 E4
  simp [bodyPost, results, Try.results23, go_sem, q0, q1, q2, q3, q4]
  exact ⟨by rw [HZ.out]; rfl, (K2.out.trans (kept5 _ w.heap.size _ _ _ _ _) (by simp)).below (Nat.le_refl _) (by simp)⟩

set_option maxRecDepth 100000 in
theorem most_none {w : World} {p g mb : Nat} {A : Arn} (h : ArenaAt w p g mb A) (hO : A.OK) (f : Int) (hf : ¬ (0 ≤ f ∧ f < A.nodes.length) ∨ f = 0) :
    Calls Try.prog 52 #[.pointer (some ⟨p, 0, none⟩), .int .i64 f] w fun e w' => e = .returned (.tuple #[hdZ.val, .bool false]) ∧ Below w.heap.size w w' := by
  have HA := Lib.hid h
  have HO := Lib.hid hO
  clear h hO
  go_enter Try.func52, Try.ntmps52
  go_wp2_with (fail)
  have B1 := (Below.refl w.heap.size w).alloc (Nat.le_refl _) (.cells #[.int .u32 0, .int .u32 0, .int .u8 0, .int .u16 0, .int .u16 0] 25)
  have Y1 := heap_alloc_new w (.cells #[.int .u32 0, .int .u32 0, .int .u8 0, .int .u16 0, .int .u16 0] 25)
  have HW := walk_none (HA.out.below B1) f hf true
  refine HW.mono ?_
  rintro e w2 ⟨he, k2⟩
  subst he
  generalize hZ : hdZ = hd at *
  have HZ := Lib.hid hZ
  clear hZ
  have K2 := Lib.hid ((Kept.of_below (S := [w.heap.size]) B1).trans (Kept.of_below (S := []) k2) (by simp))
  have Y2 := (k2.block _ (lt_of_block Y1)).trans Y1
  have dy := And.intro (cell_of Y2 0) (And.intro (cell_of Y2 1) (And.intro (cell_of Y2 2) (And.intro (cell_of Y2 3) (cell_of Y2 4))))
  simp only [List.getElem?_toArray, List.getElem?_cons_zero, List.getElem?_cons_succ] at dy
  have fy := And.intro (unfrozen_of Y2 0) (And.intro (unfrozen_of Y2 1) (And.intro (unfrozen_of Y2 2) (And.intro (unfrozen_of Y2 3) (unfrozen_of Y2 4))))
  have HY2 := Lib.hid Y2
  clear Y1 Y2 B1 k2 HW
  unfold Hd.val
  go_wp2_with (fail)
  have E0 := set_block HY2.out 0 (.int .u32 (hd.dst : Int))
  have q0 := cell_of E0 0
  have E1 := set_block E0 1 (.int .u32 (hd.src : Int))
  have q1 := cell_of E1 1
  have E2 := set_block E1 2 (.int .u8 (hd.proto : Int))
  have q2 := cell_of E2 2
  have E3 := set_block E2 3 (.int .u16 (hd.sport : Int))
  have q3 := cell_of E3 3
  have E4 := set_block E3 4 (.int .u16 (hd.dport : Int))
  have q4 := cell_of E4 4
  simp at q0 q1 q2 q3 q4
  clear E0 E1 E2 E3 E4
  simp [bodyPost, results, Try.results52, go_sem, q0, q1, q2, q3, q4]
  exact ⟨by rw [HZ.out]; rfl, (K2.out.trans (kept5 _ w.heap.size _ _ _ _ _) (by simp)).below (Nat.le_refl _) (by simp)⟩

end Go.Proofs.Ytakgghhmecphmaa
