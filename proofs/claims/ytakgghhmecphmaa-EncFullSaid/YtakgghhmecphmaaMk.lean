/- The walk of an arena's mk. -/
import Derived.Test.YtakgghhmecphmaaArena
import Derived.StillTailTactics
import Derived.Deep.DeepMust
namespace Go.Proofs.Ytakgghhmecphmaa
set_option linter.unusedVariables false
set_option linter.unusedSimpArgs false
open Go.RowKit Go.Maps

theorem ndKeyed : Keyed Try.prog 94 := Keyed.of_law (deep_law_laid (m := 3) (by kernel_rfl) (by omega) (of_decide_eq_true (by kernel_rfl)) (by kernel_rfl) (by kernel_rfl))
theorem ndv_inj (x y : Nd) (h : ndv x = ndv y) : x = y := by
  cases x; cases y
  simp [ndv] at h
  simp
  omega
theorem zero3 (w : World) : (zeroValue 3).run Try.prog w = .ok (.int .i64 0) w := by kernel_rfl
theorem types_size : ∃ m, Try.prog.types.size = m + 1 := ⟨Try.prog.types.size - 1, by kernel_rfl⟩
theorem keyLits_int {P : Program} {t : TypeId} {q : IntKind} (he : P.underlying t = some (.int q)) {a : Int} (h : (Lit.int q a).wf = true) (d : Nat) : P.keyLits (d + 1) t [.int q a] = some [.int q a] := by
  simp [Program.keyLits, he, h]
theorem nd_keyType : Try.prog.keyType 94 = true := by kernel_rfl
theorem nd_cells : Try.prog.cellsOf 94 = 3 := by kernel_rfl
theorem int_cells : Try.prog.cellsOf 3 = 1 := by kernel_rfl
theorem wf64 {x : Int} (h0 : -9223372036854775808 ≤ x) (h1 : x ≤ 9223372036854775807) : (Lit.int .i64 x).wf = true := WalkArith.wf_i64 (by omega)
theorem nd_key_of {a b c : Int} (h0 : (Lit.int .i64 a).wf = true) (h1 : (Lit.int .i64 b).wf = true) (h2 : (Lit.int .i64 c).wf = true) : ∃ l, keyOf Try.prog 94 (.agg #[.int .i64 a, .int .i64 b, .int .i64 c]) = some l := by
  obtain ⟨m, hm⟩ := types_size
  unfold keyOf
  simp only [Try.underlying94]
  rw [if_pos (by simp [nd_keyType, Value.formed, Try.underlying94, nd_cells]), hm]
  unfold Program.keyLits
  simp only [Try.underlying94, Value.cells]
  rw [if_pos ⟨by rw [nd_cells]; rfl, by simp⟩]
  simp [List.mapM_cons, int_cells, keyLits_int Try.underlying3, h0, h1, h2]
theorem nd_key {n : Nd} (h0 : n.level < 1048576) (h1 : n.low < 1048576) (h2 : n.high < 1048576) : ∃ l, keyOf Try.prog 94 (ndv n) = some l :=
  nd_key_of (wf64 (by omega) (by omega)) (wf64 (by omega) (by omega)) (wf64 (by omega) (by omega))

/-- What an arena's call that makes sets hands back. -/
def resV (r : Option Nat) : Value := .tuple #[.int .i64 ((r.getD 0 : Nat) : Int), .int .i64 (if r.isSome then 0 else 20)]

theorem mk_same (w : World) (p : Nat) (level low : Int) : Calls Try.prog 55 #[.pointer (some ⟨p, 0, none⟩), .int .i64 level, .int .i64 low, .int .i64 low] w fun e w' =>
    e = .returned (.tuple #[.int .i64 low, .int .i64 0]) ∧ w = w' := by
  go_enter Try.func55, Try.ntmps55
  go_wp2
  go_ret2
  exact ⟨rfl, rfl⟩

theorem mk_found {w : World} {p g mb : Nat} {A : Arn} (h : ArenaAt w p g mb A) {level low high i : Nat} (hne : low ≠ high) (hf : findF A.nodes ⟨level, low, high⟩ = some i) :
    Calls Try.prog 55 #[.pointer (some ⟨p, 0, none⟩), .int .i64 (level : Int), .int .i64 (low : Int), .int .i64 (high : Int)] w fun e w' =>
    e = .returned (.tuple #[.int .i64 (i : Int), .int .i64 0]) ∧ Below w.heap.size w w' := by
  obtain ⟨cap, n, b1, b2, b3⟩ := h
  have hsz := lt_of_block b1
  have c1 := cell_of b1 1
  simp at c1
  have hlk : ∀ m o, (Instr.lookup 96 (.map (some mb)) (.agg #[.int .i64 (level : Int), .int .i64 (low : Int), .int .i64 (high : Int)]) true).run Try.prog ((w.alloc o).drewN m) = .ok (.tuple #[.int .i64 (i : Int), .bool true]) ((w.alloc o).drewN m) := by
    intro m o
    have k := b3.of_block (w' := (w.alloc o).drewN m) (Below.heap_alloc w o mb b3.lt)
    have := k.look ndKeyed ndv_inj Try.underlying96 (zero3 _) ⟨level, low, high⟩ (b3.key hf) true
    rw [hf] at this
    exact this
  have hne' : ((low : Int) == (high : Int)) = false := by simp; omega
  clear b1 b2 b3 hf hne
  go_enter Try.func55, Try.ntmps55
  go_wp2
  go_quiet (fail)
  go_wp2
  go_ret2
  exact ⟨rfl, ((Below.refl _ _).alloc (Nat.le_refl _) _).trans (Kept.below (Kept.of_drewN (S := []) _ _) (by simp) (by simp))⟩

theorem mk_full {w : World} {p g mb : Nat} {A : Arn} (h : ArenaAt w p g mb A) {level low high : Nat} (hl : level < 1048576) (hlo : low < 1048576) (hhi : high < 1048576) (hne : low ≠ high) (hf : findF A.nodes ⟨level, low, high⟩ = none) (hm : A.most ≤ A.nodes.length) :
    Calls Try.prog 55 #[.pointer (some ⟨p, 0, none⟩), .int .i64 (level : Int), .int .i64 (low : Int), .int .i64 (high : Int)] w fun e w' =>
    e = .returned (.tuple #[.int .i64 0, .int .i64 20]) ∧ Below w.heap.size w w' := by
  obtain ⟨cap, n, b1, b2, b3⟩ := h
  have hsz := lt_of_block b1
  have c0 := cell_of b1 0
  have c1 := cell_of b1 1
  have c2 := cell_of b1 2
  simp at c0 c1 c2
  have hlk : ∀ m o, (Instr.lookup 96 (.map (some mb)) (.agg #[.int .i64 (level : Int), .int .i64 (low : Int), .int .i64 (high : Int)]) true).run Try.prog ((w.alloc o).drewN m) = .ok (.tuple #[.int .i64 0, .bool false]) ((w.alloc o).drewN m) := by
    intro m o
    have k := b3.of_block (w' := (w.alloc o).drewN m) (Below.heap_alloc w o mb b3.lt)
    have := k.look ndKeyed ndv_inj Try.underlying96 (zero3 _) ⟨level, low, high⟩ (nd_key hl hlo hhi) true
    rw [hf] at this
    exact this
  have hne' : ((low : Int) == (high : Int)) = false := by simp; omega
  clear b1 b2 b3 hf hne
  go_enter Try.func55, Try.ntmps55
  go_wp2
  go_quiet (fail)
  go_wp2
  go_quiet (fail)
  go_wp2
  go_ret2
  exact ⟨rfl, ((Below.refl _ _).alloc (Nat.le_refl _) _).trans (Kept.below ((Kept.of_drewN (S := []) _ _).drewN _) (by simp) (by simp))⟩

theorem nd_info : (Try.prog.info? 94).map (fun i => (i.zero, i.size, i.bytes)) = some (some (.agg #[.int .i64 0, .int .i64 0, .int .i64 0]), 3, 24) := by kernel_rfl

set_option maxRecDepth 100000 in
set_option maxHeartbeats 1000000 in
theorem mk_new {w : World} {p g mb : Nat} {A : Arn} (h : ArenaAt w p g mb A) {level low high : Nat} (hl : level < 1048576) (hlo : low < 1048576) (hhi : high < 1048576) (hne : low ≠ high) (hf : findF A.nodes ⟨level, low, high⟩ = none) (hm : A.nodes.length < A.most) (hOK : A.OK) :
    Calls Try.prog 55 #[.pointer (some ⟨p, 0, none⟩), .int .i64 (level : Int), .int .i64 (low : Int), .int .i64 (high : Int)] w fun e w' =>
    e = .returned (.tuple #[.int .i64 (A.nodes.length : Int), .int .i64 0]) ∧ ∃ g', (g' = g ∨ w.heap.size ≤ g') ∧ ArenaAt w' p g' mb { A with nodes := A.nodes ++ [⟨level, low, high⟩] } ∧ Kept [p, g, mb] w w' := by
  obtain ⟨cap, n, b1, b2, b3⟩ := h
  have hsz := lt_of_block b1
  have c0 := cell_of b1 0
  have c1 := cell_of b1 1
  have c2 := cell_of b1 2
  simp at c0 c1 c2
  have hlk : ∀ m o, (Instr.lookup 96 (.map (some mb)) (.agg #[.int .i64 (level : Int), .int .i64 (low : Int), .int .i64 (high : Int)]) true).run Try.prog ((w.alloc o).drewN m) = .ok (.tuple #[.int .i64 0, .bool false]) ((w.alloc o).drewN m) := by
    intro m o
    have k := b3.of_block (w' := (w.alloc o).drewN m) (Below.heap_alloc w o mb b3.lt)
    have := k.look ndKeyed ndv_inj Try.underlying96 (zero3 _) ⟨level, low, high⟩ (nd_key hl hlo hhi) true
    rw [hf] at this
    exact this
  have hmost := hOK.most
  have hne' : ((low : Int) == (high : Int)) = false := by simp; omega
  have hge : ¬ A.most ≤ A.nodes.length := by omega
  obtain ⟨i0, hi, hz0, hz1, hz2⟩ := info_parts nd_info
  have hpg : p ≠ g := by
    rcases b2.2 with ⟨h, _⟩ | ⟨g1, _, _, hv, _, hh, _⟩
    · cases h
    · injection hv with hv; injection hv with hv; injection hv with hv
      subst hv
      exact block_ne b1 hh (by intro h; injection h with _ h; exact absurd h (by decide))
  have hpm : p ≠ mb := by obtain ⟨es, clock, hb, _⟩ := b3; exact block_ne b1 hb (by intro h; cases h)
  have hgm : g ≠ mb := by
    rcases b2.2 with ⟨h, _⟩ | ⟨g1, _, _, hv, _, hh, _⟩
    · cases h
    · injection hv with hv; injection hv with hv; injection hv with hv
      subst hv
      obtain ⟨es, clock, hb, _⟩ := b3; exact block_ne hh hb (by intro h; cases h)
  have hgn : w.heap.size ≠ g := by have := (b2.lt g rfl).2; omega
  have hpn : p ≠ w.heap.size := by omega
  have B1 := Lib.hid b1
  have B2 := Lib.hid b2
  have B3 := Lib.hid b3
  have F := Lib.hid hf
  clear b1 b2 b3 hf hne
  go_enter Try.func55, Try.ntmps55
  go_wp2
  go_quiet (fail)
  go_wp2
  go_quiet (fail)
  go_wp2
  go_region_law ((refine step_append_lies _ rfl (.tmp 46) (.tmp 48) 95 rfl 0 94 i0 _ 3 24 Try.underlying95 hi hz0 hz1 hz2 rfl (by decide) (.slice (some ⟨g, 0, none⟩) A.nodes.length cap) A.nodes.length (ndCells A.nodes) rfl ?_ ⟨w.heap.size + 1, 0, none⟩ 1 1 [.int .i64 (level : Int), .int .i64 (low : Int), .int .i64 (high : Int)] rfl rfl ?_ ?_ (by omega) ?_ ?_ (by omega) _ rfl ?_; (· exact own_kept B2.out ((((Kept.refl [] _).alloc _).drewN _).alloc _) (by simp)); (· exact news_new2 _ _ _ _ _); (· simp [Value.oneCell']); (· unfold maxLen; omega); (· omega); intro g' cap' w1 hown hgrow hat hlt; have hk1 := Kept.grown ((((Kept.refl [g] w).alloc _).drewN _).alloc _) hgrow (Or.inl (List.mem_singleton.2 rfl)); have q0 := (hk1.block p hsz (fun hm => hpg (List.mem_singleton.1 hm))).trans B1.out; have hq0 : w1.cell? ⟨p, 0, none⟩ = some (.slice (some ⟨g, 0, none⟩) A.nodes.length cap) := cell_of q0 0; have hq1 : w1.cell? ⟨p, 1, none⟩ = some (.map (some mb)) := cell_of q0 1; have hf0 := unfrozen_of q0 0; have qn := blk_grown (blk_alloc (blk_drewN (heap_alloc_new w (.cells #[.int .i64 (level : Int), .int .i64 (low : Int), .int .i64 (high : Int)] 94)) _) _) hgrow hgn; have hn0 : w1.cell? ⟨w.heap.size, 0, none⟩ = some (.int .i64 (level : Int)) := cell_of qn 0; have hn1 : w1.cell? ⟨w.heap.size, 1, none⟩ = some (.int .i64 (low : Int)) := cell_of qn 1; have hn2 : w1.cell? ⟨w.heap.size, 2, none⟩ = some (.int .i64 (high : Int)) := cell_of qn 2; clear qn; have Q0 := Lib.hid q0; have HK1 := Lib.hid hk1; have HG := Lib.hid hgrow; have HO := Lib.hid hown; have HA := Lib.hid hat; clear q0 hk1 hgrow hown hat))
  all_goals go_wp2
  all_goals (refine wp_still_tail 11 (by kernel_rfl) (by kernel_rfl) ?_; simp only [List.take_succ_cons, List.take_zero, List.drop_succ_cons, List.drop_zero]; repeat still_step)
  all_goals (refine wpStill_nil ?_)
  all_goals (
    have hk2 := HK1.out
    have hg2 := HG.out
    have q2 := blk_drew (set_block Q0.out 0 (.slice (some ⟨g', 0, none⟩) (A.nodes.length + 1) cap'))
    have m2 := (B3.out.of_block (hk2.block mb B3.out.lt (by simpa using Ne.symm hgm))).of_block (w' := (w1.setCell ⟨p, 0, none⟩ (.slice (some ⟨g', 0, none⟩) (A.nodes.length + 1) cap')).drew) (Below.heap_setCell _ _ _ _ (Ne.symm hpm))
    have hkey := nd_key (n := ⟨level, low, high⟩) hl hlo hhi
    have Q2 := Lib.hid q2
    have M2 := Lib.hid m2
    have HK := Lib.hid hkey
    clear hk2 hg2 q2 m2 hkey
    go_wp2_with (at_mapUpdate; go_must (refine wpList_put _ rfl _ _ _ 96 3 rfl ndKeyed ndv_inj Try.underlying96 M2.out ⟨level, low, high⟩ A.nodes.length HK.out rfl rfl ?_ ?_); (· go_simp; go_must (exact congrArg (Value.int .i64) (IntWalk.i64_in _ (by omega)))); intro w2 m3 hg3; go_must (have q3 := blk_grown (W := _) (b := p) Q2.out hg3 hpm); go_must (have h30 : w2.cell? ⟨p, 0, none⟩ = some (.slice (some ⟨g', 0, none⟩) (A.nodes.length + 1) cap') := cell_of q3 0); have Q3 := Lib.hid q3; have M3 := Lib.hid m3; have HG3 := Lib.hid hg3; clear q3 m3 hg3)
    )
  all_goals (
    go_ret2
    have k1 := HK1.out
    have k2 := HG3.out
    have hg' : g' = g ∨ w.heap.size ≤ g' := by
      rcases HA.out with h | h
      · left; simpa [Value.ownBlock] using h.symm
      · right; rw [h]; simp [World.drewN]; omega
    have hgp : p ≠ g' := by rcases hg' with h | h <;> omega
    have hgm' : mb ≠ g' := by have := B3.out.lt; rcases hg' with h | h <;> omega
    have hkall : Kept [p, g, mb] w w2 := Kept.grown (((Kept.mono k1 (by simp)).setCell ⟨p, 0, none⟩ (.slice (some ⟨g', 0, none⟩) (A.nodes.length + 1) cap') (by simp)).drew) k2 (by simp)
    refine ⟨rfl, g', hg', ⟨cap', n + 1, by simpa using Q3.out, ?_, ?_⟩, hkall⟩
    · have o1 := own_kept HO.out (Kept.grown (((Kept.refl [p, mb] w1).setCell ⟨p, 0, none⟩ (.slice (some ⟨g', 0, none⟩) (A.nodes.length + 1) cap') (by simp)).drew) k2 (by simp)) (by simp [Value.ownBlock]; omega)
      simpa [ndCells_append, ndCells] using o1
    · have m3 := M3.out
      rw [F.out] at m3
      refine IsMapOf.congr m3 (fun x => ?_)
      rw [findF_append hOK.two (findF_none F.out)]
      rfl)

end Go.Proofs.Ytakgghhmecphmaa
