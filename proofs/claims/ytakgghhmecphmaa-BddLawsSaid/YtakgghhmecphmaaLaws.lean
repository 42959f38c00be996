/- The walk of BddLaws. -/
import Derived.Test.YtakgghhmecphmaaHeld
import Derived.Test.YtakgghhmecphmaaHasF
namespace Go.Proofs.Ytakgghhmecphmaa
set_option linter.unusedVariables false
set_option linter.unusedSimpArgs false
open Go.RowKit Go.Maps

/-- The box of the arena's pointer is none of the arena's blocks. -/
theorem box_ne {w : World} {b p g mb : Nat} {A : Arn} {cs : Array Value} {fr : Nat × Nat} (h : w.heap[b]? = some (.cells cs 26 fr)) (hA : ArenaAt w p g mb A) : b ∉ [p, g, mb] := by
  obtain ⟨cap, n, h1, h2, h3⟩ := hA
  intro hb
  simp only [List.mem_cons, List.not_mem_nil, or_false] at hb
  rcases hb with rfl | rfl | rfl
  · rw [h1] at h; cases h
  · rcases h2.2 with ⟨e, _⟩ | ⟨g', cap', cur, hv, _, hh, _⟩
    · cases e
    · injection hv with e1
      injection e1 with e1
      injection e1 with e1
      subst e1
      rw [hh] at h
      cases h
  · obtain ⟨es, ck, hh, _⟩ := h3
    rw [hh] at h
    cases h

/-- The law's arena, its pointer's box, and what is known of its sets. -/
structure LSt (W w : World) (p g mb b2 : Nat) (A : Arn) (n : Nat) : Prop where
  ar : AR W w p g mb A
  box : w.heap[b2]? = some (.cells #[.pointer (some ⟨p, 0, none⟩)] 26 (0, 0))
  good : Good n A
theorem LSt.below {W w w' : World} {p g mb b2 n : Nat} {A : Arn} (h : LSt W w p g mb b2 A n) (k : Below w.heap.size w w') : LSt W w' p g mb b2 A n :=
  ⟨h.ar.below k, (k.block _ (lt_of_block h.box)).trans h.box, h.good⟩
theorem LSt.drewN {W w : World} {p g mb b2 n : Nat} {A : Arn} (h : LSt W w p g mb b2 A n) (m : Nat) : LSt W (w.drewN m) p g mb b2 A n :=
  h.below (Kept.below (Kept.of_drewN (S := []) w m) (Nat.le_refl _) (by simp))
theorem LSt.cell {W w : World} {p g mb b2 n : Nat} {A : Arn} (h : LSt W w p g mb b2 A n) : w.cell? ⟨b2, 0, none⟩ = some (.pointer (some ⟨p, 0, none⟩)) := by
  have := cell_of h.box 0
  simpa using this
theorem LSt.post {W w w' : World} {p g mb b2 n m : Nat} {A A' : Arn} (h : LSt W w p g mb b2 A n) (hg : Good m A') (k : APost W w p g mb A' w') : ∃ g', LSt W w' p g' mb b2 A' m := by
  obtain ⟨g', _, ha, hk⟩ := k
  exact ⟨g', ha, (hk.block _ (lt_of_block h.box) (box_ne h.box h.ar.2.2.2.1)).trans h.box, hg⟩

theorem LSt.join {W w : World} {p g mb b2 n : Nat} {A : Arn} (h : LSt W w p g mb b2 A n) (hn : n + 1024 ≤ 262144) {k f q : Nat} (h3 : k ≤ 3) {F G : Fn} (hf : Has A f F) (hq : Has A q G) :
    Calls Try.prog 33 #[.pointer (some ⟨p, 0, none⟩), .int .i64 (k : Int), .int .i64 (f : Int), .int .i64 (q : Int)] w fun e w' => ∃ x A' g', e = .returned (resV (some x)) ∧ LSt W w' p g' mb b2 A' (n + 1024) ∧ Ext A A' ∧ Has A' x (fun b => opF k (F b) (G b)) := by
  obtain ⟨x, A', e, hG, hE, hH⟩ := good_join h.good hn h3 hf hq
  have C := Join_calls h.ar.2.2.2.1 h.good.ok (k : Int) k f q rfl h3 hf.1 hq.1
  rw [e] at C
  refine (h.ar.post hG.ok C).mono ?_
  rintro e' w' ⟨rfl, hp⟩
  obtain ⟨g', hl⟩ := h.post hG hp
  exact ⟨x, A', g', rfl, hl, hE, hH⟩
theorem LSt.not {W w : World} {p g mb b2 n : Nat} {A : Arn} (h : LSt W w p g mb b2 A n) (hn : n + 1024 ≤ 262144) {f : Nat} {F : Fn} (hf : Has A f F) :
    Calls Try.prog 34 #[.pointer (some ⟨p, 0, none⟩), .int .i64 (f : Int)] w fun e w' => ∃ x A' g', e = .returned (resV (some x)) ∧ LSt W w' p g' mb b2 A' (n + 1024) ∧ Ext A A' ∧ Has A' x (fun b => !F b) := by
  obtain ⟨x, A', e, hG, hE, hH⟩ := good_join h.good hn (k := 3) (by omega) (Has.one h.good.ok) hf
  have C := Not_calls h.ar.2.2.2.1 h.good.ok f hf.1
  rw [e] at C
  refine (h.ar.post hG.ok C).mono ?_
  rintro e' w' ⟨rfl, hp⟩
  obtain ⟨g', hl⟩ := h.post hG hp
  exact ⟨x, A', g', rfl, hl, hE, ⟨hH.1, fun b => by rw [hH.2]; simp [opF]⟩⟩
set_option maxRecDepth 100000 in
theorem LSt.cl {W w : World} {p g mb b2 n : Nat} {A : Arn} (h : LSt W w p g mb b2 A n) (hn : n + 1024 ≤ 262144) {k f q : Nat} (h3 : k ≤ 3) {F G : Fn} (hf : Has A f F) (hq : Has A q G) :
    Calls Try.prog 32 #[.int .i64 (k : Int), .int .i64 (f : Int), .int .i64 (q : Int), .pointer (some ⟨b2, 0, none⟩)] w fun e w' => ∃ x A' g', e = .returned (.int .i64 ((x : Nat) : Int)) ∧ LSt W w' p g' mb b2 A' (n + 1024) ∧ Ext A A' ∧ Has A' x (fun b => opF k (F b) (G b)) := by
  have J := Lib.hid (h.join hn h3 hf hq)
  have c := h.cell
  have H := Lib.hid h
  clear h hf hq
  go_enter Try.func32, Try.ntmps32
  go_wp2_with (fail)
  refine J.out.mono ?_
  rintro e w1 ⟨x, A', g', he, hl, hE, hH⟩
  subst he
  have HL := Lib.hid hl
  clear hl
  simp only [resV, Option.getD_some, Option.isSome_some, if_true]
  go_wp2_with (fail)
  go_ret
  exact ⟨x, A', g', rfl, HL.out, hE, hH⟩

theorem LSt.ite {W w : World} {p g mb b2 n : Nat} {A : Arn} (h : LSt W w p g mb b2 A n) (hn : n + 3072 ≤ 262144) {f q r : Nat} {F G R : Fn} (hf : Has A f F) (hq : Has A q G) (hr : Has A r R) :
    Calls Try.prog 35 #[.pointer (some ⟨p, 0, none⟩), .int .i64 (f : Int), .int .i64 (q : Int), .int .i64 (r : Int)] w fun e w' => ∃ x A' g', e = .returned (resV (some x)) ∧ LSt W w' p g' mb b2 A' (n + 3072) ∧ Ext A A' ∧ Has A' x (fun b => if F b then G b else R b) := by
  obtain ⟨x, A', e, hG, hE, hH⟩ := good_ite h.good hn hf hq hr
  have C := Ite_calls h.ar.2.2.2.1 h.good.ok f q r hf.1 hq.1 hr.1
  rw [e] at C
  refine (h.ar.post hG.ok C).mono ?_
  rintro e' w' ⟨rfl, hp⟩
  obtain ⟨g', hl⟩ := h.post hG hp
  exact ⟨x, A', g', rfl, hl, hE, hH⟩

set_option maxRecDepth 100000 in
theorem laws_dark {W : World} {v : Value} {l : List Ex} (h : ArgL W.heap.size W v l) (hl : ¬ LightP l) :
    Calls Try.prog 6 #[v] W fun e w' => e = .returned (.bool true) ∧ Below W.heap.size W w' := by
  have HL := Lib.hid (light_no h hl)
  obtain ⟨ao, cap, rfl, hlen⟩ := h.slice
  go_enter Try.func6, Try.ntmps6
  go_wp2_with (fail)
  refine HL.out.mono ?_
  rintro e w1 ⟨he, k1⟩
  subst he
  have k1 := Lib.hid k1
  go_wp2_with (go_at_call 29; refine (awake06_calls _).mono ?_; rintro e w' ⟨rfl, k8⟩; have k8 := Lib.hid k8)
  go_ret
  exact ⟨rfl, k1.out.trans (k8.out.mono k1.out.size)⟩

set_option maxRecDepth 100000 in
theorem laws_few {W : World} {v : Value} {l : List Ex} (h : ArgL W.heap.size W v l) (hl : LightP l) (h3 : l.length < 3) :
    Calls Try.prog 6 #[v] W fun e w' => e = .returned (.bool true) ∧ Below W.heap.size W w' := by
  have HL := Lib.hid (light_yes h hl)
  obtain ⟨ao, cap, rfl, hlen⟩ := h.slice
  have t1 : decide ((l.length : Int) < 3) = true := decide_eq_true (by omega)
  go_enter Try.func6, Try.ntmps6
  go_wp2_with (fail)
  refine HL.out.mono ?_
  rintro e w1 ⟨he, k1⟩
  subst he
  have k1 := Lib.hid k1
  go_wp2_with (go_at_call 29; refine (awake06_calls _).mono ?_; rintro e w' ⟨rfl, k8⟩; have k8 := Lib.hid k8)
  go_ret
  exact ⟨rfl, k1.out.trans (k8.out.mono k1.out.size)⟩

set_option maxRecDepth 100000 in
set_option maxHeartbeats 4000000 in
theorem laws_main {W : World} {v : Value} {l : List Ex} (h : ArgL W.heap.size W v l) (hl : LightP l) (h3 : 3 ≤ l.length) :
    Calls Try.prog 6 #[v] W fun e w' => e = .returned (.bool true) ∧ Below W.heap.size W w' := by
  have HL := Lib.hid (light_yes h hl)
  have HV := Lib.hid h
  obtain ⟨ao, cap, rfl, hlen⟩ := h.slice
  have hG := light_good hl
  obtain ⟨m1, _, _, m4, _, _, m7, _, _⟩ := light_room hl rfl
  generalize hR : makeGo (newF 262144) [] l = R at *
  obtain ⟨out, ok, A⟩ := R
  simp only at m1 m4 m7 hG
  subst m1
  have h2 := hG.ok.two
  have hf : out.getD (l.length - 1) 0 < A.nodes.length := getD_lt m7 (by omega) _
  have hg : out.getD (l.length - 2) 0 < A.nodes.length := getD_lt m7 (by omega) _
  have hh : out.getD 0 0 < A.nodes.length := getD_lt m7 (by omega) _
  generalize hfd : out.getD (l.length - 1) 0 = f at *
  generalize hgd : out.getD (l.length - 2) 0 = q at *
  generalize hhd : out.getD 0 0 = r at *
  have t1 : decide ((l.length : Int) < 3) = false := decide_eq_false (by omega)
  have HFD := Lib.hid (And.intro hfd (And.intro hgd hhd))
  have HRR := Lib.hid hR
  have HM4 := Lib.hid m4
  have h60 := hl.1
  have HLP := Lib.hid hl
  have HG := Lib.hid hG
  clear h hR hfd hgd hhd m4 m7 hl hG
  go_enter Try.func6, Try.ntmps6
  go_wp2_with (fail)
  refine HL.out.mono ?_
  rintro e w1 ⟨he, k1⟩
  subst he
  have k1 := Lib.hid k1
  go_wp2_with (fail)
  refine (AR.new k1.out 262144 (by omega) (by omega)).mono ?_
  rintro e w2 ⟨p, g, mb, he, H2⟩
  subst he
  have H2 := Lib.hid H2
  go_wp2_with (fail)
  have H2b := Lib.hid (H2.out.below ((Below.refl _ _).alloc (Nat.le_refl _) (.cells #[.pointer (some ⟨p, 0, none⟩)] 26)))
  have B2 := Lib.hid (heap_alloc_new w2 (.cells #[.pointer (some ⟨p, 0, none⟩)] 26))
  clear H2
  refine (make_arg H2b.out HV.out h60 HLP.out.2.2.1).mono ?_
  rw [HRR.out]
  simp only [if_true]
  rintro e w3 ⟨vo, he, how, g3, hg3, H3, K3⟩
  subst he
  rw [HM4.out] at how
  obtain ⟨s0, cap2, rfl⟩ := row_slice how (by omega)
  have c1 := out_cell how (i := l.length - 1) (by omega)
  have c2 := out_cell how (i := l.length - 2) (by omega)
  have c3 := out_cell how (i := 0) (by omega)
  rw [HFD.out.1] at c1
  rw [HFD.out.2.1] at c2
  rw [HFD.out.2.2] at c3
  have B3 := Lib.hid ((K3.block _ (lt_of_block B2.out) (box_ne B2.out H2b.out.2.2.2.1)).trans B2.out)
  have d0 := cell_of B3.out 0
  simp at d0
  have H3 := Lib.hid H3
  generalize w2.heap.size = b2 at *
  have L3 := Lib.hid (LSt.mk H3.out B3.out HG.out)
  clear how K3 B2 H2b hg3
  go_wp2_with (fail)
  go_quiet (fail)
  go_wp2_with (fail)
  have o0 := L3.out.good.ok
  have F0 : Has A f (fun b => inA A b f) := ⟨hf, fun _ => rfl⟩
  have Q0 : Has A q (fun b => inA A b q) := ⟨hg, fun _ => rfl⟩
  have R0 : Has A r (fun b => inA A b r) := ⟨hh, fun _ => rfl⟩
  generalize (fun b => inA A b f) = F at F0
  generalize (fun b => inA A b q) = G at Q0
  generalize (fun b => inA A b r) = R at R0
  refine ((L3.out.drewN _).not (by omega) F0).mono ?_
  rintro e w4 ⟨nt, A4, g4, he, L4, E4, N4⟩
  subst he
  have o4 := L4.good.ok
  have F4 := F0.ext o0 o4 E4
  have Q4 := Q0.ext o0 o4 E4
  have R4 := R0.ext o0 o4 E4
  have e4 := L4.cell
  have L4 := Lib.hid L4
  simp only [resV, Option.getD_some, Option.isSome_some, if_true]
  go_wp2_with (fail)
  refine (L4.out.not (by omega) N4).mono ?_
  rintro e w5 ⟨bk, A5, g5, he, L5, E5, BK⟩
  subst he
  have o5 := L5.good.ok
  have F5 := F4.ext o4 o5 E5
  have Q5 := Q4.ext o4 o5 E5
  have R5 := R4.ext o4 o5 E5
  have N5 := N4.ext o4 o5 E5
  obtain rfl : bk = f := BK.same o5 F5 (fun b => by simp)
  have e5 := L5.cell
  have L5 := Lib.hid L5
  simp only [resV, Option.getD_some, Option.isSome_some, if_true]
  go_wp2_with (fail)
  refine (L5.out.cl (k := 0) (by omega) (by omega) F5 N5).mono ?_
  rintro e w6 ⟨x1, A6, g6, he, L6, E6, X6⟩
  subst he
  have o6 := L6.good.ok
  have bk_6 := F5.ext o5 o6 E6
  have q_6 := Q5.ext o5 o6 E6
  have r_6 := R5.ext o5 o6 E6
  have nt_6 := N5.ext o5 o6 E6
  have e6 := L6.cell
  have L6 := Lib.hid L6
  clear L5
  obtain rfl : x1 = 0 := X6.same o6 (Has.zero o6) (fun b => by cases hF : F b <;> cases hG : G b <;> cases hR : R b <;> simp [opF, hF, hG, hR])
  go_wp2_with (fail)
  refine (L6.out.cl (k := 1) (by omega) (by omega) bk_6 nt_6).mono ?_
  rintro e w7 ⟨x2, A7, g7, he, L7, E7, X7⟩
  subst he
  have o7 := L7.good.ok
  have bk_7 := bk_6.ext o6 o7 E7
  have q_7 := q_6.ext o6 o7 E7
  have r_7 := r_6.ext o6 o7 E7
  have nt_7 := nt_6.ext o6 o7 E7
  have e7 := L7.cell
  have L7 := Lib.hid L7
  clear L6
  obtain rfl : x2 = 1 := X7.same o7 (Has.one o7) (fun b => by cases hF : F b <;> cases hG : G b <;> cases hR : R b <;> simp [opF, hF, hG, hR])
  go_wp2_with (fail)
  refine (L7.out.cl (k := 0) (by omega) (by omega) bk_7 q_7).mono ?_
  rintro e w8 ⟨y1, A8, g8, he, L8, E8, X8⟩
  subst he
  have o8 := L8.good.ok
  have bk_8 := bk_7.ext o7 o8 E8
  have q_8 := q_7.ext o7 o8 E8
  have r_8 := r_7.ext o7 o8 E8
  have nt_8 := nt_7.ext o7 o8 E8
  have e8 := L8.cell
  have L8 := Lib.hid L8
  clear L7
  go_wp2_with (fail)
  refine (L8.out.cl (k := 0) (by omega) (by omega) q_8 bk_8).mono ?_
  rintro e w9 ⟨y2, A9, g9, he, L9, E9, X9⟩
  subst he
  have o9 := L9.good.ok
  have bk_9 := bk_8.ext o8 o9 E9
  have q_9 := q_8.ext o8 o9 E9
  have r_9 := r_8.ext o8 o9 E9
  have nt_9 := nt_8.ext o8 o9 E9
  have y1_9 := X8.ext o8 o9 E9
  have e9 := L9.cell
  have L9 := Lib.hid L9
  clear L8
  obtain rfl : y2 = y1 := X9.same o9 y1_9 (fun b => by cases hF : F b <;> cases hG : G b <;> cases hR : R b <;> simp [opF, hF, hG, hR])
  go_wp2_with (fail)
  refine (L9.out.cl (k := 0) (by omega) (by omega) bk_9 q_9).mono ?_
  rintro e w10 ⟨y3, A10, g10, he, L10, E10, X10⟩
  subst he
  have o10 := L10.good.ok
  have bk_10 := bk_9.ext o9 o10 E10
  have q_10 := q_9.ext o9 o10 E10
  have r_10 := r_9.ext o9 o10 E10
  have nt_10 := nt_9.ext o9 o10 E10
  have e10 := L10.cell
  have L10 := Lib.hid L10
  clear L9
  go_wp2_with (fail)
  refine (L10.out.cl (k := 1) (by omega) (by omega) bk_10 X10).mono ?_
  rintro e w11 ⟨y4, A11, g11, he, L11, E11, X11⟩
  subst he
  have o11 := L11.good.ok
  have bk_11 := bk_10.ext o10 o11 E11
  have q_11 := q_10.ext o10 o11 E11
  have r_11 := r_10.ext o10 o11 E11
  have nt_11 := nt_10.ext o10 o11 E11
  have y3_11 := X10.ext o10 o11 E11
  have e11 := L11.cell
  have L11 := Lib.hid L11
  clear L10
  obtain rfl : bk = y4 := bk_11.same o11 X11 (fun b => by cases hF : F b <;> cases hG : G b <;> cases hR : R b <;> simp [opF, hF, hG, hR])
  go_wp2_with (fail)
  refine (L11.out.cl (k := 3) (by omega) (by omega) bk_11 q_11).mono ?_
  rintro e w12 ⟨d1, A12, g12, he, L12, E12, X12⟩
  subst he
  have o12 := L12.good.ok
  have bk_12 := bk_11.ext o11 o12 E12
  have q_12 := q_11.ext o11 o12 E12
  have r_12 := r_11.ext o11 o12 E12
  have nt_12 := nt_11.ext o11 o12 E12
  have e12 := L12.cell
  have L12 := Lib.hid L12
  clear L11
  go_wp2_with (fail)
  refine (L12.out.cl (k := 3) (by omega) (by omega) (Has.one o12) q_12).mono ?_
  rintro e w13 ⟨d2, A13, g13, he, L13, E13, X13⟩
  subst he
  have o13 := L13.good.ok
  have bk_13 := bk_12.ext o12 o13 E13
  have q_13 := q_12.ext o12 o13 E13
  have r_13 := r_12.ext o12 o13 E13
  have nt_13 := nt_12.ext o12 o13 E13
  have d1_13 := X12.ext o12 o13 E13
  have e13 := L13.cell
  have L13 := Lib.hid L13
  clear L12
  go_wp2_with (fail)
  refine (L13.out.cl (k := 0) (by omega) (by omega) bk_13 X13).mono ?_
  rintro e w14 ⟨d3, A14, g14, he, L14, E14, X14⟩
  subst he
  have o14 := L14.good.ok
  have bk_14 := bk_13.ext o13 o14 E14
  have q_14 := q_13.ext o13 o14 E14
  have r_14 := r_13.ext o13 o14 E14
  have nt_14 := nt_13.ext o13 o14 E14
  have d1_14 := d1_13.ext o13 o14 E14
  have d2_14 := X13.ext o13 o14 E14
  have e14 := L14.cell
  have L14 := Lib.hid L14
  clear L13
  obtain rfl : d3 = d1 := X14.same o14 d1_14 (fun b => by cases hF : F b <;> cases hG : G b <;> cases hR : R b <;> simp [opF, hF, hG, hR])
  go_wp2_with (fail)
  refine (L14.out.cl (k := 1) (by omega) (by omega) q_14 r_14).mono ?_
  rintro e w15 ⟨z1, A15, g15, he, L15, E15, X15⟩
  subst he
  have o15 := L15.good.ok
  have bk_15 := bk_14.ext o14 o15 E15
  have q_15 := q_14.ext o14 o15 E15
  have r_15 := r_14.ext o14 o15 E15
  have nt_15 := nt_14.ext o14 o15 E15
  have e15 := L15.cell
  have L15 := Lib.hid L15
  clear L14
  go_wp2_with (fail)
  refine (L15.out.cl (k := 0) (by omega) (by omega) bk_15 X15).mono ?_
  rintro e w16 ⟨z2, A16, g16, he, L16, E16, X16⟩
  subst he
  have o16 := L16.good.ok
  have bk_16 := bk_15.ext o15 o16 E16
  have q_16 := q_15.ext o15 o16 E16
  have r_16 := r_15.ext o15 o16 E16
  have nt_16 := nt_15.ext o15 o16 E16
  have z1_16 := X15.ext o15 o16 E16
  have e16 := L16.cell
  have L16 := Lib.hid L16
  clear L15
  go_wp2_with (fail)
  refine (L16.out.cl (k := 0) (by omega) (by omega) bk_16 q_16).mono ?_
  rintro e w17 ⟨z3, A17, g17, he, L17, E17, X17⟩
  subst he
  have o17 := L17.good.ok
  have bk_17 := bk_16.ext o16 o17 E17
  have q_17 := q_16.ext o16 o17 E17
  have r_17 := r_16.ext o16 o17 E17
  have nt_17 := nt_16.ext o16 o17 E17
  have z1_17 := z1_16.ext o16 o17 E17
  have z2_17 := X16.ext o16 o17 E17
  have e17 := L17.cell
  have L17 := Lib.hid L17
  clear L16
  go_wp2_with (fail)
  refine (L17.out.cl (k := 0) (by omega) (by omega) bk_17 r_17).mono ?_
  rintro e w18 ⟨z4, A18, g18, he, L18, E18, X18⟩
  subst he
  have o18 := L18.good.ok
  have bk_18 := bk_17.ext o17 o18 E18
  have q_18 := q_17.ext o17 o18 E18
  have r_18 := r_17.ext o17 o18 E18
  have nt_18 := nt_17.ext o17 o18 E18
  have z1_18 := z1_17.ext o17 o18 E18
  have z2_18 := z2_17.ext o17 o18 E18
  have z3_18 := X17.ext o17 o18 E18
  have e18 := L18.cell
  have L18 := Lib.hid L18
  clear L17
  go_wp2_with (fail)
  refine (L18.out.cl (k := 1) (by omega) (by omega) z3_18 X18).mono ?_
  rintro e w19 ⟨z5, A19, g19, he, L19, E19, X19⟩
  subst he
  have o19 := L19.good.ok
  have bk_19 := bk_18.ext o18 o19 E19
  have q_19 := q_18.ext o18 o19 E19
  have r_19 := r_18.ext o18 o19 E19
  have nt_19 := nt_18.ext o18 o19 E19
  have z1_19 := z1_18.ext o18 o19 E19
  have z2_19 := z2_18.ext o18 o19 E19
  have z3_19 := z3_18.ext o18 o19 E19
  have z4_19 := X18.ext o18 o19 E19
  have e19 := L19.cell
  have L19 := Lib.hid L19
  clear L18
  obtain rfl : z5 = z2 := X19.same o19 z2_19 (fun b => by cases hF : F b <;> cases hG : G b <;> cases hR : R b <;> simp [opF, hF, hG, hR])
  go_wp2_with (fail)
  refine (L19.out.cl (k := 2) (by omega) (by omega) bk_19 q_19).mono ?_
  rintro e w20 ⟨v1, A20, g20, he, L20, E20, X20⟩
  subst he
  have o20 := L20.good.ok
  have bk_20 := bk_19.ext o19 o20 E20
  have q_20 := q_19.ext o19 o20 E20
  have r_20 := r_19.ext o19 o20 E20
  have nt_20 := nt_19.ext o19 o20 E20
  have e20 := L20.cell
  have L20 := Lib.hid L20
  clear L19
  go_wp2_with (fail)
  refine (L20.out.cl (k := 2) (by omega) (by omega) X20 q_20).mono ?_
  rintro e w21 ⟨v2, A21, g21, he, L21, E21, X21⟩
  subst he
  have o21 := L21.good.ok
  have bk_21 := bk_20.ext o20 o21 E21
  have q_21 := q_20.ext o20 o21 E21
  have r_21 := r_20.ext o20 o21 E21
  have nt_21 := nt_20.ext o20 o21 E21
  have v1_21 := X20.ext o20 o21 E21
  have e21 := L21.cell
  have L21 := Lib.hid L21
  clear L20
  obtain rfl : bk = v2 := bk_21.same o21 X21 (fun b => by cases hF : F b <;> cases hG : G b <;> cases hR : R b <;> simp [opF, hF, hG, hR])
  go_wp2_with (fail)
  refine (L21.out.ite (by omega) bk_21 q_21 r_21).mono ?_
  rintro e w22 ⟨it, A22, g22, he, L22, E22, X22⟩
  subst he
  have o22 := L22.good.ok
  have bk_22 := bk_21.ext o21 o22 E22
  have q_22 := q_21.ext o21 o22 E22
  have r_22 := r_21.ext o21 o22 E22
  have nt_22 := nt_21.ext o21 o22 E22
  have e22 := L22.cell
  have L22 := Lib.hid L22
  clear L21
  simp only [resV, Option.getD_some, Option.isSome_some, if_true]
  go_wp2_with (fail)
  refine (awake06_calls _).mono ?_
  rintro e wa ⟨he, ka⟩
  subst he
  have L22 := Lib.hid (L22.out.below ka)
  clear ka e22
  have e22 := L22.out.cell
  go_wp2_with (fail)
  refine (L22.out.cl (k := 0) (by omega) (by omega) bk_22 q_22).mono ?_
  rintro e w23 ⟨u1, A23, g23, he, L23, E23, X23⟩
  subst he
  have o23 := L23.good.ok
  have bk_23 := bk_22.ext o22 o23 E23
  have q_23 := q_22.ext o22 o23 E23
  have r_23 := r_22.ext o22 o23 E23
  have nt_23 := nt_22.ext o22 o23 E23
  have it_23 := X22.ext o22 o23 E23
  have e23 := L23.cell
  have L23 := Lib.hid L23
  clear L22
  go_wp2_with (fail)
  refine (L23.out.cl (k := 3) (by omega) (by omega) r_23 bk_23).mono ?_
  rintro e w24 ⟨u2, A24, g24, he, L24, E24, X24⟩
  subst he
  have o24 := L24.good.ok
  have bk_24 := bk_23.ext o23 o24 E24
  have q_24 := q_23.ext o23 o24 E24
  have r_24 := r_23.ext o23 o24 E24
  have nt_24 := nt_23.ext o23 o24 E24
  have it_24 := it_23.ext o23 o24 E24
  have u1_24 := X23.ext o23 o24 E24
  have e24 := L24.cell
  have L24 := Lib.hid L24
  clear L23
  go_wp2_with (fail)
  refine (L24.out.cl (k := 1) (by omega) (by omega) u1_24 X24).mono ?_
  rintro e w25 ⟨u3, A25, g25, he, L25, E25, X25⟩
  subst he
  have o25 := L25.good.ok
  have bk_25 := bk_24.ext o24 o25 E25
  have q_25 := q_24.ext o24 o25 E25
  have r_25 := r_24.ext o24 o25 E25
  have nt_25 := nt_24.ext o24 o25 E25
  have it_25 := it_24.ext o24 o25 E25
  have u1_25 := u1_24.ext o24 o25 E25
  have u2_25 := X24.ext o24 o25 E25
  have e25 := L25.cell
  have L25 := Lib.hid L25
  clear L24
  obtain rfl : u3 = it := X25.same o25 it_25 (fun b => by cases hF : F b <;> cases hG : G b <;> cases hR : R b <;> simp [opF, hF, hG, hR])
  go_wp2_with (fail)
  go_ret
  exact ⟨rfl, L25.out.ar.2.2.2.2.2⟩

theorem laws_row (v : Value) {W : World} (hv : ArgEx W v) :
    Calls Try.prog 6 #[v] W fun e w' => e = .returned (.bool true) ∧ Below W.heap.size W w' := by
  obtain ⟨l, hl⟩ := hv.list
  by_cases h : LightP l
  · rcases Nat.lt_or_ge l.length 3 with h0 | h0
    · exact laws_few hl h h0
    · exact laws_main hl h h0
  · exact laws_dark hl h

end Go.Proofs.Ytakgghhmecphmaa
