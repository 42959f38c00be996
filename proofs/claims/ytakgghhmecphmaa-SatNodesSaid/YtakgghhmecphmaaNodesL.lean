/- The walk of SatNodes. -/
import Derived.Test.YtakgghhmecphmaaNodesW
import Derived.Test.YtakgghhmecphmaaAwake8
import Derived.Test.YtakgghhmecphmaaHeld
import Derived.Test.YtakgghhmecphmaaHasF
namespace Go.Proofs.Ytakgghhmecphmaa
set_option linter.unusedVariables false
set_option linter.unusedSimpArgs false
open Go.RowKit Go.Maps

theorem nodes_one {W w : World} {p g mb : Nat} {A : Arn} (R : AR W w p g mb A) {x : Nat} (hx : x < A.nodes.length) :
    Calls Try.prog 26 #[.pointer (some ⟨p, 0, none⟩), .slice (some ⟨w.heap.size, 0, none⟩) 1 1] (w.alloc (.cells #[.int .i64 (x : Int)] 3)) fun e w' => (∃ L, NodesOf A [x] L ∧ e = .returned (.int .i64 (L.length : Int))) ∧ AR W w' p g mb A := by
  have k := (Below.refl w.heap.size w).alloc (Nat.le_refl _) (.cells #[.int .i64 (x : Int)] 3)
  have R2 := R.below k
  refine (Nodes_calls R2.2.2.2.1 R.2.2.2.2.1 w.heap.size 1 [(x : Int)] 1 rfl (by omega) (fun i y hy => ?_) (by simp)).mono ?_
  · rw [cell_of (heap_alloc_new w _) i]
    match i, hy with
    | 0, hy => simpa using hy
    | i + 1, hy => simp at hy
  · rintro e w' ⟨⟨L, hL, he⟩, k2⟩
    rw [show okS A [(x : Int)] = [x] by simp [okS, hx]] at hL
    exact ⟨⟨L, hL, he⟩, R2.below k2⟩
theorem nodes_two {W w : World} {p g mb : Nat} {A : Arn} (R : AR W w p g mb A) {x y : Nat} (hx : x < A.nodes.length) (hy : y < A.nodes.length) :
    Calls Try.prog 26 #[.pointer (some ⟨p, 0, none⟩), .slice (some ⟨w.heap.size, 0, none⟩) 2 2] (w.alloc (.cells #[.int .i64 (x : Int), .int .i64 (y : Int)] 3)) fun e w' => (∃ L, NodesOf A [x, y] L ∧ e = .returned (.int .i64 (L.length : Int))) ∧ AR W w' p g mb A := by
  have k := (Below.refl w.heap.size w).alloc (Nat.le_refl _) (.cells #[.int .i64 (x : Int), .int .i64 (y : Int)] 3)
  have R2 := R.below k
  refine (Nodes_calls R2.2.2.2.1 R.2.2.2.2.1 w.heap.size 2 [(x : Int), (y : Int)] 2 rfl (by omega) (fun i z hz => ?_) (by simp)).mono ?_
  · rw [cell_of (heap_alloc_new w _) i]
    match i, hz with
    | 0, hz => simpa using hz
    | 1, hz => simpa using hz
    | i + 2, hz => simp at hz
  · rintro e w' ⟨⟨L, hL, he⟩, k2⟩
    rw [show okS A [(x : Int), (y : Int)] = [x, y] by simp [okS, hx, hy]] at hL
    exact ⟨⟨L, hL, he⟩, R2.below k2⟩
theorem nodes_bad {W w : World} {p g mb : Nat} {A : Arn} (R : AR W w p g mb A) {f : Int} (hf : ¬ (0 ≤ f ∧ f < A.nodes.length)) :
    Calls Try.prog 26 #[.pointer (some ⟨p, 0, none⟩), .slice (some ⟨w.heap.size, 0, none⟩) 1 1] (w.alloc (.cells #[.int .i64 f] 3)) fun e w' => e = .returned (.int .i64 0) ∧ AR W w' p g mb A := by
  have k := (Below.refl w.heap.size w).alloc (Nat.le_refl _) (.cells #[.int .i64 f] 3)
  have R2 := R.below k
  refine (Nodes_calls R2.2.2.2.1 R.2.2.2.2.1 w.heap.size 1 [f] 1 rfl (by omega) (fun i y hy => ?_) (by simp)).mono ?_
  · rw [cell_of (heap_alloc_new w _) i]
    match i, hy with
    | 0, hy => simpa using hy
    | i + 1, hy => simp at hy
  · rintro e w' ⟨⟨L, hL, he⟩, k2⟩
    have h0 : L.length = 0 := by
      rw [show okS A [f] = [] by simp only [okS]; rw [if_neg hf]] at hL
      rcases L with _ | ⟨y, r⟩
      · rfl
      · exfalso
        have hr := (hL.2.1 y).1 (by simp)
        have key : ∀ z, Rch A [] z → False := fun z hz => by
          induction hz with
          | base h1 _ => simp at h1
          | low _ _ ih => exact ih
          | high _ _ ih => exact ih
        exact key _ hr
    rw [h0] at he
    exact ⟨he, R2.below k2⟩

set_option maxRecDepth 100000 in
theorem nodesl_dark {W : World} {v : Value} {l : List Ex} (h : ArgL W.heap.size W v l) (i : Int) (hl : ¬ (LightP l ∧ 2 ≤ l.length)) :
    Calls Try.prog 14 #[v, .int .i64 i] W fun e w' => e = .returned (.bool true) ∧ Below W.heap.size W w' := by
  by_cases h1 : LightP l
  · have HL := Lib.hid (light_yes h h1)
    have h2 : l.length < 2 := Nat.lt_of_not_le fun h2 => hl ⟨h1, h2⟩
    obtain ⟨ao, cap, rfl, hlen⟩ := h.slice
    have t1 : decide ((l.length : Int) < 2) = true := decide_eq_true (by omega)
    clear hl h1
    go_enter Try.func14, Try.ntmps14
    go_wp2_with (fail)
    refine HL.out.mono ?_
    rintro e w1 ⟨he, k1⟩
    subst he
    have k1 := Lib.hid k1
    go_wp2_with (go_at_call 21; refine (awake08_calls _).mono ?_; rintro e w' ⟨rfl, k8⟩; have k8 := Lib.hid k8)
    go_ret
    exact ⟨rfl, k1.out.trans (k8.out.mono k1.out.size)⟩
  · have HL := Lib.hid (light_no h h1)
    obtain ⟨ao, cap, rfl, hlen⟩ := h.slice
    clear hl h1
    go_enter Try.func14, Try.ntmps14
    go_wp2_with (fail)
    refine HL.out.mono ?_
    rintro e w1 ⟨he, k1⟩
    subst he
    have k1 := Lib.hid k1
    go_wp2_with (go_at_call 21; refine (awake08_calls _).mono ?_; rintro e w' ⟨rfl, k8⟩; have k8 := Lib.hid k8)
    go_ret
    exact ⟨rfl, k1.out.trans (k8.out.mono k1.out.size)⟩

set_option maxRecDepth 100000 in
set_option maxHeartbeats 4000000 in
theorem nodesl_main {W : World} {v : Value} {l : List Ex} (h : ArgL W.heap.size W v l) (i : Int) (wi : (Lit.int .i64 i).wf = true) (hl : LightP l) (h3 : 2 ≤ l.length) :
    Calls Try.prog 14 #[v, .int .i64 i] W fun e w' => e = .returned (.bool true) ∧ Below W.heap.size W w' := by
  have HL := Lib.hid (light_yes h hl)
  have HV := Lib.hid h
  obtain ⟨ao, cap, rfl, hlen⟩ := h.slice
  have hG := light_good hl
  obtain ⟨m1, _, _, m4, _, _, m7, _, _⟩ := light_room hl rfl
  generalize hR : makeGo (newF 262144) [] l = R at *
  obtain ⟨out, ok, A⟩ := R
  simp only at m1 m4 m7 hG
  subst m1
  have o0 := hG.ok
  have h2 := o0.two
  have hN18 := Nat.le_trans o0.len o0.most
  have hf : out.getD (l.length - 1) 0 < A.nodes.length := getD_lt m7 (by omega) _
  have hg : out.getD 0 0 < A.nodes.length := getD_lt m7 (by omega) _
  generalize hfd : out.getD (l.length - 1) 0 = x at *
  generalize hgd : out.getD 0 0 = y at *
  have t1 : decide ((l.length : Int) < 2) = false := decide_eq_false (by omega)
  have HFD := Lib.hid (And.intro hfd hgd)
  have HRR := Lib.hid hR
  have HM4 := Lib.hid m4
  have h60 := hl.1
  have HLP := Lib.hid hl
  clear h hR hfd hgd m4 m7 hl hG
  go_enter Try.func14, Try.ntmps14
  go_wp2_with (fail)
  refine HL.out.mono ?_
  rintro e w1 ⟨he, k1⟩
  subst he
  have k1 := Lib.hid k1
  go_wp2_with (fail)
  refine (AR.new k1.out 262144 (by omega) (by omega)).mono ?_
  rintro e w2 ⟨p, g, mb, he, H2⟩
  subst he
  have H2 := Lib.hid H2
  go_wp2_with (fail)
  refine (make_arg H2.out HV.out h60 HLP.out.2.2.1).mono ?_
  rw [HRR.out]
  simp only [if_true]
  rintro e w3 ⟨vo, he, how, g3, hg3, H3, K3⟩
  subst he
  rw [HM4.out] at how
  obtain ⟨s0, cap2, rfl⟩ := row_slice how (by omega)
  have c1 := out_cell how (i := l.length - 1) (by omega)
  have c2 := out_cell how (i := 0) (by omega)
  rw [HFD.out.1] at c1
  rw [HFD.out.2] at c2
  have H3 := Lib.hid H3
  clear how K3 hg3 H2
  go_wp2_with (fail)
  go_quiet (fail)
  have H3d := Lib.hid (H3.out.below (Kept.below (Kept.of_drewN (S := []) w3 nq) (Nat.le_refl _) (by simp)))
  clear H3
  generalize w3.drewN nq = w4 at *
  -- SEQ
  go_wp2_with (fail)
  refine (nodes_one H3d.out hf).mono ?_
  rintro e w5 ⟨⟨L1, hL1, he⟩, H5⟩
  subst he
  have H5 := Lib.hid H5
  clear H3d
  go_wp2_with (fail)
  refine (nodes_one H5.out hg).mono ?_
  rintro e w6 ⟨⟨L2, hL2, he⟩, H6⟩
  subst he
  have H6 := Lib.hid H6
  clear H5
  go_wp2_with (fail)
  refine (nodes_two H6.out hf hg).mono ?_
  rintro e w7 ⟨⟨L3, hL3, he⟩, H7⟩
  subst he
  have H7 := Lib.hid H7
  clear H6
  have f1 : L3.length ≤ L1.length + L2.length := nodesof_sum (S := [x]) (T := [y]) hL1 hL2 hL3
  have f2 : L1.length ≤ L3.length := nodesof_le hL1 hL3 (by simp)
  have f3 : L2.length ≤ L3.length := nodesof_le hL2 hL3 (by simp)
  have f4 := nodesof_two hL1
  have f5 := nodesof_zero hL1
  have f6 := nodesof_two hL2
  have HXX := Lib.hid (fun (L : List Nat) (hL : NodesOf A [x, x] L) => Nat.le_antisymm (nodesof_le hL hL1 (by simp)) (nodesof_le hL1 hL (by simp)))
  clear hL1 hL2 hL3
  generalize L1.length = n at *
  generalize L2.length = m at *
  generalize L3.length = k at *
  have HF5 := Lib.hid f5
  clear f5
  have d1 : decide (n + m < k) = false := decide_eq_false (by omega)
  have HLN := Lib.hid (fun w' (R : AR W w' p g3 mb A) => len_calls R.2.2.2.1)
  have d4 : decide ((A.nodes.length : Int) - 2 < (n : Int)) = false := decide_eq_false (by omega)
  rcases Nat.lt_or_ge n m with hnm | hnm
  · have hnm' : (n : Int) < (m : Int) := by omega
    have d2 : decide (k < m) = false := decide_eq_false (by omega)
    go_wp2_with (fail)
    refine (HLN.out _ H7.out).mono ?_
    rintro e w8 ⟨he, hw⟩
    subst he hw
    rcases Nat.lt_or_ge 1 x with hx1 | hx1
    · have t3 : decide ((x : Int) ≤ 1) = false := decide_eq_false (by omega)
      have hn0 : n ≠ 0 := fun e => by have := HF5.out.1 e; omega
      have t4 : ((n : Int) == 0) = false := by simp; omega
      go_wp2_with (fail)
      refine (nodes_two H7.out hf hf).mono ?_
      rintro e w9 ⟨⟨L4, hL4, he⟩, H9⟩
      rw [HXX.out L4 hL4] at he
      subst he
      have H9 := Lib.hid H9
      clear H7 hL4
      have t5 : ((n : Int) != (n : Int)) = false := by simp
      go_wp2_with (fail)
      have hh := has_calls H9.out.2.2.2.1 i
      by_cases hv : 0 ≤ i ∧ i < A.nodes.length
      · rw [decide_eq_true hv] at hh
        refine hh.mono ?_
        clear hh hv
        rintro e w10 ⟨he, hw⟩
        subst he hw
        go_wp2_with (fail)
        refine (awake08_calls _).mono ?_
        rintro e w11 ⟨he, k11⟩
        subst he
        have H11 := Lib.hid (H9.out.below k11)
        clear k11
        go_wp2_with (fail)
        go_ret
        exact ⟨rfl, H11.out.2.2.2.2.2⟩
      · rw [decide_eq_false hv] at hh
        refine hh.mono ?_
        clear hh
        have HV := Lib.hid hv
        clear hv
        rintro e w10 ⟨he, hw⟩
        subst he hw
        go_wp2_with (fail)
        refine (least_none H9.out.2.2.2.1 o0 i (Or.inl HV.out)).mono ?_
        rintro e w11 ⟨he, k11⟩
        subst he
        have H11 := Lib.hid (H9.out.below k11)
        clear k11 H9
        rw [show hdZ.val = .agg #[.int .u32 0, .int .u32 0, .int .u8 0, .int .u16 0, .int .u16 0] from rfl]
        go_wp2_with (fail)
        refine (awake08_calls _).mono ?_
        rintro e w12 ⟨he, k12⟩
        subst he
        have H12 := Lib.hid ((H11.out.below ((Below.refl w11.heap.size w11).alloc (Nat.le_refl _) (.cells #[.int .u32 0, .int .u32 0, .int .u8 0, .int .u16 0, .int .u16 0] 25))).below k12)
        clear k12 H11
        go_wp2_with (fail)
        refine (nodes_bad H12.out HV.out).mono ?_
        rintro e w13 ⟨he, H13⟩
        subst he
        have H13 := Lib.hid H13
        clear H12
        go_wp2_with (fail)
        refine (Count_none H13.out.2.2.2.1 i HV.out).mono ?_
        rintro e w14 ⟨he, k14⟩
        subst he
        have H14 := Lib.hid (H13.out.below k14)
        clear k14 H13
        have ZC : ∀ w', Calls Try.prog 47 #[cval 0] w' fun e w'' => e = .returned (.bool true) ∧ Below w'.heap.size w' w'' := fun w' => (zero_calls w' 0 (by decide)).mono fun _ _ k => ⟨k.1.trans (by simp), k.2⟩
        have ZC := Lib.hid ZC
        generalize cval 0 = vz at *
        go_wp2_with (fail)
        refine (ZC.out _).mono ?_
        rintro e w15 ⟨he, k15⟩
        subst he
        have H15 := Lib.hid (H14.out.below k15)
        clear k15 H14
        go_wp2_with (fail)
        refine (Within_none H15.out.2.2.2.1 i (x : Int) (Or.inl HV.out)).mono ?_
        rintro e w16 ⟨he, k16⟩
        subst he
        have H16 := Lib.hid (H15.out.below k16)
        clear k16 H15
        go_wp2_with (fail)
        refine (Within_none H16.out.2.2.2.1 (x : Int) i (Or.inr HV.out)).mono ?_
        rintro e w17 ⟨he, k17⟩
        subst he
        have H17 := Lib.hid (H16.out.below k17)
        clear k17 H16
        go_wp2_with (fail)
        have hNN := Nodes_nil (w17.alloc (.cells #[.int .i64 1] 3)) w17.heap.size 1 1 (cell_of (heap_alloc_new w17 (.cells #[.int .i64 1] 3)) 0) (by simp)
        refine hNN.mono ?_
        rintro e w18 ⟨he, k18⟩
        subst he
        have H18 := Lib.hid ((H17.out.below ((Below.refl w17.heap.size w17).alloc (Nat.le_refl _) (.cells #[.int .i64 1] 3))).below k18)
        clear k18 hNN
        go_wp2_with (fail)
        go_ret
        exact ⟨rfl, H18.out.2.2.2.2.2⟩
    · have t3 : decide ((x : Int) ≤ 1) = true := decide_eq_true (by omega)
      have hn0 : n = 0 := HF5.out.2 hx1
      have t4 : ((n : Int) == 0) = true := by rw [hn0]; rfl
      clear hn0
      go_wp2_with (fail)
      refine (nodes_two H7.out hf hf).mono ?_
      rintro e w9 ⟨⟨L4, hL4, he⟩, H9⟩
      rw [HXX.out L4 hL4] at he
      subst he
      have H9 := Lib.hid H9
      clear H7 hL4
      have t5 : ((n : Int) != (n : Int)) = false := by simp
      go_wp2_with (fail)
      have hh := has_calls H9.out.2.2.2.1 i
      by_cases hv : 0 ≤ i ∧ i < A.nodes.length
      · rw [decide_eq_true hv] at hh
        refine hh.mono ?_
        clear hh hv
        rintro e w10 ⟨he, hw⟩
        subst he hw
        go_wp2_with (fail)
        refine (awake08_calls _).mono ?_
        rintro e w11 ⟨he, k11⟩
        subst he
        have H11 := Lib.hid (H9.out.below k11)
        clear k11
        go_wp2_with (fail)
        go_ret
        exact ⟨rfl, H11.out.2.2.2.2.2⟩
      · rw [decide_eq_false hv] at hh
        refine hh.mono ?_
        clear hh
        have HV := Lib.hid hv
        clear hv
        rintro e w10 ⟨he, hw⟩
        subst he hw
        go_wp2_with (fail)
        refine (least_none H9.out.2.2.2.1 o0 i (Or.inl HV.out)).mono ?_
        rintro e w11 ⟨he, k11⟩
        subst he
        have H11 := Lib.hid (H9.out.below k11)
        clear k11 H9
        rw [show hdZ.val = .agg #[.int .u32 0, .int .u32 0, .int .u8 0, .int .u16 0, .int .u16 0] from rfl]
        go_wp2_with (fail)
        refine (awake08_calls _).mono ?_
        rintro e w12 ⟨he, k12⟩
        subst he
        have H12 := Lib.hid ((H11.out.below ((Below.refl w11.heap.size w11).alloc (Nat.le_refl _) (.cells #[.int .u32 0, .int .u32 0, .int .u8 0, .int .u16 0, .int .u16 0] 25))).below k12)
        clear k12 H11
        go_wp2_with (fail)
        refine (nodes_bad H12.out HV.out).mono ?_
        rintro e w13 ⟨he, H13⟩
        subst he
        have H13 := Lib.hid H13
        clear H12
        go_wp2_with (fail)
        refine (Count_none H13.out.2.2.2.1 i HV.out).mono ?_
        rintro e w14 ⟨he, k14⟩
        subst he
        have H14 := Lib.hid (H13.out.below k14)
        clear k14 H13
        have ZC : ∀ w', Calls Try.prog 47 #[cval 0] w' fun e w'' => e = .returned (.bool true) ∧ Below w'.heap.size w' w'' := fun w' => (zero_calls w' 0 (by decide)).mono fun _ _ k => ⟨k.1.trans (by simp), k.2⟩
        have ZC := Lib.hid ZC
        generalize cval 0 = vz at *
        go_wp2_with (fail)
        refine (ZC.out _).mono ?_
        rintro e w15 ⟨he, k15⟩
        subst he
        have H15 := Lib.hid (H14.out.below k15)
        clear k15 H14
        go_wp2_with (fail)
        refine (Within_none H15.out.2.2.2.1 i (x : Int) (Or.inl HV.out)).mono ?_
        rintro e w16 ⟨he, k16⟩
        subst he
        have H16 := Lib.hid (H15.out.below k16)
        clear k16 H15
        go_wp2_with (fail)
        refine (Within_none H16.out.2.2.2.1 (x : Int) i (Or.inr HV.out)).mono ?_
        rintro e w17 ⟨he, k17⟩
        subst he
        have H17 := Lib.hid (H16.out.below k17)
        clear k17 H16
        go_wp2_with (fail)
        have hNN := Nodes_nil (w17.alloc (.cells #[.int .i64 1] 3)) w17.heap.size 1 1 (cell_of (heap_alloc_new w17 (.cells #[.int .i64 1] 3)) 0) (by simp)
        refine hNN.mono ?_
        rintro e w18 ⟨he, k18⟩
        subst he
        have H18 := Lib.hid ((H17.out.below ((Below.refl w17.heap.size w17).alloc (Nat.le_refl _) (.cells #[.int .i64 1] 3))).below k18)
        clear k18 hNN
        go_wp2_with (fail)
        go_ret
        exact ⟨rfl, H18.out.2.2.2.2.2⟩
  · have hnm' : ¬ (n : Int) < (m : Int) := by omega
    have d2 : decide (k < n) = false := decide_eq_false (by omega)
    go_wp2_with (fail)
    refine (HLN.out _ H7.out).mono ?_
    rintro e w8 ⟨he, hw⟩
    subst he hw
    rcases Nat.lt_or_ge 1 x with hx1 | hx1
    · have t3 : decide ((x : Int) ≤ 1) = false := decide_eq_false (by omega)
      have hn0 : n ≠ 0 := fun e => by have := HF5.out.1 e; omega
      have t4 : ((n : Int) == 0) = false := by simp; omega
      go_wp2_with (fail)
      refine (nodes_two H7.out hf hf).mono ?_
      rintro e w9 ⟨⟨L4, hL4, he⟩, H9⟩
      rw [HXX.out L4 hL4] at he
      subst he
      have H9 := Lib.hid H9
      clear H7 hL4
      have t5 : ((n : Int) != (n : Int)) = false := by simp
      go_wp2_with (fail)
      have hh := has_calls H9.out.2.2.2.1 i
      by_cases hv : 0 ≤ i ∧ i < A.nodes.length
      · rw [decide_eq_true hv] at hh
        refine hh.mono ?_
        clear hh hv
        rintro e w10 ⟨he, hw⟩
        subst he hw
        go_wp2_with (fail)
        refine (awake08_calls _).mono ?_
        rintro e w11 ⟨he, k11⟩
        subst he
        have H11 := Lib.hid (H9.out.below k11)
        clear k11
        go_wp2_with (fail)
        go_ret
        exact ⟨rfl, H11.out.2.2.2.2.2⟩
      · rw [decide_eq_false hv] at hh
        refine hh.mono ?_
        clear hh
        have HV := Lib.hid hv
        clear hv
        rintro e w10 ⟨he, hw⟩
        subst he hw
        go_wp2_with (fail)
        refine (least_none H9.out.2.2.2.1 o0 i (Or.inl HV.out)).mono ?_
        rintro e w11 ⟨he, k11⟩
        subst he
        have H11 := Lib.hid (H9.out.below k11)
        clear k11 H9
        rw [show hdZ.val = .agg #[.int .u32 0, .int .u32 0, .int .u8 0, .int .u16 0, .int .u16 0] from rfl]
        go_wp2_with (fail)
        refine (awake08_calls _).mono ?_
        rintro e w12 ⟨he, k12⟩
        subst he
        have H12 := Lib.hid ((H11.out.below ((Below.refl w11.heap.size w11).alloc (Nat.le_refl _) (.cells #[.int .u32 0, .int .u32 0, .int .u8 0, .int .u16 0, .int .u16 0] 25))).below k12)
        clear k12 H11
        go_wp2_with (fail)
        refine (nodes_bad H12.out HV.out).mono ?_
        rintro e w13 ⟨he, H13⟩
        subst he
        have H13 := Lib.hid H13
        clear H12
        go_wp2_with (fail)
        refine (Count_none H13.out.2.2.2.1 i HV.out).mono ?_
        rintro e w14 ⟨he, k14⟩
        subst he
        have H14 := Lib.hid (H13.out.below k14)
        clear k14 H13
        have ZC : ∀ w', Calls Try.prog 47 #[cval 0] w' fun e w'' => e = .returned (.bool true) ∧ Below w'.heap.size w' w'' := fun w' => (zero_calls w' 0 (by decide)).mono fun _ _ k => ⟨k.1.trans (by simp), k.2⟩
        have ZC := Lib.hid ZC
        generalize cval 0 = vz at *
        go_wp2_with (fail)
        refine (ZC.out _).mono ?_
        rintro e w15 ⟨he, k15⟩
        subst he
        have H15 := Lib.hid (H14.out.below k15)
        clear k15 H14
        go_wp2_with (fail)
        refine (Within_none H15.out.2.2.2.1 i (x : Int) (Or.inl HV.out)).mono ?_
        rintro e w16 ⟨he, k16⟩
        subst he
        have H16 := Lib.hid (H15.out.below k16)
        clear k16 H15
        go_wp2_with (fail)
        refine (Within_none H16.out.2.2.2.1 (x : Int) i (Or.inr HV.out)).mono ?_
        rintro e w17 ⟨he, k17⟩
        subst he
        have H17 := Lib.hid (H16.out.below k17)
        clear k17 H16
        go_wp2_with (fail)
        have hNN := Nodes_nil (w17.alloc (.cells #[.int .i64 1] 3)) w17.heap.size 1 1 (cell_of (heap_alloc_new w17 (.cells #[.int .i64 1] 3)) 0) (by simp)
        refine hNN.mono ?_
        rintro e w18 ⟨he, k18⟩
        subst he
        have H18 := Lib.hid ((H17.out.below ((Below.refl w17.heap.size w17).alloc (Nat.le_refl _) (.cells #[.int .i64 1] 3))).below k18)
        clear k18 hNN
        go_wp2_with (fail)
        go_ret
        exact ⟨rfl, H18.out.2.2.2.2.2⟩
    · have t3 : decide ((x : Int) ≤ 1) = true := decide_eq_true (by omega)
      have hn0 : n = 0 := HF5.out.2 hx1
      have t4 : ((n : Int) == 0) = true := by rw [hn0]; rfl
      clear hn0
      go_wp2_with (fail)
      refine (nodes_two H7.out hf hf).mono ?_
      rintro e w9 ⟨⟨L4, hL4, he⟩, H9⟩
      rw [HXX.out L4 hL4] at he
      subst he
      have H9 := Lib.hid H9
      clear H7 hL4
      have t5 : ((n : Int) != (n : Int)) = false := by simp
      go_wp2_with (fail)
      have hh := has_calls H9.out.2.2.2.1 i
      by_cases hv : 0 ≤ i ∧ i < A.nodes.length
      · rw [decide_eq_true hv] at hh
        refine hh.mono ?_
        clear hh hv
        rintro e w10 ⟨he, hw⟩
        subst he hw
        go_wp2_with (fail)
        refine (awake08_calls _).mono ?_
        rintro e w11 ⟨he, k11⟩
        subst he
        have H11 := Lib.hid (H9.out.below k11)
        clear k11
        go_wp2_with (fail)
        go_ret
        exact ⟨rfl, H11.out.2.2.2.2.2⟩
      · rw [decide_eq_false hv] at hh
        refine hh.mono ?_
        clear hh
        have HV := Lib.hid hv
        clear hv
        rintro e w10 ⟨he, hw⟩
        subst he hw
        go_wp2_with (fail)
        refine (least_none H9.out.2.2.2.1 o0 i (Or.inl HV.out)).mono ?_
        rintro e w11 ⟨he, k11⟩
        subst he
        have H11 := Lib.hid (H9.out.below k11)
        clear k11 H9
        rw [show hdZ.val = .agg #[.int .u32 0, .int .u32 0, .int .u8 0, .int .u16 0, .int .u16 0] from rfl]
        go_wp2_with (fail)
        refine (awake08_calls _).mono ?_
        rintro e w12 ⟨he, k12⟩
        subst he
        have H12 := Lib.hid ((H11.out.below ((Below.refl w11.heap.size w11).alloc (Nat.le_refl _) (.cells #[.int .u32 0, .int .u32 0, .int .u8 0, .int .u16 0, .int .u16 0] 25))).below k12)
        clear k12 H11
        go_wp2_with (fail)
        refine (nodes_bad H12.out HV.out).mono ?_
        rintro e w13 ⟨he, H13⟩
        subst he
        have H13 := Lib.hid H13
        clear H12
        go_wp2_with (fail)
        refine (Count_none H13.out.2.2.2.1 i HV.out).mono ?_
        rintro e w14 ⟨he, k14⟩
        subst he
        have H14 := Lib.hid (H13.out.below k14)
        clear k14 H13
        have ZC : ∀ w', Calls Try.prog 47 #[cval 0] w' fun e w'' => e = .returned (.bool true) ∧ Below w'.heap.size w' w'' := fun w' => (zero_calls w' 0 (by decide)).mono fun _ _ k => ⟨k.1.trans (by simp), k.2⟩
        have ZC := Lib.hid ZC
        generalize cval 0 = vz at *
        go_wp2_with (fail)
        refine (ZC.out _).mono ?_
        rintro e w15 ⟨he, k15⟩
        subst he
        have H15 := Lib.hid (H14.out.below k15)
        clear k15 H14
        go_wp2_with (fail)
        refine (Within_none H15.out.2.2.2.1 i (x : Int) (Or.inl HV.out)).mono ?_
        rintro e w16 ⟨he, k16⟩
        subst he
        have H16 := Lib.hid (H15.out.below k16)
        clear k16 H15
        go_wp2_with (fail)
        refine (Within_none H16.out.2.2.2.1 (x : Int) i (Or.inr HV.out)).mono ?_
        rintro e w17 ⟨he, k17⟩
        subst he
        have H17 := Lib.hid (H16.out.below k17)
        clear k17 H16
        go_wp2_with (fail)
        have hNN := Nodes_nil (w17.alloc (.cells #[.int .i64 1] 3)) w17.heap.size 1 1 (cell_of (heap_alloc_new w17 (.cells #[.int .i64 1] 3)) 0) (by simp)
        refine hNN.mono ?_
        rintro e w18 ⟨he, k18⟩
        subst he
        have H18 := Lib.hid ((H17.out.below ((Below.refl w17.heap.size w17).alloc (Nat.le_refl _) (.cells #[.int .i64 1] 3))).below k18)
        clear k18 hNN
        go_wp2_with (fail)
        go_ret
        exact ⟨rfl, H18.out.2.2.2.2.2⟩

theorem nodesl_row (v : Value) (i : Int) {W : World} (hv : ArgEx W v) (wi : (Lit.int .i64 i).wf = true) :
    Calls Try.prog 14 #[v, .int .i64 i] W fun e w' => e = .returned (.bool true) ∧ Below W.heap.size W w' := by
  obtain ⟨l, hl⟩ := hv.list
  by_cases h : LightP l ∧ 2 ≤ l.length
  · exact nodesl_main hl i wi h.1 h.2
  · exact nodesl_dark hl i h

end Go.Proofs.Ytakgghhmecphmaa
