/- The walk of SatSteps. -/
import Derived.Test.YtakgghhmecphmaaStepsP
import Derived.Test.YtakgghhmecphmaaIn
import Derived.Test.YtakgghhmecphmaaEnc
import Derived.Test.YtakgghhmecphmaaAwake8
import Derived.Test.YtakgghhmecphmaaHeld
import Derived.Test.YtakgghhmecphmaaHasF
import Derived.Test.YtakgghhmecphmaaCntEq
import Derived.Deep.CutRange
namespace Go.Proofs.Ytakgghhmecphmaa
set_option linter.unusedVariables false
set_option linter.unusedSimpArgs false
open Go.RowKit Go.Maps

set_option maxRecDepth 100000 in
theorem cnt_ne' (n : Nat) (w : World) : (binOp .neq 44 (cval n) (cval n)).run Try.prog w = .ok (.bool false) w := by
  unfold cval
  simp [go_sem]

/-- A box with a header; with a count. -/
def HBx (w : World) (b : Nat) (h : Hd) : Prop := w.heap[b]? = some (.cells #[.int .u32 (h.dst : Int), .int .u32 (h.src : Int), .int .u8 (h.proto : Int), .int .u16 (h.sport : Int), .int .u16 (h.dport : Int)] 25 (0, 0))
def CBx (w : World) (b : Nat) (x y : Nat) : Prop := w.heap[b]? = some (.cells #[.int .u64 (x : Int), .int .u64 (y : Int)] 44 (0, 0))
/-- The arena and three boxes beside it. -/
def Stw (W w : World) (p g mb bl bw bh : Nat) (A : Arn) (last hd : Hd) (x y : Nat) : Prop :=
  AR W w p g mb A ∧ HBx w bl last ∧ CBx w bw x y ∧ HBx w bh hd ∧ (bl ≠ p ∧ bl ≠ g ∧ bl ≠ mb) ∧ (bw ≠ p ∧ bw ≠ g ∧ bw ≠ mb) ∧ (bh ≠ p ∧ bh ≠ g ∧ bh ≠ mb)
theorem Stw.kept {W w w' : World} {p g mb bl bw bh g' : Nat} {A A' : Arn} {last hd : Hd} {x y : Nat} {S : List Nat} (h : Stw W w p g mb bl bw bh A last hd x y) (k : Kept S w w') (h1 : bl ∉ S) (h2 : bw ∉ S) (h3 : bh ∉ S)
    (ha : AR W w' p g' mb A') (hg : g' = g ∨ w.heap.size ≤ g') : Stw W w' p g' mb bl bw bh A' last hd x y := by
  obtain ⟨a, b, c, d, e, f, q⟩ := h
  have l1 := lt_of_block b
  have l2 := lt_of_block c
  have l3 := lt_of_block d
  refine ⟨ha, (k.block _ l1 h1).trans b, (k.block _ l2 h2).trans c, (k.block _ l3 h3).trans d, ?_, ?_, ?_⟩
  · exact ⟨e.1, by rcases hg with r | r <;> omega, e.2.2⟩
  · exact ⟨f.1, by rcases hg with r | r <;> omega, f.2.2⟩
  · exact ⟨q.1, by rcases hg with r | r <;> omega, q.2.2⟩
theorem Stw.post {W w w' : World} {p g mb bl bw bh g' : Nat} {A A' : Arn} {last hd : Hd} {x y : Nat} (h : Stw W w p g mb bl bw bh A last hd x y) (ha : AR W w' p g' mb A') (hg : g' = g ∨ w.heap.size ≤ g') (k : Kept [p, g, mb] w w') :
    Stw W w' p g' mb bl bw bh A' last hd x y := by
  obtain ⟨_, _, _, _, e, f, q⟩ := id h
  exact h.kept k (by simp; omega) (by simp; omega) (by simp; omega) ha hg
theorem Stw.below {W w w' : World} {p g mb bl bw bh : Nat} {A : Arn} {last hd : Hd} {x y : Nat} (h : Stw W w p g mb bl bw bh A last hd x y) (k : Below w.heap.size w w') : Stw W w' p g mb bl bw bh A last hd x y :=
  h.kept (Kept.of_below (S := []) k) (by simp) (by simp) (by simp) (h.1.below k) (Or.inl rfl)
theorem Stw.hd {W w : World} {p g mb bl bw bh : Nat} {A : Arn} {last hd : Hd} {x y : Nat} (h : Stw W w p g mb bl bw bh A last hd x y) : w.cell? ⟨bh, 0, none⟩ = some (.int .u32 (hd.dst : Int)) ∧ w.cell? ⟨bh, 1, none⟩ = some (.int .u32 (hd.src : Int)) ∧
    w.cell? ⟨bh, 2, none⟩ = some (.int .u8 (hd.proto : Int)) ∧ w.cell? ⟨bh, 3, none⟩ = some (.int .u16 (hd.sport : Int)) ∧ w.cell? ⟨bh, 4, none⟩ = some (.int .u16 (hd.dport : Int)) := by
  have b := h.2.2.2.1
  unfold HBx at b
  exact ⟨cell_of b 0, cell_of b 1, cell_of b 2, cell_of b 3, cell_of b 4⟩
theorem Stw.lst {W w : World} {p g mb bl bw bh : Nat} {A : Arn} {last hd : Hd} {x y : Nat} (h : Stw W w p g mb bl bw bh A last hd x y) : (w.cell? ⟨bl, 0, none⟩ = some (.int .u32 (last.dst : Int)) ∧ w.cell? ⟨bl, 1, none⟩ = some (.int .u32 (last.src : Int)) ∧
    w.cell? ⟨bl, 2, none⟩ = some (.int .u8 (last.proto : Int)) ∧ w.cell? ⟨bl, 3, none⟩ = some (.int .u16 (last.sport : Int)) ∧ w.cell? ⟨bl, 4, none⟩ = some (.int .u16 (last.dport : Int))) ∧
    (w.frozen? ⟨bl, 0, none⟩ = false ∧ w.frozen? ⟨bl, 1, none⟩ = false ∧ w.frozen? ⟨bl, 2, none⟩ = false ∧ w.frozen? ⟨bl, 3, none⟩ = false ∧ w.frozen? ⟨bl, 4, none⟩ = false) := by
  have b := h.2.1
  unfold HBx at b
  exact ⟨⟨cell_of b 0, cell_of b 1, cell_of b 2, cell_of b 3, cell_of b 4⟩, unfrozen_of b 0, unfrozen_of b 1, unfrozen_of b 2, unfrozen_of b 3, unfrozen_of b 4⟩
theorem Stw.cnt {W w : World} {p g mb bl bw bh : Nat} {A : Arn} {last hd : Hd} {x y : Nat} (h : Stw W w p g mb bl bw bh A last hd x y) : w.cell? ⟨bw, 0, none⟩ = some (.int .u64 (x : Int)) ∧ w.cell? ⟨bw, 1, none⟩ = some (.int .u64 (y : Int)) := by
  have b := h.2.2.1
  unfold CBx at b
  exact ⟨cell_of b 0, cell_of b 1⟩

set_option maxRecDepth 100000 in
theorem steps_dark {W : World} {v : Value} {l : List Ex} (h : ArgL W.heap.size W v l) (i : Int) (hl : ¬ (LightP l ∧ 0 < l.length)) :
    Calls Try.prog 15 #[v, .int .u8 i] W fun e w' => e = .returned (.bool true) ∧ Below W.heap.size W w' := by
  by_cases h1 : LightP l
  · have HL := Lib.hid (light_yes h h1)
    have h2 : l.length = 0 := by
      rcases Nat.eq_zero_or_pos l.length with h2 | h2
      · exact h2
      · exact absurd ⟨h1, h2⟩ hl
    obtain ⟨ao, cap, rfl, hlen⟩ := h.slice
    rw [h2] at *
    clear hl h1 h2 hlen
    go_enter Try.func15, Try.ntmps15
    go_wp2_with (fail)
    refine HL.out.mono ?_
    rintro e w1 ⟨he, k1⟩
    subst he
    have k1 := Lib.hid k1
    go_wp2_with (go_at_call 21; refine (awake08_calls _).mono ?_; rintro e w' ⟨rfl, k8⟩; have k8 := Lib.hid k8)
    go_ret
    exact ⟨rfl, k1.out.trans (k8.out.mono k1.out.size)⟩
  · have HL := Lib.hid (light_no h h1)
    obtain ⟨ao, cap, rfl, hlen⟩ := h.slice
    clear hl h1
    go_enter Try.func15, Try.ntmps15
    go_wp2_with (fail)
    refine HL.out.mono ?_
    rintro e w1 ⟨he, k1⟩
    subst he
    have k1 := Lib.hid k1
    go_wp2_with (go_at_call 21; refine (awake08_calls _).mono ?_; rintro e w' ⟨rfl, k8⟩; have k8 := Lib.hid k8)
    go_ret
    exact ⟨rfl, k1.out.trans (k8.out.mono k1.out.size)⟩

set_option maxRecDepth 100000 in
set_option maxHeartbeats 4000000 in
theorem steps_main {W : World} {v : Value} {l : List Ex} (h : ArgL W.heap.size W v l) (r : Nat) (hr : r < 256) (hl : LightP l) (h3 : 0 < l.length) :
    Calls Try.prog 15 #[v, .int .u8 (r : Int)] W fun e w' => e = .returned (.bool true) ∧ Below W.heap.size W w' := by
  obtain ⟨i0, hi0, hi1, hi2, hi3⟩ := info_parts lit_info
  have BIT := Lib.hid bit_calls
  have HL := Lib.hid (light_yes h hl)
  have HV := Lib.hid h
  obtain ⟨ao, cap, rfl, hlen⟩ := h.slice
  have hG := light_good hl
  obtain ⟨m1, _, _, m4, _, _, m7, _, _⟩ := light_room hl rfl
  generalize hR : makeGo (newF 262144) [] l = R at *
  obtain ⟨out, ok, A⟩ := R
  simp only at m1 m4 m7 hG
  subst m1
  have o0 := hG.ok
  have h2 := o0.two
  have hf : out.getD (l.length - 1) 0 < A.nodes.length := getD_lt m7 (by omega) _
  generalize hfd : out.getD (l.length - 1) 0 = f at *
  have HG := Lib.hid hG
  have HFD := Lib.hid hfd
  have HRR := Lib.hid hR
  have HM4 := Lib.hid m4
  have h60 := hl.1
  have HLP := Lib.hid hl
  clear h hR hfd m4 m7 hl hG
  go_enter Try.func15, Try.ntmps15
  go_wp2_with (fail)
  refine HL.out.mono ?_
  rintro e w1 ⟨he, k1⟩
  subst he
  have k1 := Lib.hid k1
  go_wp2_with (fail)
  refine (AR.new k1.out 262144 (by omega) (by omega)).mono ?_
  rintro e w2 ⟨p, g, mb, he, H2⟩
  subst he
  have H2 := Lib.hid H2
  go_wp2_with (fail)
  refine (make_arg H2.out HV.out h60 HLP.out.2.2.1).mono ?_
  rw [HRR.out]
  simp only [if_true]
  rintro e w3 ⟨vo, he, how, g3, hg3, H3, K3⟩
  subst he
  rw [HM4.out] at how
  obtain ⟨s0, cap2, rfl⟩ := row_slice how (by omega)
  have c1 := out_cell how (i := l.length - 1) (by omega)
  rw [HFD.out] at c1
  have H3 := Lib.hid H3
  clear how K3 hg3 H2
  go_wp2_with (fail)
  have kx := (Below.refl w3.heap.size w3).alloc (Nat.le_refl _) (.cells #[.int .u32 0, .int .u32 0, .int .u8 0, .int .u16 0, .int .u16 0] 25)
  have hX := heap_alloc_new w3 (.cells #[.int .u32 0, .int .u32 0, .int .u8 0, .int .u16 0, .int .u16 0] 25)
  have hpl := H3.out.2.2.2.1.lt
  have hz3 := H3.out.2.2.2.2.2.size
  have H3a := Lib.hid (H3.out.below kx)
  have HX := Lib.hid hX
  have hG2 := HG.out.len
  have hG3 := HG.out.most
  have hmod : (r : Int) % 6 = ((r % 6 : Nat) : Int) := by omega
  have hmod6 : r % 6 < 6 := Nat.mod_lt _ (by omega)
  rw [hmod]
  clear hmod
  generalize hrm : r % 6 = rm at *
  clear hrm kx hX H3
  generalize w3.alloc (.cells #[.int .u32 0, .int .u32 0, .int .u8 0, .int .u16 0, .int .u16 0] 25) = w3a at *
  generalize w3.heap.size = bl at *
  go_loopg [9, 60] rm (fun gk0 vf vi wr => ∃ (t f' g' : Nat) (A' : Arn) (last : Hd), t + gk0 = rm ∧ vf = .int .i64 (f' : Int) ∧ vi = .int .i64 (t : Int) ∧ AR W wr p g' mb A' ∧ f' < A'.nodes.length ∧ A'.most = 262144 ∧ A'.nodes.length ≤ 184322 + 208 * t ∧
      last.Wf ∧ (bl ≠ p ∧ bl ≠ g' ∧ bl ≠ mb) ∧ wr.heap[bl]? = some (.cells #[.int .u32 (last.dst : Int), .int .u32 (last.src : Int), .int .u8 (last.proto : Int), .int .u16 (last.sport : Int), .int .u16 (last.dport : Int)] 25 (0, 0)) ∧ (0 < t → ∀ h2, Least A' f' false h2 → cmpH last h2 = -1))
  case atStart => exact ⟨0, f, g3, A, hdZ, Nat.zero_add _, rfl, rfl, H3a.out, hf, hG3, by omega, hdZ_wf, ⟨by omega, by omega, by omega⟩, HX.out, fun h => by omega⟩
  case round =>
    obtain ⟨t, f', g', A', last, htg, rfl, rfl, hAR, hf', hm', hn', hlw, hbl, hlb, hord⟩ := hrel
    have ht : t ≤ rm := by omega
    have HR := Lib.hid hAR
    have HLB := Lib.hid hlb
    have HOR := Lib.hid hord
    have o1 := hAR.2.2.2.2.1
    clear hAR hlb hord
    by_cases hlt : t < rm
    · have CC := Count_calls HR.out.2.2.2.1 o1 f' hf'
      have ecv : cval (cntA A' f') = .agg #[.int .u64 ((cntA A' f' / 18446744073709551616 : Nat) : Int), .int .u64 ((cntA A' f' % 18446744073709551616 : Nat) : Int)] := rfl
      rw [ecv] at CC
      generalize hx0 : (cntA A' f' / 18446744073709551616 : Nat) = x0 at *
      generalize hy0 : (cntA A' f' % 18446744073709551616 : Nat) = y0 at *
      have HCV := Lib.hid ecv
      have HXY := Lib.hid (And.intro hx0 hy0)
      have CC := Lib.hid CC
      clear ecv hx0 hy0
      go_wp2_with (fail)
      refine CC.out.mono ?_
      rintro e w4 ⟨he, k4⟩
      subst he
      have H4 := Lib.hid (HR.out.below k4)
      have HL4 := Lib.hid ((k4.block _ (lt_of_block HLB.out)).trans HLB.out)
      clear k4 CC HR HLB
      go_wp2_with (fail)
      have kw := (Below.refl w4.heap.size w4).alloc (Nat.le_refl _) (.cells #[.int .u64 (x0 : Int), .int .u64 (y0 : Int)] 44)
      have hW := heap_alloc_new w4 (.cells #[.int .u64 (x0 : Int), .int .u64 (y0 : Int)] 44)
      generalize w4.alloc (.cells #[.int .u64 (x0 : Int), .int .u64 (y0 : Int)] 44) = w5 at *
      have H5 := Lib.hid (H4.out.below kw)
      have HL5 := Lib.hid ((kw.block _ (lt_of_block HL4.out)).trans HL4.out)
      have HW5 := Lib.hid hW
      have hlt4 := H4.out.2.2.2.1.lt
      have hbw : w4.heap.size ≠ p ∧ w4.heap.size ≠ g' ∧ w4.heap.size ≠ mb := ⟨by omega, by omega, by omega⟩
      clear hlt4
      generalize w4.heap.size = bw at *
      clear kw hW H4 HL4
      by_cases hf0 : f' = 0
      · have LN := least_none H5.out.2.2.2.1 o1 (f' : Int) (Or.inr (by rw [hf0]; rfl))
        rw [show hdZ.val = .agg #[.int .u32 0, .int .u32 0, .int .u8 0, .int .u16 0, .int .u16 0] from rfl] at LN
        refine LN.mono ?_
        rintro e w6 ⟨he, k6⟩
        subst he
        have H6 := Lib.hid (H5.out.below k6)
        have HW6 := Lib.hid ((k6.block _ (lt_of_block HW5.out)).trans HW5.out)
        have hc0 : cntA A' f' = 0 := by rw [cntA_eq o1 hf', hf0, waysA_zero o1, Nat.mul_zero]
        have t1 : ((f' : Int) == 0) = true := by rw [hf0]; rfl
        have hxy := HXY.out
        rw [hc0] at hxy
        obtain rfl : x0 = 0 := by rw [← hxy.1]
        obtain rfl : y0 = 0 := by rw [← hxy.2]
        clear k6 LN H5 HL5 HW5 hf0 hc0 hxy
        go_wp2_with (fail)
        have kz := (Below.refl w6.heap.size w6).alloc (Nat.le_refl _) (.cells #[.int .u32 0, .int .u32 0, .int .u8 0, .int .u16 0, .int .u16 0] 25)
        generalize w6.alloc (.cells #[.int .u32 0, .int .u32 0, .int .u8 0, .int .u16 0, .int .u16 0] 25) = w6a at *
        refine (awake08_calls _).mono ?_
        rintro e w7 ⟨he, k7⟩
        subst he
        have H7 := Lib.hid ((H6.out.below kz).below k7)
        have hw7 := (k7.block _ (Nat.lt_of_lt_of_le (lt_of_block HW6.out) kz.size)).trans ((kz.block _ (lt_of_block HW6.out)).trans HW6.out)
        have dw := And.intro (cell_of hw7 0) (cell_of hw7 1)
        simp at dw
        clear kz k7 H6 HW6 hw7
        have ZC : ∀ w', Calls Try.prog 47 #[.agg #[.int .u64 0, .int .u64 0]] w' fun e w'' => e = .returned (.bool true) ∧ Below w'.heap.size w' w'' := fun w' => (zero_calls w' 0 (by decide)).mono fun _ _ k => ⟨k.1.trans (by simp), k.2⟩
        have ZC := Lib.hid ZC
        go_wp2_with (fail)
        refine (ZC.out _).mono ?_
        rintro e w8 ⟨he, k8⟩
        subst he
        have H8 := Lib.hid (H7.out.below k8)
        clear k8 H7 dw
        go_wp2_with (fail)
        go_ret
        exact ⟨rfl, H8.out.2.2.2.2.2⟩
      · refine (least_calls H5.out.2.2.2.1 o1 f' hf' hf0).mono ?_
        rintro e w6 ⟨⟨hd, hx, he⟩, k6⟩
        subst he
        have H6 := Lib.hid (H5.out.below k6)
        have HW6 := Lib.hid ((k6.block _ (lt_of_block HW5.out)).trans HW5.out)
        have HL6 := Lib.hid ((k6.block _ (lt_of_block HL5.out)).trans HL5.out)
        have HXL := Lib.hid hx
        clear k6 H5 HL5 HW5 hx
        unfold Hd.val
        have kh := (Below.refl w6.heap.size w6).alloc (Nat.le_refl _) (.cells #[.int .u32 (hd.dst : Int), .int .u32 (hd.src : Int), .int .u8 (hd.proto : Int), .int .u16 (hd.sport : Int), .int .u16 (hd.dport : Int)] 25)
        have hH := heap_alloc_new w6 (.cells #[.int .u32 (hd.dst : Int), .int .u32 (hd.src : Int), .int .u8 (hd.proto : Int), .int .u16 (hd.sport : Int), .int .u16 (hd.dport : Int)] 25)
        have H7 := Lib.hid (H6.out.below kh)
        have HW7 := Lib.hid ((kh.block _ (lt_of_block HW6.out)).trans HW6.out)
        have HL7 := Lib.hid ((kh.block _ (lt_of_block HL6.out)).trans HL6.out)
        have HH7 := Lib.hid hH
        have hlt6 := H6.out.2.2.2.1.lt
        have hpp : (bl ≠ p ∧ bl ≠ g' ∧ bl ≠ mb) ∧ (bw ≠ p ∧ bw ≠ g' ∧ bw ≠ mb) ∧ (w6.heap.size ≠ p ∧ w6.heap.size ≠ g' ∧ w6.heap.size ≠ mb) := ⟨hbl, hbw, by omega, by omega, by omega⟩
        clear hlt6
        clear kh hH H6 HW6 HL6
        have HRN := Lib.hid (And.intro o1 (And.intro hm' hn'))
        have hdl := And.intro (cell_of HL7.out 0) (And.intro (cell_of HL7.out 1) (And.intro (cell_of HL7.out 2) (And.intro (cell_of HL7.out 3) (cell_of HL7.out 4))))
        simp at hdl
        have CM := Lib.hid (compare_calls)
        have t0 : ((f' : Int) == 0) = false := by simp; omega
        have HT := Lib.hid HOR.out
        rcases Nat.eq_zero_or_pos t with ht0 | ht0
        · have tg : ¬ 0 < t := by omega
          have HT0 := Lib.hid ht0
          clear ht0
          go_wp2_with (fail)
          generalize w6.alloc (.cells #[.int .u32 (hd.dst : Int), .int .u32 (hd.src : Int), .int .u8 (hd.proto : Int), .int .u16 (hd.sport : Int), .int .u16 (hd.dport : Int)] 25) = w8 at *
          generalize w6.heap.size = bh at *
          have H8 := H7
          have HW8 := HW7
          have HL8 := HL7
          have HH8 := HH7
          clear H7 HW7 HL7 HH7 hdl
          have HS8 : Stw W w8 p g' mb bl bw bh A' last hd x0 y0 := ⟨H8.out, HL8.out, HW8.out, HH8.out, hpp.1, hpp.2.1, hpp.2.2⟩
          have HS := Lib.hid HS8
          have hz8 := HS8.1.2.2.2.1.lt
          have hl8 : bl < w8.heap.size ∧ bw < w8.heap.size ∧ bh < w8.heap.size := ⟨lt_of_block HL8.out, lt_of_block HW8.out, lt_of_block HH8.out⟩
          clear HS8 H8 HW8 HL8 HH8
          go_loopg [15, 91] 104 (fun gk vo vi wq => ∃ k : Nat, k + gk = 104 ∧ vi = .int .i64 (k : Int) ∧ wq.ownsRow w8.heap.size 38 2 vo k (ltCells (litN (headN hd k))) ∧ Kept [] w8 wq)
          case atStart => exact ⟨0, rfl, rfl, World.ownsRow_nil _ _ _ _, Kept.refl _ _⟩
          case round =>
            obtain ⟨k, hk, rfl, how, hK⟩ := hrel
            have HOW := Lib.hid how
            have HK := Lib.hid hK
            have HSQ := Lib.hid (HS.out.kept hK (by simp) (by simp) (by simp) (HS.out.1.kept hK (by simp) (by simp) (by simp) (by simp)) (Or.inl rfl))
            have hwr := hK.size
            clear how hK
            by_cases hlt9 : k < 104
            · have dh := HSQ.out.hd
              go_wp2_with (fail)
              refine (BIT.out _ hd k hlt9).mono ?_
              rintro e w5 ⟨he, k5⟩
              subst he
              have HK5 := Lib.hid (HK.out.trans (Kept.of_below (S := []) k5) (by simp))
              have HOW5 := Lib.hid (own_kept HOW.out (Kept.of_below (S := []) k5) (by simp))
              have hw5 := HK5.out.size
              clear k5 HOW
              go_wp2_with (at_builtin; refine wpList_append_lies _ rfl (.tmp 94) (.tmp 100) 36 rfl w8.heap.size 38 i0 _ 2 16 Try.underlying36 hi0 hi1 hi2 hi3 rfl (by decide) _ k (ltCells (litN (headN hd k))) rfl ?_ ⟨w5.heap.size, 0, none⟩ 1 1 [.int .i64 (k : Int), .bool (hd.bit k)] rfl rfl ?_ ?_ (by omega) ?_ ?_ ?_ _ rfl ?_; (· exact own_kept HOW5.out ((Kept.refl [] _).alloc _) (by simp)); (· exact news_at (by simp)); (· simp [Value.oneCell']); (· unfold maxLen; omega); (· omega); (· simp; omega); intro g9 cap9 w9 how9 hgr9 hat9 hlt9; have HOW9 := Lib.hid how9; have HGR9 := Lib.hid hgr9; clear how9 hgr9 hat9 hlt9)
              go_roundg (gk - 1)
              case measure => omega
              case rel =>
                refine ⟨k + 1, by omega, by go_num, ?_, ?_⟩
                · have := HOW9.out
                  rw [headN_succ, litN_snoc]
                  exact this
                · exact Kept.grown_row (HK5.out.alloc _) HGR9.out (fun g hg => Or.inr (own_past HOW5.out g hg))
            · obtain rfl : k = 104 := by omega
              obtain ⟨r0, cap0, rfl, hsb, hs0⟩ := HOW.out.form (by omega)
              have hltq := HSQ.out.1.2.2.2.1.lt
              obtain ⟨x, A1, g2, A2, e1, e2, q1, q2, hfx, hxx, hgx, hcnt, hin, hn2, hm2, hor⟩ := step_plain HRN.out.1 (by have := HRN.out.2.1; have := HRN.out.2.2; omega) hf' HXL.out
              have HE2 := Lib.hid e2
              have HCN := Lib.hid hcnt
              have HIN := Lib.hid hin
              have HNX := Lib.hid hor
              have HC := Lib.hid (HSQ.out.1.post q1 (by have := cube_calls HSQ.out.1.2.2.2.1 HRN.out.1 r0 0 cap0 104 (headN hd 104) (headN_length _ _) (Nat.le_refl _) (by omega) (headN_rise hd (Nat.le_refl _)) (own_lits HOW.out) (by omega) (by omega) (by omega); rw [e1] at this; exact this))
              clear hltq e1 e2 hcnt hin hor
              go_wp2_with (fail)
              refine HC.out.mono ?_
              rintro e wc ⟨he, gc, hgc, HAc, KC⟩
              subst he
              have HSC := Lib.hid (HSQ.out.post HAc hgc KC)
              have HJ := Lib.hid (HAc.post q2 (by have := Join_calls HAc.2.2.2.1 q1 3 3 f' x rfl (Nat.le_refl _) hfx hxx; rw [HE2.out] at this; exact this))
              clear HAc hgc KC HC HSQ
              simp only [resV, Option.getD_some, Option.isSome_some, if_true]
              go_wp2_with (fail)
              refine HJ.out.mono ?_
              rintro e wj ⟨he, gj, hgj, HAj, KJ⟩
              subst he
              have HSJ := Lib.hid (HSC.out.post HAj hgj KJ)
              clear HAj hgj KJ HJ HSC
              simp only [resV, Option.getD_some, Option.isSome_some, if_true]
              go_upto_region 28 with (fail)
              have q2c := HSJ.out.1.2.2.2.2.1
              have CN : ∀ w', Hid (Stw W w' p gj mb bl bw bh A2 last hd x0 y0) → Calls Try.prog 24 #[.pointer (some ⟨p, 0, none⟩), .int .i64 (g2 : Int)] w' fun e w'' => e = .returned (cval (cntA A2 g2)) ∧ Hid (Stw W w'' p gj mb bl bw bh A2 last hd x0 y0) :=
                fun w' R => (Count_calls R.out.1.2.2.2.1 q2c g2 hgx).mono fun e w'' ⟨he, k⟩ => ⟨he, Lib.hid (R.out.below k)⟩
              have OF : ∀ w', Hid (Stw W w' p gj mb bl bw bh A2 last hd x0 y0) → Calls Try.prog 51 #[.int .u64 1] w' fun e w'' => e = .returned (cval 1) ∧ Hid (Stw W w'' p gj mb bl bw bh A2 last hd x0 y0) :=
                fun w' R => (of_calls w' 1 (by decide)).mono fun e w'' ⟨he, k⟩ => ⟨he, Lib.hid (R.out.below k)⟩
              have AD : ∀ w', Hid (Stw W w' p gj mb bl bw bh A2 last hd x0 y0) → Calls Try.prog 48 #[cval (cntA A2 g2), cval 1] w' fun e w'' => e = .returned (.agg #[.int .u64 (x0 : Int), .int .u64 (y0 : Int)]) ∧ Hid (Stw W w'' p gj mb bl bw bh A2 last hd x0 y0) :=
                fun w' R => (cadd_calls w' (cntA A2 g2) 1 (by rw [HCN.out]; exact Nat.lt_of_le_of_lt (cntA_le _ _) (by decide))).mono fun e w'' ⟨he, k⟩ => ⟨by rw [he, HCN.out, HCV.out], Lib.hid (R.out.below k)⟩
              have IN : ∀ w', Hid (Stw W w' p gj mb bl bw bh A2 last hd x0 y0) → Calls Try.prog 20 #[.pointer (some ⟨p, 0, none⟩), .int .i64 (g2 : Int), hd.val] w' fun e w'' => e = .returned (.bool false) ∧ Hid (Stw W w'' p gj mb bl bw bh A2 last hd x0 y0) :=
                fun w' R => (In_calls R.out.1.2.2.2.1 q2c g2 hgx hd).mono fun e w'' ⟨he, k⟩ => ⟨by rw [he, HIN.out], Lib.hid (R.out.below k)⟩
              unfold Hd.val at IN
              have SK : ∀ w', Hid (Stw W w' p gj mb bl bw bh A2 last hd x0 y0) → ((w'.cell? ⟨bh, 0, none⟩ = some (.int .u32 (hd.dst : Int)) ∧ w'.cell? ⟨bh, 1, none⟩ = some (.int .u32 (hd.src : Int)) ∧
                w'.cell? ⟨bh, 2, none⟩ = some (.int .u8 (hd.proto : Int)) ∧ w'.cell? ⟨bh, 3, none⟩ = some (.int .u16 (hd.sport : Int)) ∧ w'.cell? ⟨bh, 4, none⟩ = some (.int .u16 (hd.dport : Int))) ∧ (w'.cell? ⟨bw, 0, none⟩ = some (.int .u64 (x0 : Int)) ∧ w'.cell? ⟨bw, 1, none⟩ = some (.int .u64 (y0 : Int)))) := fun w' R => ⟨R.out.hd, R.out.cnt⟩
              have HCNT := Lib.hid CN
              have HOF := Lib.hid OF
              have HAD := Lib.hid AD
              have HINN := Lib.hid IN
              have HSK := Lib.hid SK
              have HSD := Lib.hid (HSJ.out.below (((Kept.refl [] wj).drew).below (Nat.le_refl _) (by simp)))
              clear CN OF AD IN SK q2c HSJ
              generalize cval (cntA A2 g2) = cv at *
              generalize cval 1 = c1v at *
              go_cut [136] from 116 to 136 (fun v wx => v = .bool false ∧ Hid (Stw W wx p gj mb bl bw bh A2 last hd x0 y0))
              case first =>
                as_aux_lemma =>
                  go_region_held3 (fun w' => (w'.cell? ⟨bh, 0, none⟩ = some (.int .u32 (hd.dst : Int)) ∧ w'.cell? ⟨bh, 1, none⟩ = some (.int .u32 (hd.src : Int)) ∧ w'.cell? ⟨bh, 2, none⟩ = some (.int .u8 (hd.proto : Int)) ∧ w'.cell? ⟨bh, 3, none⟩ = some (.int .u16 (hd.sport : Int)) ∧ w'.cell? ⟨bh, 4, none⟩ = some (.int .u16 (hd.dport : Int))) ∧ (w'.cell? ⟨bw, 0, none⟩ = some (.int .u64 (x0 : Int)) ∧ w'.cell? ⟨bw, 1, none⟩ = some (.int .u64 (y0 : Int)))) (first | exact HSK.out _ (by assumption))
                    (first | (go_at_call 24; refine Calls.mono (HCNT.out _ (by assumption)) ?_; rintro e wk ⟨he, HSK5⟩; subst he) | (go_at_call 51; refine Calls.mono (HOF.out _ (by assumption)) ?_; rintro e wk ⟨he, HSK5⟩; subst he) | (go_at_call 48; refine Calls.mono (HAD.out _ (by assumption)) ?_; rintro e wk ⟨he, HSK5⟩; subst he) | (go_at_call 20; refine Calls.mono (HINN.out _ (by assumption)) ?_; rintro e wk ⟨he, HSK5⟩; subst he))
                  go_wp2_with (fail)
                  go_meet
                  case rel => exact ⟨rfl, by assumption⟩
              case rest =>
                obtain ⟨rfl, HSR⟩ := hcut
                have HSR := Lib.hid (HSR.out.below (((Kept.refl [] wc).drew).below (Nat.le_refl _) (by simp)))
                have dh9 := HSR.out.hd
                have dl9 := HSR.out.lst
                have q2o := HSR.out.1.2.2.2.2.1
                go_upto_region 30 with (fail)
                go_still_tail 3, (by kernel_rfl)
                change wpList _ _ _ _ _ wc.drew
                generalize wc.drew = wd at *
                go_wp2_with (fail)
                go_roundg (rm - (t + 1))
                case measure => omega
                case rel =>
                  have hb9 := HSR.out.2.1
                  unfold HBx at hb9
                  refine ⟨t + 1, g2, gj, A2, hd, by omega, rfl, by go_num, HSR.out.1.kept (kept5 _ bl _ _ _ _ _) (by simp; exact HSR.out.2.2.2.2.1.1.symm) (by simp; exact HSR.out.2.2.2.2.1.2.1.symm) (by simp; exact HSR.out.2.2.2.2.1.2.2.symm) (by simp; exact hz3), hgx, by omega, by omega, HXL.out.1, HSR.out.2.2.2.2.1, store5 hb9 _ _ _ _ _, fun _ => HNX.out⟩
        · have HT0 := Lib.hid ht0
          go_wp2_with (fail)
          generalize w6.alloc (.cells #[.int .u32 (hd.dst : Int), .int .u32 (hd.src : Int), .int .u8 (hd.proto : Int), .int .u16 (hd.sport : Int), .int .u16 (hd.dport : Int)] 25) = w7 at *
          generalize w6.heap.size = bh at *
          refine (CM.out _ last hd).mono ?_
          rintro e w8 ⟨he, k8⟩
          subst he
          rw [HT.out HT0.out hd HXL.out]
          have H8 := Lib.hid (H7.out.below k8)
          have HW8 := Lib.hid ((k8.block _ (lt_of_block HW7.out)).trans HW7.out)
          have HL8 := Lib.hid ((k8.block _ (lt_of_block HL7.out)).trans HL7.out)
          have HH8 := Lib.hid ((k8.block _ (lt_of_block HH7.out)).trans HH7.out)
          clear k8 H7 HW7 HL7 HH7 hdl
          go_wp2_with (fail)
          have HS8 : Stw W w8 p g' mb bl bw bh A' last hd x0 y0 := ⟨H8.out, HL8.out, HW8.out, HH8.out, hpp.1, hpp.2.1, hpp.2.2⟩
          have HS := Lib.hid HS8
          have hz8 := HS8.1.2.2.2.1.lt
          have hl8 : bl < w8.heap.size ∧ bw < w8.heap.size ∧ bh < w8.heap.size := ⟨lt_of_block HL8.out, lt_of_block HW8.out, lt_of_block HH8.out⟩
          clear HS8 H8 HW8 HL8 HH8
          go_loopg [15, 91] 104 (fun gk vo vi wq => ∃ k : Nat, k + gk = 104 ∧ vi = .int .i64 (k : Int) ∧ wq.ownsRow w8.heap.size 38 2 vo k (ltCells (litN (headN hd k))) ∧ Kept [] w8 wq)
          case atStart => exact ⟨0, rfl, rfl, World.ownsRow_nil _ _ _ _, Kept.refl _ _⟩
          case round =>
            obtain ⟨k, hk, rfl, how, hK⟩ := hrel
            have HOW := Lib.hid how
            have HK := Lib.hid hK
            have HSQ := Lib.hid (HS.out.kept hK (by simp) (by simp) (by simp) (HS.out.1.kept hK (by simp) (by simp) (by simp) (by simp)) (Or.inl rfl))
            have hwr := hK.size
            clear how hK
            by_cases hlt9 : k < 104
            · have dh := HSQ.out.hd
              go_wp2_with (fail)
              refine (BIT.out _ hd k hlt9).mono ?_
              rintro e w5 ⟨he, k5⟩
              subst he
              have HK5 := Lib.hid (HK.out.trans (Kept.of_below (S := []) k5) (by simp))
              have HOW5 := Lib.hid (own_kept HOW.out (Kept.of_below (S := []) k5) (by simp))
              have hw5 := HK5.out.size
              clear k5 HOW
              go_wp2_with (at_builtin; refine wpList_append_lies _ rfl (.tmp 94) (.tmp 100) 36 rfl w8.heap.size 38 i0 _ 2 16 Try.underlying36 hi0 hi1 hi2 hi3 rfl (by decide) _ k (ltCells (litN (headN hd k))) rfl ?_ ⟨w5.heap.size, 0, none⟩ 1 1 [.int .i64 (k : Int), .bool (hd.bit k)] rfl rfl ?_ ?_ (by omega) ?_ ?_ ?_ _ rfl ?_; (· exact own_kept HOW5.out ((Kept.refl [] _).alloc _) (by simp)); (· exact news_at (by simp)); (· simp [Value.oneCell']); (· unfold maxLen; omega); (· omega); (· simp; omega); intro g9 cap9 w9 how9 hgr9 hat9 hlt9; have HOW9 := Lib.hid how9; have HGR9 := Lib.hid hgr9; clear how9 hgr9 hat9 hlt9)
              go_roundg (gk - 1)
              case measure => omega
              case rel =>
                refine ⟨k + 1, by omega, by go_num, ?_, ?_⟩
                · have := HOW9.out
                  rw [headN_succ, litN_snoc]
                  exact this
                · exact Kept.grown_row (HK5.out.alloc _) HGR9.out (fun g hg => Or.inr (own_past HOW5.out g hg))
            · obtain rfl : k = 104 := by omega
              obtain ⟨r0, cap0, rfl, hsb, hs0⟩ := HOW.out.form (by omega)
              have hltq := HSQ.out.1.2.2.2.1.lt
              obtain ⟨x, A1, g2, A2, e1, e2, q1, q2, hfx, hxx, hgx, hcnt, hin, hn2, hm2, hor⟩ := step_plain HRN.out.1 (by have := HRN.out.2.1; have := HRN.out.2.2; omega) hf' HXL.out
              have HE2 := Lib.hid e2
              have HCN := Lib.hid hcnt
              have HIN := Lib.hid hin
              have HNX := Lib.hid hor
              have HC := Lib.hid (HSQ.out.1.post q1 (by have := cube_calls HSQ.out.1.2.2.2.1 HRN.out.1 r0 0 cap0 104 (headN hd 104) (headN_length _ _) (Nat.le_refl _) (by omega) (headN_rise hd (Nat.le_refl _)) (own_lits HOW.out) (by omega) (by omega) (by omega); rw [e1] at this; exact this))
              clear hltq e1 e2 hcnt hin hor
              go_wp2_with (fail)
              refine HC.out.mono ?_
              rintro e wc ⟨he, gc, hgc, HAc, KC⟩
              subst he
              have HSC := Lib.hid (HSQ.out.post HAc hgc KC)
              have HJ := Lib.hid (HAc.post q2 (by have := Join_calls HAc.2.2.2.1 q1 3 3 f' x rfl (Nat.le_refl _) hfx hxx; rw [HE2.out] at this; exact this))
              clear HAc hgc KC HC HSQ
              simp only [resV, Option.getD_some, Option.isSome_some, if_true]
              go_wp2_with (fail)
              refine HJ.out.mono ?_
              rintro e wj ⟨he, gj, hgj, HAj, KJ⟩
              subst he
              have HSJ := Lib.hid (HSC.out.post HAj hgj KJ)
              clear HAj hgj KJ HJ HSC
              simp only [resV, Option.getD_some, Option.isSome_some, if_true]
              go_upto_region 28 with (fail)
              have q2c := HSJ.out.1.2.2.2.2.1
              have CN : ∀ w', Hid (Stw W w' p gj mb bl bw bh A2 last hd x0 y0) → Calls Try.prog 24 #[.pointer (some ⟨p, 0, none⟩), .int .i64 (g2 : Int)] w' fun e w'' => e = .returned (cval (cntA A2 g2)) ∧ Hid (Stw W w'' p gj mb bl bw bh A2 last hd x0 y0) :=
                fun w' R => (Count_calls R.out.1.2.2.2.1 q2c g2 hgx).mono fun e w'' ⟨he, k⟩ => ⟨he, Lib.hid (R.out.below k)⟩
              have OF : ∀ w', Hid (Stw W w' p gj mb bl bw bh A2 last hd x0 y0) → Calls Try.prog 51 #[.int .u64 1] w' fun e w'' => e = .returned (cval 1) ∧ Hid (Stw W w'' p gj mb bl bw bh A2 last hd x0 y0) :=
                fun w' R => (of_calls w' 1 (by decide)).mono fun e w'' ⟨he, k⟩ => ⟨he, Lib.hid (R.out.below k)⟩
              have AD : ∀ w', Hid (Stw W w' p gj mb bl bw bh A2 last hd x0 y0) → Calls Try.prog 48 #[cval (cntA A2 g2), cval 1] w' fun e w'' => e = .returned (.agg #[.int .u64 (x0 : Int), .int .u64 (y0 : Int)]) ∧ Hid (Stw W w'' p gj mb bl bw bh A2 last hd x0 y0) :=
                fun w' R => (cadd_calls w' (cntA A2 g2) 1 (by rw [HCN.out]; exact Nat.lt_of_le_of_lt (cntA_le _ _) (by decide))).mono fun e w'' ⟨he, k⟩ => ⟨by rw [he, HCN.out, HCV.out], Lib.hid (R.out.below k)⟩
              have IN : ∀ w', Hid (Stw W w' p gj mb bl bw bh A2 last hd x0 y0) → Calls Try.prog 20 #[.pointer (some ⟨p, 0, none⟩), .int .i64 (g2 : Int), hd.val] w' fun e w'' => e = .returned (.bool false) ∧ Hid (Stw W w'' p gj mb bl bw bh A2 last hd x0 y0) :=
                fun w' R => (In_calls R.out.1.2.2.2.1 q2c g2 hgx hd).mono fun e w'' ⟨he, k⟩ => ⟨by rw [he, HIN.out], Lib.hid (R.out.below k)⟩
              unfold Hd.val at IN
              have SK : ∀ w', Hid (Stw W w' p gj mb bl bw bh A2 last hd x0 y0) → ((w'.cell? ⟨bh, 0, none⟩ = some (.int .u32 (hd.dst : Int)) ∧ w'.cell? ⟨bh, 1, none⟩ = some (.int .u32 (hd.src : Int)) ∧
                w'.cell? ⟨bh, 2, none⟩ = some (.int .u8 (hd.proto : Int)) ∧ w'.cell? ⟨bh, 3, none⟩ = some (.int .u16 (hd.sport : Int)) ∧ w'.cell? ⟨bh, 4, none⟩ = some (.int .u16 (hd.dport : Int))) ∧ (w'.cell? ⟨bw, 0, none⟩ = some (.int .u64 (x0 : Int)) ∧ w'.cell? ⟨bw, 1, none⟩ = some (.int .u64 (y0 : Int)))) := fun w' R => ⟨R.out.hd, R.out.cnt⟩
              have HCNT := Lib.hid CN
              have HOF := Lib.hid OF
              have HAD := Lib.hid AD
              have HINN := Lib.hid IN
              have HSK := Lib.hid SK
              have HSD := Lib.hid (HSJ.out.below (((Kept.refl [] wj).drew).below (Nat.le_refl _) (by simp)))
              clear CN OF AD IN SK q2c HSJ
              generalize cval (cntA A2 g2) = cv at *
              generalize cval 1 = c1v at *
              go_cut [136] from 116 to 136 (fun v wx => v = .bool false ∧ Hid (Stw W wx p gj mb bl bw bh A2 last hd x0 y0))
              case first =>
                as_aux_lemma =>
                  go_region_held3 (fun w' => (w'.cell? ⟨bh, 0, none⟩ = some (.int .u32 (hd.dst : Int)) ∧ w'.cell? ⟨bh, 1, none⟩ = some (.int .u32 (hd.src : Int)) ∧ w'.cell? ⟨bh, 2, none⟩ = some (.int .u8 (hd.proto : Int)) ∧ w'.cell? ⟨bh, 3, none⟩ = some (.int .u16 (hd.sport : Int)) ∧ w'.cell? ⟨bh, 4, none⟩ = some (.int .u16 (hd.dport : Int))) ∧ (w'.cell? ⟨bw, 0, none⟩ = some (.int .u64 (x0 : Int)) ∧ w'.cell? ⟨bw, 1, none⟩ = some (.int .u64 (y0 : Int)))) (first | exact HSK.out _ (by assumption))
                    (first | (go_at_call 24; refine Calls.mono (HCNT.out _ (by assumption)) ?_; rintro e wk ⟨he, HSK5⟩; subst he) | (go_at_call 51; refine Calls.mono (HOF.out _ (by assumption)) ?_; rintro e wk ⟨he, HSK5⟩; subst he) | (go_at_call 48; refine Calls.mono (HAD.out _ (by assumption)) ?_; rintro e wk ⟨he, HSK5⟩; subst he) | (go_at_call 20; refine Calls.mono (HINN.out _ (by assumption)) ?_; rintro e wk ⟨he, HSK5⟩; subst he))
                  go_wp2_with (fail)
                  go_meet
                  case rel => exact ⟨rfl, by assumption⟩
              case rest =>
                obtain ⟨rfl, HSR⟩ := hcut
                have HSR := Lib.hid (HSR.out.below (((Kept.refl [] wc).drew).below (Nat.le_refl _) (by simp)))
                have dh9 := HSR.out.hd
                have dl9 := HSR.out.lst
                have q2o := HSR.out.1.2.2.2.2.1
                go_upto_region 30 with (fail)
                go_still_tail 3, (by kernel_rfl)
                change wpList _ _ _ _ _ wc.drew
                generalize wc.drew = wd at *
                go_wp2_with (fail)
                go_roundg (rm - (t + 1))
                case measure => omega
                case rel =>
                  have hb9 := HSR.out.2.1
                  unfold HBx at hb9
                  refine ⟨t + 1, g2, gj, A2, hd, by omega, rfl, by go_num, HSR.out.1.kept (kept5 _ bl _ _ _ _ _) (by simp; exact HSR.out.2.2.2.2.1.1.symm) (by simp; exact HSR.out.2.2.2.2.1.2.1.symm) (by simp; exact HSR.out.2.2.2.2.1.2.2.symm) (by simp; exact hz3), hgx, by omega, by omega, HXL.out.1, HSR.out.2.2.2.2.1, store5 hb9 _ _ _ _ _, fun _ => HNX.out⟩
    · obtain rfl : t = rm := by omega
      go_wp2_with (fail)
      refine (awake08_calls _).mono ?_
      rintro e w9 ⟨he, k9⟩
      subst he
      have H10 := Lib.hid (HR.out.below k9)
      clear k9
      go_wp2_with (fail)
      go_ret
      exact ⟨rfl, H10.out.2.2.2.2.2⟩

theorem steps_row (u : Value) (i : Int) {W : World} (hu : ArgEx W u) (wi : (Lit.int .u8 i).wf = true) :
    Calls Try.prog 15 #[u, .int .u8 i] W fun e w' => e = .returned (.bool true) ∧ Below W.heap.size W w' := by
  obtain ⟨l, hl⟩ := hu.list
  obtain ⟨r, rfl, hr⟩ := u8_nat wi
  by_cases hc : LightP l ∧ 0 < l.length
  · exact steps_main hl r hr hc.1 hc.2
  · exact steps_dark hl _ hc

end Go.Proofs.Ytakgghhmecphmaa
