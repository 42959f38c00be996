/- The walk of SatEnds. -/
import Derived.Test.YtakgghhmecphmaaEndsP
import Derived.Test.YtakgghhmecphmaaBits
import Derived.Test.YtakgghhmecphmaaIn
import Derived.Test.YtakgghhmecphmaaAwake8
import Derived.Test.YtakgghhmecphmaaHeld
import Derived.Test.YtakgghhmecphmaaHasF
import Derived.Test.YtakgghhmecphmaaArgsH
namespace Go.Proofs.Ytakgghhmecphmaa
set_option linter.unusedVariables false
set_option linter.unusedSimpArgs false
open Go.RowKit Go.Maps

/-- A header in a block of its own. -/
def BoxH (w : World) (b : Nat) (h : Hd) : Prop := w.heap[b]? = some (.cells #[.int .u32 (h.dst : Int), .int .u32 (h.src : Int), .int .u8 (h.proto : Int), .int .u16 (h.sport : Int), .int .u16 (h.dport : Int)] 25 (0, 0))
theorem BoxH.below {w w' : World} {b : Nat} {h : Hd} (hb : BoxH w b h) (k : Below w.heap.size w w') : BoxH w' b h := (k.block b (lt_of_block hb)).trans hb
theorem BoxH.kept {S : List Nat} {w w' : World} {b : Nat} {h : Hd} (hb : BoxH w b h) (k : Kept S w w') (hn : b ∉ S) : BoxH w' b h := (k.block b (lt_of_block hb) hn).trans hb
theorem BoxH.cells {w : World} {b : Nat} {h : Hd} (h1 : BoxH w b h) : w.cell? ⟨b, 0, none⟩ = some (.int .u32 (h.dst : Int)) ∧ w.cell? ⟨b, 1, none⟩ = some (.int .u32 (h.src : Int)) ∧
    w.cell? ⟨b, 2, none⟩ = some (.int .u8 (h.proto : Int)) ∧ w.cell? ⟨b, 3, none⟩ = some (.int .u16 (h.sport : Int)) ∧ w.cell? ⟨b, 4, none⟩ = some (.int .u16 (h.dport : Int)) := by
  unfold BoxH at h1
  exact ⟨cell_of h1 0, cell_of h1 1, cell_of h1 2, cell_of h1 3, cell_of h1 4⟩

theorem BoxH.zero {w : World} {b : Nat} (h1 : BoxH w b hdZ) : w.cell? ⟨b, 0, none⟩ = some (.int .u32 0) ∧ w.cell? ⟨b, 1, none⟩ = some (.int .u32 0) ∧
    w.cell? ⟨b, 2, none⟩ = some (.int .u8 0) ∧ w.cell? ⟨b, 3, none⟩ = some (.int .u16 0) ∧ w.cell? ⟨b, 4, none⟩ = some (.int .u16 0) := h1.cells
theorem bool_row {w : World} {base n : Nat} {vo : Value} {xs : List Value} (h : w.ownsRow base 4 1 vo n xs) : ∃ ao cap, vo = .slice ao n cap := by
  rcases h.2 with ⟨h0, h1⟩ | ⟨g, cap, cur, rfl, _⟩
  · subst h1
    exact ⟨none, 0, h0⟩
  · exact ⟨_, cap, rfl⟩
theorem ArgL.wider {N M : Nat} {w : World} {v : Value} {l : List Ex} (h : ArgL N w v l) (hm : N ≤ M) : ArgL M w v l := by
  obtain ⟨hw, h | ⟨b, off, n, cap, h0, e, h1, h2, h3, h4⟩⟩ := h
  · exact ⟨hw, Or.inl h⟩
  · exact ⟨hw, Or.inr ⟨b, off, n, cap, h0, e, h1, h2, h3, by omega⟩⟩

set_option maxRecDepth 100000 in
theorem ends_dark {W : World} {v : Value} {l : List Ex} (h : ArgL W.heap.size W v l) (hd : Hd) (hl : ¬ (LightP l ∧ 0 < l.length)) :
    Calls Try.prog 16 #[v, hd.val] W fun e w' => e = .returned (.bool true) ∧ Below W.heap.size W w' := by
  have HB := (Below.refl W.heap.size W).alloc (Nat.le_refl _) (.cells #[.int .u32 (hd.dst : Int), .int .u32 (hd.src : Int), .int .u8 (hd.proto : Int), .int .u16 (hd.sport : Int), .int .u16 (hd.dport : Int)] 25)
  unfold Hd.val
  by_cases h1 : LightP l
  · have HL := Lib.hid (light_yes (h.below HB (Nat.le_refl _)) h1)
    have h2 : l.length = 0 := by
      rcases Nat.eq_zero_or_pos l.length with h2 | h2
      · exact h2
      · exact absurd ⟨h1, h2⟩ hl
    obtain ⟨ao, cap, rfl, hlen⟩ := h.slice
    rw [h2] at *
    clear hl h1 h2 hlen
    have HB := Lib.hid HB
    go_enter Try.func16, Try.ntmps16
    go_wp2_with (fail)
    refine HL.out.mono ?_
    rintro e w1 ⟨he, k1⟩
    subst he
    have k1 := Lib.hid (HB.out.trans (k1.mono HB.out.size))
    go_wp2_with (go_at_call 21; refine (awake08_calls _).mono ?_; rintro e w' ⟨rfl, k8⟩; have k8 := Lib.hid k8)
    go_ret
    exact ⟨rfl, k1.out.trans (k8.out.mono k1.out.size)⟩
  · have HL := Lib.hid (light_no (h.below HB (Nat.le_refl _)) h1)
    obtain ⟨ao, cap, rfl, hlen⟩ := h.slice
    clear hl h1
    have HB := Lib.hid HB
    go_enter Try.func16, Try.ntmps16
    go_wp2_with (fail)
    refine HL.out.mono ?_
    rintro e w1 ⟨he, k1⟩
    subst he
    have k1 := Lib.hid (HB.out.trans (k1.mono HB.out.size))
    go_wp2_with (go_at_call 21; refine (awake08_calls _).mono ?_; rintro e w' ⟨rfl, k8⟩; have k8 := Lib.hid k8)
    go_ret
    exact ⟨rfl, k1.out.trans (k8.out.mono k1.out.size)⟩

set_option maxRecDepth 100000 in
set_option maxHeartbeats 4000000 in
theorem ends_main {W : World} {v : Value} {l : List Ex} (h : ArgL W.heap.size W v l) (hd : Hd) (hw : hd.Wf) (hl : LightP l) (h3 : 0 < l.length) :
    Calls Try.prog 16 #[v, hd.val] W fun e w' => e = .returned (.bool true) ∧ Below W.heap.size W w' := by
  have HV := Lib.hid h
  obtain ⟨ao, cap, rfl, hlen⟩ := h.slice
  have hG := light_good hl
  obtain ⟨m1, _, _, m4, _, _, m7, _, _⟩ := light_room hl rfl
  generalize hR : makeGo (newF 262144) [] l = R at *
  obtain ⟨out, ok, A⟩ := R
  simp only at m1 m4 m7 hG
  subst m1
  have o0 := hG.ok
  have h2 := o0.two
  have hf : out.getD (l.length - 1) 0 < A.nodes.length := getD_lt m7 (by omega) _
  generalize hfd : out.getD (l.length - 1) 0 = f at *
  have HFD := Lib.hid hfd
  have HRR := Lib.hid hR
  have HM4 := Lib.hid m4
  have h60 := hl.1
  have HLP := Lib.hid hl
  clear hR hfd m4 m7 hl hG
  have HB0 := (Below.refl W.heap.size W).alloc (Nat.le_refl _) (.cells #[.int .u32 (hd.dst : Int), .int .u32 (hd.src : Int), .int .u8 (hd.proto : Int), .int .u16 (hd.sport : Int), .int .u16 (hd.dport : Int)] 25)
  have HY0 : BoxH _ W.heap.size hd := heap_alloc_new W (.cells #[.int .u32 (hd.dst : Int), .int .u32 (hd.src : Int), .int .u8 (hd.proto : Int), .int .u16 (hd.sport : Int), .int .u16 (hd.dport : Int)] 25)
  have HL := Lib.hid (light_yes (h.below HB0 (Nat.le_refl _)) HLP.out)
  have hz0 : (W.alloc (.cells #[.int .u32 (hd.dst : Int), .int .u32 (hd.src : Int), .int .u8 (hd.proto : Int), .int .u16 (hd.sport : Int), .int .u16 (hd.dport : Int)] 25)).heap.size = W.heap.size + 1 := by simp
  clear h
  unfold Hd.val
  go_enter Try.func16, Try.ntmps16
  go_wp2_with (fail)
  generalize W.alloc (.cells #[.int .u32 (hd.dst : Int), .int .u32 (hd.src : Int), .int .u8 (hd.proto : Int), .int .u16 (hd.sport : Int), .int .u16 (hd.dport : Int)] 25) = W1 at *
  refine HL.out.mono ?_
  rintro e w1 ⟨he, k1⟩
  subst he
  have HB0 := Lib.hid HB0
  have HY0 := Lib.hid HY0
  have k1 := Lib.hid k1
  go_wp2_with (fail)
  refine (AR.new k1.out 262144 (by omega) (by omega)).mono ?_
  rintro e w2 ⟨p, g, mb, he, H2⟩
  subst he
  have H2 := Lib.hid H2
  go_wp2_with (fail)
  have HV1 := Lib.hid (HV.out.below HB0.out (Nat.le_refl _))
  refine (make_arg H2.out (ArgL.wider HV1.out (by omega)) h60 HLP.out.2.2.1).mono ?_
  rw [HRR.out]
  simp only [if_true]
  rintro e w3 ⟨vo, he, how, g3, hg3, H3, K3⟩
  subst he
  rw [HM4.out] at how
  obtain ⟨s0, cap2, rfl⟩ := row_slice how (by omega)
  have c1 := out_cell how (i := l.length - 1) (by omega)
  rw [HFD.out] at c1
  have H3 := Lib.hid H3
  clear how K3 hg3 H2
  go_wp2_with (fail)
  have HY3 := Lib.hid (HY0.out.below H3.out.2.2.2.2.2)
  clear HY0
  by_cases hf0 : f = 0
  · have t1 : ((f : Int) != 0) = false := by simp [hf0]
    have L1 := fun w' (R : AR W1 w' p g3 mb A) => least_none R.2.2.2.1 o0 (f : Int) (Or.inr (by rw [hf0]; rfl))
    have L2 := fun w' (R : AR W1 w' p g3 mb A) => most_none R.2.2.2.1 o0 (f : Int) (Or.inr (by rw [hf0]; rfl))
    have hin : inA A hd.bit f = false := by rw [hf0]; exact inA_zero A _
    have IN := fun w' (R : AR W1 w' p g3 mb A) => by have := In_calls R.2.2.2.1 o0 f hf hd; rw [hin] at this; exact this
    rw [show hdZ.val = .agg #[.int .u32 0, .int .u32 0, .int .u8 0, .int .u16 0, .int .u16 0] from rfl] at L1 L2
    have L1 := Lib.hid L1
    have L2 := Lib.hid L2
    have IN := Lib.hid IN
    clear hin hf0
    refine (L1.out _ H3.out).mono ?_
    rintro e w4 ⟨he, k4⟩
    subst he
    have H4 := Lib.hid (H3.out.below k4)
    have HY4 := Lib.hid (HY3.out.below k4)
    clear k4 H3 HY3
    go_wp2_with (fail)
    have kx := (Below.refl w4.heap.size w4).alloc (Nat.le_refl _) (.cells #[.int .u32 0, .int .u32 0, .int .u8 0, .int .u16 0, .int .u16 0] 25)
    have hX : BoxH _ w4.heap.size hdZ := heap_alloc_new w4 (.cells #[.int .u32 0, .int .u32 0, .int .u8 0, .int .u16 0, .int .u16 0] 25)
    generalize w4.alloc (.cells #[.int .u32 0, .int .u32 0, .int .u8 0, .int .u16 0, .int .u16 0] 25) = w4a at *
    have H4a := Lib.hid (H4.out.below kx)
    have HY4a := Lib.hid (HY4.out.below kx)
    clear kx H4 HY4
    refine (L2.out _ H4a.out).mono ?_
    rintro e w5 ⟨he, k5⟩
    subst he
    have H5 := Lib.hid (H4a.out.below k5)
    have HY5 := Lib.hid (HY4a.out.below k5)
    have HX5 := Lib.hid (hX.below k5)
    clear k5 hX H4a HY4a
    -- REST
    go_wp2_with (fail)
    have ky := (Below.refl w5.heap.size w5).alloc (Nat.le_refl _) (.cells #[.int .u32 0, .int .u32 0, .int .u8 0, .int .u16 0, .int .u16 0] 25)
    have hZ : BoxH _ w5.heap.size hdZ := heap_alloc_new w5 (.cells #[.int .u32 0, .int .u32 0, .int .u8 0, .int .u16 0, .int .u16 0] 25)
    generalize w5.alloc (.cells #[.int .u32 0, .int .u32 0, .int .u8 0, .int .u16 0, .int .u16 0] 25) = w5a at *
    refine (awake08_calls _).mono ?_
    rintro e w6 ⟨he, k6⟩
    subst he
    have H6 := Lib.hid ((H5.out.below ky).below k6)
    have HY6 := Lib.hid ((HY5.out.below ky).below k6)
    have dX := ((HX5.out.below ky).below k6).zero
    have dZ := (hZ.below k6).zero
    have dY := HY6.out.cells
    clear ky k6 hZ H5 HY5 HX5
    go_wp2_with (fail)
    refine (IN.out _ H6.out).mono ?_
    rintro e w7 ⟨he, k7⟩
    subst he
    have H7 := Lib.hid (H6.out.below k7)
    clear k7
    go_wp2_with (fail)
    go_ret
    exact ⟨rfl, HB0.out.trans (H7.out.2.2.2.2.2.mono (by omega))⟩
  · have t1 : ((f : Int) != 0) = true := by simp; omega
    refine (least_calls H3.out.2.2.2.1 o0 f hf hf0).mono ?_
    rintro e w4 ⟨⟨x, hx, he⟩, k4⟩
    subst he
    have H4 := Lib.hid (H3.out.below k4)
    have HY4 := Lib.hid (HY3.out.below k4)
    have HXL := Lib.hid hx
    clear k4 H3 HY3 hx
    unfold Hd.val
    go_wp2_with (fail)
    have kx := (Below.refl w4.heap.size w4).alloc (Nat.le_refl _) (.cells #[.int .u32 (x.dst : Int), .int .u32 (x.src : Int), .int .u8 (x.proto : Int), .int .u16 (x.sport : Int), .int .u16 (x.dport : Int)] 25)
    have hX : BoxH _ w4.heap.size x := heap_alloc_new w4 (.cells #[.int .u32 (x.dst : Int), .int .u32 (x.src : Int), .int .u8 (x.proto : Int), .int .u16 (x.sport : Int), .int .u16 (x.dport : Int)] 25)
    generalize w4.alloc (.cells #[.int .u32 (x.dst : Int), .int .u32 (x.src : Int), .int .u8 (x.proto : Int), .int .u16 (x.sport : Int), .int .u16 (x.dport : Int)] 25) = w4a at *
    have H4a := Lib.hid (H4.out.below kx)
    have HY4a := Lib.hid (HY4.out.below kx)
    clear kx H4 HY4
    refine (most_calls H4a.out.2.2.2.1 o0 f hf hf0).mono ?_
    rintro e w5 ⟨⟨y, hy, he⟩, k5⟩
    subst he
    have H5 := Lib.hid (H4a.out.below k5)
    have HY5 := Lib.hid (HY4a.out.below k5)
    have HX5 := Lib.hid (hX.below k5)
    have HYM := Lib.hid hy
    clear k5 hX H4a HY4a hy
    unfold Hd.val
    have ky := (Below.refl w5.heap.size w5).alloc (Nat.le_refl _) (.cells #[.int .u32 (y.dst : Int), .int .u32 (y.src : Int), .int .u8 (y.proto : Int), .int .u16 (y.sport : Int), .int .u16 (y.dport : Int)] 25)
    have hZ : BoxH _ w5.heap.size y := heap_alloc_new w5 (.cells #[.int .u32 (y.dst : Int), .int .u32 (y.src : Int), .int .u8 (y.proto : Int), .int .u16 (y.sport : Int), .int .u16 (y.dport : Int)] 25)
    have dX5 := (HX5.out.below ky).cells
    go_wp2_with (fail)
    clear dX5
    generalize w5.alloc (.cells #[.int .u32 (y.dst : Int), .int .u32 (y.src : Int), .int .u8 (y.proto : Int), .int .u16 (y.sport : Int), .int .u16 (y.dport : Int)] 25) = w5a at *
    have inx := HXL.out.2.1
    have iny := HYM.out.2.1
    have cxy := least_le HXL.out HYM.out.1 iny
    have cxh := fun hin => least_le HXL.out hw hin
    have chy := fun hin => most_ge HYM.out hw hin
    have CXY := fun w' => compare_calls w' x y
    have CXH := fun w' => compare_calls w' x hd
    have CHY := fun w' => compare_calls w' hd y
    have INX := fun w' (R : AR W1 w' p g3 mb A) => by have := In_calls R.2.2.2.1 o0 f hf x; rw [inx] at this; exact this
    have INY := fun w' (R : AR W1 w' p g3 mb A) => by have := In_calls R.2.2.2.1 o0 f hf y; rw [iny] at this; exact this
    have INH := fun w' (R : AR W1 w' p g3 mb A) => In_calls R.2.2.2.1 o0 f hf hd
    have BTS := fun w' => bits_calls w' hd hw
    generalize cmpH x y = vxy at *
    generalize cmpH x hd = vxh at *
    generalize cmpH hd y = vhy at *
    generalize hinh : inA A hd.bit f = inh at *
    unfold Hd.val at CXY CXH CHY INX INY INH BTS
    have H5a := Lib.hid (H5.out.below ky)
    have HY5a := Lib.hid (HY5.out.below ky)
    have HX5a := Lib.hid (HX5.out.below ky)
    have HZ5a := Lib.hid hZ
    have CXY := Lib.hid CXY
    have CXH := Lib.hid CXH
    have CHY := Lib.hid CHY
    have INX := Lib.hid INX
    have INY := Lib.hid INY
    have INH := Lib.hid INH
    have BTS := Lib.hid BTS
    have t2 : decide (0 < vxy) = false := decide_eq_false (by omega)
    clear ky hZ H5 HY5 HX5 inx iny hinh
    refine (INX.out _ H5a.out).mono ?_
    rintro e w6 ⟨he, k⟩
    subst he
    have H6 := Lib.hid (H5a.out.below k)
    have HY6 := Lib.hid (HY5a.out.below k)
    have HX6 := Lib.hid (HX5a.out.below k)
    have HZ6 := Lib.hid (HZ5a.out.below k)
    clear k H5a HY5a HX5a HZ5a
    have dZ := HZ6.out.cells
    go_wp2_with (fail)
    clear dZ
    refine (INY.out _ H6.out).mono ?_
    rintro e w7 ⟨he, k⟩
    subst he
    have H7 := Lib.hid (H6.out.below k)
    have HY7 := Lib.hid (HY6.out.below k)
    have HX7 := Lib.hid (HX6.out.below k)
    have HZ7 := Lib.hid (HZ6.out.below k)
    clear k H6 HY6 HX6 HZ6
    have dX := HX7.out.cells
    have dZ := HZ7.out.cells
    go_wp2_with (fail)
    clear dX dZ
    refine (CXY.out _).mono ?_
    rintro e w8 ⟨he, k⟩
    subst he
    have H8 := Lib.hid (H7.out.below k)
    have HY8 := Lib.hid (HY7.out.below k)
    have HX8 := Lib.hid (HX7.out.below k)
    have HZ8 := Lib.hid (HZ7.out.below k)
    clear k H7 HY7 HX7 HZ7
    have dY := HY8.out.cells
    go_wp2_with (fail)
    clear dY
    refine (BTS.out _).mono ?_
    rintro e w9 ⟨vb, he, how, k⟩
    subst he
    obtain ⟨bo, bcap, rfl⟩ := bool_row how
    clear how
    have H9 := Lib.hid (H8.out.below k)
    have HY9 := Lib.hid (HY8.out.below k)
    have HX9 := Lib.hid (HX8.out.below k)
    have HZ9 := Lib.hid (HZ8.out.below k)
    clear k H8 HY8 HX8 HZ8
    go_wp2_with (fail)
    refine (awake08_calls _).mono ?_
    rintro e w10 ⟨he, k⟩
    subst he
    have H10 := Lib.hid (H9.out.below k)
    have HY10 := Lib.hid (HY9.out.below k)
    have HX10 := Lib.hid (HX9.out.below k)
    have HZ10 := Lib.hid (HZ9.out.below k)
    clear k H9 HY9 HX9 HZ9
    have dY := HY10.out.cells
    go_wp2_with (fail)
    clear dY
    refine (INH.out _ H10.out).mono ?_
    rintro e w11 ⟨he, k⟩
    subst he
    have H11 := Lib.hid (H10.out.below k)
    have HY11 := Lib.hid (HY10.out.below k)
    have HX11 := Lib.hid (HX10.out.below k)
    have HZ11 := Lib.hid (HZ10.out.below k)
    clear k H10 HY10 HX10 HZ10
    cases inh
    · go_wp2_with (fail)
      go_ret
      exact ⟨rfl, HB0.out.trans (H11.out.2.2.2.2.2.mono (by omega))⟩
    · have u1 : decide (vxh ≤ 0) = true := decide_eq_true (cxh rfl)
      have u2 : decide (vhy ≤ 0) = true := decide_eq_true (chy rfl)
      clear cxh chy
      have dX := HX11.out.cells
      have dY := HY11.out.cells
      go_wp2_with (fail)
      clear dX dY
      refine (CXH.out _).mono ?_
      rintro e w12 ⟨he, k⟩
      subst he
      have H12 := Lib.hid (H11.out.below k)
      have HY12 := Lib.hid (HY11.out.below k)
      have HX12 := Lib.hid (HX11.out.below k)
      have HZ12 := Lib.hid (HZ11.out.below k)
      clear k H11 HY11 HX11 HZ11
      have dY := HY12.out.cells
      have dZ := HZ12.out.cells
      go_wp2_with (fail)
      clear dY dZ
      refine (CHY.out _).mono ?_
      rintro e w13 ⟨he, k⟩
      subst he
      have H13 := Lib.hid (H12.out.below k)
      have HY13 := Lib.hid (HY12.out.below k)
      have HX13 := Lib.hid (HX12.out.below k)
      have HZ13 := Lib.hid (HZ12.out.below k)
      clear k H12 HY12 HX12 HZ12
      go_wp2_with (fail)
      go_ret
      exact ⟨rfl, HB0.out.trans (H13.out.2.2.2.2.2.mono (by omega))⟩

theorem ends_row (u v : Value) {W : World} (hu : ArgEx W u) (hv : ArgHd v) :
    Calls Try.prog 16 #[u, v] W fun e w' => e = .returned (.bool true) ∧ Below W.heap.size W w' := by
  obtain ⟨l, hl⟩ := hu.list
  obtain ⟨h, hw, rfl⟩ := hv
  by_cases hc : LightP l ∧ 0 < l.length
  · exact ends_main hl h hw hc.1 hc.2
  · exact ends_dark hl h hc

end Go.Proofs.Ytakgghhmecphmaa
