/- The walk of SatCubes. -/
import Derived.Test.YtakgghhmecphmaaCubesP
import Derived.Test.YtakgghhmecphmaaNodesW
import Derived.Test.YtakgghhmecphmaaAwake8
import Derived.Test.YtakgghhmecphmaaEnc
import Derived.Test.YtakgghhmecphmaaHeld
import Derived.Test.YtakgghhmecphmaaArgsB
import Derived.Test.YtakgghhmecphmaaCntEq
namespace Go.Proofs.Ytakgghhmecphmaa
set_option linter.unusedVariables false
set_option linter.unusedSimpArgs false
open Go.RowKit Go.Maps

/-- The first k bits, from a start on. -/
def litK (s : Nat) (l : List Bool) (k : Nat) : List (Nat × Bool) := (List.range k).map fun i => (s + i, l.getD i false)
theorem litK_succ (s : Nat) (l : List Bool) (k : Nat) : litK s l (k + 1) = litK s l k ++ [(s + k, l.getD k false)] := by simp [litK, List.range_succ]
theorem litK_length (s : Nat) (l : List Bool) (k : Nat) : (litK s l k).length = k := by simp [litK]
theorem litK_rise (s : Nat) (l : List Bool) {k : Nat} (hk : s + k ≤ 104) : Rise (litK s l k) := by
  refine ⟨fun x hx => ?_, ?_⟩
  · obtain ⟨i, hi, rfl⟩ := List.mem_map.1 hx
    have := List.mem_range.1 hi
    simp only
    omega
  · unfold litK
    rw [List.pairwise_map]
    exact List.pairwise_lt_range.imp (fun h => by simp only; omega)

/-- What the law asks of a cube. -/
theorem cubes_plain (s : Nat) (l : List Bool) (hs : s + l.length ≤ 104) : ∃ f A, cubeF (newF 1024) (litK s l l.length) = (some f, A) ∧ A.OK ∧ f < A.nodes.length ∧ f ≠ 0 ∧ cntA A f = 2 ^ (104 - l.length) ∧
    (∃ L, NodesOf A [f] L ∧ L.length = l.length) ∧ ∀ hd, Least A f false hd → ∀ i, i < l.length → hd.bit (s + i) = l.getD i false := by
  have hO := newF_ok (most := 1024) (by omega) (by omega)
  have hR := litK_rise s l hs
  obtain ⟨f, A, e, _⟩ := cubeF_room (A := newF 1024) (l := litK s l l.length) (by rw [litK_length]; show 2 + l.length ≤ 1024; omega)
  obtain ⟨o, _, c, _⟩ := cubeF_ok hO hR
  rw [e] at o c
  simp only at o c
  have hf := c f rfl
  have hsem := fun b => cubeF_sem hO hR e b
  have hw := ways_agree 104 (litK s l l.length) (Nat.le_refl _) hR.up (fun x hx => ⟨by omega, hR.lt x hx⟩)
  refine ⟨f, A, e, o, hf, ?_, ?_, ?_, ?_⟩
  · rintro rfl
    obtain ⟨b, hb⟩ := agree_sat _ hR.up
    have := hsem b
    rw [inA_zero, hb] at this
    cases this
  · unfold cntA
    rw [ways_congr 104 (G := fun b => agree b (litK s l l.length)) hsem, hw.2, litK_length]
  · obtain ⟨L, h1, h2⟩ := cube_nodes o (litK s l l.length) f hf hR.lt hR.up hsem
    exact ⟨L, h1, by rw [h2, litK_length]⟩
  · intro hd hl i hi
    have h1 := hl.2.1
    rw [hsem] at h1
    unfold agree at h1
    rw [List.all_eq_true] at h1
    have := h1 (s + i, l.getD i false) (List.mem_map.2 ⟨i, List.mem_range.2 hi, rfl⟩)
    simpa using this

set_option maxRecDepth 100000 in
theorem cnt_ne (n : Nat) (w : World) : (binOp .neq 44 (cval n) (cval n)).run Try.prog w = .ok (.bool false) w := by
  unfold cval
  simp [go_sem]
set_option maxRecDepth 100000 in
theorem cnt_guardn (n m : Nat) (x y : Operand) (w : World) : (eqGuard .neq 44 x y (cval n) (cval m)).run Try.prog w = .ok () w := by
  unfold cval
  simp [go_sem, eqGuard]
theorem wpList_neC {ops : Array Oper} {rest : List Oper} {o : Oper} {a : Act} {w : World} {Q : Exit → Act → World → Prop} (x y : Operand) (ty : TypeId) (ho : o.op = .binOp .neq 44 x y ty) (n : Nat) (hx : a.eval x = cval n) (hy : a.eval y = cval n)
    (hw : Region.wanted o (yielded ops a.tmps) = true) (h : wpList Try.prog ops Q rest (a.put o.dst (.bool false)) w) : wpList Try.prog ops Q (o :: rest) a w :=
  BigFrame.wpList_want hw fun K hK => by
    unfold Oper.wp execOp
    simp only [ho, hx, hy, Sem.run_bind, Sem.run_pure, cnt_guardn, cnt_ne, Result.andThen_ok]
    exact hK _ _ h
theorem nodes_cube {W w : World} {p g mb : Nat} {A : Arn} (R : AR W w p g mb A) {x : Nat} (hx : x < A.nodes.length) {L0 : List Nat} (h0 : NodesOf A [x] L0) :
    Calls Try.prog 26 #[.pointer (some ⟨p, 0, none⟩), .slice (some ⟨w.heap.size, 0, none⟩) 1 1] (w.alloc (.cells #[.int .i64 (x : Int)] 3)) fun e w' => e = .returned (.int .i64 (L0.length : Int)) ∧ Below w.heap.size w w' := by
  have k := (Below.refl w.heap.size w).alloc (Nat.le_refl _) (.cells #[.int .i64 (x : Int)] 3)
  have R2 := R.below k
  refine (Nodes_calls R2.2.2.2.1 R.2.2.2.2.1 w.heap.size 1 [(x : Int)] 1 rfl (by omega) (fun i y hy => ?_) (by simp)).mono ?_
  · rw [cell_of (heap_alloc_new w _) i]
    match i, hy with
    | 0, hy => simpa using hy
    | i + 1, hy => simp at hy
  · rintro e w' ⟨⟨L, hL, he⟩, k2⟩
    rw [show okS A [(x : Int)] = [x] by simp [okS, hx]] at hL
    have e1 : L.length = L0.length := Nat.le_antisymm (nodesof_le hL h0 (by simp)) (nodesof_le h0 hL (by simp))
    rw [e1] at he
    exact ⟨he, k.trans (k2.mono (by simp))⟩

/-- A header in a block of its own. -/
def BoxC (w : World) (b : Nat) (h : Hd) : Prop := w.heap[b]? = some (.cells #[.int .u32 (h.dst : Int), .int .u32 (h.src : Int), .int .u8 (h.proto : Int), .int .u16 (h.sport : Int), .int .u16 (h.dport : Int)] 25 (0, 0))
theorem BoxC.below {w w' : World} {b : Nat} {h : Hd} (hb : BoxC w b h) (k : Below w.heap.size w w') : BoxC w' b h := (k.block b (lt_of_block hb)).trans hb
theorem BoxC.cells {w : World} {b : Nat} {h : Hd} (h1 : BoxC w b h) : w.cell? ⟨b, 0, none⟩ = some (.int .u32 (h.dst : Int)) ∧ w.cell? ⟨b, 1, none⟩ = some (.int .u32 (h.src : Int)) ∧
    w.cell? ⟨b, 2, none⟩ = some (.int .u8 (h.proto : Int)) ∧ w.cell? ⟨b, 3, none⟩ = some (.int .u16 (h.sport : Int)) ∧ w.cell? ⟨b, 4, none⟩ = some (.int .u16 (h.dport : Int)) := by
  unfold BoxC at h1
  exact ⟨cell_of h1 0, cell_of h1 1, cell_of h1 2, cell_of h1 3, cell_of h1 4⟩

set_option maxRecDepth 100000 in
theorem cubes_dark {W : World} {ao : Option Addr} {n cap : Nat} (i : Int) (hn : 104 < n) :
    Calls Try.prog 4 #[.slice ao n cap, .int .u8 i] W fun e w' => e = .returned (.bool true) ∧ Below W.heap.size W w' := by
  have t1 : decide (104 < (n : Int)) = true := decide_eq_true (by omega)
  go_enter Try.func4, Try.ntmps4
  go_wp2_with (go_at_call 21; refine (awake08_calls _).mono ?_; rintro e w' ⟨rfl, k8⟩; have k8 := Lib.hid k8)
  go_ret
  exact ⟨rfl, k8.out⟩

set_option maxRecDepth 100000 in
set_option maxHeartbeats 4000000 in
theorem cubes_main {W : World} {b off n cap : Nat} (l : List Bool) (hl : l.length = n) (h0 : 0 < n) (hn : n ≤ 104) (hB : BsAt W b off l) (hbw : b < W.heap.size) (r : Nat) (hr : r < 256) :
    Calls Try.prog 4 #[.slice (some ⟨b, off, none⟩) n cap, .int .u8 (r : Int)] W fun e w' => e = .returned (.bool true) ∧ Below W.heap.size W w' := by
  obtain ⟨i0, hi, hz0, hz1, hz2⟩ := info_parts lit_info
  have HBS := Lib.hid hB
  have HLN := Lib.hid hl
  have t1 : decide (104 < (n : Int)) = false := decide_eq_false (by omega)
  clear hB hl
  go_enter Try.func4, Try.ntmps4
  go_wp2_with (fail)
  refine (AR.new (Below.refl _ _) 1024 (by omega) (by omega)).mono ?_
  rintro e w2 ⟨p, g, mb, he, H2⟩
  subst he
  have H2 := Lib.hid H2
  go_wp2_with (fail)
  obtain ⟨s, hsn, hsl⟩ : ∃ s : Nat, ((r : Int) % (104 - (n : Int) + 1)) = (s : Int) ∧ s + n ≤ 104 := by
    have h105 : (104 : Int) - (n : Int) + 1 = ((105 - n : Nat) : Int) := by omega
    refine ⟨r % (105 - n), by rw [h105]; rfl, ?_⟩
    have := Nat.mod_lt r (show 0 < 105 - n by omega)
    omega
  rw [hsn]
  clear hsn
  obtain ⟨f, A, e1, o1, hf, hf0, hcnt, ⟨L0, hL0, hLn⟩, hbits⟩ := cubes_plain s l (by rw [HLN.out]; exact hsl)
  rw [HLN.out] at e1 hcnt hLn hbits
  have HE1 := Lib.hid e1
  have HCN := Lib.hid hcnt
  have HL0 := Lib.hid (And.intro hL0 hLn)
  have HBT := Lib.hid hbits
  clear e1 hcnt hL0 hLn hbits
  go_loopg [8, 36] n (fun gk vo vi wr => ∃ k : Nat, k + gk = n ∧ vi = .int .i64 (k : Int) ∧ wr.ownsRow w2.heap.size 38 2 vo k (ltCells (litN (litK s l k))) ∧ Kept [] w2 wr)
  case atStart => exact ⟨0, by omega, rfl, World.ownsRow_nil _ _ _ _, Kept.refl _ _⟩
  case round =>
    obtain ⟨k, hk, rfl, how, hK⟩ := hrel
    have HOW := Lib.hid how
    have HK := Lib.hid hK
    have hwr := hK.size
    clear how hK
    by_cases hlt : k < n
    · have hx : l[k]? = some (l.getD k false) := by rw [List.getD_eq_getElem?_getD, List.getElem?_eq_getElem (by rw [HLN.out]; exact hlt)]; rfl
      have cx := (HK.out.cell ((World.cell?_of_block (H2.out.2.2.2.2.2.block b hbw)).trans (HBS.out k _ hx)) (by simp))
      clear hx
      generalize hbk : l.getD k false = bk at *
      have HBK := Lib.hid hbk
      clear hbk
      go_wp2_with (at_builtin; refine wpList_append_lies _ rfl (.tmp 41) (.tmp 47) 36 rfl w2.heap.size 38 i0 _ 2 16 Try.underlying36 hi hz0 hz1 hz2 rfl (by decide) _ k (ltCells (litN (litK s l k))) rfl ?_ ⟨wr.heap.size, 0, none⟩ 1 1 [.int .i64 ((s : Int) + (k : Int)), .bool bk] rfl rfl ?_ ?_ (by omega) ?_ ?_ ?_ _ rfl ?_; (· exact own_kept HOW.out ((Kept.refl [] _).alloc _) (by simp)); (· exact news_at (by simp)); (· simp [Value.oneCell']); (· unfold maxLen; omega); (· omega); (· simp; omega); intro g9 cap9 w9 how9 hgr9 hat9 hlt9; have HOW9 := Lib.hid how9; have HGR9 := Lib.hid hgr9; clear how9 hgr9 hat9 hlt9)
      go_roundg (gk - 1)
      case measure => omega
      case rel =>
        refine ⟨k + 1, by omega, by go_num, ?_, ?_⟩
        · have := HOW9.out
          rw [litK_succ, litN_snoc, HBK.out]
          exact this
        · exact Kept.grown_row (HK.out.alloc _) HGR9.out (fun g hg => Or.inr (own_past HOW.out g hg))
    · obtain rfl : k = n := by omega
      obtain ⟨s0, cap0, rfl, hsb, hs0⟩ := HOW.out.form (by omega)
      have hlt2 := H2.out.2.2.2.1.lt
      have H3 := Lib.hid (H2.out.below (HK.out.below (Nat.le_refl _) (by simp)))
      have HC := cube_calls H3.out.2.2.2.1 H3.out.2.2.2.2.1 s0 0 cap0 k (litK s l k) (litK_length _ _ _) hn h0 (litK_rise s l hsl) (own_lits HOW.out) (by omega) (by omega) (by omega)
      rw [HE1.out] at HC
      have HC := Lib.hid HC
      go_wp2_with (fail)
      refine (H3.out.post o1 HC.out).mono ?_
      rintro e w4 ⟨he, g4, hg4, H4, K4⟩
      subst he
      have H4 := Lib.hid H4
      clear hg4 K4 HC H3
      simp only [resV, Option.getD_some, Option.isSome_some, if_true]
      go_wp2_with (fail)
      refine (least_calls H4.out.2.2.2.1 o1 f hf hf0).mono ?_
      rintro e w5 ⟨⟨hd, hx, he⟩, k5⟩
      subst he
      have H5 := Lib.hid (H4.out.below k5)
      have HXL := Lib.hid hx
      clear k5 hx H4
      unfold Hd.val
      go_wp2_with (fail)
      have kx := (Below.refl w5.heap.size w5).alloc (Nat.le_refl _) (.cells #[.int .u32 (hd.dst : Int), .int .u32 (hd.src : Int), .int .u8 (hd.proto : Int), .int .u16 (hd.sport : Int), .int .u16 (hd.dport : Int)] 25)
      have hX : BoxC _ w5.heap.size hd := heap_alloc_new w5 (.cells #[.int .u32 (hd.dst : Int), .int .u32 (hd.src : Int), .int .u8 (hd.proto : Int), .int .u16 (hd.sport : Int), .int .u16 (hd.dport : Int)] 25)
      generalize w5.alloc (.cells #[.int .u32 (hd.dst : Int), .int .u32 (hd.src : Int), .int .u8 (hd.proto : Int), .int .u16 (hd.sport : Int), .int .u16 (hd.dport : Int)] 25) = w5a at *
      have H5a := Lib.hid (H5.out.below kx)
      have HX5 := Lib.hid hX
      have hbits := HBT.out hd HXL.out
      clear kx H5 hX
      have CC := fun w' (R : AR W w' p g4 mb A) => Count_calls R.2.2.2.1 o1 f hf
      rw [HCN.out] at CC
      have hp : (104 : Int) - (k : Int) = ((104 - k : Nat) : Int) := by omega
      have PW : ∀ w', Calls Try.prog 25 #[.int .i64 ((104 : Int) - (k : Int))] w' fun e w'' => e = .returned (cval (2 ^ (104 - k))) ∧ Below w'.heap.size w' w'' := fun w' => by rw [hp]; exact pow_calls w' (104 - k) (by omega)
      generalize 2 ^ (104 - k) = S at *
      have CC := Lib.hid CC
      have PW := Lib.hid PW
      have HBI := Lib.hid hbits
      clear hp hbits
      refine (CC.out _ H5a.out).mono ?_
      rintro e w6 ⟨he, k6⟩
      subst he
      have H6 := Lib.hid (H5a.out.below k6)
      have HX6 := Lib.hid (HX5.out.below k6)
      clear k6 H5a HX5
      go_wp2_with (fail)
      refine (PW.out _).mono ?_
      rintro e w7 ⟨he, k7⟩
      subst he
      have H7 := Lib.hid (H6.out.below k7)
      have HX7 := Lib.hid (HX6.out.below k7)
      clear k7 H6 HX6
      go_wp2_with (refine wpList_neC _ _ _ rfl S rfl rfl rfl ?_)
      refine (nodes_cube H7.out hf HL0.out.1).mono ?_
      rintro e w8 ⟨he, k8⟩
      rw [HL0.out.2] at he
      subst he
      have H8 := Lib.hid (H7.out.below k8)
      have HX8 := Lib.hid (HX7.out.below k8)
      clear k8 H7 HX7
      have t3 : ((k : Int) != (k : Int)) = false := by simp
      go_wp2_with (fail)
      have BC : ∀ w' (j : Nat), j < k → Calls Try.prog 27 #[hd.val, .int .i64 ((s : Int) + (j : Int))] w' fun e w'' => e = .returned (.bool (l.getD j false)) ∧ Below w'.heap.size w' w'' := fun w' j hj => by
        have := bit_calls w' hd (s + j) (by omega)
        rw [HBI.out j hj] at this
        exact this
      unfold Hd.val at BC
      have BC := Lib.hid BC
      have hw8 := H8.out.2.2.2.2.2.size
      go_loopw [89] (fun vi wr => ∃ j : Nat, j ≤ k ∧ vi = .int .i64 (j : Int) ∧ Below w8.heap.size w8 wr) (fun vi _ => k - (intOf vi).toNat)
      case atStart => exact ⟨0, Nat.zero_le _, rfl, Below.refl _ _⟩
      case round =>
        obtain ⟨j, hj, rfl, hB⟩ := hrel
        have HB := Lib.hid hB
        clear hB
        by_cases hlt : j < k
        · have hx : l[j]? = some (l.getD j false) := by rw [List.getD_eq_getElem?_getD, List.getElem?_eq_getElem (by rw [HLN.out]; exact hlt)]; rfl
          have cx := (World.cell?_of_block ((HB.out.block b (by omega)).trans (H8.out.2.2.2.2.2.block b hbw))).trans (HBS.out j _ hx)
          have dX := (HX8.out.below HB.out).cells
          have C2 := Lib.hid (BC.out wr j hlt)
          clear hx
          generalize l.getD j false = bk at *
          go_wp2_with (fail)
          refine C2.out.mono ?_
          rintro e w9 ⟨he, k9⟩
          subst he
          have H9 := Lib.hid (HB.out.trans (k9.mono HB.out.size))
          clear k9 dX cx
          have t4 : (bk != bk) = false := by simp
          go_wp2_with (fail)
          go_roundw
          case rel => exact ⟨j + 1, by omega, by go_num, H9.out⟩
          case measure => simp [intOf]; omega
        · obtain rfl : j = k := by omega
          have H9 := Lib.hid (H8.out.below HB.out)
          go_wp2_with (fail)
          refine (awake08_calls _).mono ?_
          rintro e w9 ⟨he, k9⟩
          subst he
          have H10 := Lib.hid (H9.out.below k9)
          clear k9
          go_wp2_with (fail)
          go_ret
          exact ⟨rfl, H10.out.2.2.2.2.2⟩

set_option maxRecDepth 100000 in
theorem cube_void {w : World} {p g mb : Nat} {A : Arn} (h : ArenaAt w p g mb A) (ao : Option Addr) (cap : Nat) :
    Calls Try.prog 22 #[.pointer (some ⟨p, 0, none⟩), .slice ao 0 cap] w fun e w' => e = .returned (.tuple #[.int .i64 1, .int .i64 0]) ∧ w = w' := by
  have HA := Lib.hid h
  go_enter Try.func22, Try.ntmps22
  go_wp2_with (refine wp_loop_rounds 1 ?_)
  rw [rounds_succ]
  go_wp2_with (fail)
  refine (len_calls HA.out).mono ?_
  rintro e w1 ⟨he, hw⟩
  subst he hw
  go_wp2_with (refine wp_loop_rounds 1 ?_)
  rw [rounds_succ]
  go_wp2_with (fail)
  go_ret2
  exact ⟨rfl, rfl⟩

set_option maxRecDepth 100000 in
set_option maxHeartbeats 4000000 in
theorem cubes_none {W : World} {ao : Option Addr} {cap : Nat} (r : Nat) (hr : r < 256) :
    Calls Try.prog 4 #[.slice ao 0 cap, .int .u8 (r : Int)] W fun e w' => e = .returned (.bool true) ∧ Below W.heap.size W w' := by
  have hO := newF_ok (most := 1024) (by omega) (by omega)
  have hf : 1 < (newF 1024).nodes.length := by decide
  have hcnt : cntA (newF 1024) 1 = 2 ^ 104 := (ways_congr 104 (G := fun _ => true) (fun b => inA_one _ b)).trans (ways_true 104)
  obtain ⟨L0, hL0, hLn⟩ := cube_nodes hO [] 1 hf (by simp) (by simp) (fun b => by rw [inA_one]; rfl)
  go_enter Try.func4, Try.ntmps4
  go_wp2_with (fail)
  refine (AR.new (Below.refl _ _) 1024 (by omega) (by omega)).mono ?_
  rintro e w2 ⟨p, g, mb, he, H2⟩
  subst he
  have H2 := Lib.hid H2
  have HL0 := Lib.hid (And.intro hL0 hLn)
  clear hL0 hLn
  go_wp2_with (fail)
  refine wp_loop_rounds 1 ?_
  rw [rounds_succ]
  go_wp2_with (fail)
  refine (cube_void H2.out.2.2.2.1 _ _).mono ?_
  rintro e w4 ⟨he, hw⟩
  subst he hw
  go_wp2_with (fail)
  refine (least_calls H2.out.2.2.2.1 hO 1 hf (by omega)).mono ?_
  rintro e w5 ⟨⟨hd, hx, he⟩, k5⟩
  subst he
  have H5 := Lib.hid (H2.out.below k5)
  clear k5 hx H2
  unfold Hd.val
  go_wp2_with (fail)
  have kx := (Below.refl w5.heap.size w5).alloc (Nat.le_refl _) (.cells #[.int .u32 (hd.dst : Int), .int .u32 (hd.src : Int), .int .u8 (hd.proto : Int), .int .u16 (hd.sport : Int), .int .u16 (hd.dport : Int)] 25)
  generalize w5.alloc (.cells #[.int .u32 (hd.dst : Int), .int .u32 (hd.src : Int), .int .u8 (hd.proto : Int), .int .u16 (hd.sport : Int), .int .u16 (hd.dport : Int)] 25) = w5a at *
  have H5a := Lib.hid (H5.out.below kx)
  clear kx H5
  have CC := Count_calls H5a.out.2.2.2.1 hO 1 hf
  rw [hcnt, show cval (2 ^ 104) = .agg #[.int .u64 1099511627776, .int .u64 0] from by kernel_rfl] at CC
  refine CC.mono ?_
  rintro e w6 ⟨he, k6⟩
  subst he
  have H6 := Lib.hid (H5a.out.below k6)
  clear k6 H5a CC
  go_wp2_with (fail)
  have PW := pow_calls w6 104 (by omega)
  rw [show cval (2 ^ 104) = .agg #[.int .u64 1099511627776, .int .u64 0] from by kernel_rfl] at PW
  refine PW.mono ?_
  rintro e w7 ⟨he, k7⟩
  subst he
  have H7 := Lib.hid (H6.out.below k7)
  clear k7 H6 PW
  go_wp2_with (fail)
  refine (nodes_cube H7.out hf HL0.out.1).mono ?_
  rintro e w8 ⟨he, k8⟩
  rw [HL0.out.2] at he
  subst he
  have H8 := Lib.hid (H7.out.below k8)
  clear k8 H7
  go_wp2_with (fail)
  refine wp_loop_rounds 1 ?_
  rw [rounds_succ]
  go_wp2_with (fail)
  refine (awake08_calls _).mono ?_
  rintro e w9 ⟨he, k9⟩
  subst he
  have H10 := Lib.hid (H8.out.below k9)
  clear k9
  go_wp2_with (fail)
  go_ret
  exact ⟨rfl, H10.out.2.2.2.2.2⟩

theorem cubes_row (v : Value) (i : Int) {W : World} (hv : ArgBs W v) (wi : (Lit.int .u8 i).wf = true) :
    Calls Try.prog 4 #[v, .int .u8 i] W fun e w' => e = .returned (.bool true) ∧ Below W.heap.size W w' := by
  obtain ⟨r, rfl, hr⟩ := u8_nat wi
  obtain ⟨l, ⟨rfl, ao, cap, rfl⟩ | ⟨b, off, n, cap, h0, rfl, hl, hB, hbw⟩⟩ := hv
  · exact cubes_none r hr
  · rcases Nat.lt_or_ge 104 n with h | h
    · exact cubes_dark _ h
    · exact cubes_main l hl h0 h hB hbw r hr

end Go.Proofs.Ytakgghhmecphmaa
