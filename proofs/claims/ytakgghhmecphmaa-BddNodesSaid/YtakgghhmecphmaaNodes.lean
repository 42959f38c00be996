/- The walk of BddNodes. -/
import Derived.Test.YtakgghhmecphmaaHeld
namespace Go.Proofs.Ytakgghhmecphmaa
set_option linter.unusedVariables false
set_option linter.unusedSimpArgs false
open Go.RowKit Go.Maps

theorem trKeyed : Keyed Try.prog 64 := Keyed.of_law (deep_law_laid (m := 3) (by kernel_rfl) (by omega) (of_decide_eq_true (by kernel_rfl)) (by kernel_rfl) (by kernel_rfl))
theorem tr_keyType : Try.prog.keyType 64 = true := by kernel_rfl
theorem tr_cells : Try.prog.cellsOf 64 = 3 := by kernel_rfl
theorem tr_key_of {a b c : Int} (h0 : (Lit.int .i64 a).wf = true) (h1 : (Lit.int .i64 b).wf = true) (h2 : (Lit.int .i64 c).wf = true) : ∃ l, keyOf Try.prog 64 (.agg #[.int .i64 a, .int .i64 b, .int .i64 c]) = some l := by
  obtain ⟨m, hm⟩ := types_size
  unfold keyOf
  simp only [Try.underlying64]
  rw [if_pos (by simp [tr_keyType, Value.formed, Try.underlying64, tr_cells]), hm]
  unfold Program.keyLits
  simp only [Try.underlying64, Value.cells]
  rw [if_pos (by rw [tr_cells]; rfl), show List.range 3 = [0, 1, 2] from rfl]
  simp [List.mapM_cons, int_cells, keyLits_int Try.underlying3, h0, h1, h2]
theorem tr_key {x : Nd} (h0 : x.level < 1048576) (h1 : x.low < 1048576) (h2 : x.high < 1048576) : ∃ l, keyOf Try.prog 64 (ndv x) = some l :=
  tr_key_of (wf64 (by omega) (by omega)) (wf64 (by omega) (by omega)) (wf64 (by omega) (by omega))
theorem zeroB (w : World) : (zeroValue 4).run Try.prog w = .ok (.bool false) w := by kernel_rfl
theorem nodeF_lv {A : Arn} (hA : A.OK) {f : Nat} (hf : f < A.nodes.length) : (nodeF A (f : Int)).1 = (A.lv f : Int) := by
  unfold nodeF
  rw [if_pos (by omega)]
  by_cases h : (f : Int) ≤ 1
  · rw [if_pos h]
    obtain rfl | rfl : f = 0 ∨ f = 1 := by omega
    · rw [hA.lv_zero]; rfl
    · rw [hA.lv_one]; rfl
  · rw [if_neg h, Int.toNat_natCast]
    rfl

open Classical in
/-- The nodes behind the first two, below k. -/
noncomputable def seenK (A : Arn) (k : Nat) : Nd → Option Bool := fun x => if ∃ i, 2 ≤ i ∧ i < k ∧ A.nodes[i]? = some x then some true else none

theorem seenK_succ {A : Arn} {k : Nat} {x : Nd} (h2 : 2 ≤ k) (hx : A.nodes[k]? = some x) (y : Nd) : upd (seenK A k) x true y = seenK A (k + 1) y := by
  unfold upd seenK
  by_cases e : y = x
  · subst e
    rw [if_pos rfl, if_pos ⟨k, h2, by omega, hx⟩]
  · rw [if_neg e]
    by_cases h : ∃ i, 2 ≤ i ∧ i < k ∧ A.nodes[i]? = some y
    · obtain ⟨i, a, b, c⟩ := h
      rw [if_pos ⟨i, a, b, c⟩, if_pos ⟨i, a, by omega, c⟩]
    · rw [if_neg h, if_neg]
      rintro ⟨i, a, b, c⟩
      by_cases hk : i = k
      · subst hk
        rw [hx] at c
        cases c
        exact e rfl
      · exact h ⟨i, a, by omega, c⟩
theorem seenK_at {A : Arn} {k f : Nat} {x : Nd} (h2 : 2 ≤ f) (hf : f < k) (hx : A.nodes[f]? = some x) : seenK A k x = some true := by
  unfold seenK
  rw [if_pos ⟨f, h2, hf, hx⟩]

set_option maxRecDepth 100000 in
theorem nodes_dark {W : World} {v u : Value} {l m : List Ex} (h : ArgL W.heap.size W v l) (k : ArgL W.heap.size W u m) (hl : ¬ (LightP l ∧ LightP m)) :
    Calls Try.prog 8 #[v, u] W fun e w' => e = .returned (.bool true) ∧ Below W.heap.size W w' := by
  by_cases h1 : LightP l
  · have HL := Lib.hid (light_yes h h1)
    have HK := Lib.hid (fun w' (b : Below W.heap.size W w') => light_no (k.below b (Nat.le_refl _)) (fun h2 => hl ⟨h1, h2⟩))
    clear hl h1
    obtain ⟨ao, cap, rfl, hlen⟩ := h.slice
    obtain ⟨ao2, cap2, rfl, hlen2⟩ := k.slice
    go_enter Try.func8, Try.ntmps8
    go_wp2_with (fail)
    refine HL.out.mono ?_
    rintro e w1 ⟨he, k1⟩
    subst he
    have k1 := Lib.hid k1
    go_wp2_with (fail)
    refine (HK.out w1 k1.out).mono ?_
    rintro e w2 ⟨he, k2⟩
    subst he
    have k2 := Lib.hid (k1.out.trans (k2.mono k1.out.size))
    go_wp2_with (go_at_call 29; refine (awake06_calls _).mono ?_; rintro e w' ⟨rfl, k8⟩; have k8 := Lib.hid k8)
    go_ret
    exact ⟨rfl, k2.out.trans (k8.out.mono k2.out.size)⟩
  · have HL := Lib.hid (light_no h h1)
    obtain ⟨ao, cap, rfl, hlen⟩ := h.slice
    go_enter Try.func8, Try.ntmps8
    go_wp2_with (fail)
    refine HL.out.mono ?_
    rintro e w1 ⟨he, k1⟩
    subst he
    have k1 := Lib.hid k1
    go_wp2_with (go_at_call 29; refine (awake06_calls _).mono ?_; rintro e w' ⟨rfl, k8⟩; have k8 := Lib.hid k8)
    go_ret
    exact ⟨rfl, k1.out.trans (k8.out.mono k1.out.size)⟩

set_option maxRecDepth 100000 in
set_option maxHeartbeats 16000000 in
theorem nodes_main {W : World} {v u : Value} {l m : List Ex} (h : ArgL W.heap.size W v l) (k : ArgL W.heap.size W u m) (hl : LightP l) (hm : LightP m) :
    Calls Try.prog 8 #[v, u] W fun e w' => e = .returned (.bool true) ∧ Below W.heap.size W w' := by
  have hmm := @run_makeMap Try.prog
  have HL := Lib.hid (light_yes h hl)
  have HK := Lib.hid (fun w' (b : Below W.heap.size W w') => light_yes (k.below b (Nat.le_refl _)) hm)
  have HV := Lib.hid h
  have HU := Lib.hid k
  have HLP := Lib.hid hl
  have HMP := Lib.hid hm
  clear h k hl hm
  obtain ⟨ao, cap, rfl, hlen⟩ := HV.out.slice
  obtain ⟨ao2, cap2, rfl, hlen2⟩ := HU.out.slice
  have h60 := HLP.out.1
  have h61 := HMP.out.1
  go_enter Try.func8, Try.ntmps8
  go_wp2_with (fail)
  refine HL.out.mono ?_
  rintro e w1 ⟨he, k1⟩
  subst he
  have k1 := Lib.hid k1
  go_wp2_with (fail)
  refine (HK.out w1 k1.out).mono ?_
  rintro e w2 ⟨he, k2⟩
  subst he
  have k2 := Lib.hid (k1.out.trans (k2.mono k1.out.size))
  clear k1
  go_wp2_with (fail)
  refine (AR.new k2.out 262144 (by omega) (by omega)).mono ?_
  rintro e w3 ⟨p, g, mb, he, H3⟩
  subst he
  have H3 := Lib.hid H3
  clear k2
  go_wp2_with (fail)
  refine (make_arg H3.out HV.out h60 HLP.out.2.2.1).mono ?_
  rintro e w4 ⟨vo, he, how, g4, hg4, H4, K4⟩
  subst he
  have hO := (makeGo_ok l (newF 262144) [] 0 H3.out.2.2.2.2.1 (by simp) (fun i x hx => by rw [Nat.zero_add]; exact HLP.out.2.2.1 i x hx)).1
  have HA := Lib.hid hO
  generalize (makeGo (newF 262144) [] l).2.2 = A at *
  generalize (if (makeGo (newF 262144) [] l).2.1 = true then (0 : Int) else 20) = er at *
  have H4 := Lib.hid H4
  clear how hg4 K4 H3 hO
  go_wp2_with (fail)
  refine (len_calls H4.out.2.2.2.1).mono ?_
  rintro e w5 ⟨he, hw⟩
  subst he hw
  go_wp2_with (fail)
  have hM1 := (IsMapOf.made w4 Try.prog 64 ndv boolV).congr (g := seenK A 0) (fun x => by
    unfold seenK
    rw [if_neg]
    rintro ⟨i, _, h, _⟩
    omega)
  have H5 := Lib.hid (H4.out.below ((Below.refl _ _).alloc (Nat.le_refl _) (.map #[] 0)))
  have hsb : w4.heap.size ≠ p ∧ w4.heap.size ≠ g4 ∧ w4.heap.size ≠ mb := by have := H4.out.2.2.2.1.lt; omega
  have hW4 := H4.out.2.2.2.2.2.size
  have HM1 := Lib.hid hM1
  generalize w4.alloc (.map #[] 0) = W1 at *
  generalize w4.heap.size = sb at *
  generalize hN : A.nodes.length = N at *
  have HN := Lib.hid hN
  have hsb1 := HM1.out.lt
  have hN18 : N ≤ 262144 := by rw [← hN]; exact Nat.le_trans HA.out.len HA.out.most
  clear hM1 hN H4
  go_loopw [46] (fun vi wr => ∃ k : Nat, k ≤ N ∧ vi = .int .i64 (k : Int) ∧ (∃ c, IsMapOf Try.prog 64 ndv boolV wr sb c (seenK A k)) ∧ Kept [sb] W1 wr) (fun vi _ => N - (intOf vi).toNat)
  case atStart => exact ⟨0, Nat.zero_le _, rfl, ⟨_, HM1.out⟩, Kept.refl _ _⟩
  case round =>
    obtain ⟨k, hk, rfl, ⟨c, hM⟩, hK⟩ := hrel
    have HM := Lib.hid hM
    have HK := Lib.hid hK
    clear hM hK
    by_cases hlt : k < N
    · go_wp2_with (fail)
      have HR := Lib.hid (H5.out.kept HK.out (by simp; omega) (by simp; omega) (by simp; omega) (by simp; omega))
      refine (node_calls HR.out.2.2.2.1 (k : Int)).mono ?_
      rintro e w6 ⟨he, k6⟩
      subst he
      have K6 := Lib.hid (HK.out.trans (Kept.of_below (S := []) k6) (by simp))
      have M6 := Lib.hid (HM.out.of_block (k6.block sb HM.out.lt))
      have R6 := Lib.hid (HR.out.below k6)
      clear k6 HK HM HR
      by_cases h1 : k ≤ 1
      · have hnf : nodeF A (k : Int) = (104, (k : Int), (k : Int)) := by
          unfold nodeF
          rw [if_pos (by have := HN.out; omega), if_pos (by omega)]
        rw [hnf]
        clear hnf
        have t1 : decide ((k : Int) ≤ 1) = true := decide_eq_true (by omega)
        simp only
        go_wp2_with (fail)
        go_roundw
        case rel =>
          refine ⟨k + 1, by omega, by go_num, ⟨c, M6.out.congr fun x => ?_⟩, K6.out⟩
          unfold seenK
          rw [if_neg (by rintro ⟨i, a, b, _⟩; omega), if_neg (by rintro ⟨i, a, b, _⟩; omega)]
        case measure => simp [intOf]; omega
      · obtain ⟨a, b, c', d, e1, e2⟩ := HA.out.at_ (f := k) (by have := HN.out; omega) (by omega)
        have hnf : nodeF A (k : Int) = (((A.nd k).level : Int), ((A.nd k).low : Int), ((A.nd k).high : Int)) := by
          unfold nodeF
          rw [if_pos (by have := HN.out; omega), if_neg (by omega), Int.toNat_natCast]
        rw [hnf]
        clear hnf
        have t1 : decide ((k : Int) ≤ 1) = false := decide_eq_false (by omega)
        simp only
        have HLO := Lib.hid (fun (w' : World) (R : AR W w' p g4 mb A) => node_calls R.2.2.2.1 ((A.nd k).low : Int))
        have HHI := Lib.hid (fun (w' : World) (R : AR W w' p g4 mb A) => node_calls R.2.2.2.1 ((A.nd k).high : Int))
        have hlo := nodeF_lv HA.out (f := (A.nd k).low) (by have := HN.out; omega)
        have hhi := nodeF_lv HA.out (f := (A.nd k).high) (by have := HN.out; omega)
        have hnk := nd_get (A := A) (f := k) (by have := HN.out; omega)
        have hlvd : A.lv k = (A.nd k).level := rfl
        rw [hlvd] at a e1 e2
        generalize A.lv (A.nd k).low = llo at *
        generalize A.lv (A.nd k).high = lhi at *
        generalize A.nd k = x at *
        generalize hnl : nodeF A (x.low : Int) = NL at *
        generalize hnh : nodeF A (x.high : Int) = NH at *
        obtain ⟨nl0, nl1, nl2⟩ := NL
        obtain ⟨nh0, nh1, nh2⟩ := NH
        try simp only at hlo hhi
        subst hlo hhi
        have HNL := Lib.hid hnl
        have HNH := Lib.hid hnh
        have HNK := Lib.hid hnk
        clear hnl hnh hnk hlvd
        go_wp2_with (fail)
        have Q7 := HLO.out w6 R6.out
        refine Q7.mono ?_
        clear Q7
        rintro e w7 ⟨he, k7⟩
        subst he
        have K7 := Lib.hid (K6.out.trans (Kept.of_below (S := []) k7) (by simp))
        have M7 := Lib.hid (M6.out.of_block (k7.block sb M6.out.lt))
        have R7 := Lib.hid (R6.out.below k7)
        clear k7 K6 M6 R6
        go_wp2_with (fail)
        have Q8 := HHI.out w7 R7.out
        refine Q8.mono ?_
        clear Q8
        rintro e w8 ⟨he, k8⟩
        subst he
        have K8 := Lib.hid (K7.out.trans (Kept.of_below (S := []) k8) (by simp))
        have M8 := Lib.hid (M7.out.of_block (k8.block sb M7.out.lt))
        have R8 := Lib.hid (R7.out.below k8)
        clear k8 K7 M7 R7
        have hlen := Nat.le_trans HA.out.len HA.out.most
        have hnot : seenK A k x = none := by
          unfold seenK
          rw [if_neg]
          rintro ⟨i, i2, ik, hi⟩
          have q1 := findF_of HA.out.nodup i2 hi
          have q2 := findF_of HA.out.nodup (by omega) HNK.out
          rw [q1] at q2
          cases q2
          omega
        have hlk : ∀ o, (Instr.lookup 61 (.map (some sb)) (.agg #[.int .i64 (x.level : Int), .int .i64 (x.low : Int), .int .i64 (x.high : Int)]) false).run Try.prog (w8.alloc o) = .ok (.bool false) (w8.alloc o) := by
          intro o
          have k := M8.out.of_block (w' := w8.alloc o) (Below.heap_alloc w8 o sb M8.out.lt)
          have := k.look trKeyed ndv_inj Try.underlying61 (zeroB _) x (tr_key (by omega) (by have := HN.out; omega) (by have := HN.out; omega)) false
          rw [hnot] at this
          exact this
        clear hnot
        have HH := Lib.hid (fun o => has_calls (R8.out.below (w' := w8.alloc o) ((Below.refl _ _).alloc (Nat.le_refl _) o)).2.2.2.1 (k : Int))
        have eh : decide (0 ≤ (k : Int) ∧ (k : Int) < A.nodes.length) = true := decide_eq_true (by have := HN.out; omega)
        rw [eh] at HH
        have hw8 := K8.out.size
        have M9 := Lib.hid (fun o => M8.out.of_block (w' := w8.alloc o) (Below.heap_alloc w8 o sb M8.out.lt))
        clear eh
        go_wp2_with (first | (go_at_call 39; refine (HH.out _).mono ?_; rintro e w9 ⟨he, hw9⟩; subst he hw9) | (at_mapUpdate; refine wpList_put _ rfl _ _ _ 61 4 rfl trKeyed ndv_inj Try.underlying61 (M9.out _) x true (tr_key (by omega) (by have := HN.out; omega) (by have := HN.out; omega)) rfl rfl rfl ?_; intro w10 M10 hg10; have M10 := Lib.hid M10; have HG10 := Lib.hid hg10; clear hg10))
        · rename_i hbad
          exfalso
          simp at hbad
          omega
        · go_roundw
          case rel =>
            refine ⟨k + 1, by omega, by go_num, ⟨_, M10.out.congr fun y => ?_⟩, ?_⟩
            · exact seenK_succ (by omega) HNK.out y
            · exact (K8.out.alloc _).grown HG10.out (Or.inl (by simp))
          case measure => simp [intOf]; omega
    · obtain rfl : k = N := by omega
      have HR := Lib.hid (H5.out.kept HK.out (by simp; omega) (by simp; omega) (by simp; omega) (by simp; omega))
      clear HK
      go_wp2_with (fail)
      refine (make_arg HR.out HU.out h61 HMP.out.2.2.1).mono ?_
      rintro e w6 ⟨vo, he, how, g5, hg5, H6, K6⟩
      subst he
      have H6 := Lib.hid H6
      have M6 := Lib.hid (HM.out.of_block (K6.block sb HM.out.lt (by simp; omega)))
      have hE := (makeGo_ok m A [] 0 HA.out (by simp) (fun i x hx => by rw [Nat.zero_add]; exact HMP.out.2.2.1 i x hx))
      have HX := Lib.hid hE.2.1
      have HA2 := Lib.hid hE.1
      generalize (makeGo A [] m).2.2 = A2 at *
      generalize (if (makeGo A [] m).2.1 = true then (0 : Int) else 20) = er2 at *
      clear hg5 K6 how hE HR HM
      have hk2 : 2 ≤ k := by rw [← HN.out]; exact HA.out.two
      have hsb6 := M6.out.lt
      go_wp2_with (fail)
      go_loopw [20] (fun vi wr => ∃ f : Nat, 2 ≤ f ∧ f ≤ k ∧ vi = .int .i64 (f : Int) ∧ Kept [] w6 wr) (fun vi _ => k - (intOf vi).toNat)
      case atStart => exact ⟨2, Nat.le_refl _, hk2, rfl, Kept.refl _ _⟩
      case round =>
        obtain ⟨f, hf2, hfk, rfl, hK⟩ := hrel
        have HK := Lib.hid hK
        clear hK
        have HR := Lib.hid (H6.out.kept HK.out (by simp) (by simp) (by simp) (by simp))
        have HM := Lib.hid (M6.out.of_block (HK.out.block _ hsb6 (by simp)))
        by_cases hlt : f < k
        · have hfA : f < A.nodes.length := by rw [HN.out]; exact hlt
          have hnf : nodeF A2 (f : Int) = (((A.nd f).level : Int), ((A.nd f).low : Int), ((A.nd f).high : Int)) := by
            unfold nodeF
            rw [if_pos (by have := HX.out.len; omega), if_neg (by omega), Int.toNat_natCast, HX.out.nd hfA]
          obtain ⟨a, b, c', d, e1, e2⟩ := HA.out.at_ hfA hf2
          have hlk : ∀ w', w'.heap[sb]? = wr.heap[sb]? → (Instr.lookup 61 (.map (some sb)) (.agg #[.int .i64 ((A.nd f).level : Int), .int .i64 ((A.nd f).low : Int), .int .i64 ((A.nd f).high : Int)]) false).run Try.prog w' = .ok (.bool true) w' := by
            intro w' hb
            have k := HM.out.of_block (w' := w') hb
            have := k.look trKeyed ndv_inj Try.underlying61 (zeroB _) (A.nd f) (tr_key (by unfold Arn.lv at a; omega) (by omega) (by omega)) false
            rw [seenK_at hf2 hlt (nd_get hfA)] at this
            exact this
          have HLK := Lib.hid hlk
          have HC := Lib.hid (node_calls HR.out.2.2.2.1 (f : Int))
          have hQ := HC.out
          rw [hnf] at hQ
          have HC := Lib.hid hQ
          clear hnf a b c' d e1 e2 hlk hQ
          go_wp2_with (fail)
          refine HC.out.mono ?_
          rintro e w7 ⟨he, k7⟩
          subst he
          have K7 := Lib.hid (HK.out.trans (Kept.of_below (S := []) k7) (by simp))
          have L7 := Lib.hid (HLK.out w7 (k7.block sb (by have := HK.out.size; omega)))
          clear k7 HLK HC
          have hlk := L7.out
          go_wp2_with (fail)
          go_roundw
          case rel => exact ⟨f + 1, by omega, by omega, by go_num, K7.out⟩
          case measure => simp [intOf]; omega
        · obtain rfl : f = k := by omega
          have t1 : decide (2 ≤ (f : Int)) = true := decide_eq_true (by omega)
          go_wp2_with (fail)
          refine (awake06_calls _).mono ?_
          rintro e w7 ⟨he, k7⟩
          subst he
          have R7 := Lib.hid (HR.out.below k7)
          clear k7
          have h1 := len_calls R7.out.2.2.2.1
          have h2 := has_calls R7.out.2.2.2.1 (A2.nodes.length : Int)
          have h3 := has_calls R7.out.2.2.2.1 (-1)
          rw [decide_eq_false (by omega)] at h2 h3
          have H1 := Lib.hid h1
          have H2 := Lib.hid h2
          have H3 := Lib.hid h3
          clear h1 h2 h3
          go_wp2_with (fail)
          refine H1.out.mono ?_
          rintro e w8 ⟨he, hw8⟩
          subst he hw8
          go_wp2_with (fail)
          refine H2.out.mono ?_
          rintro e w8 ⟨he, hw8⟩
          subst he hw8
          go_wp2_with (fail)
          refine H3.out.mono ?_
          rintro e w8 ⟨he, hw8⟩
          subst he hw8
          go_wp2_with (fail)
          go_ret
          exact ⟨rfl, R7.out.2.2.2.2.2⟩

theorem nodes_row (u v : Value) {W : World} (hu : ArgEx W u) (hv : ArgEx W v) :
    Calls Try.prog 8 #[u, v] W fun e w' => e = .returned (.bool true) ∧ Below W.heap.size W w' := by
  obtain ⟨l, hl⟩ := hu.list
  obtain ⟨m, hm⟩ := hv.list
  by_cases h : LightP l ∧ LightP m
  · exact nodes_main hl hm h.1 h.2
  · exact nodes_dark hl hm h

end Go.Proofs.Ytakgghhmecphmaa
