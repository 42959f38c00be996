/- The law SatCounts. -/
import Derived.Test.YtakgghhmecphmaaCountsW
import Derived.Test.YtakgghhmecphmaaCntR
import Derived.Test.YtakgghhmecphmaaAwake8
import Derived.Test.YtakgghhmecphmaaDownB
import Derived.Test.YtakgghhmecphmaaCountB
import Derived.Test.YtakgghhmecphmaaHasF
import Derived.Test.YtakgghhmecphmaaHeld
import Derived.Test.YtakgghhmecphmaaArgsH
import Derived.Deep.RegionHeld3
namespace Go.Proofs.Ytakgghhmecphmaa
set_option linter.unusedVariables false
set_option linter.unusedSimpArgs false
open Go.RowKit Go.Maps

def BrightP (l : List Ex) : Prop := LightP l ∧ l.length ≤ 30 ∧ (varsF (askB l) 104).length ≤ 7
theorem exsV_of {N : Nat} {w : World} {ao : Option Addr} {n cap : Nat} {l : List Ex} (h : ArgL N w (.slice ao n cap) l) : ExsV w ao l := fun k x hx => by
  obtain ⟨_, ⟨rfl, _⟩ | ⟨b, off, n', cap', h0, e, h1, h2, h3, h4⟩⟩ := h
  · simp at hx
  · cases e
    exact ⟨b, off, rfl, h3⟩
set_option maxRecDepth 100000 in
set_option maxHeartbeats 2000000 in
theorem light8_calls {w : World} {v : Value} {l : List Ex} (h : ArgL w.heap.size w v l) : Calls Try.prog 45 #[v] w fun e w' => ∃ b, e = .returned (.bool b) ∧ (b = true → BrightP l) ∧ Below w.heap.size w w' := by
  by_cases h1 : LightP l
  · have HL := Lib.hid (light_yes h h1)
    obtain ⟨ao, cap, rfl, hlen⟩ := h.slice
    have HV := Lib.hid h
    clear h
    by_cases h30 : l.length ≤ 30
    · have t1 : decide ((l.length : Int) ≤ 30) = true := decide_eq_true (by omega)
      have HR := Lib.hid h1.2.2.1
      have HL1 := Lib.hid h1
      have h60 := h1.1
      clear h1
      go_enter Try.func45, Try.ntmps45
      go_wp2_with (fail)
      refine HL.out.mono ?_
      rintro e w1 ⟨he, k1⟩
      subst he
      have HK1 := Lib.hid k1
      have HVC := Lib.hid (vars_calls w1 ao cap l ((exsV_of HV.out).kept (Kept.of_below k1)) HR.out h60)
      unfold VarsPost at HVC
      rw [← varsF_range] at HVC
      clear k1
      go_wp2_with (fail)
      refine HVC.out.mono ?_
      rintro e w2 ⟨vo, he, how, k2⟩
      obtain ⟨av, cpv, rfl⟩ : ∃ av cpv, vo = .slice av (varsF (askB l) 104).length cpv := by
        rcases how.2 with ⟨h0, h1⟩ | ⟨g', cap', cur, h0, _⟩
        · exact ⟨none, 0, by rw [h0, h1]⟩
        · exact ⟨_, cap', h0⟩
      subst he
      have HK2 := Lib.hid (HK1.out.trans (k2.mono HK1.out.size))
      clear how k2 HVC
      by_cases h7 : (varsF (askB l) 104).length ≤ 7
      · have HB : Hid (BrightP l) := Lib.hid ⟨HL1.out, h30, h7⟩
        generalize (varsF (askB l) 104).length = m at *
        have t2 : decide ((m : Int) ≤ 7) = true := decide_eq_true (by omega)
        go_wp2_with (fail)
        go_ret
        exact ⟨true, rfl, fun _ => HB.out, HK2.out⟩
      · generalize (varsF (askB l) 104).length = m at *
        have t2 : decide ((m : Int) ≤ 7) = false := decide_eq_false (by omega)
        clear h7
        go_wp2_with (fail)
        go_ret
        exact ⟨false, rfl, (fun h => by cases h), HK2.out⟩
    · have t1 : decide ((l.length : Int) ≤ 30) = false := decide_eq_false (by omega)
      clear h1 h30 HV
      go_enter Try.func45, Try.ntmps45
      go_wp2_with (fail)
      refine HL.out.mono ?_
      rintro e w1 ⟨he, k1⟩
      subst he
      have HK1 := Lib.hid k1
      clear k1
      go_wp2_with (fail)
      go_ret
      exact ⟨false, rfl, (fun h => by cases h), HK1.out⟩
  · have HL := Lib.hid (light_no h h1)
    obtain ⟨ao, cap, rfl, hlen⟩ := h.slice
    clear h h1
    go_enter Try.func45, Try.ntmps45
    go_wp2_with (fail)
    refine HL.out.mono ?_
    rintro e w1 ⟨he, k1⟩
    subst he
    have HK1 := Lib.hid k1
    clear k1
    go_wp2_with (fail)
    go_ret
    exact ⟨false, rfl, (fun h => by cases h), HK1.out⟩

set_option maxRecDepth 100000 in
set_option maxHeartbeats 16000000 in
theorem counts8_calls {W : World} {v : Value} {l : List Ex} (h : ArgL W.heap.size W v l) (hc : ∀ ao n cap, v = .slice ao n cap → n ≤ cap ∧ cap ≤ maxLen) :
    Calls Try.prog 12 #[v] W fun e w' => e = .returned (.bool true) ∧ Below W.heap.size W w' := by
  have HL := Lib.hid (light8_calls h)
  have HV := Lib.hid h
  obtain ⟨ao, cap, rfl, hlen⟩ := h.slice
  have hcc := hc _ _ _ rfl
  clear h hc
  go_enter Try.func12, Try.ntmps12
  go_wp2_with (fail)
  refine HL.out.mono ?_
  rintro e w1 ⟨b, he, hb, k1⟩
  subst he
  have K1 := Lib.hid k1
  clear k1
  cases b with
  | false =>
    clear hb
    go_wp2_with (go_at_call 21; refine (awake08_calls _).mono ?_; rintro e w' ⟨rfl, k8⟩; have k8 := Lib.hid k8)
    go_ret
    exact ⟨rfl, K1.out.trans (k8.out.mono K1.out.size)⟩
  | true =>
    have hbr := hb rfl
    have HBR := Lib.hid hbr
    obtain ⟨hl, hl30, hm7⟩ := hbr
    have hG := light_good hl
    obtain ⟨m1, _, _, m4, _, _, m7, m8, _⟩ := light_room hl rfl
    generalize hR : makeGo (newF 262144) [] l = R at *
    obtain ⟨out, ok, A⟩ := R
    simp only at m1 m4 m7 m8 hG
    subst m1
    have HG := Lib.hid hG
    have HRR := Lib.hid hR
    have HM4 := Lib.hid m4
    have HM7 := Lib.hid m7
    have HM8 := Lib.hid m8
    have h60 := hl.1
    clear hb hR m4 m7 m8 hl hG hm7
    go_wp2_with (fail)
    refine (AR.new K1.out 262144 (by omega) (by omega)).mono ?_
    rintro e w2 ⟨p, g, mb, he, H2⟩
    subst he
    have H2 := Lib.hid H2
    go_wp2_with (fail)
    refine (make_arg H2.out HV.out h60 HBR.out.1.2.2.1).mono ?_
    rw [HRR.out]
    simp only [if_true]
    rintro e w3 ⟨vo, he, how, g3, hg3, H3, K3⟩
    subst he
    rw [HM4.out] at how
    obtain ⟨as8, cps, rfl, has⟩ : ∃ as8 cps, vo = .slice as8 l.length cps ∧ ∀ i, i < l.length → ∃ s0, as8 = some ⟨s0, 0, none⟩ ∧ ∀ X, Kept [] w3 X → X.cell? ⟨s0, i, none⟩ = some (.int .i64 ((out.getD i 0 : Nat) : Int)) := by
      rcases how.2 with ⟨h0, h1⟩ | ⟨g', cap', cur, h0, _⟩
      · exact ⟨none, 0, by rw [h0, h1], fun i hi => by omega⟩
      · refine ⟨_, cap', h0, fun i hi => ⟨g', rfl, fun X kX => ?_⟩⟩
        rw [h0] at how
        exact out_cell (own_kept how kX (by simp)) hi
    have HAS := Lib.hid has
    have H3 := Lib.hid H3
    have HCO := Lib.hid (counts_calls w3 ao cap l ((exsV_of HV.out).kept (Kept.of_below H3.out.2.2.2.2.2)) (fun _ => hcc) HBR.out.1.2.2.1 HBR.out.2.1 HBR.out.2.2)
    clear how has hg3 H2 K3
    go_wp2_with (fail)
    refine HCO.out.mono ?_
    rintro e w4 ⟨ob, lb, sb, he, hO, hL, hS, k4⟩
    subst he
    have HO := Lib.hid hO
    have HLB := Lib.hid hL
    have HSB := Lib.hid hS
    have H4 := Lib.hid (H3.out.below k4)
    have K4 := Lib.hid k4
    have HLL : Hid (l.length ≤ 30) := Lib.hid hl30
    clear hO hL hS k4 HCO
    generalize hvv : varsF (askB l) 104 = v at *
    have HVV := Lib.hid hvv
    clear hvv
    go_wp2_with (fail)
    go_loopg [48] l.length (fun gk vi wr => ∃ i : Nat, i + gk = l.length ∧ vi = .int .i64 (i : Int) ∧ Below w4.heap.size w4 wr)
    case atStart => exact ⟨0, by omega, rfl, Below.refl _ _⟩
    case round =>
      obtain ⟨i, hgk, rfl, hK⟩ := hrel
      have HK := Lib.hid hK
      have HGK := Lib.hid hgk
      clear hK hgk
      by_cases hlt : i < l.length
      · obtain ⟨s0, rfl, hcs⟩ := HAS.out i hlt
        have hcf := hcs wr (Kept.trans (Kept.of_below K4.out) (Kept.of_below (S := []) HK.out) (by simp))
        have hii : (i : Int) < (l.length : Int) := by omega
        have hi1 : IntKind.i64.wrap ((i : Int) + 1) = (i : Int) + 1 := IntWalk.i64_in _ (by omega)
        have HR := Lib.hid (H4.out.below HK.out)
        have hf : out.getD i 0 < A.nodes.length := getD_lt HM7.out (by have := HG.out.ok.two; omega) _
        have hcn := law_cnt HM8.out i
        have hll := fun (hd : Hd) (h : Least A (out.getD i 0) false hd) => law_least HM8.out i h
        have hln := fun (h0 : out.getD i 0 = 0) => law_none HG.out.ok HM8.out i h0 v (2 ^ v.length)
        rw [HVV.out] at hcn hll
        have hlz := law_zero (l := l) v i (2 ^ v.length) (104 - v.length)
        have hob : (ctW l v)[i]? = some (cntW l v i (2 ^ v.length) * 2 ^ (104 - v.length)) := by
          unfold ctW
          rw [List.getElem?_map, List.getElem?_range hlt]
          rfl
        have hlb : (rowG l.length (hdW l v) (2 ^ v.length) 0)[i]? = some (hdW l v i (2 ^ v.length)) := by rw [rowG_get hlt, if_neg (by omega)]
        have hsb : (rowG l.length (fun i k => (oneW l v i k).isSome) (2 ^ v.length) 0)[i]? = some (oneW l v i (2 ^ v.length)).isSome := by rw [rowG_get hlt, if_neg (by omega)]
        have hX : cntA A (out.getD i 0) < 2 ^ 128 := by
          have h1 := cntA_le A (out.getD i 0)
          have : (2 : Nat) ^ 104 < 2 ^ 128 := by decide
          omega
        rw [← hcn] at hob hlz
        have hhz : oneW l v i (2 ^ v.length) = none → hdW l v i (2 ^ v.length) = hdZ := fun e => by unfold hdW; rw [e]
        have HLST : Hid (∀ X, Below wr.heap.size wr X → Calls Try.prog 23 #[.pointer (some ⟨p, 0, none⟩), .int .i64 ((out.getD i 0 : Nat) : Int)] X fun e w' => e = .returned (.tuple #[(hdW l v i (2 ^ v.length)).val, .bool (oneW l v i (2 ^ v.length)).isSome]) ∧ Below X.heap.size X w') := Lib.hid (fun X kX => by
          have hA := (HR.out.below kX).2.2.2.1
          by_cases h0 : out.getD i 0 = 0
          · have e := hln h0
            have hz := hhz e
            refine (least_none hA HG.out.ok _ (Or.inr (by rw [h0]; rfl))).mono ?_
            rintro e' w' ⟨he, k⟩
            rw [hz, e]
            exact ⟨he, k⟩
          · refine (least_calls hA HG.out.ok _ hf h0).mono ?_
            rintro e' w' ⟨⟨hd, hx, he⟩, k⟩
            obtain ⟨a1, a2⟩ := hll hd hx
            rw [← a2, a1]
            exact ⟨he, k⟩)
        have HCT := Lib.hid (Count_calls HR.out.2.2.2.1 HG.out.ok _ hf)
        unfold cval at HCT
        have hzc : ∀ X : World, Calls Try.prog 47 #[.agg #[.int .u64 ((cntA A (out.getD i 0) / 18446744073709551616 : Nat) : Int), .int .u64 ((cntA A (out.getD i 0) % 18446744073709551616 : Nat) : Int)]] X fun e w' => e = .returned (.bool (!(oneW l v i (2 ^ v.length)).isSome)) ∧ Below X.heap.size X w' := fun X => by
          rw [← hlz]
          exact zero_calls X _ hX
        have HZC := Lib.hid hzc
        have HOC : Hid (∀ X, Below wr.heap.size wr X → X.cell? ⟨ob, i * 2, none⟩ = some (.int .u64 ((cntA A (out.getD i 0) / 18446744073709551616 : Nat) : Int)) ∧ X.cell? ⟨ob, i * 2 + 1, none⟩ = some (.int .u64 ((cntA A (out.getD i 0) % 18446744073709551616 : Nat) : Int))) := Lib.hid (fun X kX => by
          have hk : Kept [] w4 X := Kept.trans (Kept.of_below HK.out) (Kept.of_below (S := []) kX) (by simp)
          exact ⟨(HO.out.kept hk (by simp)).cell hob (j := 0) rfl, (HO.out.kept hk (by simp)).cell hob (j := 1) rfl⟩)
        have HSC : Hid (∀ X, Below wr.heap.size wr X → X.cell? ⟨sb, i, none⟩ = some (.bool (oneW l v i (2 ^ v.length)).isSome)) := Lib.hid (fun X kX => by
          have hk : Kept [] w4 X := Kept.trans (Kept.of_below HK.out) (Kept.of_below (S := []) kX) (by simp)
          have := (HSB.out.kept hk (by simp)).cell hsb (j := 0) rfl
          rwa [Nat.mul_one, Nat.add_zero] at this)
        obtain ⟨hd, hhd⟩ : ∃ hd, hd = hdW l v i (2 ^ v.length) := ⟨_, rfl⟩
        rw [← hhd] at HLST hlb
        have HLC : Hid (∀ X, Below wr.heap.size wr X → X.cell? ⟨lb, i * 5, none⟩ = some (.int .u32 (hd.dst : Int)) ∧ X.cell? ⟨lb, i * 5 + 1, none⟩ = some (.int .u32 (hd.src : Int)) ∧ X.cell? ⟨lb, i * 5 + 2, none⟩ = some (.int .u8 (hd.proto : Int)) ∧ X.cell? ⟨lb, i * 5 + 3, none⟩ = some (.int .u16 (hd.sport : Int)) ∧ X.cell? ⟨lb, i * 5 + 4, none⟩ = some (.int .u16 (hd.dport : Int))) := Lib.hid (fun X kX => by
          have hk : Kept [] w4 X := Kept.trans (Kept.of_below HK.out) (Kept.of_below (S := []) kX) (by simp)
          have h5 := HLB.out.kept hk (by simp)
          exact ⟨h5.cell hlb (j := 0) rfl, h5.cell hlb (j := 1) rfl, h5.cell hlb (j := 2) rfl, h5.cell hlb (j := 3) rfl, h5.cell hlb (j := 4) rfl⟩)
        generalize (oneW l v i (2 ^ v.length)).isSome = bo at *
        generalize (cntA A (out.getD i 0) / 18446744073709551616 : Nat) = x1 at *
        generalize (cntA A (out.getD i 0) % 18446744073709551616 : Nat) = y1 at *
        generalize out.getD i 0 = f at *
        unfold Hd.val at HLST
        clear hll hln hlz hob hlb hsb hX hhz hf hzc hhd
        go_wp2_with (fail)
        refine Calls.mono HCT.out ?_
        rintro e w5 ⟨he, k5⟩
        subst he
        have kc := k5.alloc k5.size (.cells #[.int .u64 (x1 : Int), .int .u64 (y1 : Int)] 44)
        have HCB := Lib.hid (heap_alloc_new w5 (.cells #[.int .u64 (x1 : Int), .int .u64 (y1 : Int)] 44))
        have HK6 := Lib.hid kc
        clear k5 kc hcf HCT
        go_upto_region 14 with (fail)
        generalize w5.alloc (.cells #[.int .u64 (x1 : Int), .int .u64 (y1 : Int)] 44) = w6 at *
        generalize w5.heap.size = cb at *
        go_wp2_with (fail)
        refine Calls.mono (HLST.out _ HK6.out) ?_
        rintro e w7 ⟨he, k7⟩
        subst he
        have hcb7 := (k7.block _ (lt_of_block HCB.out)).trans HCB.out
        have HCB8 := Lib.hid (blk_alloc hcb7 (.cells #[.int .u32 (hd.dst : Int), .int .u32 (hd.src : Int), .int .u8 (hd.proto : Int), .int .u16 (hd.sport : Int), .int .u16 (hd.dport : Int)] 25))
        have kh := (HK6.out.trans (k7.mono HK6.out.size))
        have kh2 := kh.alloc kh.size (.cells #[.int .u32 (hd.dst : Int), .int .u32 (hd.src : Int), .int .u8 (hd.proto : Int), .int .u16 (hd.sport : Int), .int .u16 (hd.dport : Int)] 25)
        have HHB := Lib.hid (heap_alloc_new w7 (.cells #[.int .u32 (hd.dst : Int), .int .u32 (hd.src : Int), .int .u8 (hd.proto : Int), .int .u16 (hd.sport : Int), .int .u16 (hd.dport : Int)] 25))
        have HK8 := Lib.hid kh2
        clear k7 hcb7 kh kh2 HLST
        go_upto_region 15 with (fail)
        generalize w7.alloc (.cells #[.int .u32 (hd.dst : Int), .int .u32 (hd.src : Int), .int .u8 (hd.proto : Int), .int .u16 (hd.sport : Int), .int .u16 (hd.dport : Int)] 25) = w8 at *
        generalize w7.heap.size = hb at *
        have HALL : Hid (∀ X, Below w8.heap.size w8 X → X.cell? ⟨cb, 0, none⟩ = some (.int .u64 (x1 : Int)) ∧ X.cell? ⟨cb, 1, none⟩ = some (.int .u64 (y1 : Int)) ∧ X.cell? ⟨ob, i * 2, none⟩ = some (.int .u64 (x1 : Int)) ∧ X.cell? ⟨ob, i * 2 + 1, none⟩ = some (.int .u64 (y1 : Int)) ∧ X.cell? ⟨sb, i, none⟩ = some (.bool bo) ∧ X.cell? ⟨hb, 0, none⟩ = some (.int .u32 (hd.dst : Int)) ∧ X.cell? ⟨hb, 1, none⟩ = some (.int .u32 (hd.src : Int)) ∧ X.cell? ⟨hb, 2, none⟩ = some (.int .u8 (hd.proto : Int)) ∧ X.cell? ⟨hb, 3, none⟩ = some (.int .u16 (hd.sport : Int)) ∧ X.cell? ⟨hb, 4, none⟩ = some (.int .u16 (hd.dport : Int)) ∧ X.cell? ⟨lb, i * 5, none⟩ = some (.int .u32 (hd.dst : Int)) ∧ X.cell? ⟨lb, i * 5 + 1, none⟩ = some (.int .u32 (hd.src : Int)) ∧ X.cell? ⟨lb, i * 5 + 2, none⟩ = some (.int .u8 (hd.proto : Int)) ∧ X.cell? ⟨lb, i * 5 + 3, none⟩ = some (.int .u16 (hd.sport : Int)) ∧ X.cell? ⟨lb, i * 5 + 4, none⟩ = some (.int .u16 (hd.dport : Int))) := Lib.hid (fun X kX => by
          have kX2 : Below wr.heap.size wr X := HK8.out.trans (kX.mono HK8.out.size)
          have h1 := (kX.block _ (lt_of_block HCB8.out)).trans HCB8.out
          have h2 := (kX.block _ (lt_of_block HHB.out)).trans HHB.out
          obtain ⟨o1, o2⟩ := HOC.out X kX2
          obtain ⟨l1, l2, l3, l4, l5⟩ := HLC.out X kX2
          exact ⟨cell_of h1 0, cell_of h1 1, o1, o2, HSC.out X kX2, cell_of h2 0, cell_of h2 1, cell_of h2 2, cell_of h2 3, cell_of h2 4, l1, l2, l3, l4, l5⟩)
        have HBF : Hid (∀ X, Below w8.heap.size w8 X → Below W.heap.size W X) := Lib.hid (fun X kX => (H4.out.below HK.out).2.2.2.2.2.trans ((HK8.out.trans (kX.mono HK8.out.size)).mono (H4.out.below HK.out).2.2.2.2.2.size))
        have hB0 := (Below.refl w8.heap.size w8).drew
        have hS0 := HALL.out w8.drew hB0
        have hS1 := HALL.out w8 (Below.refl _ _)
        go_region_held3 (fun X => X.cell? ⟨cb, 0, none⟩ = some (.int .u64 (x1 : Int)) ∧ X.cell? ⟨cb, 1, none⟩ = some (.int .u64 (y1 : Int)) ∧ X.cell? ⟨ob, i * 2, none⟩ = some (.int .u64 (x1 : Int)) ∧ X.cell? ⟨ob, i * 2 + 1, none⟩ = some (.int .u64 (y1 : Int)) ∧ X.cell? ⟨sb, i, none⟩ = some (.bool bo) ∧ X.cell? ⟨hb, 0, none⟩ = some (.int .u32 (hd.dst : Int)) ∧ X.cell? ⟨hb, 1, none⟩ = some (.int .u32 (hd.src : Int)) ∧ X.cell? ⟨hb, 2, none⟩ = some (.int .u8 (hd.proto : Int)) ∧ X.cell? ⟨hb, 3, none⟩ = some (.int .u16 (hd.sport : Int)) ∧ X.cell? ⟨hb, 4, none⟩ = some (.int .u16 (hd.dport : Int)) ∧ X.cell? ⟨lb, i * 5, none⟩ = some (.int .u32 (hd.dst : Int)) ∧ X.cell? ⟨lb, i * 5 + 1, none⟩ = some (.int .u32 (hd.src : Int)) ∧ X.cell? ⟨lb, i * 5 + 2, none⟩ = some (.int .u8 (hd.proto : Int)) ∧ X.cell? ⟨lb, i * 5 + 3, none⟩ = some (.int .u16 (hd.sport : Int)) ∧ X.cell? ⟨lb, i * 5 + 4, none⟩ = some (.int .u16 (hd.dport : Int))) (first | assumption | go_keep) (first | (go_at_call 47; refine Calls.mono (HZC.out _) ?_; rintro e w9 ⟨he, k9⟩; subst he; have hB9 : Below w8.heap.size w8 w9 := (by first | exact hB0.trans (k9.mono hB0.size) | exact k9); have HB9 := Lib.hid hB9; have hS9 := HALL.out w9 hB9; clear k9 hB9))
        all_goals
          clear hS0 hS1 hS9 hB0
          go_wp2_with (fail)
          go_roundg (gk - 1)
          case measure => have := HGK.out; omega
          case rel => exact ⟨i + 1, by have := HGK.out; omega, by go_num, HK.out.trans ((HK8.out.trans (HB9.out.mono HK8.out.size)).mono HK.out.size)⟩
      · obtain rfl : i = l.length := by have := HGK.out; omega
        go_wp2_with (go_at_call 21; refine (awake08_calls _).mono ?_; rintro e w' ⟨rfl, k8⟩; have k8 := Lib.hid k8)
        go_ret
        exact ⟨rfl, (H4.out.below HK.out).2.2.2.2.2.trans (k8.out.mono (H4.out.below HK.out).2.2.2.2.2.size)⟩
theorem counts8_row {W : World} (v : Value) (h : ArgExC W v) : Calls Try.prog 12 #[v] W fun e w' => e = .returned (.bool true) ∧ Below W.heap.size W w' := by
  obtain ⟨l, hl⟩ := h.1.list
  exact counts8_calls hl h.2
end Go.Proofs.Ytakgghhmecphmaa
