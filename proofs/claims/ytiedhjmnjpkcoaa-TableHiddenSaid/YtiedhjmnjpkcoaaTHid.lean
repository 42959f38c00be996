/- The table's Hidden. -/
import Derived.Test.YtiedhjmnjpkcoaaLess
import Derived.Test.YtiedhjmnjpkcoaaTabL
import Derived.Test.YtiedhjmnjpkcoaaPlays
namespace Go.Proofs.Ytiedhjmnjpkcoaa
set_option linter.unusedVariables false
set_option linter.unusedSimpArgs false
open Go.RowKit

set_option maxRecDepth 100000 in
set_option maxHeartbeats 4000000 in
theorem thidden_calls {w : World} {p mb : Nat} {F : List Nat} {L l : List Rl} (h : TabAt w p mb F L) (hpr : Pair L l) (hl : L.length < 900) (id : Int) (hid : okI id) :
    Calls Try.prog 32 #[.pointer (some ⟨p, 0, none⟩), .int .i64 id] w fun e w' => ∃ b : Bool, e = .returned (.bool b) ∧ (b = true ↔ Hidd l id) ∧ Below w.heap.size w w' := by
  have HT := Lib.hid h
  have HPR := Lib.hid hpr
  have hok : ∀ r ∈ l, r.Ok := fun r hr => h.ok r (hpr.perm.mem_iff.1 hr)
  have HOK := Lib.hid hok
  have hll : l.length < 900 := by rw [hpr.perm.length_eq]; exact hl
  have hg := tget_calls h id hid
  rw [hpr.find id] at hg
  clear h hpr
  cases hf : findR l id with
  | none =>
    rw [hf] at hg
    have HN : Hid (¬ Hidd l id) := Lib.hid (hidd_none (find_none.1 hf))
    clear hf
    go_enter Try.func32, Try.ntmps32
    go_wp2_with (fail)
    refine Calls.mono hg ?_
    rintro e w1 ⟨he, k1⟩
    have he : e = .returned (.tuple #[.agg #[.int .i64 0, .int .i64 0, .int .u32 0, .int .i64 0, .int .i64 0, .int .i64 0], .bool false]) := he
    subst he
    have K1 := Lib.hid k1
    clear k1 hg
    go_wp2_with (fail)
    go_ret
    exact ⟨false, rfl, ⟨fun h => by simp at h, fun h => absurd h HN.out⟩, K1.out.alloc K1.out.size _⟩
  | some r =>
    rw [hf] at hg
    obtain ⟨l1, l2, hsp, rfl, hne⟩ := find_split hf
    have hr : r.Ok := hok r (by rw [hsp]; simp)
    have HR := Lib.hid hr
    have HSP := Lib.hid hsp
    have HNE := Lib.hid hne
    have hb := hr.bits
    have hra := hr.1
    obtain ⟨n, hn⟩ : ∃ n, n = r.bits.toNat := ⟨_, rfl⟩
    rw [← hn] at hb
    have HNN := Lib.hid hn
    obtain ⟨_, hn32, hbn⟩ := hb
    have hms := meet_split hr hsp
    have HLH := Lib.hid (hidd_left HPR.out.ids hok hsp)
    clear hf hok hsp hne hr hn
    go_enter Try.func32, Try.ntmps32
    go_wp2_with (fail)
    refine Calls.mono hg ?_
    rintro e w1 ⟨he, k1⟩
    have he : e = .returned (.tuple #[.agg #[.int .i64 r.id, .int .i64 r.dev, .int .u32 (r.addr : Int), .int .i64 r.bits, .int .i64 r.prio, .int .i64 r.out], .bool true]) := he
    subst he
    have HT1 := Lib.hid (HT.out.kept (Kept.of_below (S := []) k1) (by simp) (by simp))
    have HXB := Lib.hid (heap_alloc_new w1 (.cells #[.int .i64 r.id, .int .i64 r.dev, .int .u32 (r.addr : Int), .int .i64 r.bits, .int .i64 r.prio, .int .i64 r.out] 26))
    have HKB := Lib.hid ((Below.refl w1.heap.size w1).alloc (Nat.le_refl _) (.cells #[.int .i64 r.id, .int .i64 r.dev, .int .u32 (r.addr : Int), .int .i64 r.bits, .int .i64 r.prio, .int .i64 r.out] 26))
    have K1 := Lib.hid k1
    clear k1 hg
    go_upto_region 2 with (fail)
    generalize w1.alloc (.cells #[.int .i64 r.id, .int .i64 r.dev, .int .u32 (r.addr : Int), .int .i64 r.bits, .int .i64 r.prio, .int .i64 r.out] 26) = w2 at *
    have HT2 := Lib.hid (HT1.out.kept (Kept.of_below (S := []) HKB.out) (by simp) (by simp))
    have K2 := Lib.hid (K1.out.trans (HKB.out.mono K1.out.size))
    clear HKB K1 HT1
    generalize w1.heap.size = xb at *
    have d2 := cell_of HXB.out 2
    have d3 := cell_of HXB.out 3
    simp only [List.getElem?_toArray, List.getElem?_cons_zero, List.getElem?_cons_succ] at d2 d3
    go_upto_region 5 with (fail)
    have HKC := Lib.hid ((Below.refl w2.heap.size w2).alloc (Nat.le_refl _) (.cells #[.int .u32 (r.addr : Int), .int .i64 r.bits] 24))
    have hx3 := heap_alloc_new w2 (.cells #[.int .u32 (r.addr : Int), .int .i64 r.bits] 24)
    generalize w2.alloc (.cells #[.int .u32 (r.addr : Int), .int .i64 r.bits] 24) = w3 at *
    have HO3 : Hid (w3.ownsRow 0 24 2 (.slice (some ⟨w2.heap.size, 0, none⟩) 1 1) (leftL r []).length (pnCells (leftL r []))) := Lib.hid ⟨rfl, Or.inr ⟨_, 1, _, rfl, Nat.zero_le _, hx3, Nat.le_refl _, by unfold maxLen; omega, rfl, by
      show [Value.int .u32 (r.addr : Int), .int .i64 r.bits] = [Value.int .u32 (r.addr : Int), .int .i64 ((r.bits.toNat : Nat) : Int)]
      rw [← HNN.out, hbn]⟩⟩
    have HT3 := Lib.hid (HT2.out.kept (Kept.of_below (S := []) HKC.out) (by simp) (by simp))
    have K3 := Lib.hid (K2.out.trans (HKC.out.mono K2.out.size))
    have hx3 := (HKC.out.block _ (lt_of_block HXB.out)).trans HXB.out
    have d2 := cell_of hx3 2
    have d3 := cell_of hx3 3
    simp only [List.getElem?_toArray, List.getElem?_cons_zero, List.getElem?_cons_succ] at d2 d3
    have HHL : Hid (L.length < 100000) := Lib.hid (by omega)
    have hml : meetL l r.dst = l1.filter (meetR r.addr r.bits.toNat) ++ r :: l2.filter (meetR r.addr r.bits.toNat) := by
      unfold meetL
      rw [if_pos HR.out.2.1]
      exact hms
    have HM1 : Hid (∀ y ∈ l1.filter (meetR r.addr r.bits.toNat), y ∈ l ∧ y.id ≠ r.id) := Lib.hid (fun y hy => ⟨by rw [HSP.out]; exact List.mem_append_left _ (List.mem_filter.1 hy).1, HNE.out y (List.mem_filter.1 hy).1⟩)
    have hk1 : (l1.filter (meetR r.addr r.bits.toNat)).length < 900 := by
      have h1 := List.length_filter_le (meetR r.addr r.bits.toNat) l1
      have h2 : l.length = l1.length + (l2.length + 1) := by rw [HSP.out]; simp
      omega
    clear hx3 hms
    generalize l1.filter (meetR r.addr r.bits.toNat) = m1 at *
    generalize l2.filter (meetR r.addr r.bits.toNat) = m2 at *
    have HME := Lib.hid (tmeetL_calls HT3.out HPR.out HHL.out r.dst hra)
    rw [hml] at HME
    clear hml HXB
    go_wp2_with (fail)
    refine Calls.mono HME.out ?_
    rintro e w4 ⟨vm, he, ho, k4⟩
    subst he
    obtain ⟨ao, cap, rfl, hcap, hao⟩ := own_shape ho
    obtain ⟨g, rfl⟩ := hao 0 (by simp only [List.length_append, List.length_cons]; omega)
    have HOM := Lib.hid ho
    have HO4 := Lib.hid (own_kept HO3.out (Kept.of_below (S := []) k4) (by simp))
    have K4 := Lib.hid (K3.out.trans (k4.mono K3.out.size))
    have hlen : (m1 ++ r :: m2).length = m1.length + (m2.length + 1) := by simp
    have HMG : Hid (∀ i (h : i < m1.length), (m1 ++ r :: m2)[i]? = some m1[i]) := Lib.hid (fun i h => by rw [List.getElem?_append_left h, List.getElem?_eq_getElem h])
    have HMR : Hid ((m1 ++ r :: m2)[m1.length]? = some r) := Lib.hid (by simp)
    clear ho k4 hao d2 d3
    obtain ⟨N, hN⟩ : ∃ N, N = (m1 ++ r :: m2).length := ⟨_, rfl⟩
    rw [← hN] at hcap hlen ⊢
    have HNL := Lib.hid hN
    clear hN
    go_wp2_with (fail)
    go_loopg [7, 26] (m1.length + 1) (fun gk vo vi wr => ∃ i : Nat, i + gk = m1.length + 1 ∧ 0 < gk ∧ vi = .int .i64 (i : Int) ∧ wr.ownsRow 0 24 2 vo (leftL r (m1.take i)).length (pnCells (leftL r (m1.take i))) ∧ Below w4.heap.size w4 wr)
    case atStart => exact ⟨0, by omega, by omega, rfl, HO4.out, Below.refl _ _⟩
    case round =>
      obtain ⟨i, hgk, hg0, rfl, hO, hk⟩ := hrel
      have HO := Lib.hid hO
      have HKR := Lib.hid hk
      have hrow := own_kept HOM.out (Kept.of_below (S := []) hk) (by simp)
      have hil : i < (m1 ++ r :: m2).length := by rw [← HNL.out]; omega
      have hiN : i < N := by omega
      have hcc := fun j (hj : j < 6) => (hrow.cellAt (i * 6 + j) (by omega)).trans (rlCells_at (m1 ++ r :: m2) i hil j hj)
      have hgy := List.getElem?_eq_getElem hil
      have e0 := hcc 0 (by omega)
      have e1 := hcc 1 (by omega)
      have e2 := hcc 2 (by omega)
      have e3 := hcc 3 (by omega)
      have e4 := hcc 4 (by omega)
      have e5 := hcc 5 (by omega)
      clear hcc hrow hO hk
      generalize (m1 ++ r :: m2)[i] = y at *
      simp [Rl.cells] at e0 e1 e2 e3 e4 e5
      have HGY := Lib.hid hgy
      have HXY := Lib.hid (heap_alloc_new wr (.cells #[.int .i64 y.id, .int .i64 y.dev, .int .u32 (y.addr : Int), .int .i64 y.bits, .int .i64 y.prio, .int .i64 y.out] 26))
      have HKY := Lib.hid ((Below.refl wr.heap.size wr).alloc (Nat.le_refl _) (.cells #[.int .i64 y.id, .int .i64 y.dev, .int .u32 (y.addr : Int), .int .i64 y.bits, .int .i64 y.prio, .int .i64 y.out] 26))
      clear hgy
      go_upto_region 8 with (fail)
      generalize wr.alloc (.cells #[.int .i64 y.id, .int .i64 y.dev, .int .u32 (y.addr : Int), .int .i64 y.bits, .int .i64 y.prio, .int .i64 y.out] 26) = wa at *
      clear e0 e1 e2 e3 e4 e5
      have HOA := Lib.hid (own_kept HO.out (Kept.of_below (S := []) HKY.out) (by simp))
      have KA := Lib.hid (HKR.out.trans (HKY.out.mono HKR.out.size))
      have d0 := cell_of HXY.out 0
      have d2 := cell_of HXY.out 2
      have d3 := cell_of HXY.out 3
      simp only [List.getElem?_toArray, List.getElem?_cons_zero, List.getElem?_cons_succ] at d0 d2 d3
      by_cases hik : i < m1.length
      · have hy1 : y = m1[i] := by
          have h1 := HMG.out i hik
          rw [HGY.out] at h1
          exact Option.some.inj h1
        have hym : y ∈ m1 := by rw [hy1]; exact List.getElem_mem hik
        obtain ⟨hyl, hyi⟩ := HM1.out y hym
        have hyo := HOK.out y hyl
        have hyb := hyo.bits
        have HTK : Hid (m1.take (i + 1) = m1.take i ++ [y]) := Lib.hid (by rw [List.take_add_one, List.getElem?_eq_getElem hik, ← hy1]; rfl)
        obtain ⟨c1, c2, c3⟩ := left_rev HR.out _ (m1.take i) rfl (fun z hz => HOK.out z (HM1.out z (List.mem_of_mem_take hz)).1)
        have hlt : (m1.take i).length ≤ 900 := by simp; omega
        have HLC := Lib.hid (less_calls HOA.out c1 hyo.pn (by omega) (fun k => by
          have h1 := lessL_len hyo.pn ((leftL r (m1.take i)).take k) (fun q hq => c1 q (List.mem_of_mem_take hq))
          have h2 := List.countP_le_length (p := fun z : Pn => z.has y.pn.a) (l := (leftL r (m1.take i)).take k)
          have h3 : ((leftL r (m1.take i)).take k).length ≤ (leftL r (m1.take i)).length := by simp; omega
          omega))
        have e4 : (((y.pn).n : Nat) : Int) = y.bits := hyb.2.2
        have e5 : y.pn.a = y.addr := rfl
        rw [e4, e5] at HLC
        clear e4 e5 hy1 hym hyl hyo hyb c1 c2 c3
        go_wp2_with (fail)
        refine Calls.mono HLC.out ?_
        rintro e w5 ⟨v5, he, ho5, k5⟩
        subst he
        have HO5 := Lib.hid ho5
        have K5 := Lib.hid (KA.out.trans (k5.mono KA.out.size))
        clear ho5 k5
        go_wp2_with (fail)
        go_roundg (gk - 1)
        case measure => omega
        case rel =>
          refine ⟨i + 1, by omega, by omega, by go_num, ?_, K5.out⟩
          rw [HTK.out, left_snoc]
          exact HO5.out.mono (Nat.zero_le _)
      · obtain rfl : i = m1.length := by omega
        have hyr : y = r := by
          have h1 := HMR.out
          rw [HGY.out] at h1
          exact Option.some.inj h1
        subst hyr
        have HKE := Lib.hid (K4.out.trans (KA.out.mono K4.out.size))
        have HOE := Lib.hid HOA.out
        obtain ⟨ao7, cap7, hv7⟩ : ∃ ao cap, u7 = .slice ao (leftL y (m1.take m1.length)).length cap := by
          rcases HOE.out.2 with ⟨h0, h1⟩ | ⟨g', cap', cur, h0, _⟩
          · exact ⟨none, 0, by rw [h0, h1]⟩
          · exact ⟨_, cap', h0⟩
        have hfin : (leftL y (m1.take m1.length)).length = 0 ↔ Hidd l y.id := by
          rw [List.take_length, List.length_eq_zero_iff]
          exact HLH.out
        subst hv7
        generalize (leftL y (m1.take m1.length)).length = nn at *
        by_cases hnn : nn = 0
        · subst hnn
          have HFI := Lib.hid hfin
          clear hfin
          go_wp2_with (fail)
          exact bodyPost_ret (v := .bool true) (by simp [results, Try.results32, go_sem]) rfl (by first | exact ⟨true, rfl, by simpa using HFI.out, HKE.out⟩ | exact Or.inr ⟨rfl, by simpa using HFI.out, HKE.out⟩)
        · have hni : ((nn : Int) == 0) = false := by simp; omega
          have hni2 : ¬ (nn : Int) = 0 := by omega
          have HFI := Lib.hid hfin
          clear hfin
          go_wp2_with (fail)
          exact bodyPost_ret (v := .bool false) (by simp [results, Try.results32, go_sem]) rfl ⟨false, rfl, by rw [← HFI.out]; simp [hnn], HKE.out⟩
end Go.Proofs.Ytiedhjmnjpkcoaa
