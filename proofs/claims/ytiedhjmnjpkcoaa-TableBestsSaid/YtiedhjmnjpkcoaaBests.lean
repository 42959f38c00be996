/- The law TableBests. -/
import Derived.Test.YtiedhjmnjpkcoaaBestsA
import Derived.Test.YtiedhjmnjpkcoaaPlays
namespace Go.Proofs.Ytiedhjmnjpkcoaa
set_option linter.unusedVariables false
set_option linter.unusedSimpArgs false
open Go.RowKit

set_option maxRecDepth 100000 in
set_option maxHeartbeats 8000000 in
theorem bests_calls {W : World} {v0 : Value} {ops : List Op} (h : OpsIn W v0 ops) (a : Nat) (ha : a < 2 ^ 32) :
    Calls Try.prog 4 #[v0, .int .u32 (a : Int)] W fun e w' => e = .returned (.bool true) ∧ Below W.heap.size W w' := by
  have h' := h
  obtain ⟨hwf, ao0, cap0, rfl, hop⟩ := h'
  clear hwf hop
  by_cases hn : 40 < ops.length
  · have hn' : (40 : Int) < ops.length := by omega
    go_enter Try.func4, Try.ntmps4
    go_wp2_with (fail)
    refine (awake11_calls _).mono ?_
    rintro e w7 ⟨he, k7⟩
    subst he
    have K7 := Lib.hid k7
    go_wp2_with (fail)
    go_ret
    exact ⟨rfl, K7.out⟩
  · have hn' : ¬ (40 : Int) < ops.length := by omega
    have HM := Lib.hid (made_calls h (by omega))
    clear h
    go_enter Try.func4, Try.ntmps4
    go_wp2_with (fail)
    refine Calls.mono HM.out ?_
    rintro e w1 ⟨p, mb, v, F, L, l, he, hP, hpr, hL, hk⟩
    subst he
    have HP := Lib.hid hP
    have HPR := Lib.hid hpr
    have HLEN : Hid (L.length < 100000) := Lib.hid (by omega)
    have HK := Lib.hid hk
    have HOK : Hid (∀ r ∈ l, r.Ok) := Lib.hid (fun r hr => hP.tab.ok r (hpr.perm.mem_iff.1 hr))
    have HLL : Hid (l.length < 1000000) := Lib.hid (by have := hpr.small HLEN.out; omega)
    clear hP hpr hk hL HM
    go_wp2_with (fail)
    refine (trulesL_calls HP.out.tab HPR.out HLEN.out).mono ?_
    rintro e w2 ⟨vr, he, ho, k2⟩
    subst he
    have HP2 := Lib.hid (HP.out.below k2)
    have HK2 := Lib.hid (HK.out.trans (k2.mono HK.out.size))
    have HO := Lib.hid ho
    clear ho k2
    go_wp2_with (fail)
    refine (same_calls HO.out HP2.out.row HLL.out).mono ?_
    rintro e w3 ⟨he, k3⟩
    subst he
    have k3 := k3.below (Nat.le_refl _) (by simp)
    have HP3 := Lib.hid (HP2.out.below k3)
    have HK3 := Lib.hid (HK2.out.trans (k3.mono HK2.out.size))
    clear k3
    have HB := Lib.hid (tbestL_calls HP3.out.tab HPR.out HLEN.out a ha)
    have HMT : Hid (∀ W, PlayAt W w1.heap.size p mb v F L l → True) := Lib.hid (fun _ _ => trivial)
    clear HMT
    go_wp2_with (fail)
    rcases hml : l.filter (hasR a) with _ | ⟨r, rest⟩
    · have hb := HB.out
      rw [best_none hml] at hb
      refine Calls.mono hb ?_
      rintro e w4 ⟨he, k4⟩
      have he : e = .returned (.tuple #[.agg #[.int .i64 0, .int .i64 0, .int .u32 0, .int .i64 0, .int .i64 0, .int .i64 0], .bool false]) := he
      subst he
      have HP4 := Lib.hid (HP3.out.below k4)
      have HK4 := Lib.hid (HK3.out.trans (k4.mono HK3.out.size))
      have HKB := Lib.hid ((Below.refl w4.heap.size w4).alloc (Nat.le_refl _) (.cells #[.int .i64 0, .int .i64 0, .int .u32 0, .int .i64 0, .int .i64 0, .int .i64 0] 26))
      have HML := Lib.hid hml
      clear k4 hb hml
      go_upto_region 7 with (fail)
      generalize w4.alloc (.cells #[.int .i64 0, .int .i64 0, .int .u32 0, .int .i64 0, .int .i64 0, .int .i64 0] 26) = w5 at *
      have HP5 := Lib.hid (HP4.out.below HKB.out)
      have HK5 := Lib.hid (HK4.out.trans (HKB.out.mono HK4.out.size))
      go_wp2_with (fail)
      refine (awake11_calls _).mono ?_
      rintro e w6 ⟨he, k6⟩
      subst he
      have HP6 := Lib.hid (HP5.out.below k6)
      have HK6 := Lib.hid (HK5.out.trans (k6.mono HK5.out.size))
      clear k6
      go_wp2_with (fail)
      have hmt := tmeetL_calls HP6.out.tab HPR.out HLEN.out ⟨a, 32⟩ ha
      rw [meetL32 HOK.out ha, HML.out] at hmt
      refine Calls.mono hmt ?_
      rintro e w7 ⟨vm, he, ho, k7⟩
      subst he
      obtain ⟨ao, cap, rfl, _⟩ := own_shape ho
      have HK7 := Lib.hid (HK6.out.trans (k7.mono HK6.out.size))
      clear k7 ho hmt
      go_wp2_with (fail)
      go_ret
      exact ⟨rfl, HK7.out⟩
    · have hb := HB.out
      rw [best_some hml] at hb
      refine Calls.mono hb ?_
      rintro e w4 ⟨he, k4⟩
      have he : e = .returned (.tuple #[.agg #[.int .i64 r.id, .int .i64 r.dev, .int .u32 (r.addr : Int), .int .i64 r.bits, .int .i64 r.prio, .int .i64 r.out], .bool true]) := he
      subst he
      have HP4 := Lib.hid (HP3.out.below k4)
      have HK4 := Lib.hid (HK3.out.trans (k4.mono HK3.out.size))
      have HKB := Lib.hid ((Below.refl w4.heap.size w4).alloc (Nat.le_refl _) (.cells #[.int .i64 r.id, .int .i64 r.dev, .int .u32 (r.addr : Int), .int .i64 r.bits, .int .i64 r.prio, .int .i64 r.out] 26))
      have HXB := Lib.hid (heap_alloc_new w4 (.cells #[.int .i64 r.id, .int .i64 r.dev, .int .u32 (r.addr : Int), .int .i64 r.bits, .int .i64 r.prio, .int .i64 r.out] 26))
      have HML := Lib.hid hml
      clear k4 hb hml
      go_upto_region 7 with (fail)
      generalize hbz : w4.alloc (.cells #[.int .i64 r.id, .int .i64 r.dev, .int .u32 (r.addr : Int), .int .i64 r.bits, .int .i64 r.prio, .int .i64 r.out] 26) = w5 at *
      clear hbz
      have HP5 := Lib.hid (HP4.out.below HKB.out)
      have HK5 := Lib.hid (HK4.out.trans (HKB.out.mono HK4.out.size))
      have HF7 : Hid (w4.heap.size ≠ mb ∧ w4.heap.size ∉ F) := Lib.hid ⟨by have := HP4.out.tab.map.lt; omega, fun hm => by have := HP4.out.tab.lt _ hm; omega⟩
      go_wp2_with (fail)
      have hmt := tmeetL_calls HP5.out.tab HPR.out HLEN.out ⟨a, 32⟩ ha
      rw [meetL32 HOK.out ha, HML.out] at hmt
      refine Calls.mono hmt ?_
      rintro e w6 ⟨vm, he, ho, k6⟩
      subst he
      obtain ⟨ao, cap, rfl, hcap, hao⟩ := own_shape ho
      obtain ⟨g, rfl⟩ := hao 0 (by simp)
      obtain ⟨M, hN⟩ : ∃ M, M + 1 = (r :: rest).length := ⟨_, rfl⟩
      rw [← hN] at hcap
      have ho' := ho
      rw [← hN] at ho'
      have hv' : (Value.slice (some ⟨g, 0, none⟩) (r :: rest).length cap) = .slice (some ⟨g, 0, none⟩) (M + 1) cap := by rw [hN]
      rw [hv']
      have HNN := Lib.hid hN
      clear hv' hN
      have HG : Hid (∀ g', (Value.slice (some ⟨g, 0, none⟩) (M + 1) cap).ownBlock = some g' → g' ≠ mb ∧ g' ∉ F) := Lib.hid (fun g' e => by
        have h1 : w5.heap.size ≤ g' := by cases e; exact (own_lt ho (g := g) rfl).1
        have := HP5.out.tab.map.lt
        exact ⟨by omega, fun hm => by have := HP5.out.tab.lt _ hm; omega⟩)
      have hst : Bst W w6 W.heap.size p mb v F L l l (.slice (some ⟨g, 0, none⟩) (M + 1) cap) (r :: rest) [(w4.heap.size, r)] :=
        ⟨HP5.out.below k6, HPR.out, HLEN.out, (by have h3 := ho.mono (Nat.zero_le _); rw [← HNN.out] at h3 ⊢; exact h3), fun y hy => by
          obtain rfl : y = (w4.heap.size, r) := by simpa using hy
          exact (k6.block _ (lt_of_block HXB.out)).trans HXB.out, HK5.out.trans (k6.mono HK5.out.size), Nat.le_refl _⟩
      clear hmt hao ho ho' k6
      go_upto_region 10 with (fail)
      have hB1 := hst.drew
      have hS1 := hB1.row0
      have hS2 := (hB1.boxes (w4.heap.size, r) (by simp)).cells
      simp only at hS2
      have HRM := Lib.hid (best_mem HML.out)
      have HRI := Lib.hid (HOK.out r HRM.out).2.2
      clear hst
      go_region_held3 (fun w' => (w'.cell? ⟨g, 0, none⟩ = some (.int .i64 r.id) ∧ w'.cell? ⟨g, 1, none⟩ = some (.int .i64 r.dev) ∧ w'.cell? ⟨g, 2, none⟩ = some (.int .u32 (r.addr : Int)) ∧ w'.cell? ⟨g, 3, none⟩ = some (.int .i64 r.bits) ∧ w'.cell? ⟨g, 4, none⟩ = some (.int .i64 r.prio) ∧ w'.cell? ⟨g, 5, none⟩ = some (.int .i64 r.out)) ∧
          (w'.cell? ⟨w4.heap.size, 0, none⟩ = some (.int .i64 r.id) ∧ w'.cell? ⟨w4.heap.size, 1, none⟩ = some (.int .i64 r.dev) ∧ w'.cell? ⟨w4.heap.size, 2, none⟩ = some (.int .u32 (r.addr : Int)) ∧ w'.cell? ⟨w4.heap.size, 3, none⟩ = some (.int .i64 r.bits) ∧ w'.cell? ⟨w4.heap.size, 4, none⟩ = some (.int .i64 r.prio) ∧ w'.cell? ⟨w4.heap.size, 5, none⟩ = some (.int .i64 r.out)))
        (first | assumption | exact ⟨by assumption, by assumption⟩)
        (first | (go_at_call 23; refine Calls.mono (Bst.drop (by assumption) HRM.out HRI.out HG.out (fun y hy => by obtain rfl : y = (w4.heap.size, r) := (by simpa using hy); exact HF7.out)) ?_; rintro e w' ⟨rfl, F', hB⟩; have hS1 := hB.row0; have hS2 := (hB.boxes (w4.heap.size, r) (by simp)).cells; simp only at hS2))
      have HBD := Lib.hid hB
      clear hB hS1 hS2 hB1
      go_wp2_with (fail)
      have hb2 := tbestL_calls HBD.out.play.tab HBD.out.pair HBD.out.len a ha
      rw [second HPR.out HML.out] at hb2
      cases rest with
      | nil =>
        obtain rfl : M = 0 := by have := HNN.out; simpa using this
        refine Calls.mono hb2 ?_
        rintro e w8 ⟨he, k8⟩
        have he : e = .returned (.tuple #[.agg #[.int .i64 0, .int .i64 0, .int .u32 0, .int .i64 0, .int .i64 0, .int .i64 0], .bool false]) := he
        subst he
        have HB8 := Lib.hid (HBD.out.next k8)
        have HKC := Lib.hid ((Below.refl w8.heap.size w8).alloc (Nat.le_refl _) (.cells #[.int .i64 0, .int .i64 0, .int .u32 0, .int .i64 0, .int .i64 0, .int .i64 0] 26))
        clear k8 hb2
        go_upto_region 13 with (fail)
        generalize w8.alloc (.cells #[.int .i64 0, .int .i64 0, .int .u32 0, .int .i64 0, .int .i64 0, .int .i64 0] 26) = w9 at *
        have HB9 := Lib.hid (HB8.out.next HKC.out).drew
        go_region
        go_wp2_with (fail)
        refine (awake11_calls _).mono ?_
        rintro e w10 ⟨he, k10⟩
        subst he
        have HB10 := Lib.hid (HB9.out.next k10)
        have hx := (HB10.out.boxes (w4.heap.size, r) (by simp)).cells
        simp only at hx
        clear k10
        go_wp2_with (fail)
        have hadd := tabadd_calls HB10.out.play.tab HB10.out.len r (HOK.out r HRM.out).1 HRI.out
        rw [add_back HPR.out HRM.out (HOK.out r HRM.out)] at hadd
        refine Calls.mono hadd ?_
        rintro e w11 ⟨he, hpost⟩
        subst he
        obtain ⟨F3, hP11, hb11, _⟩ := HB10.out.play.tab_step hpost
        have HP11 := Lib.hid hP11
        have HK11 := Lib.hid (HB10.out.kept.trans hb11)
        have HPB := Lib.hid (back_pair HPR.out HRM.out)
        have HLB : Hid ((r :: (dropT L r.id).1).length < 100000) := Lib.hid (by rw [← HPB.out.perm.length_eq, HPR.out.perm.length_eq]; exact HLEN.out)
        clear hadd hpost hP11 hb11 hx
        go_wp2_with (fail)
        refine (trulesL_calls HP11.out.tab HPB.out HLB.out).mono ?_
        rintro e w12 ⟨vr2, he, ho, k12⟩
        subst he
        have HP12 := Lib.hid (HP11.out.below k12)
        have HK12 := Lib.hid (HK11.out.trans (k12.mono HK11.out.size))
        have HO2 := Lib.hid ho
        clear ho k12
        go_wp2_with (fail)
        refine (same_calls HO2.out HP12.out.row HLL.out).mono ?_
        rintro e w13 ⟨he, k13⟩
        subst he
        have k13 := k13.below (Nat.le_refl _) (by simp)
        have HK13 := Lib.hid (HK12.out.trans (k13.mono HK12.out.size))
        clear k13
        go_wp2_with (fail)
        go_ret
        exact ⟨rfl, HK13.out⟩
      | cons s rest =>
        have hN4 : 0 < M := by have := HNN.out; simp at this; omega
        have hN5 : (1 : Int) < (M : Int) + 1 := by omega
        have hN6 : decide ((1 : Int) < (M : Int) + 1) = true := decide_eq_true hN5
        refine Calls.mono hb2 ?_
        rintro e w8 ⟨he, k8⟩
        have he : e = .returned (.tuple #[.agg #[.int .i64 s.id, .int .i64 s.dev, .int .u32 (s.addr : Int), .int .i64 s.bits, .int .i64 s.prio, .int .i64 s.out], .bool true]) := he
        subst he
        have HB8 := Lib.hid (HBD.out.next k8)
        have HKC := Lib.hid ((Below.refl w8.heap.size w8).alloc (Nat.le_refl _) (.cells #[.int .i64 s.id, .int .i64 s.dev, .int .u32 (s.addr : Int), .int .i64 s.bits, .int .i64 s.prio, .int .i64 s.out] 26))
        have HXC := Lib.hid (heap_alloc_new w8 (.cells #[.int .i64 s.id, .int .i64 s.dev, .int .u32 (s.addr : Int), .int .i64 s.bits, .int .i64 s.prio, .int .i64 s.out] 26))
        clear k8 hb2
        go_upto_region 13 with (fail)
        generalize w8.alloc (.cells #[.int .i64 s.id, .int .i64 s.dev, .int .u32 (s.addr : Int), .int .i64 s.bits, .int .i64 s.prio, .int .i64 s.out] 26) = w9 at *
        have hB9 : Bst W w9 W.heap.size p mb v F' (dropT L r.id).1 l (dropT l r.id).1 (.slice (some ⟨g, 0, none⟩) (M + 1) cap) (r :: s :: rest) [(w4.heap.size, r), (w8.heap.size, s)] := by
          have h8 := HB8.out.next HKC.out
          refine ⟨h8.play, h8.pair, h8.len, h8.own, fun y hy => ?_, h8.kept, h8.low⟩
          rcases List.mem_cons.1 hy with rfl | hy
          · exact h8.boxes _ (by simp)
          · obtain rfl : y = (w8.heap.size, s) := by simpa using hy
            exact HXC.out
        have hB1 := hB9.drew
        have hS0 := hB1.row1
        have hS2 := (hB1.boxes (w4.heap.size, r) (by simp)).cells
        have hS3 := (hB1.boxes (w8.heap.size, s) (by simp)).cells
        simp only at hS2 hS3
        have HCMP := Lib.hid (second_ahead HPR.out HML.out)
        clear hB9
        go_region_held3 (fun w' => (w'.cell? ⟨g, 6, none⟩ = some (.int .i64 s.id) ∧ w'.cell? ⟨g, 7, none⟩ = some (.int .i64 s.dev) ∧ w'.cell? ⟨g, 8, none⟩ = some (.int .u32 (s.addr : Int)) ∧ w'.cell? ⟨g, 9, none⟩ = some (.int .i64 s.bits) ∧ w'.cell? ⟨g, 10, none⟩ = some (.int .i64 s.prio) ∧ w'.cell? ⟨g, 11, none⟩ = some (.int .i64 s.out)) ∧
            (w'.cell? ⟨w4.heap.size, 0, none⟩ = some (.int .i64 r.id) ∧ w'.cell? ⟨w4.heap.size, 1, none⟩ = some (.int .i64 r.dev) ∧ w'.cell? ⟨w4.heap.size, 2, none⟩ = some (.int .u32 (r.addr : Int)) ∧ w'.cell? ⟨w4.heap.size, 3, none⟩ = some (.int .i64 r.bits) ∧ w'.cell? ⟨w4.heap.size, 4, none⟩ = some (.int .i64 r.prio) ∧ w'.cell? ⟨w4.heap.size, 5, none⟩ = some (.int .i64 r.out)) ∧
            (w'.cell? ⟨w8.heap.size, 0, none⟩ = some (.int .i64 s.id) ∧ w'.cell? ⟨w8.heap.size, 1, none⟩ = some (.int .i64 s.dev) ∧ w'.cell? ⟨w8.heap.size, 2, none⟩ = some (.int .u32 (s.addr : Int)) ∧ w'.cell? ⟨w8.heap.size, 3, none⟩ = some (.int .i64 s.bits) ∧ w'.cell? ⟨w8.heap.size, 4, none⟩ = some (.int .i64 s.prio) ∧ w'.cell? ⟨w8.heap.size, 5, none⟩ = some (.int .i64 s.out)))
          (first | assumption | exact ⟨by assumption, by assumption, by assumption⟩)
          (first | (go_at_call 15; refine Calls.mono (Bst.compare (by assumption) HCMP.out) ?_; rintro e w' ⟨rfl, hB⟩; have hS0 := hB.row1; have hS2 := (hB.boxes (w4.heap.size, r) (by simp)).cells; have hS3 := (hB.boxes (w8.heap.size, s) (by simp)).cells; simp only at hS2 hS3))
        have HB9 := Lib.hid hB
        clear hB hS0 hS2 hS3 hB1
        go_wp2_with (fail)
        refine (awake11_calls _).mono ?_
        rintro e w10 ⟨he, k10⟩
        subst he
        have HB10 := Lib.hid (HB9.out.next k10)
        have hx := (HB10.out.boxes (w4.heap.size, r) (by simp)).cells
        simp only at hx
        clear k10
        go_wp2_with (fail)
        have hadd := tabadd_calls HB10.out.play.tab HB10.out.len r (HOK.out r HRM.out).1 HRI.out
        rw [add_back HPR.out HRM.out (HOK.out r HRM.out)] at hadd
        refine Calls.mono hadd ?_
        rintro e w11 ⟨he, hpost⟩
        subst he
        obtain ⟨F3, hP11, hb11, _⟩ := HB10.out.play.tab_step hpost
        have HP11 := Lib.hid hP11
        have HK11 := Lib.hid (HB10.out.kept.trans hb11)
        have HPB := Lib.hid (back_pair HPR.out HRM.out)
        have HLB : Hid ((r :: (dropT L r.id).1).length < 100000) := Lib.hid (by rw [← HPB.out.perm.length_eq, HPR.out.perm.length_eq]; exact HLEN.out)
        clear hadd hpost hP11 hb11 hx
        go_wp2_with (fail)
        refine (trulesL_calls HP11.out.tab HPB.out HLB.out).mono ?_
        rintro e w12 ⟨vr2, he, ho, k12⟩
        subst he
        have HP12 := Lib.hid (HP11.out.below k12)
        have HK12 := Lib.hid (HK11.out.trans (k12.mono HK11.out.size))
        have HO2 := Lib.hid ho
        clear ho k12
        go_wp2_with (fail)
        refine (same_calls HO2.out HP12.out.row HLL.out).mono ?_
        rintro e w13 ⟨he, k13⟩
        subst he
        have k13 := k13.below (Nat.le_refl _) (by simp)
        have HK13 := Lib.hid (HK12.out.trans (k13.mono HK12.out.size))
        clear k13
        go_wp2_with (fail)
        go_ret
        exact ⟨rfl, HK13.out⟩

theorem bests_row {W : World} (v0 : Value) (a : Int) (h0 : ArgOps W v0) (h1 : (Lit.int .u32 a).wf = true) :
    Calls Try.prog 4 #[v0, .int .u32 a] W fun e w' => e = .returned (.bool true) ∧ Below W.heap.size W w' := by
  obtain ⟨ops, h0⟩ := ops_in h0
  obtain ⟨m, rfl, hm⟩ := nat_of_u32 h1
  exact bests_calls h0 m hm
end Go.Proofs.Ytiedhjmnjpkcoaa
