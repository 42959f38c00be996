/- The law TableClones. -/
import Derived.Test.YtiedhjmnjpkcoaaRotP
import Derived.Test.YtiedhjmnjpkcoaaNilT
import Derived.Test.YtiedhjmnjpkcoaaPlays
namespace Go.Proofs.Ytiedhjmnjpkcoaa
set_option linter.unusedVariables false
set_option linter.unusedSimpArgs false
open Go.RowKit

theorem lone {w : World} {B p mb : Nat} {F : List Nat} {L : List Rl} (h : TabAt w p mb F L) (h1 : B ≤ mb) (h2 : ∀ x ∈ F, B ≤ x) (h3 : B ≤ w.heap.size) : PlayAt w B p mb (.slice none 0 0) F L [] :=
  PlayAt.mk h (World.ownsRow_nil _ _ _ _) (fun g hg => by simp [Value.ownBlock] at hg) ⟨h1, h2⟩ h3

set_option maxRecDepth 100000 in
set_option maxHeartbeats 8000000 in
theorem clones_calls {W : World} {v0 v1 : Value} {ops ops2 : List Op} (h : OpsIn W v0 ops) (h2 : OpsIn W v1 ops2) (b : Nat) (hb : b < 256) :
    Calls Try.prog 7 #[v0, v1, .int .u8 (b : Int)] W fun e w' => e = .returned (.bool true) ∧ Below W.heap.size W w' := by
  have h' := h
  obtain ⟨_, ao0, cap0, rfl, _⟩ := h'
  obtain ⟨hwf2, ao2, cap2, rfl, hop2⟩ := h2
  have HWF2 := Lib.hid hwf2
  have HOP2 := Lib.hid hop2
  clear hwf2 hop2
  by_cases hn : 40 < ops.length ∨ 40 < ops2.length
  · go_enter Try.func7, Try.ntmps7
    rcases Nat.lt_or_ge 40 ops.length with hn1 | hn1
    · have hn1' : (40 : Int) < ops.length := by omega
      go_wp2_with (fail)
      refine (awake11_calls _).mono ?_
      rintro e w7 ⟨he, k7⟩
      subst he
      have K7 := Lib.hid k7
      go_wp2_with (fail)
      go_ret
      exact ⟨rfl, K7.out⟩
    · have hn1' : ¬ (40 : Int) < ops.length := by omega
      have hn2' : (40 : Int) < ops2.length := by omega
      go_wp2_with (fail)
      refine (awake11_calls _).mono ?_
      rintro e w7 ⟨he, k7⟩
      subst he
      have K7 := Lib.hid k7
      go_wp2_with (fail)
      go_ret
      exact ⟨rfl, K7.out⟩
  · have hn1' : ¬ (40 : Int) < ops.length := by omega
    have hn2' : ¬ (40 : Int) < ops2.length := by omega
    have HM := Lib.hid (made_calls h (by omega))
    clear h
    go_enter Try.func7, Try.ntmps7
    go_wp2_with (fail)
    refine Calls.mono HM.out ?_
    rintro e w1 ⟨p, mb, v, F, L, l, he, hP, hpr, hL, hk⟩
    subst he
    have hLb : L.length ≤ 40 := by omega
    have HPR := Lib.hid hpr
    have HLEN : Hid (L.length < 100000) := Lib.hid (by omega)
    have HOK : Hid (∀ r ∈ l, r.Ok) := Lib.hid (fun r hr => hP.tab.ok r (hpr.perm.mem_iff.1 hr))
    have HLL : Hid (l.length < 1000000) := Lib.hid (by have := hpr.small HLEN.out; omega)
    have hlb : l.length ≤ 40 := by rw [hpr.perm.length_eq]; exact hLb
    obtain ⟨ao, cap, rfl, hcap, hao⟩ := own_shape hP.row
    have HP := Lib.hid hP
    have HK := Lib.hid hk
    have HAO := Lib.hid hao
    clear hP hpr hk hL HM hao
    go_wp2_with (fail)
    refine (tclone_calls HP.out.tab HLEN.out).mono ?_
    rintro e w2 ⟨p1, mb1, F1, he, _, _, _, k2⟩
    subst he
    have HP2 := Lib.hid (HP.out.below k2)
    have HK2 := Lib.hid (HK.out.trans (k2.mono HK.out.size))
    clear k2
    go_wp2_with (fail)
    refine (tclone_calls HP2.out.tab HLEN.out).mono ?_
    rintro e w3 ⟨p2, mb2, F2, he, hT2, hF2, hm2, k3⟩
    subst he
    have HC3 := Lib.hid (lone hT2 hm2 hF2 k3.size)
    have HK3 := Lib.hid k3
    clear hT2 hF2 hm2 k3
    go_wp2_with (fail)
    go_loopg [44] ops2.length (fun gk vi wr => ∃ (i : Nat) (F3 : List Nat) (L3 : List Rl), i + gk = ops2.length ∧ vi = .int .i64 (i : Int) ∧ PlayAt wr w2.heap.size p2 mb2 (.slice none 0 0) F3 L3 [] ∧ L3.length ≤ 40 + i ∧ Below w2.heap.size w2 wr)
    case atStart => exact ⟨0, F2, L, by omega, rfl, HC3.out, by omega, HK3.out⟩
    case round =>
      obtain ⟨i, F3, L3, hgk, rfl, hP3, hL3, hk3⟩ := hrel
      have HP3 := Lib.hid hP3
      have HKI := Lib.hid hk3
      clear hP3
      by_cases hlt : i < ops2.length
      · obtain ⟨bb, off, rfl, hat, hbb⟩ := HOP2.out i hlt
        have hc := hat.cells hbb (HK2.out.trans (hk3.mono HK2.out.size)) i hlt
        have hw := HWF2.out _ (List.getElem_mem hlt)
        generalize ops2[i] = o at *
        obtain ⟨del, r⟩ := o
        simp only at hc hw
        have HWR := Lib.hid hw
        clear hat hw hk3
        have HX := Lib.hid (heap_alloc_new wr (.cells #[.bool del, .int .i64 r.id, .int .i64 r.dev, .int .u32 (r.addr : Int), .int .i64 r.bits, .int .i64 r.prio, .int .i64 r.out] 47))
        have HKA := Lib.hid ((Below.refl wr.heap.size wr).alloc (Nat.le_refl _) (.cells #[.bool del, .int .i64 r.id, .int .i64 r.dev, .int .u32 (r.addr : Int), .int .i64 r.bits, .int .i64 r.prio, .int .i64 r.out] 47))
        go_upto_region 10 with (fail)
        generalize wr.alloc (.cells #[.bool del, .int .i64 r.id, .int .i64 r.dev, .int .u32 (r.addr : Int), .int .i64 r.bits, .int .i64 r.prio, .int .i64 r.out] 47) = wa at *
        have hpa := HP3.out.below HKA.out
        have dz := cell_of HX.out 1
        simp only [List.getElem?_toArray, List.getElem?_cons_zero, List.getElem?_cons_succ] at dz
        go_wp2_with (fail)
        refine (tabdrop_calls hpa.tab (by omega) r.id HWR.out.2.1).mono ?_
        rintro e w4 ⟨he, hpost⟩
        subst he
        obtain ⟨F4, hP4, hb4, hx4⟩ := hpa.tab_step hpost
        have hX4 := (hx4 wr.heap.size (lt_of_block HX.out) (by have := HP3.out.tab.map.lt; omega) (fun hm => by have := HP3.out.tab.lt _ hm; omega)).trans HX.out
        have dx := And.intro (cell_of hX4 1) (And.intro (cell_of hX4 2) (And.intro (cell_of hX4 3) (And.intro (cell_of hX4 4) (And.intro (cell_of hX4 5) (cell_of hX4 6)))))
        simp only [List.getElem?_toArray, List.getElem?_cons_zero, List.getElem?_cons_succ] at dx
        have HP4 := Lib.hid hP4
        have HK4 := Lib.hid (HKI.out.trans ((HKA.out.mono HKI.out.size).trans hb4))
        have hL4 : (dropT L3 r.id).1.length ≤ 40 + i := by have := drop_len L3 r.id; omega
        clear hpa hpost hP4 hb4 hx4 hX4 dz
        generalize (dropT L3 r.id).1 = L4 at *
        go_wp2_with (fail)
        refine (tabadd_calls HP4.out.tab (by omega) r HWR.out.1 HWR.out.2.1).mono ?_
        rintro e w5 ⟨he, hpost⟩
        subst he
        obtain ⟨F5, hP5, hb5, _⟩ := HP4.out.tab_step hpost
        have HP5 := Lib.hid hP5
        have HK5 := Lib.hid (HK4.out.trans hb5)
        clear hpost hP5 hb5
        go_wp2_with (fail)
        go_roundg (gk - 1)
        case measure => omega
        case rel => exact ⟨i + 1, F5, _, by omega, by go_num, HP5.out, by have := add_len L4 r; omega, HK5.out⟩
      · obtain rfl : i = ops2.length := by omega
        clear hk3
        have HPM := Lib.hid (HP2.out.below HKI.out)
        have HKM := Lib.hid (HK2.out.trans (HKI.out.mono HK2.out.size))
        clear HP3
        go_wp2_with (fail)
        refine (trulesL_calls HPM.out.tab HPR.out HLEN.out).mono ?_
        rintro e w6 ⟨vr, he, ho, k6⟩
        subst he
        have HP6 := Lib.hid (HPM.out.below k6)
        have HK6 := Lib.hid (HKM.out.trans (k6.mono HKM.out.size))
        have HO := Lib.hid ho
        clear ho k6
        go_wp2_with (fail)
        refine (same_calls HO.out HP6.out.row HLL.out).mono ?_
        rintro e w7 ⟨he, k7⟩
        subst he
        have k7 := k7.below (Nat.le_refl _) (by simp)
        have HP7 := Lib.hid (HP6.out.below k7)
        have HK7 := Lib.hid (HK6.out.trans (k7.mono HK6.out.size))
        clear k7
        go_wp2_with (fail)
        refine (tclone_calls HP7.out.tab HLEN.out).mono ?_
        rintro e w8 ⟨p4, mb4, F4, he, hT4, _, _, k8⟩
        subst he
        have HT4 := Lib.hid hT4
        have HP8 := Lib.hid (HP7.out.below k8)
        have HK8 := Lib.hid (HK7.out.trans (k8.mono HK7.out.size))
        clear hT4 k8
        go_wp2_with (fail)
        refine (trulesL_calls HT4.out HPR.out HLEN.out).mono ?_
        rintro e w9 ⟨vr2, he, ho, k9⟩
        subst he
        have HP9 := Lib.hid (HP8.out.below k9)
        have HK9 := Lib.hid (HK8.out.trans (k9.mono HK8.out.size))
        have HO2 := Lib.hid ho
        clear ho k9
        go_wp2_with (fail)
        refine (same_calls HO2.out HP9.out.row HLL.out).mono ?_
        rintro e w10 ⟨he, k10⟩
        subst he
        have k10 := k10.below (Nat.le_refl _) (by simp)
        have HP10 := Lib.hid (HP9.out.below k10)
        have HK10 := Lib.hid (HK9.out.trans (k10.mono HK9.out.size))
        clear k10
        go_wp2_with (fail)
        refine (tnew_calls _).mono ?_
        rintro e w11 ⟨p3, mb3, he, hT, hp, hm, hk⟩
        subst he
        have HQ11 := Lib.hid (lone hT hm (by simpa using hp) hk.size)
        have HK11 := Lib.hid hk
        clear hT hp hm hk
        go_wp2_with (fail)
        go_loopg [74] l.length (fun gk vi wr => ∃ (i : Nat) (F3 : List Nat), i + gk = l.length ∧ vi = .int .i64 (i : Int) ∧ PlayAt wr w10.heap.size p3 mb3 (.slice none 0 0) F3 (rotL l b i).reverse [] ∧ Below w10.heap.size w10 wr)
        case atStart => exact ⟨0, [p3], by omega, rfl, HQ11.out, HK11.out⟩
        case round =>
          obtain ⟨i, F3, hgk, rfl, hP3, hk3⟩ := hrel
          have HP3 := Lib.hid hP3
          have HKI := Lib.hid hk3
          clear hP3
          by_cases hlt : i < l.length
          · obtain ⟨g, rfl⟩ := HAO.out i hlt
            obtain ⟨x, hx⟩ : ∃ x, x = (i + b) % l.length := ⟨_, rfl⟩
            have hxl : x < l.length := by rw [hx]; exact Nat.mod_lt _ (by omega)
            have hrow := (HP10.out.below hk3).row
            have hcc := fun t (ht : t < 6) => (hrow.cellAt (x * 6 + t) (by omega)).trans (rlCells_at l x hxl t ht)
            have e0 := hcc 0 (by omega)
            have e1 := hcc 1 (by omega)
            have e2 := hcc 2 (by omega)
            have e3 := hcc 3 (by omega)
            have e4 := hcc 4 (by omega)
            have e5 := hcc 5 (by omega)
            clear hcc hrow hk3
            have hadd := rot_add (b := b) HPR.out HOK.out hlt
            rw [← hx, getElem!_pos l x hxl] at hadd
            have hrl := HP3.out.tab.ok
            have HR : Hid (l[x].Ok) := Lib.hid (HOK.out _ (List.getElem_mem hxl))
            generalize l[x] = r at *
            simp [Rl.cells] at e0 e1 e2 e3 e4 e5
            have hsum : (i : Int) + (b : Int) = ((i + b : Nat) : Int) := by omega
            have hrem : Int.tmod ((i : Int) + (b : Int)) (l.length : Int) = (x : Int) := by
              rw [hsum, hx, ← Int.ofNat_tmod]
            have HADD := Lib.hid hadd
            have hxi : (0 : Int) ≤ ((i : Int) + (b : Int)) % (l.length : Int) := Int.emod_nonneg _ (by omega)
            have hxj : ((i : Int) + (b : Int)) % (l.length : Int) < (l.length : Int) := Int.emod_lt_of_pos _ (by omega)
            have hl0 : ¬ (l.length : Int) = 0 := by omega
            clear hadd hrl hsum hrem
            subst hx
            go_wp2_with (fail)
            refine Calls.mono (tabadd_calls HP3.out.tab (by rw [List.length_reverse, rot_len]; omega) r HR.out.1 HR.out.2.2) ?_
            rintro e w12 ⟨he, hpost⟩
            rw [HADD.out] at he hpost
            subst he
            obtain ⟨F5, hP5, hb5, _⟩ := HP3.out.tab_step hpost
            have HP5 := Lib.hid hP5
            have HK5 := Lib.hid (HKI.out.trans hb5)
            clear hpost hP5 hb5
            go_wp2_with (fail)
            go_roundg (gk - 1)
            case measure => omega
            case rel => exact ⟨i + 1, F5, by omega, by go_num, HP5.out, HK5.out⟩
          · obtain rfl : i = l.length := by omega
            clear hk3
            have HPN := Lib.hid (HP10.out.below HKI.out)
            have HKN := Lib.hid (HK10.out.trans (HKI.out.mono HK10.out.size))
            have HRP := Lib.hid (rot_pair HPR.out b)
            have HRL : Hid ((rotL l b l.length).reverse.length < 100000) := Lib.hid (by rw [List.length_reverse, rot_len]; omega)
            have HTO := Lib.hid HP3.out.tab
            clear HP3
            go_wp2_with (fail)
            refine (tbest_nil _ 1).mono ?_
            rintro e w13 ⟨he, k13⟩
            subst he
            have HPA := Lib.hid (HPN.out.below k13)
            have HTA := Lib.hid (HTO.out.kept (Kept.of_below (S := []) k13) (by simp) (by simp))
            have HKA := Lib.hid (HKN.out.trans (k13.mono HKN.out.size))
            have HKB := Lib.hid ((Below.refl w13.heap.size w13).alloc (Nat.le_refl _) (.cells #[.int .i64 0, .int .i64 0, .int .u32 0, .int .i64 0, .int .i64 0, .int .i64 0] 26))
            clear k13
            go_upto_region 24 with (fail)
            generalize w13.alloc (.cells #[.int .i64 0, .int .i64 0, .int .u32 0, .int .i64 0, .int .i64 0, .int .i64 0] 26) = w14 at *
            have HPB := Lib.hid (HPA.out.below HKB.out)
            have HTB := Lib.hid (HTA.out.kept (Kept.of_below (S := []) HKB.out) (by simp) (by simp))
            have HKC := Lib.hid (HKA.out.trans (HKB.out.mono HKA.out.size))
            go_wp2_with (fail)
            refine (tget_nil _ 1).mono ?_
            rintro e w15 ⟨he, k15⟩
            subst he
            have HPC := Lib.hid (HPB.out.below k15)
            have HTC := Lib.hid (HTB.out.kept (Kept.of_below (S := []) k15) (by simp) (by simp))
            have HKD := Lib.hid (HKC.out.trans (k15.mono HKC.out.size))
            have HKE := Lib.hid ((Below.refl w15.heap.size w15).alloc (Nat.le_refl _) (.cells #[.int .i64 0, .int .i64 0, .int .u32 0, .int .i64 0, .int .i64 0, .int .i64 0] 26))
            clear k15
            go_upto_region 25 with (fail)
            generalize w15.alloc (.cells #[.int .i64 0, .int .i64 0, .int .u32 0, .int .i64 0, .int .i64 0, .int .i64 0] 26) = w16 at *
            have HPD := Lib.hid (HPC.out.below HKE.out)
            have HTD := Lib.hid (HTC.out.kept (Kept.of_below (S := []) HKE.out) (by simp) (by simp))
            have HKF := Lib.hid (HKD.out.trans (HKE.out.mono HKD.out.size))
            go_wp2_with (fail)
            refine (awake11_calls _).mono ?_
            rintro e w17 ⟨he, k17⟩
            subst he
            have HPE := Lib.hid (HPD.out.below k17)
            have HTE := Lib.hid (HTD.out.kept (Kept.of_below (S := []) k17) (by simp) (by simp))
            have HKG := Lib.hid (HKF.out.trans (k17.mono HKF.out.size))
            clear k17
            go_wp2_with (fail)
            refine (trulesL_calls HTE.out HRP.out HRL.out).mono ?_
            rintro e w18 ⟨vr3, he, ho, k18⟩
            subst he
            have HPF := Lib.hid (HPE.out.below k18)
            have HKH := Lib.hid (HKG.out.trans (k18.mono HKG.out.size))
            have HO3 := Lib.hid ho
            clear ho k18
            go_wp2_with (fail)
            refine (same_calls HO3.out HPF.out.row HLL.out).mono ?_
            rintro e w19 ⟨he, k19⟩
            subst he
            have k19 := k19.below (Nat.le_refl _) (by simp)
            have HKI2 := Lib.hid (HKH.out.trans (k19.mono HKH.out.size))
            clear k19
            go_wp2_with (fail)
            refine (tadd_nil _).mono ?_
            rintro e w20 ⟨he, k20⟩
            subst he
            have HKJ := Lib.hid (HKI2.out.trans (k20.mono HKI2.out.size))
            clear k20
            go_wp2_with (fail)
            refine (tdrop_nil _ 1).mono ?_
            rintro e w21 ⟨he, k21⟩
            subst he
            have HKK := Lib.hid (HKJ.out.trans (k21.mono HKJ.out.size))
            clear k21
            go_wp2_with (fail)
            refine (tlen_nil _).mono ?_
            rintro e w22 ⟨he, hw22⟩
            subst he
            subst hw22
            go_wp2_with (fail)
            refine (trules_nil _).mono ?_
            rintro e w23 ⟨he, hw23⟩
            subst he
            subst hw23
            go_wp2_with (fail)
            refine (tclone_nil _).mono ?_
            rintro e w24 ⟨p6, mb6, he, hT6, k24⟩
            subst he
            have HT6 := Lib.hid hT6
            have HKL := Lib.hid (HKK.out.trans (k24.mono HKK.out.size))
            clear k24 hT6
            go_wp2_with (fail)
            refine (tlen_calls HT6.out).mono ?_
            rintro e w25 ⟨he, hw25⟩
            subst he
            subst hw25
            go_wp2_with (fail)
            refine (thidden_nil _ 1).mono ?_
            rintro e w26 ⟨he, k26⟩
            subst he
            have HKM2 := Lib.hid (HKL.out.trans (k26.mono HKL.out.size))
            clear k26
            go_wp2_with (fail)
            go_ret
            exact ⟨rfl, HKM2.out⟩

theorem nat_of_u8 {n : Int} (h : (Lit.int .u8 n).wf = true) : ∃ m : Nat, n = m ∧ m < 256 := by
  have m1 : IntKind.u8.min = 0 := by decide
  have m2 : IntKind.u8.max = 255 := by decide
  simp [Lit.wf, m1, m2] at h
  exact ⟨n.toNat, by omega, by omega⟩
theorem clones_row {W : World} (v0 v1 : Value) (a : Int) (h0 : ArgOps W v0) (h1 : ArgOps W v1) (h2 : (Lit.int .u8 a).wf = true) :
    Calls Try.prog 7 #[v0, v1, .int .u8 a] W fun e w' => e = .returned (.bool true) ∧ Below W.heap.size W w' := by
  obtain ⟨ops, h0⟩ := ops_in h0
  obtain ⟨ops2, h1⟩ := ops_in h1
  obtain ⟨m, rfl, hm⟩ := nat_of_u8 h2
  exact clones_calls h0 h1 m hm
end Go.Proofs.Ytiedhjmnjpkcoaa
