/- The law TablePlays. -/
import Derived.Test.YtiedhjmnjpkcoaaPlaysA
namespace Go.Proofs.Ytiedhjmnjpkcoaa
set_option linter.unusedVariables false
set_option linter.unusedSimpArgs false
open Go.RowKit

/-- The shape of a row's value. -/
theorem own_shape {w : World} {b : Nat} {v : Value} {l : List Rl} (h : w.ownsRow b 26 6 v l.length (rlCells l)) : ∃ ao cap, v = .slice ao l.length cap ∧ l.length ≤ cap ∧ ∀ i, i < l.length → ∃ g, ao = some ⟨g, 0, none⟩ := by
  rcases h.2 with ⟨h0, h1⟩ | ⟨g', cap', cur, h0, _, _, h3, _⟩
  · exact ⟨none, 0, by rw [h0, h1], by omega, fun i hi => by omega⟩
  · exact ⟨_, cap', h0, h3, fun i _ => ⟨g', rfl⟩⟩

set_option maxRecDepth 100000 in
set_option maxHeartbeats 8000000 in
theorem plays_calls {W : World} {v0 : Value} {ops : List Op} (h : OpsIn W v0 ops) (a : Nat) (ha : a < 2 ^ 32) (q : Pf) (hq : q.addr < 2 ^ 32) :
    Calls Try.prog 5 #[v0, .int .u32 (a : Int), .agg #[.int .u32 (q.addr : Int), .int .i64 q.bits]] W fun e w' => e = .returned (.bool true) ∧ Below W.heap.size W w' := by
  obtain ⟨hwf, ao, cap, rfl, hop⟩ := h
  have HWF := Lib.hid hwf
  have HOP := Lib.hid hop
  clear hwf hop
  have hX0 := heap_alloc_new W (.cells #[.int .u32 (q.addr : Int), .int .i64 q.bits] 24)
  have k0 := (Below.refl W.heap.size W).alloc (Nat.le_refl _) (.cells #[.int .u32 (q.addr : Int), .int .i64 q.bits] 24)
  have hz0 : (W.alloc (.cells #[.int .u32 (q.addr : Int), .int .i64 q.bits] 24)).heap.size = W.heap.size + 1 := by simp
  have HX0 := Lib.hid hX0
  have HK0 := Lib.hid k0
  clear hX0 k0
  by_cases hn : 60 < ops.length
  · have hn' : (60 : Int) < ops.length := by omega
    go_enter Try.func5, Try.ntmps5
    go_wp2_with (fail)
    refine (awake11_calls _).mono ?_
    rintro e w7 ⟨he, k7⟩
    subst he
    have K7 := Lib.hid (HK0.out.trans (k7.mono HK0.out.size))
    go_wp2_with (fail)
    go_ret
    exact ⟨rfl, K7.out⟩
  · have hn' : ¬ (60 : Int) < ops.length := by omega
    go_enter Try.func5, Try.ntmps5
    go_wp2_with (fail)
    generalize W.alloc (.cells #[.int .u32 (q.addr : Int), .int .i64 q.bits] 24) = W1 at *
    refine (tnew_calls W1).mono ?_
    rintro e w1 ⟨p, mb, he, hT, hp, hm, hk⟩
    subst he
    have HPL : Hid (PlayAt w1 W1.heap.size p mb (.slice none 0 0) [p] [] []) := Lib.hid (PlayAt.mk hT (World.ownsRow_nil _ _ _ _) (fun g hg => by simp [Value.ownBlock] at hg) ⟨hm, by simpa using hp⟩ hk.size)
    have HK := Lib.hid hk
    clear hT hk
    go_wp2_with (fail)
    go_loopg [8, 31] ops.length (fun gk vm vi wr => ∃ (i : Nat) (F : List Nat) (L l : List Rl), i + gk = ops.length ∧ vi = .int .i64 (i : Int) ∧ PlayAt wr W1.heap.size p mb vm F L l ∧ Pair L l ∧ L.length ≤ i ∧ Below W1.heap.size W1 wr)
    case atStart => exact ⟨0, [p], [], [], by omega, rfl, HPL.out, Pair.nil, by simp, HK.out⟩
    case round =>
      obtain ⟨i, F, L, l, hgk, rfl, hP, hpr, hL, hk⟩ := hrel
      have HP := Lib.hid hP
      have HPR := Lib.hid hpr
      have HK2 := Lib.hid hk
      have HK2' := Lib.hid (HK0.out.trans (hk.mono HK0.out.size))
      have hLl : l.length = L.length := hpr.perm.length_eq
      clear hP hpr
      by_cases hlt : i < ops.length
      · obtain ⟨b, off, rfl, hat, hb⟩ := HOP.out i hlt
        have hc := hat.cells hb HK2'.out i hlt
        have hw := HWF.out _ (List.getElem_mem hlt)
        generalize ops[i] = o at *
        obtain ⟨del, r⟩ := o
        simp only at hc hw
        have HWR := Lib.hid hw
        clear hat hw hk
        have hX := heap_alloc_new wr (.cells #[.bool del, .int .i64 r.id, .int .i64 r.dev, .int .u32 (r.addr : Int), .int .i64 r.bits, .int .i64 r.prio, .int .i64 r.out] 47)
        have HX := Lib.hid hX
        have HKA := Lib.hid ((Below.refl wr.heap.size wr).alloc (Nat.le_refl _) (.cells #[.bool del, .int .i64 r.id, .int .i64 r.dev, .int .u32 (r.addr : Int), .int .i64 r.bits, .int .i64 r.prio, .int .i64 r.out] 47))
        clear hX
        go_upto_region 11 with (fail)
        generalize wr.alloc (.cells #[.bool del, .int .i64 r.id, .int .i64 r.dev, .int .u32 (r.addr : Int), .int .i64 r.bits, .int .i64 r.prio, .int .i64 r.out] 47) = wa at *
        cases del with
        | true =>
          have hpa := HP.out.below HKA.out
          have dz := And.intro (cell_of HX.out 0) (cell_of HX.out 1)
          simp only [List.getElem?_toArray, List.getElem?_cons_zero, List.getElem?_cons_succ] at dz
          go_wp2_with (fail)
          refine (tabdrop_calls hpa.tab (by omega) r.id HWR.out.2.1).mono ?_
          rintro e w2 ⟨he, hpost⟩
          subst he
          obtain ⟨F2, hP2, hb2, hx2⟩ := hpa.tab_step hpost
          have hX2 := (hx2 wr.heap.size (lt_of_block HX.out) (by have := HP.out.tab.map.lt; omega) (fun hm => by have := HP.out.tab.lt _ hm; omega)).trans HX.out
          have d1 := cell_of hX2 1
          simp only [List.getElem?_toArray, List.getElem?_cons_zero, List.getElem?_cons_succ] at d1
          have HP2 := Lib.hid hP2
          have HX2 := Lib.hid hX2
          have HK3 := Lib.hid (HK2.out.trans ((HKA.out.mono HK2.out.size).trans hb2))
          clear hpa hpost hP2 hb2 hx2 hX2 dz
          go_wp2_with (fail)
          refine (rdrop_calls HP2.out.row (by omega) HPR.out.ids r.id).mono ?_
          rintro e w3 ⟨v', he, hro, hb3⟩
          have HP3 := Lib.hid (HP2.out.row_step hro hb3)
          have HK4 := Lib.hid (HK3.out.trans (hb3.mono HK3.out.size))
          have HX4 := Lib.hid ((hb3.block _ (lt_of_block HX2.out)).trans HX2.out)
          have HAD := Lib.hid (HPR.out.drop r.id).1
          rw [(HPR.out.drop r.id).2] at he
          subst he
          have hL3 : (dropT L r.id).1.length ≤ i + 1 := by have := drop_len L r.id; omega
          clear hro hb3
          generalize (dropT L r.id).1 = L3 at *
          generalize (dropT l r.id).1 = l3 at *
          generalize (dropT L r.id).2 = c3 at *
          have HL3 : Hid (l3.length = L3.length) := Lib.hid HAD.out.perm.length_eq
          obtain ⟨ao3, cap3, rfl, hcap3, hao3⟩ := own_shape HP3.out.row
          have d1 := cell_of HX4.out 1
          simp only [List.getElem?_toArray, List.getElem?_cons_zero, List.getElem?_cons_succ] at d1
          have hl3' : (l3.length : Int) = L3.length := by have := HL3.out; omega
          go_wp2_with (fail)
          refine (tlen_calls HP3.out.tab).mono ?_
          rintro e w4 ⟨he, rfl⟩
          subst he
          go_wp2_with (fail)
          have hg := tget_calls HP3.out.tab r.id HWR.out.2.1
          rw [HAD.out.find r.id] at hg
          obtain ⟨s, hs⟩ : ∃ s, s = (findR l3 r.id).getD noRule := ⟨_, rfl⟩
          obtain ⟨bf, hbf⟩ : ∃ bf, bf = (findR l3 r.id).isSome := ⟨_, rfl⟩
          rw [← hs, ← hbf] at hg
          have HS := Lib.hid hs
          have HBF := Lib.hid hbf
          clear hs hbf
          refine Calls.mono hg ?_
          rintro e w5 ⟨he, k5⟩
          have he : e = .returned (.tuple #[.agg #[.int .i64 s.id, .int .i64 s.dev, .int .u32 (s.addr : Int), .int .i64 s.bits, .int .i64 s.prio, .int .i64 s.out], .bool bf]) := he
          subst he
          have HP5 := Lib.hid (HP3.out.below k5)
          have HX5 := Lib.hid ((k5.block _ (lt_of_block HX4.out)).trans HX4.out)
          have HK5 := Lib.hid (HK4.out.trans (k5.mono HK4.out.size))
          have HXS := Lib.hid (heap_alloc_new w5 (.cells #[.int .i64 s.id, .int .i64 s.dev, .int .u32 (s.addr : Int), .int .i64 s.bits, .int .i64 s.prio, .int .i64 s.out] 26))
          have HKS := Lib.hid ((Below.refl w5.heap.size w5).alloc (Nat.le_refl _) (.cells #[.int .i64 s.id, .int .i64 s.dev, .int .u32 (s.addr : Int), .int .i64 s.bits, .int .i64 s.prio, .int .i64 s.out] 26))
          clear k5 hg d1 hl3'
          go_upto_region 20 with (fail)
          generalize w5.alloc (.cells #[.int .i64 s.id, .int .i64 s.dev, .int .u32 (s.addr : Int), .int .i64 s.bits, .int .i64 s.prio, .int .i64 s.out] 26) = w6 at *
          have HP6 := Lib.hid (HP5.out.below HKS.out)
          have HX6 := Lib.hid ((HKS.out.block _ (lt_of_block HX5.out)).trans HX5.out)
          have HK6 := Lib.hid (HK5.out.trans (HKS.out.mono HK5.out.size))
          go_wp2_with (fail)
          have hl3b : l3.length ≤ 61 := by have := HL3.out; omega
          generalize wr.heap.size = xc at *
          generalize gk = gko at *
          go_loopg [15, 81] l3.length (fun gk2 vf vj w8 => ∃ (j : Nat) (f : Bool), j + gk2 = l3.length ∧ vj = .int .i64 (j : Int) ∧ vf = .bool f ∧ (f = true ↔ ∃ x ∈ l3.take j, x.id = r.id) ∧ Below w6.heap.size w6 w8)
          case atStart => exact ⟨0, false, by omega, rfl, rfl, by simp, Below.refl _ _⟩
          case round =>
            obtain ⟨j, f, hgk2, rfl, rfl, hf, hk8⟩ := hrel
            have HF := Lib.hid hf
            have HK8 := Lib.hid hk8
            have HP8 := Lib.hid (HP6.out.below hk8)
            clear hf
            by_cases hj : j < l3.length
            · obtain ⟨g, rfl⟩ := hao3 j hj
              have hcc := fun t (ht : t < 6) => (HP8.out.row.cellAt (j * 6 + t) (by omega)).trans (rlCells_at l3 j hj t ht)
              have e0 := hcc 0 (by omega)
              have e1 := hcc 1 (by omega)
              have e2 := hcc 2 (by omega)
              have e3 := hcc 3 (by omega)
              have e4 := hcc 4 (by omega)
              have e5 := hcc 5 (by omega)
              clear hcc
              have HTK : Hid (l3.take (j + 1) = l3.take j ++ [l3[j]]) := Lib.hid (by rw [List.take_add_one, List.getElem?_eq_getElem hj]; rfl)
              have HXM : Hid (l3[j] ∈ l3) := Lib.hid (List.getElem_mem hj)
              generalize l3[j] = x at *
              simp [Rl.cells] at e0 e1 e2 e3 e4 e5
              have HXX := Lib.hid (heap_alloc_new wr (.cells #[.int .i64 x.id, .int .i64 x.dev, .int .u32 (x.addr : Int), .int .i64 x.bits, .int .i64 x.prio, .int .i64 x.out] 26))
              have HKX := Lib.hid ((Below.refl wr.heap.size wr).alloc (Nat.le_refl _) (.cells #[.int .i64 x.id, .int .i64 x.dev, .int .u32 (x.addr : Int), .int .i64 x.bits, .int .i64 x.prio, .int .i64 x.out] 26))
              clear hk8
              go_upto_region 24 with (fail)
              generalize wr.alloc (.cells #[.int .i64 x.id, .int .i64 x.dev, .int .u32 (x.addr : Int), .int .i64 x.bits, .int .i64 x.prio, .int .i64 x.out] 26) = w9 at *
              clear e0 e1 e2 e3 e4 e5
              have HK9 := Lib.hid (HK8.out.trans (HKX.out.mono HK8.out.size))
              have dx := And.intro (cell_of HXX.out 0) (And.intro (cell_of HXX.out 1) (And.intro (cell_of HXX.out 2) (And.intro (cell_of HXX.out 3) (And.intro (cell_of HXX.out 4) (cell_of HXX.out 5)))))
              have hS9 := (HK9.out.mono (by have := HKS.out.size; omega) |>.block _ (lt_of_block HXS.out)).trans HXS.out
              have ds := And.intro (cell_of hS9 0) (And.intro (cell_of hS9 1) (And.intro (cell_of hS9 2) (And.intro (cell_of hS9 3) (And.intro (cell_of hS9 4) (cell_of hS9 5)))))
              have hC9 := (HK9.out.block _ (lt_of_block HX6.out)).trans HX6.out
              have dc := cell_of hC9 1
              simp only [List.getElem?_toArray, List.getElem?_cons_zero, List.getElem?_cons_succ] at dx ds dc
              clear hS9 hC9
              cases f with
              | true =>
                go_wp2_with (fail)
                go_roundg (gk - 1)
                case measure => omega
                case rel =>
                  refine ⟨j + 1, true, by omega, by go_num, rfl, Iff.intro (fun _ => ?_) (fun _ => rfl), HK9.out⟩
                  obtain ⟨y, hy, hyi⟩ := HF.out.1 (by simp)
                  exact ⟨y, by rw [HTK.out]; exact List.mem_append_left _ hy, hyi⟩
              | false =>
                by_cases hx : x.id = r.id
                · have hsx : s = x := by rw [HS.out, ← hx, find_mem HAD.out.ids HXM.out]; rfl
                  subst hsx
                  go_wp2_with (fail)
                  go_roundg (gk - 1)
                  case measure => omega
                  case rel =>
                    exact ⟨j + 1, true, by omega, by go_num, rfl, Iff.intro (fun _ => ⟨_, by rw [HTK.out]; simp, hx⟩) (fun _ => rfl), HK9.out⟩
                · go_wp2_with (fail)
                  go_roundg (gk - 1)
                  case measure => omega
                  case rel =>
                    refine ⟨j + 1, false, by omega, by go_num, rfl, Iff.intro (fun h => by simp at h) (fun ⟨y, hy, hyi⟩ => ?_), HK9.out⟩
                    rw [HTK.out] at hy
                    rcases List.mem_append.1 hy with hy | hy
                    · exact absurd (HF.out.2 ⟨y, hy, hyi⟩) (by simp)
                    · obtain rfl : y = x := by simpa using hy
                      exact absurd hyi hx
            · obtain rfl : j = l3.length := by omega
              have hfb : f = bf := by
                have h1 := HF.out
                rw [List.take_length] at h1
                rw [HBF.out, Bool.eq_iff_iff, h1, findR_isSome]
              subst hfb
              have HKE := Lib.hid (HK6.out.trans (hk8.mono HK6.out.size))
              clear hk8
              cases f <;> (
                go_wp2_with (fail)
                go_roundg (gko - 1)
                case measure => omega
                case rel => exact ⟨i + 1, F2, L3, l3, by omega, by go_num, HP8.out, HAD.out, hL3, HKE.out⟩)
        | false =>
          have hpa := HP.out.below HKA.out
          have dz := And.intro (cell_of HX.out 0) (And.intro (cell_of HX.out 1) (And.intro (cell_of HX.out 2) (And.intro (cell_of HX.out 3) (And.intro (cell_of HX.out 4) (And.intro (cell_of HX.out 5) (cell_of HX.out 6))))))
          simp only [List.getElem?_toArray, List.getElem?_cons_zero, List.getElem?_cons_succ] at dz
          go_wp2_with (fail)
          refine (tabadd_calls hpa.tab (by omega) r HWR.out.1 HWR.out.2.1).mono ?_
          rintro e w2 ⟨he, hpost⟩
          subst he
          obtain ⟨F2, hP2, hb2, hx2⟩ := hpa.tab_step hpost
          have hX2 := (hx2 wr.heap.size (lt_of_block HX.out) (by have := HP.out.tab.map.lt; omega) (fun hm => by have := HP.out.tab.lt _ hm; omega)).trans HX.out
          have dx := And.intro (cell_of hX2 1) (And.intro (cell_of hX2 2) (And.intro (cell_of hX2 3) (And.intro (cell_of hX2 4) (And.intro (cell_of hX2 5) (cell_of hX2 6)))))
          simp only [List.getElem?_toArray, List.getElem?_cons_zero, List.getElem?_cons_succ] at dx
          have HP2 := Lib.hid hP2
          have HX2 := Lib.hid hX2
          have HK3 := Lib.hid (HK2.out.trans ((HKA.out.mono HK2.out.size).trans hb2))
          clear hpa hpost hP2 hb2 hx2 hX2 dz
          go_wp2_with (fail)
          refine (radd_calls HP2.out.row (by omega) r HWR.out.1).mono ?_
          rintro e w3 ⟨v', fo, he, hadd, hro, hb3⟩
          have HP3 := Lib.hid (HP2.out.row_step hro hb3)
          have HK4 := Lib.hid (HK3.out.trans (hb3.mono HK3.out.size))
          have HX4 := Lib.hid ((hb3.block _ (lt_of_block HX2.out)).trans HX2.out)
          have HAD := Lib.hid (HPR.out.add hadd).1
          rw [(HPR.out.add hadd).2] at he
          subst he
          have hL3 : (addT L r).1.length ≤ i + 1 := by have := add_len L r; omega
          clear hro hb3 hadd
          generalize (addT L r).1 = L3 at *
          generalize fo.1 = l3 at *
          generalize (addT L r).2 = c3 at *
          have HL3 : Hid (l3.length = L3.length) := Lib.hid HAD.out.perm.length_eq
          obtain ⟨ao3, cap3, rfl, hcap3, hao3⟩ := own_shape HP3.out.row
          have d1 := cell_of HX4.out 1
          simp only [List.getElem?_toArray, List.getElem?_cons_zero, List.getElem?_cons_succ] at d1
          have hl3' : (l3.length : Int) = L3.length := by have := HL3.out; omega
          go_wp2_with (fail)
          refine (tlen_calls HP3.out.tab).mono ?_
          rintro e w4 ⟨he, rfl⟩
          subst he
          go_wp2_with (fail)
          have hg := tget_calls HP3.out.tab r.id HWR.out.2.1
          rw [HAD.out.find r.id] at hg
          obtain ⟨s, hs⟩ : ∃ s, s = (findR l3 r.id).getD noRule := ⟨_, rfl⟩
          obtain ⟨bf, hbf⟩ : ∃ bf, bf = (findR l3 r.id).isSome := ⟨_, rfl⟩
          rw [← hs, ← hbf] at hg
          have HS := Lib.hid hs
          have HBF := Lib.hid hbf
          clear hs hbf
          refine Calls.mono hg ?_
          rintro e w5 ⟨he, k5⟩
          have he : e = .returned (.tuple #[.agg #[.int .i64 s.id, .int .i64 s.dev, .int .u32 (s.addr : Int), .int .i64 s.bits, .int .i64 s.prio, .int .i64 s.out], .bool bf]) := he
          subst he
          have HP5 := Lib.hid (HP3.out.below k5)
          have HX5 := Lib.hid ((k5.block _ (lt_of_block HX4.out)).trans HX4.out)
          have HK5 := Lib.hid (HK4.out.trans (k5.mono HK4.out.size))
          have HXS := Lib.hid (heap_alloc_new w5 (.cells #[.int .i64 s.id, .int .i64 s.dev, .int .u32 (s.addr : Int), .int .i64 s.bits, .int .i64 s.prio, .int .i64 s.out] 26))
          have HKS := Lib.hid ((Below.refl w5.heap.size w5).alloc (Nat.le_refl _) (.cells #[.int .i64 s.id, .int .i64 s.dev, .int .u32 (s.addr : Int), .int .i64 s.bits, .int .i64 s.prio, .int .i64 s.out] 26))
          clear k5 hg d1 hl3'
          go_upto_region 20 with (fail)
          generalize w5.alloc (.cells #[.int .i64 s.id, .int .i64 s.dev, .int .u32 (s.addr : Int), .int .i64 s.bits, .int .i64 s.prio, .int .i64 s.out] 26) = w6 at *
          have HP6 := Lib.hid (HP5.out.below HKS.out)
          have HX6 := Lib.hid ((HKS.out.block _ (lt_of_block HX5.out)).trans HX5.out)
          have HK6 := Lib.hid (HK5.out.trans (HKS.out.mono HK5.out.size))
          go_wp2_with (fail)
          have hl3b : l3.length ≤ 61 := by have := HL3.out; omega
          generalize wr.heap.size = xc at *
          generalize gk = gko at *
          go_loopg [15, 81] l3.length (fun gk2 vf vj w8 => ∃ (j : Nat) (f : Bool), j + gk2 = l3.length ∧ vj = .int .i64 (j : Int) ∧ vf = .bool f ∧ (f = true ↔ ∃ x ∈ l3.take j, x.id = r.id) ∧ Below w6.heap.size w6 w8)
          case atStart => exact ⟨0, false, by omega, rfl, rfl, by simp, Below.refl _ _⟩
          case round =>
            obtain ⟨j, f, hgk2, rfl, rfl, hf, hk8⟩ := hrel
            have HF := Lib.hid hf
            have HK8 := Lib.hid hk8
            have HP8 := Lib.hid (HP6.out.below hk8)
            clear hf
            by_cases hj : j < l3.length
            · obtain ⟨g, rfl⟩ := hao3 j hj
              have hcc := fun t (ht : t < 6) => (HP8.out.row.cellAt (j * 6 + t) (by omega)).trans (rlCells_at l3 j hj t ht)
              have e0 := hcc 0 (by omega)
              have e1 := hcc 1 (by omega)
              have e2 := hcc 2 (by omega)
              have e3 := hcc 3 (by omega)
              have e4 := hcc 4 (by omega)
              have e5 := hcc 5 (by omega)
              clear hcc
              have HTK : Hid (l3.take (j + 1) = l3.take j ++ [l3[j]]) := Lib.hid (by rw [List.take_add_one, List.getElem?_eq_getElem hj]; rfl)
              have HXM : Hid (l3[j] ∈ l3) := Lib.hid (List.getElem_mem hj)
              generalize l3[j] = x at *
              simp [Rl.cells] at e0 e1 e2 e3 e4 e5
              have HXX := Lib.hid (heap_alloc_new wr (.cells #[.int .i64 x.id, .int .i64 x.dev, .int .u32 (x.addr : Int), .int .i64 x.bits, .int .i64 x.prio, .int .i64 x.out] 26))
              have HKX := Lib.hid ((Below.refl wr.heap.size wr).alloc (Nat.le_refl _) (.cells #[.int .i64 x.id, .int .i64 x.dev, .int .u32 (x.addr : Int), .int .i64 x.bits, .int .i64 x.prio, .int .i64 x.out] 26))
              clear hk8
              go_upto_region 24 with (fail)
              generalize wr.alloc (.cells #[.int .i64 x.id, .int .i64 x.dev, .int .u32 (x.addr : Int), .int .i64 x.bits, .int .i64 x.prio, .int .i64 x.out] 26) = w9 at *
              clear e0 e1 e2 e3 e4 e5
              have HK9 := Lib.hid (HK8.out.trans (HKX.out.mono HK8.out.size))
              have dx := And.intro (cell_of HXX.out 0) (And.intro (cell_of HXX.out 1) (And.intro (cell_of HXX.out 2) (And.intro (cell_of HXX.out 3) (And.intro (cell_of HXX.out 4) (cell_of HXX.out 5)))))
              have hS9 := (HK9.out.mono (by have := HKS.out.size; omega) |>.block _ (lt_of_block HXS.out)).trans HXS.out
              have ds := And.intro (cell_of hS9 0) (And.intro (cell_of hS9 1) (And.intro (cell_of hS9 2) (And.intro (cell_of hS9 3) (And.intro (cell_of hS9 4) (cell_of hS9 5)))))
              have hC9 := (HK9.out.block _ (lt_of_block HX6.out)).trans HX6.out
              have dc := cell_of hC9 1
              simp only [List.getElem?_toArray, List.getElem?_cons_zero, List.getElem?_cons_succ] at dx ds dc
              clear hS9 hC9
              cases f with
              | true =>
                go_wp2_with (fail)
                go_roundg (gk - 1)
                case measure => omega
                case rel =>
                  refine ⟨j + 1, true, by omega, by go_num, rfl, Iff.intro (fun _ => ?_) (fun _ => rfl), HK9.out⟩
                  obtain ⟨y, hy, hyi⟩ := HF.out.1 (by simp)
                  exact ⟨y, by rw [HTK.out]; exact List.mem_append_left _ hy, hyi⟩
              | false =>
                by_cases hx : x.id = r.id
                · have hsx : s = x := by rw [HS.out, ← hx, find_mem HAD.out.ids HXM.out]; rfl
                  subst hsx
                  go_wp2_with (fail)
                  go_roundg (gk - 1)
                  case measure => omega
                  case rel =>
                    exact ⟨j + 1, true, by omega, by go_num, rfl, Iff.intro (fun _ => ⟨_, by rw [HTK.out]; simp, hx⟩) (fun _ => rfl), HK9.out⟩
                · go_wp2_with (fail)
                  go_roundg (gk - 1)
                  case measure => omega
                  case rel =>
                    refine ⟨j + 1, false, by omega, by go_num, rfl, Iff.intro (fun h => by simp at h) (fun ⟨y, hy, hyi⟩ => ?_), HK9.out⟩
                    rw [HTK.out] at hy
                    rcases List.mem_append.1 hy with hy | hy
                    · exact absurd (HF.out.2 ⟨y, hy, hyi⟩) (by simp)
                    · obtain rfl : y = x := by simpa using hy
                      exact absurd hyi hx
            · obtain rfl : j = l3.length := by omega
              have hfb : f = bf := by
                have h1 := HF.out
                rw [List.take_length] at h1
                rw [HBF.out, Bool.eq_iff_iff, h1, findR_isSome]
              subst hfb
              have HKE := Lib.hid (HK6.out.trans (hk8.mono HK6.out.size))
              clear hk8
              cases f <;> (
                go_wp2_with (fail)
                go_roundg (gko - 1)
                case measure => omega
                case rel => exact ⟨i + 1, F2, L3, l3, by omega, by go_num, HP8.out, HAD.out, hL3, HKE.out⟩)
      · obtain rfl : i = ops.length := by omega
        clear hk
        have hlen : L.length < 100000 := by omega
        have HLEN := Lib.hid hlen
        obtain ⟨s, hs⟩ : ∃ s, s = (l.find? (hasR a)).getD noRule := ⟨_, rfl⟩
        obtain ⟨bo, hbo⟩ : ∃ bo, bo = (l.find? (hasR a)).isSome := ⟨_, rfl⟩
        have hrow := HP.out.row
        have HB1 : Hid (∀ W, PlayAt W W1.heap.size p mb u8 F L l → Calls Try.prog 21 #[.pointer (some ⟨p, 0, none⟩), .int .u32 (a : Int)] W fun e w' => e = .returned (.tuple #[.agg #[.int .i64 s.id, .int .i64 s.dev, .int .u32 (s.addr : Int), .int .i64 s.bits, .int .i64 s.prio, .int .i64 s.out], .bool bo]) ∧ Below W.heap.size W w') := Lib.hid (fun W hP => by
          have := tbestL_calls hP.tab HPR.out HLEN.out a ha
          rw [← hs, ← hbo] at this
          exact this)
        have HB2 : Hid (∀ W, PlayAt W W1.heap.size p mb u8 F L l → Calls Try.prog 30 #[u8, .int .u32 (a : Int)] W fun e w' => e = .returned (.tuple #[.agg #[.int .i64 s.id, .int .i64 s.dev, .int .u32 (s.addr : Int), .int .i64 s.bits, .int .i64 s.prio, .int .i64 s.out], .bool bo]) ∧ Below W.heap.size W w') := Lib.hid (fun W hP => by
          have := rbest_calls hP.row (fun r hr => hP.tab.ok r (HPR.out.perm.mem_iff.1 hr)) (by have := HLEN.out; omega) a ha
          rw [← hs, ← hbo] at this
          exact this)
        clear hs hbo hrow
        go_wp2_with (fail)
        refine (HB1.out _ HP.out).mono ?_
        rintro e w2 ⟨he, k2⟩
        subst he
        have HP2 := Lib.hid (HP.out.below k2)
        have HK3 := Lib.hid (HK2.out.trans (k2.mono HK2.out.size))
        have HX3 := Lib.hid (heap_alloc_new w2 (.cells #[.int .i64 s.id, .int .i64 s.dev, .int .u32 (s.addr : Int), .int .i64 s.bits, .int .i64 s.prio, .int .i64 s.out] 26))
        have HKB := Lib.hid ((Below.refl w2.heap.size w2).alloc (Nat.le_refl _) (.cells #[.int .i64 s.id, .int .i64 s.dev, .int .u32 (s.addr : Int), .int .i64 s.bits, .int .i64 s.prio, .int .i64 s.out] 26))
        clear k2
        go_upto_region 30 with (fail)
        generalize w2.alloc (.cells #[.int .i64 s.id, .int .i64 s.dev, .int .u32 (s.addr : Int), .int .i64 s.bits, .int .i64 s.prio, .int .i64 s.out] 26) = w3 at *
        have HP3 := Lib.hid (HP2.out.below HKB.out)
        go_wp2_with (fail)
        refine (HB2.out _ HP3.out).mono ?_
        rintro e w4 ⟨he, k4⟩
        subst he
        have HP4 := Lib.hid (HP3.out.below k4)
        have HX4 := Lib.hid ((k4.block _ (lt_of_block HX3.out)).trans HX3.out)
        have HK4 := Lib.hid (HK3.out.trans ((HKB.out.trans (k4.mono HKB.out.size)).mono HK3.out.size))
        have HX5 := Lib.hid (heap_alloc_new w4 (.cells #[.int .i64 s.id, .int .i64 s.dev, .int .u32 (s.addr : Int), .int .i64 s.bits, .int .i64 s.prio, .int .i64 s.out] 26))
        have HKC := Lib.hid ((Below.refl w4.heap.size w4).alloc (Nat.le_refl _) (.cells #[.int .i64 s.id, .int .i64 s.dev, .int .u32 (s.addr : Int), .int .i64 s.bits, .int .i64 s.prio, .int .i64 s.out] 26))
        clear k4
        go_upto_region 31 with (fail)
        generalize w4.alloc (.cells #[.int .i64 s.id, .int .i64 s.dev, .int .u32 (s.addr : Int), .int .i64 s.bits, .int .i64 s.prio, .int .i64 s.out] 26) = w5 at *
        have hfin : Fin W w5 W1.heap.size p mb u8 F L l W.heap.size w2.heap.size w4.heap.size q s := by
          have hk5 := HK4.out.trans (HKC.out.mono HK4.out.size)
          refine ⟨HP4.out.below HKC.out, HPR.out, HLEN.out, hq, ?_, (HKC.out.block _ (lt_of_block HX4.out)).trans HX4.out, HX5.out, HK0.out.trans (hk5.mono HK0.out.size)⟩
          exact (hk5.block _ (by omega)).trans HX0.out
        have hB1 := hfin.drew
        have hS1 := hB1.cells
        clear hfin
        go_region_held3 (fun w' => w'.cell? ⟨W.heap.size, 0, none⟩ = some (.int .u32 (q.addr : Int)) ∧ w'.cell? ⟨W.heap.size, 1, none⟩ = some (.int .i64 q.bits) ∧
            w'.cell? ⟨w2.heap.size, 0, none⟩ = some (.int .i64 s.id) ∧ w'.cell? ⟨w2.heap.size, 1, none⟩ = some (.int .i64 s.dev) ∧ w'.cell? ⟨w2.heap.size, 2, none⟩ = some (.int .u32 (s.addr : Int)) ∧ w'.cell? ⟨w2.heap.size, 3, none⟩ = some (.int .i64 s.bits) ∧ w'.cell? ⟨w2.heap.size, 4, none⟩ = some (.int .i64 s.prio) ∧ w'.cell? ⟨w2.heap.size, 5, none⟩ = some (.int .i64 s.out) ∧
            w'.cell? ⟨w4.heap.size, 0, none⟩ = some (.int .i64 s.id) ∧ w'.cell? ⟨w4.heap.size, 1, none⟩ = some (.int .i64 s.dev) ∧ w'.cell? ⟨w4.heap.size, 2, none⟩ = some (.int .u32 (s.addr : Int)) ∧ w'.cell? ⟨w4.heap.size, 3, none⟩ = some (.int .i64 s.bits) ∧ w'.cell? ⟨w4.heap.size, 4, none⟩ = some (.int .i64 s.prio) ∧ w'.cell? ⟨w4.heap.size, 5, none⟩ = some (.int .i64 s.out)) (first | assumption | exact (Fin.cells (by assumption)))
          (first | (go_at_call 17; refine Calls.mono (Fin.awake (by assumption)) ?_; rintro e w' ⟨rfl, hB⟩; have hS := hB.cells) | (go_at_call 20; refine Calls.mono (Fin.rules (by assumption)) ?_; rintro e w' ⟨vr, rfl, hO, hB⟩; have hS := hB.cells) | (go_at_call 22; refine Calls.mono (Fin.meet (by assumption)) ?_; rintro e w' ⟨vm, rfl, hO, hB⟩; have hS := hB.cells) | (go_at_call 31; refine Calls.mono (Fin.rmeet (by assumption) (by assumption)) ?_; rintro e w' ⟨vn, rfl, hO1, hO2, hB⟩; have hS := hB.cells) | (go_at_call 19; refine Calls.mono (Fin.same1 (by assumption) (by assumption)) ?_; rintro e w' ⟨rfl, hB⟩; have hS := hB.cells) | (go_at_call 19; refine Calls.mono (Fin.same2 (by assumption) (by assumption) (by assumption)) ?_; rintro e w' ⟨rfl, hB⟩; have hS := hB.cells))
        all_goals
          go_wp2_with (fail)
          go_ret
          exact ⟨rfl, hB.kept⟩

theorem plays_row {W : World} (v0 : Value) (a : Int) (v2 : Value) (h0 : ArgOps W v0) (h1 : (Lit.int .u32 a).wf = true) (h2 : ArgPf v2) :
    Calls Try.prog 5 #[v0, .int .u32 a, v2] W fun e w' => e = .returned (.bool true) ∧ Below W.heap.size W w' := by
  obtain ⟨ops, h0⟩ := ops_in h0
  obtain ⟨m, rfl, hm⟩ := nat_of_u32 h1
  obtain ⟨q, hq, _, rfl⟩ := h2
  exact plays_calls h0 m hm q hq
end Go.Proofs.Ytiedhjmnjpkcoaa
