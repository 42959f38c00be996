/- The document's Change of a net: a rule that comes. · Nets: a change of either kind. · The document's Change of a net, of either kind. -/
import Derived.Test.YtiedhjmnjpkcoaaRChgD
import Derived.Test.YtiedhjmnjpkcoaaTopG
import Derived.Test.YtiedhjmnjpkcoaaRNet
namespace Go.Proofs.Ytiedhjmnjpkcoaa
set_option linter.unusedVariables false
set_option linter.unusedSimpArgs false
open Go.RowKit

def RInsPost (ports : List Int) (ls : List (List Rl)) (r : Rl) (B : Nat) (w : World) (vp vl va vr : Value) (rs : List Value) (e : Ending) (w' : World) : Prop :=
  ∃ vr' rs' fo, InsR ports ls r fo ∧ e = .returned (.tuple #[.agg #[vp, vl, va, vr'], .int .i64 fo.2]) ∧ RNetAt w' B vr' rs' fo.1 ∧ (∀ x ∈ rfoot vr' rs', x ∈ rfoot vr rs ∨ w.heap.size ≤ x) ∧ Below w.heap.size w w'
theorem RInsPost.same {ports : List Int} {ls : List (List Rl)} {r r2 : Rl} {B : Nat} {w W : World} {vp vl va vr vo : Value} {rs : List Value} {err : Int} {dl : Bool} (hi : InsR ports ls r (ls, err)) (hc : CA w W dl r2 vp vl va vr vo) (hd : RNetAt W B vr rs ls) (hlo : ∀ x ∈ rfoot vr rs, B ≤ x ∧ x < w.heap.size) :
    RInsPost ports ls r B w vp vl va vr rs (.returned (.tuple #[.agg #[vp, vl, va, vr], .int .i64 err])) (set4 W (w.heap.size + 1 + 1) vp vl va vr) := by
  have hk := kept_set4 W (w.heap.size + 1 + 1) vp vl va vr
  exact ⟨vr, rs, (ls, err), hi, rfl, hd.kept hk (fun x hx hc => by
    have := (hlo x hx).2
    have := List.mem_singleton.1 hc
    omega), fun x hx => Or.inl hx, hc.kept.trans (hk.below hc.kept.size (fun x hx => by rw [List.mem_singleton.1 hx]; omega))⟩

variable {w : World} {B B0 : Nat} {ap al aa : Option Addr} {cp cl ca : Nat} {vr : Value} {rs : List Value} {ls : List (List Rl)} {T : Tp}
set_option maxRecDepth 100000 in
set_option maxHeartbeats 8000000 in
theorem rchg_add (h : RNetAt w B vr rs ls) (hT : TpIn B0 w (.slice ap T.ports.length cp) (.slice al T.links.length cl) (.slice aa T.aces.length ca) T) (hB0 : B0 ≤ w.heap.size) (hBw : B ≤ w.heap.size) (h0 : 0 < ls.length) (hl : ls.length ≤ 40) (hnp : T.ports.length = ls.length) (hL : lenT ls < 100000) (rid rdev : Int) (rad : Nat) (rbi rpr rou : Int) (hra : rad < 2 ^ 32) :
    Calls Try.prog 70 #[.agg #[.slice ap T.ports.length cp, .slice al T.links.length cl, .slice aa T.aces.length ca, vr], .agg #[.bool false, .int .i64 rid, .int .i64 rdev, .int .u32 (rad : Int), .int .i64 rbi, .int .i64 rpr, .int .i64 rou]] w fun e w' => RInsPost T.ports ls ⟨rid, rdev, rad, rbi, rpr, rou⟩ B w (.slice ap T.ports.length cp) (.slice al T.links.length cl) (.slice aa T.aces.length ca) vr rs e w' := by
  have HLT := Lib.hid (fun l (hm : l ∈ ls) => Nat.lt_of_le_of_lt (lenT_mem hm) hL)
  have HT := Lib.hid hT
  have HLL := Lib.hid hL
  have HRA := Lib.hid hra
  have HNP := Lib.hid hnp
  clear hT hL hra hnp
  obtain ⟨i0, hi, hz0, hz1, hz2⟩ := info_parts rowr_info
  have HD := Lib.hid h
  have HLO : Hid (∀ x ∈ rfoot vr rs, B ≤ x ∧ x < w.heap.size) := Lib.hid h.lo
  obtain ⟨g, cap, rfl, hat0⟩ := h.at h0
  clear hat0
  have hNEW := four_new w (.cells #[.slice ap T.ports.length cp, .slice al T.links.length cl, .slice aa T.aces.length ca, .slice (some ⟨g, 0, none⟩) ls.length cap] 69) (.cells #[.bool false, .int .i64 rid, .int .i64 rdev, .int .u32 (rad : Int), .int .i64 rbi, .int .i64 rpr, .int .i64 rou] 47) (.cells #[.slice none 0 0, .slice none 0 0, .slice none 0 0, .slice none 0 0] 69) (.cells #[.slice ap T.ports.length cp, .slice al T.links.length cl, .slice aa T.aces.length ca, .slice none 0 0] 69)
  have hrone : ∀ u ∈ rs, u.oneCell' = true := fun u hu => by
    obtain ⟨i, hi, rfl⟩ := List.mem_iff_getElem.1 hu
    obtain ⟨ao, c, he, _⟩ := own_form (h.each i hi (h.len ▸ hi))
    rw [he]
    rfl
  have hlen := h.len
  have HBW := Lib.hid hBw
  clear h hBw
  have HW0 := Lib.hid hNEW
  have HK4 := Lib.hid hNEW.2.2.2.2
  have hdoc4 := HD.out.below HK4.out
  have HROW : Hid (∀ j u, rs[j]? = some u → ((((w.alloc (.cells #[.slice ap T.ports.length cp, .slice al T.links.length cl, .slice aa T.aces.length ca, .slice (some ⟨g, 0, none⟩) ls.length cap] 69)).alloc (.cells #[.bool false, .int .i64 rid, .int .i64 rdev, .int .u32 (rad : Int), .int .i64 rbi, .int .i64 rpr, .int .i64 rou] 47)).alloc (.cells #[.slice none 0 0, .slice none 0 0, .slice none 0 0, .slice none 0 0] 69)).alloc (.cells #[.slice ap T.ports.length cp, .slice al T.links.length cl, .slice aa T.aces.length ca, .slice none 0 0] 69)).cell? ((⟨g, 0, none⟩ : Addr).add j) = some u) := Lib.hid (by
    intro j u hu
    have hj : j < rs.length := (List.getElem?_eq_some_iff.1 hu).1
    have hr4 := hdoc4.row
    rw [hlen] at hr4
    have hr := hr4.cellAt (j * 1) (by omega)
    rw [add_none, Nat.zero_add]
    rw [Nat.mul_one] at hr
    exact hr.trans hu)
  clear hNEW hdoc4
  go_enter Try.func70, Try.ntmps70
  go_upto_region 2 with (fail)
  generalize (((w.alloc (.cells #[.slice ap T.ports.length cp, .slice al T.links.length cl, .slice aa T.aces.length ca, .slice (some ⟨g, 0, none⟩) ls.length cap] 69)).alloc (.cells #[.bool false, .int .i64 rid, .int .i64 rdev, .int .u32 (rad : Int), .int .i64 rbi, .int .i64 rpr, .int .i64 rou] 47)).alloc (.cells #[.slice none 0 0, .slice none 0 0, .slice none 0 0, .slice none 0 0] 69)).alloc (.cells #[.slice ap T.ports.length cp, .slice al T.links.length cl, .slice aa T.aces.length ca, .slice none 0 0] 69) = w1 at *
  obtain ⟨hA, hB, hC, hD, _⟩ := HW0.out
  have a0 := cell_of hA 0
  have a1 := cell_of hA 1
  have a2 := cell_of hA 2
  have a3 := cell_of hA 3
  have d3 := cell_of hD 3
  simp only [List.getElem?_toArray, List.getElem?_cons_zero, List.getElem?_cons_succ] at a0 a1 a2 a3 d3
  clear hA hB hC hD
  go_upto_region 3 with (at_builtin; go_must (refine wpList_append_lies _ rfl (.tmp 17) (.tmp 19) 67 rfl w.heap.size 33 i0 _ 1 24 Try.underlying67 hi hz0 hz1 hz2 rfl (by decide) (.slice none 0 0) 0 [] rfl (World.ownsRow_nil _ _ _ _) ⟨g, 0, none⟩ ls.length cap rs rfl (by omega) HROW.out hrone h0 ?_ ?_ ?_ _ rfl ?_); (· unfold maxLen; omega); (· omega); (· exact HK4.out.size); intro g9 cap9 w9 how9 hgr9 hat9 hlt9; have HOW9 := Lib.hid how9; have HGR9 := Lib.hid hgr9; have HAT9 := Lib.hid hat9; have hd9 := (hgr9.block (w.heap.size + 1 + 1 + 1) (lt_of_block HW0.out.2.2.2.1) (by simp [Value.ownBlock])).trans HW0.out.2.2.2.1; have e3 := And.intro (cell_of hd9 3) (unfrozen_of hd9 3); simp only [List.getElem?_toArray, List.getElem?_cons_zero, List.getElem?_cons_succ] at e3; clear how9 hgr9 hat9 hlt9 hd9)
  have hown9 := HOW9.out
  simp only [Nat.zero_add, List.nil_append] at hown9
  have hg9 : g9 = w1.heap.size := by
    rcases HAT9.out with e | e
    · simp [Value.ownBlock] at e
    · exact e
  have HCA : Hid (CA w (w9.setCell ⟨w.heap.size + 1 + 1 + 1, 3, none⟩ (.slice (some ⟨g9, 0, none⟩) ls.length cap9)) false ⟨rid, rdev, rad, rbi, rpr, rou⟩ (.slice ap T.ports.length cp) (.slice al T.links.length cl) (.slice aa T.aces.length ca) (.slice (some ⟨g, 0, none⟩) ls.length cap) (.slice (some ⟨g9, 0, none⟩) ls.length cap9)) := Lib.hid (CA.start HW0.out HGR9.out)
  have hkd : Kept [w.heap.size + 1 + 1 + 1] w9 (w9.setCell ⟨w.heap.size + 1 + 1 + 1, 3, none⟩ (.slice (some ⟨g9, 0, none⟩) ls.length cap9)) := Kept.of_setCell w9 ⟨w.heap.size + 1 + 1 + 1, 3, none⟩ _
  have hzz := lt_of_block HW0.out.2.2.2.1
  have HOUT := Lib.hid (own_kept hown9 hkd (fun k hk hm => by
    have : g9 = k := Option.some.inj hk
    rw [List.mem_singleton.1 hm] at this
    omega))
  have HG9 : Hid (w.heap.size + 1 + 1 + 1 < g9) := Lib.hid (by omega)
  have HDOC := Lib.hid (HD.out.below HCA.out.kept)
  clear hown9 hg9 hkd hzz a0 a1 a2 a3 d3
  generalize w9.setCell ⟨w.heap.size + 1 + 1 + 1, 3, none⟩ (.slice (some ⟨g9, 0, none⟩) ls.length cap9) = w2 at *
  clear HOW9 HGR9 HAT9 HROW HW0 HK4
  have HT2 := Lib.hid (HT.out.kept (HCA.out.kept.mono hB0))
  have q0 := cell_of HCA.out.c 0
  have q2 := cell_of HCA.out.c 2
  have q6 := cell_of HCA.out.c 6
  have n0 := cell_of HCA.out.n 0
  have n3 := cell_of HCA.out.n 3
  simp only [List.getElem?_toArray, List.getElem?_cons_zero, List.getElem?_cons_succ] at q0 q2 q6 n0 n3
  have HNI : Hid (∀ err, (rdev < 0 ∨ (ls.length : Int) ≤ rdev) → err = 10 → InsR T.ports ls ⟨rid, rdev, rad, rbi, rpr, rou⟩ (ls, err)) := Lib.hid (fun err h e => by unfold InsR; rw [if_pos h, e])
  by_cases h1 : rdev < 0
  · have hins := HNI.out 10 (Or.inl h1) rfl
    clear q6 n0
    have n0 := cell_of HCA.out.n 0
    have n1 := cell_of HCA.out.n 1
    have n2 := cell_of HCA.out.n 2
    have n3 := cell_of HCA.out.n 3
    have z0 := And.intro (cell_of HCA.out.z 0) (unfrozen_of HCA.out.z 0)
    have z1 := And.intro (cell_of HCA.out.z 1) (unfrozen_of HCA.out.z 1)
    have z2 := And.intro (cell_of HCA.out.z 2) (unfrozen_of HCA.out.z 2)
    have z3 := And.intro (cell_of HCA.out.z 3) (unfrozen_of HCA.out.z 3)
    simp only [List.getElem?_toArray, List.getElem?_cons_zero, List.getElem?_cons_succ] at n0 n1 n2 n3 z0 z1 z2 z3
    go_wp2_with (fail)
    exact bodyPost_ret (v := .tuple #[.agg #[.slice ap T.ports.length cp, .slice al T.links.length cl, .slice aa T.aces.length ca, .slice (some ⟨g, 0, none⟩) ls.length cap], .int .i64 10]) (by simp [results, Try.results70, go_sem, z0, z1, z2, z3]) rfl (RInsPost.same (hins) HCA.out HDOC.out HLO.out)
  · by_cases h2 : (ls.length : Int) ≤ rdev
    · have hins := HNI.out 10 (Or.inr h2) rfl
      have h1' : decide (rdev < 0) = false := decide_eq_false h1
      have h2' : decide ((ls.length : Int) ≤ rdev) = true := decide_eq_true h2
      clear h1 h2 q6 n0
      have n0 := cell_of HCA.out.n 0
      have n1 := cell_of HCA.out.n 1
      have n2 := cell_of HCA.out.n 2
      have n3 := cell_of HCA.out.n 3
      have z0 := And.intro (cell_of HCA.out.z 0) (unfrozen_of HCA.out.z 0)
      have z1 := And.intro (cell_of HCA.out.z 1) (unfrozen_of HCA.out.z 1)
      have z2 := And.intro (cell_of HCA.out.z 2) (unfrozen_of HCA.out.z 2)
      have z3 := And.intro (cell_of HCA.out.z 3) (unfrozen_of HCA.out.z 3)
      simp only [List.getElem?_toArray, List.getElem?_cons_zero, List.getElem?_cons_succ] at n0 n1 n2 n3 z0 z1 z2 z3
      go_wp2_with (fail)
      exact bodyPost_ret (v := .tuple #[.agg #[.slice ap T.ports.length cp, .slice al T.links.length cl, .slice aa T.aces.length ca, .slice (some ⟨g, 0, none⟩) ls.length cap], .int .i64 10]) (by simp [results, Try.results70, go_sem, z0, z1, z2, z3]) rfl (RInsPost.same (hins) HCA.out HDOC.out HLO.out)
    · obtain ⟨d, rfl⟩ : ∃ d : Nat, rdev = d := ⟨rdev.toNat, by omega⟩
      have hdl : d < ls.length := by omega
      have hdp : d < T.ports.length := by have := HNP.out; omega
      have h1' : decide (((d : Nat) : Int) < 0) = false := decide_eq_false h1
      have h2' : decide ((ls.length : Int) ≤ (d : Int)) = false := decide_eq_false h2
      have hno : ¬ (((d : Nat) : Int) < 0 ∨ (ls.length : Int) ≤ (d : Int)) := by omega
      clear h1 h2 HNI
      obtain ⟨bp, op, cp2, hep, hpc⟩ := HT2.out.portAt hdp
      cases hep
      have HNI : Hid (∀ fo, (if rou < -1 ∨ T.ports[d] ≤ rou then fo = (ls, 11) else if hasL ls rid = true then fo = (ls, 4) else ∃ f1, AddS ls[d] ⟨rid, (d : Int), rad, rbi, rpr, rou⟩ f1 ∧ fo = (ls.set d f1.1, f1.2)) → InsR T.ports ls ⟨rid, (d : Int), rad, rbi, rpr, rou⟩ fo) := Lib.hid (fun fo hf => by
        unfold InsR
        rw [if_neg hno]
        simp only [Int.toNat_natCast]
        rw [getElem!_pos T.ports d hdp, getElem!_pos ls d hdl]
        exact hf)
      clear hno
      have h5' : (d : Int) < (T.ports.length : Int) := by omega
      generalize T.ports[d] = y at *
      go_wp2_with (fail)
      have hkd : Below w2.heap.size w2 w2.drew := (Below.refl _ _).drew
      have HCD := Lib.hid (HCA.out.next hkd)
      have HDD := Lib.hid (HDOC.out.below hkd)
      have HOD := Lib.hid (own_kept HOUT.out (Kept.of_below (S := []) hkd) (by simp))
      clear hkd
      by_cases h3 : rou < -1 ∨ y ≤ rou
      · have hins := HNI.out (ls, 11) (by rw [if_pos h3])
        have h4 : decide (rou < -1) = true ∨ (decide (rou < -1) = false ∧ decide (y ≤ rou) = true) := by
          rcases Int.lt_or_le rou (-1) with h | h
          · exact Or.inl (decide_eq_true h)
          · exact Or.inr ⟨decide_eq_false (by omega), decide_eq_true (by omega)⟩
        clear h3
        rcases h4 with h4 | ⟨h4, h5⟩
        · go_region
          clear q0 q2 q6 n0 n3 hpc
          generalize w2.drew = wd at *
          have n0 := cell_of HCD.out.n 0
          have n1 := cell_of HCD.out.n 1
          have n2 := cell_of HCD.out.n 2
          have n3 := cell_of HCD.out.n 3
          have z0 := And.intro (cell_of HCD.out.z 0) (unfrozen_of HCD.out.z 0)
          have z1 := And.intro (cell_of HCD.out.z 1) (unfrozen_of HCD.out.z 1)
          have z2 := And.intro (cell_of HCD.out.z 2) (unfrozen_of HCD.out.z 2)
          have z3 := And.intro (cell_of HCD.out.z 3) (unfrozen_of HCD.out.z 3)
          simp only [List.getElem?_toArray, List.getElem?_cons_zero, List.getElem?_cons_succ] at n0 n1 n2 n3 z0 z1 z2 z3
          go_wp2_with (fail)
          exact bodyPost_ret (v := .tuple #[.agg #[.slice (some ⟨bp, op, none⟩) T.ports.length cp, .slice al T.links.length cl, .slice aa T.aces.length ca, .slice (some ⟨g, 0, none⟩) ls.length cap], .int .i64 11]) (by simp [results, Try.results70, go_sem, z0, z1, z2, z3]) rfl (RInsPost.same (hins) HCD.out HDD.out HLO.out)
        · go_region
          clear q0 q2 q6 n0 n3 hpc
          generalize w2.drew = wd at *
          have n0 := cell_of HCD.out.n 0
          have n1 := cell_of HCD.out.n 1
          have n2 := cell_of HCD.out.n 2
          have n3 := cell_of HCD.out.n 3
          have z0 := And.intro (cell_of HCD.out.z 0) (unfrozen_of HCD.out.z 0)
          have z1 := And.intro (cell_of HCD.out.z 1) (unfrozen_of HCD.out.z 1)
          have z2 := And.intro (cell_of HCD.out.z 2) (unfrozen_of HCD.out.z 2)
          have z3 := And.intro (cell_of HCD.out.z 3) (unfrozen_of HCD.out.z 3)
          simp only [List.getElem?_toArray, List.getElem?_cons_zero, List.getElem?_cons_succ] at n0 n1 n2 n3 z0 z1 z2 z3
          go_wp2_with (fail)
          exact bodyPost_ret (v := .tuple #[.agg #[.slice (some ⟨bp, op, none⟩) T.ports.length cp, .slice al T.links.length cl, .slice aa T.aces.length ca, .slice (some ⟨g, 0, none⟩) ls.length cap], .int .i64 11]) (by simp [results, Try.results70, go_sem, z0, z1, z2, z3]) rfl (RInsPost.same (hins) HCD.out HDD.out HLO.out)
      · have h3' : decide (rou < -1) = false := decide_eq_false (by omega)
        have h4' : decide (y ≤ rou) = false := decide_eq_false (by omega)
        have HNJ := Lib.hid (fun fo hf => HNI.out fo (by rw [if_neg h3]; exact hf))
        clear h3
        go_region
        clear q0 q2 q6 n0 n3 h1' h2' h3' h4' hpc h5' HNI
        generalize w2.drew = wd at *
        have n0 := cell_of HCD.out.n 0
        have n1 := cell_of HCD.out.n 1
        have n2 := cell_of HCD.out.n 2
        have n3 := cell_of HCD.out.n 3
        have q1 := cell_of HCD.out.c 1
        simp only [List.getElem?_toArray, List.getElem?_cons_zero, List.getElem?_cons_succ] at n0 n1 n2 n3 q1
        have HH := Lib.hid (rnhas_calls (vp := .slice (some ⟨bp, op, none⟩) T.ports.length cp) (vl := .slice al T.links.length cl) (va := .slice aa T.aces.length ca) HDD.out hl HLL.out rid)
        go_wp2_with (fail)
        refine Calls.mono HH.out ?_
        rintro e w3 ⟨he, k3⟩
        have HC3 := Lib.hid (HCD.out.next k3)
        have HD3 := Lib.hid (HDD.out.below k3)
        have HO3 := Lib.hid (own_kept HOD.out (Kept.of_below (S := []) k3) (by simp))
        clear k3 n0 n1 n2 n3 q1
        cases hb : hasL ls rid with
        | true =>
          have hins := HNJ.out (ls, 4) (by rw [if_pos hb])
          rw [hb] at he
          subst he
          clear hb
          have n0 := cell_of HC3.out.n 0
          have n1 := cell_of HC3.out.n 1
          have n2 := cell_of HC3.out.n 2
          have n3 := cell_of HC3.out.n 3
          have z0 := And.intro (cell_of HC3.out.z 0) (unfrozen_of HC3.out.z 0)
          have z1 := And.intro (cell_of HC3.out.z 1) (unfrozen_of HC3.out.z 1)
          have z2 := And.intro (cell_of HC3.out.z 2) (unfrozen_of HC3.out.z 2)
          have z3 := And.intro (cell_of HC3.out.z 3) (unfrozen_of HC3.out.z 3)
          simp only [List.getElem?_toArray, List.getElem?_cons_zero, List.getElem?_cons_succ] at n0 n1 n2 n3 z0 z1 z2 z3
          go_wp2_with (fail)
          exact bodyPost_ret (v := .tuple #[.agg #[.slice (some ⟨bp, op, none⟩) T.ports.length cp, .slice al T.links.length cl, .slice aa T.aces.length ca, .slice (some ⟨g, 0, none⟩) ls.length cap], .int .i64 4]) (by simp [results, Try.results70, go_sem, z0, z1, z2, z3]) rfl (RInsPost.same (hins) HC3.out HD3.out HLO.out)
        | false =>
          have HNK := Lib.hid (fun fo hf => HNJ.out fo (by rw [if_neg (by simp [hb])]; exact hf))
          rw [hb] at he
          subst he
          clear hb HNJ
          obtain ⟨gg, capz, aoz, cz, he, e0, hrsi, hO, haz⟩ := HD3.out.rowAt hdl
          cases he
          have HCALL : Hid (∀ W, Below w3.heap.size w3 W → Calls Try.prog 27 #[.slice aoz ls[d].length cz, .agg #[.int .i64 rid, .int .i64 (d : Int), .int .u32 (rad : Int), .int .i64 rbi, .int .i64 rpr, .int .i64 rou]] W fun e w' => ∃ v' l2 e2, e = .returned (.tuple #[v', .int .i64 e2]) ∧ AddS ls[d] ⟨rid, (d : Int), rad, rbi, rpr, rou⟩ (l2, e2) ∧ w'.ownsRow B 26 6 v' l2.length (rlCells l2) ∧ (∀ x, v'.ownBlock = some x → x ∈ rfoot (.slice (some ⟨g, 0, none⟩) ls.length cap) rs ∨ w3.heap.size ≤ x) ∧ Below w3.heap.size w3 w') := Lib.hid (fun W kW => (radd_calls (own_kept hO (Kept.of_below (S := []) kW) (by simp)) (HLT.out _ (List.getElem_mem hdl)) ⟨rid, (d : Int), rad, rbi, rpr, rou⟩ HRA.out).mono (by
            rintro e w' ⟨v', ⟨l2, e2⟩, he, hadd, hro, hk⟩
            have hks := HC3.out.kept.size
            refine ⟨v', l2, e2, he, hadd, row_or (own_kept hO (Kept.of_below (S := []) (kW.trans (hk.mono kW.size))) (by simp)) (Nat.le_trans (Nat.le_trans HBW.out hks) kW.size) hro, fun x hx => ?_, kW.trans (hk.mono kW.size)⟩
            rcases hro with h1 | ⟨h1, _⟩
            · have := (own_ge h1 hx).1
              have := kW.size
              exact Or.inr (by omega)
            · exact Or.inl (mem_rfoot.2 (Or.inr ⟨_, List.mem_of_getElem? hrsi, h1 ▸ hx⟩))))
          have HSELF : Hid (ls.set d ls[d] = ls) := Lib.hid (List.set_getElem_self hdl)
          have HCELL : Hid (∀ W, Below w3.heap.size w3 W → (W.cell? ⟨w.heap.size, 3, none⟩ = some (.slice (some ⟨g, 0, none⟩) ls.length cap) ∧ W.cell? ⟨g, d, none⟩ = some (.slice aoz ls[d].length cz)) ∧ W.cell? ⟨w.heap.size + 1, 1, none⟩ = some (.int .i64 rid) ∧ W.cell? ⟨w.heap.size + 1, 2, none⟩ = some (.int .i64 (d : Int)) ∧ W.cell? ⟨w.heap.size + 1, 3, none⟩ = some (.int .u32 (rad : Int)) ∧ W.cell? ⟨w.heap.size + 1, 4, none⟩ = some (.int .i64 rbi) ∧ W.cell? ⟨w.heap.size + 1, 5, none⟩ = some (.int .i64 rpr) ∧ W.cell? ⟨w.heap.size + 1, 6, none⟩ = some (.int .i64 rou)) := Lib.hid (fun W kW => by
            have hc := (HC3.out.next kW).c
            exact ⟨⟨cell_of (HC3.out.next kW).n 3, (Kept.of_below (S := []) kW).cell e0 (by simp)⟩, cell_of hc 1, cell_of hc 2, cell_of hc 3, cell_of hc 4, cell_of hc 5, cell_of hc 6⟩)
          generalize hls : ls[d] = l at *
          have hdi : (d : Int) < (ls.length : Int) := by omega
          have HLS := Lib.hid hls
          clear hO haz hrsi hls e0
          go_upto_region 19 with (fail)
          have hBW := (Below.refl w3.heap.size w3).drew
          have hS := HCELL.out _ hBW
          go_region_held3 (fun w' => (w'.cell? ⟨w.heap.size, 3, none⟩ = some (.slice (some ⟨g, 0, none⟩) ls.length cap) ∧ w'.cell? ⟨g, d, none⟩ = some (.slice aoz l.length cz)) ∧ w'.cell? ⟨w.heap.size + 1, 1, none⟩ = some (.int .i64 rid) ∧ w'.cell? ⟨w.heap.size + 1, 2, none⟩ = some (.int .i64 (d : Int)) ∧ w'.cell? ⟨w.heap.size + 1, 3, none⟩ = some (.int .u32 (rad : Int)) ∧ w'.cell? ⟨w.heap.size + 1, 4, none⟩ = some (.int .i64 rbi) ∧ w'.cell? ⟨w.heap.size + 1, 5, none⟩ = some (.int .i64 rpr) ∧ w'.cell? ⟨w.heap.size + 1, 6, none⟩ = some (.int .i64 rou)) (first | assumption) (first | (go_at_call 27; refine Calls.mono (HCALL.out _ (by assumption)) ?_; rintro e w' ⟨v', l2, e2, rfl, hadd', hv', hx', hB'⟩; have hS' := HCELL.out _ hB'; have HADD := Lib.hid hadd'; have HV := Lib.hid hv'; have HX := Lib.hid hx'; clear hadd' hv' hx'))
          have HCW := Lib.hid (HC3.out.next hB')
          have HDW := Lib.hid (HD3.out.below hB')
          have HOW := Lib.hid (own_kept HO3.out (Kept.of_below (S := []) hB') (by simp))
          have HGW : Hid (g9 < w3.heap.size ∧ w.heap.size ≤ w3.heap.size) := Lib.hid ⟨own_inN HO3.out rfl, HC3.out.kept.size⟩
          clear hB' hS' hBW hS
          rcases HADD.out with ⟨_, hfo⟩ | ⟨_, _, hfo⟩ | ⟨_, _, k, _, hfo⟩
          · injection hfo with ha hb
            subst ha
            subst hb
            have hins := HNK.out (ls, 13) ⟨(l2, 13), HADD.out, by rw [HSELF.out]⟩
            have n0 := cell_of HCW.out.n 0
            have n1 := cell_of HCW.out.n 1
            have n2 := cell_of HCW.out.n 2
            have n3 := cell_of HCW.out.n 3
            have z0 := And.intro (cell_of HCW.out.z 0) (unfrozen_of HCW.out.z 0)
            have z1 := And.intro (cell_of HCW.out.z 1) (unfrozen_of HCW.out.z 1)
            have z2 := And.intro (cell_of HCW.out.z 2) (unfrozen_of HCW.out.z 2)
            have z3 := And.intro (cell_of HCW.out.z 3) (unfrozen_of HCW.out.z 3)
            simp only [List.getElem?_toArray, List.getElem?_cons_zero, List.getElem?_cons_succ] at n0 n1 n2 n3 z0 z1 z2 z3
            go_wp2_with (fail)
            exact bodyPost_ret (v := .tuple #[.agg #[.slice (some ⟨bp, op, none⟩) T.ports.length cp, .slice al T.links.length cl, .slice aa T.aces.length ca, .slice (some ⟨g, 0, none⟩) ls.length cap], .int .i64 13]) (by simp [results, Try.results70, go_sem, z0, z1, z2, z3]) rfl (RInsPost.same (hins) HCW.out HDW.out HLO.out)
          · injection hfo with ha hb
            subst ha
            subst hb
            have hins := HNK.out (ls, 4) ⟨(l2, 4), HADD.out, by rw [HSELF.out]⟩
            have n0 := cell_of HCW.out.n 0
            have n1 := cell_of HCW.out.n 1
            have n2 := cell_of HCW.out.n 2
            have n3 := cell_of HCW.out.n 3
            have z0 := And.intro (cell_of HCW.out.z 0) (unfrozen_of HCW.out.z 0)
            have z1 := And.intro (cell_of HCW.out.z 1) (unfrozen_of HCW.out.z 1)
            have z2 := And.intro (cell_of HCW.out.z 2) (unfrozen_of HCW.out.z 2)
            have z3 := And.intro (cell_of HCW.out.z 3) (unfrozen_of HCW.out.z 3)
            simp only [List.getElem?_toArray, List.getElem?_cons_zero, List.getElem?_cons_succ] at n0 n1 n2 n3 z0 z1 z2 z3
            go_wp2_with (fail)
            exact bodyPost_ret (v := .tuple #[.agg #[.slice (some ⟨bp, op, none⟩) T.ports.length cp, .slice al T.links.length cl, .slice aa T.aces.length ca, .slice (some ⟨g, 0, none⟩) ls.length cap], .int .i64 4]) (by simp [results, Try.results70, go_sem, z0, z1, z2, z3]) rfl (RInsPost.same (hins) HCW.out HDW.out HLO.out)
          · injection hfo with ha hb
            subst hb
            clear ha
            have hins := HNK.out (ls.set d l2, 0) ⟨(l2, 0), HADD.out, rfl⟩
            obtain ⟨ao2, c2, rfl, _⟩ := own_form HV.out
            have o3 := cell_of HCW.out.o 3
            have r1 := HOW.out.cellAt (d * 1) (by omega)
            have r2 := HOW.out.frozenAt d
            rw [Nat.mul_one] at r1
            have hir : d < rs.length := by omega
            rw [List.getElem?_eq_getElem hir] at r1
            simp only [List.getElem?_toArray, List.getElem?_cons_zero, List.getElem?_cons_succ] at o3
            have HINS := Lib.hid hins
            clear hins
            go_upto_region 23 with (fail)
            have hk8 : Kept [g9] w' (w'.setCell ⟨g9, d, none⟩ (.slice ao2 l2.length c2)) := Kept.of_setCell w' ⟨g9, d, none⟩ _
            have HC8 := Lib.hid (HCW.out.step hk8 (fun x hx => (List.mem_singleton.1 hx).symm ▸ HG9.out))
            have HO8 := Lib.hid (HOW.out.stored d (.slice ao2 l2.length c2)).1
            have HD8 := Lib.hid (HDW.out.kept hk8 (fun x hx hc => by have := (HLO.out x hx).2; have := HG9.out; have := List.mem_singleton.1 hc; omega))
            have HV8 := Lib.hid (own_kept HV.out hk8 (fun x hx hc => by
              have e := List.mem_singleton.1 hc
              subst e
              have := HG9.out
              have := HGW.out
              rcases HX.out x hx with h1 | h1
              · have := (HLO.out x h1).2
                omega
              · omega))
            clear hk8 r1 r2 o3
            generalize w'.setCell ⟨g9, d, none⟩ (.slice ao2 l2.length c2) = w8 at *
            have o0 := cell_of HC8.out.o 0
            have o1 := cell_of HC8.out.o 1
            have o2 := cell_of HC8.out.o 2
            have o3 := cell_of HC8.out.o 3
            have z0 := And.intro (cell_of HC8.out.z 0) (unfrozen_of HC8.out.z 0)
            have z1 := And.intro (cell_of HC8.out.z 1) (unfrozen_of HC8.out.z 1)
            have z2 := And.intro (cell_of HC8.out.z 2) (unfrozen_of HC8.out.z 2)
            have z3 := And.intro (cell_of HC8.out.z 3) (unfrozen_of HC8.out.z 3)
            simp only [List.getElem?_toArray, List.getElem?_cons_zero, List.getElem?_cons_succ] at o0 o1 o2 o3 z0 z1 z2 z3
            go_wp2_with (fail)
            have hk := kept_set4 w8 (w.heap.size + 1 + 1) (.slice (some ⟨bp, op, none⟩) T.ports.length cp) (.slice al T.links.length cl) (.slice aa T.aces.length ca) (.slice (some ⟨g9, 0, none⟩) ls.length cap9)
            exact bodyPost_ret (v := .tuple #[.agg #[.slice (some ⟨bp, op, none⟩) T.ports.length cp, .slice al T.links.length cl, .slice aa T.aces.length ca, .slice (some ⟨g9, 0, none⟩) ls.length cap9], .int .i64 0]) (by simp [results, Try.results70, go_sem, z0, z1, z2, z3]) rfl ⟨.slice (some ⟨g9, 0, none⟩) ls.length cap9, rs.set d (.slice ao2 l2.length c2), (ls.set d l2, 0), HINS.out, rfl, by
              refine (HD8.out.kept hk fun x hx hc => ?_).out_put (b := w.heap.size) HBW.out (own_kept HO8.out hk fun x hx hc => ?_) (own_kept HV8.out hk fun x hx hc => ?_)
              · have := (HLO.out x hx).2
                have := List.mem_singleton.1 hc
                omega
              · have : g9 = x := Option.some.inj hx
                have := HG9.out
                have := List.mem_singleton.1 hc
                omega
              · have := List.mem_singleton.1 hc
                have := HGW.out
                have := HG9.out
                rcases HX.out x hx with h1 | h1
                · have := (HLO.out x h1).2
                  omega
                · omega, fun x hx => by
              rcases rfoot_put (vr := .slice (some ⟨g, 0, none⟩) ls.length cap) hx with h1 | h1 | h1
              · have : g9 = x := Option.some.inj h1
                have := HG9.out
                exact Or.inr (by omega)
              · rcases HX.out x h1 with h2 | h2
                · exact Or.inl h2
                · have := HGW.out
                  exact Or.inr (by omega)
              · exact Or.inl h1, HC8.out.kept.trans (hk.below HC8.out.kept.size (fun x hx => by rw [List.mem_singleton.1 hx]; omega))⟩
end Go.Proofs.Ytiedhjmnjpkcoaa

namespace Go.Proofs.Ytiedhjmnjpkcoaa
open Go.RowKit

def Op.val (o : Op) : Value := .agg #[.bool o.del, .int .i64 o.rule.id, .int .i64 o.rule.dev, .int .u32 (o.rule.addr : Int), .int .i64 o.rule.bits, .int .i64 o.rule.prio, .int .i64 o.rule.out]
variable {w : World} {B B0 nb : Nat} {vp vl va vt : Value} {ts : List TD} {T : Tp}
theorem nchange_calls (h : NetAt w B nb vp vl va vt ts) (hT : TpIn B0 w vp vl va T) (hB0 : B0 ≤ B) (hok : NetOk T.ports (TD.Ls ts)) (hl : T.ports.length ≤ 40) (hL : lenT (TD.Ls ts) < 100000) (o : Op) (ho : o.rule.Wf) :
    Calls Try.prog 55 #[.pointer (some ⟨nb, 0, none⟩), o.val] w fun e w' =>
      ∃ ts', e = .returned (.int .i64 (chgS T.ports (TD.Ls ts) o).2) ∧ NetAt w' B nb vp vl va vt ts' ∧ TD.Ls ts' = (chgS T.ports (TD.Ls ts) o).1 ∧ Turn (feet ts) (feet ts') w w' := by
  obtain ⟨del, r⟩ := o
  have hln : ts.length = T.ports.length := by have := hok.len; simpa [TD.Ls] using this
  have hLL : ∀ t ∈ ts, t.L.length < 100000 := fun t ht => by
    have := lenT_mem (Ls := TD.Ls ts) (L := t.L) (List.mem_map_of_mem ht)
    omega
  cases del with
  | true => exact nchange_del h (by omega) hLL r ho.2.1
  | false => exact nchange_add h hT hB0 hln.symm (by omega) hLL r ho.1 ho.2.1
end Go.Proofs.Ytiedhjmnjpkcoaa

namespace Go.Proofs.Ytiedhjmnjpkcoaa
open Go.RowKit

/-- What a change of the document's net leaves. -/
def ChgPost (ports : List Int) (Ls : List (List Rl)) (o : Op) (B : Nat) (w : World) (vp vl va vr : Value) (rs : List Value) (e : Ending) (w' : World) : Prop :=
  ∃ vr' rs' ls', e = .returned (.tuple #[.agg #[vp, vl, va, vr'], .int .i64 (chgS ports Ls o).2]) ∧ RNetAt w' B vr' rs' ls' ∧ Pairs (chgS ports Ls o).1 ls' ∧ (∀ x ∈ rfoot vr' rs', x ∈ rfoot vr rs ∨ w.heap.size ≤ x) ∧ Below w.heap.size w w'
variable {w : World} {B B0 : Nat} {vp vl va vr : Value} {rs : List Value} {ls Ls : List (List Rl)} {T : Tp}
theorem Pairs.nodup (h : Pairs Ls ls) : ∀ l ∈ ls, (l.map (·.id)).Nodup := by
  intro l hl
  obtain ⟨i, hi, rfl⟩ := List.mem_iff_getElem.1 hl
  exact (h.get i (by rw [h.len]; exact hi) hi).ids
theorem rnchange_calls (h : RNetAt w B vr rs ls) (hP : Pairs Ls ls) (hT : TpIn B0 w vp vl va T) (hB0 : B0 ≤ w.heap.size) (hBw : B ≤ w.heap.size) (hok : NetOk T.ports Ls) (hp0 : 0 < T.ports.length) (hp : T.ports.length ≤ 40) (hL : lenT Ls < 100000) (o : Op) (ho : o.rule.Wf) :
    Calls Try.prog 70 #[.agg #[vp, vl, va, vr], o.val] w fun e w' => ChgPost T.ports Ls o B w vp vl va vr rs e w' := by
  have hll : ls.length = T.ports.length := by rw [← hP.len, hok.len]
  obtain ⟨ap, cp, rfl, _⟩ := hT.ports
  obtain ⟨al, cl, rfl, _⟩ := hT.links
  obtain ⟨aa, ca, rfl, _⟩ := hT.aces
  obtain ⟨del, r⟩ := o
  cases del with
  | true =>
    refine (rchg_del h hBw (by omega) (by omega) (by rw [← hP.lens]; exact hL) hP.nodup r.id r.dev r.addr r.bits r.prio r.out).mono ?_
    rintro e w' ⟨vr', rs', he, hd, hf, hk⟩
    have hc := hP.del r.id
    exact ⟨vr', rs', _, by rw [he, hc.2]; rfl, hd, hc.1, hf, hk⟩
  | false =>
    refine (rchg_add h hT hB0 hBw (by omega) (by omega) hll.symm (by rw [← hP.lens]; exact hL) r.id r.dev r.addr r.bits r.prio r.out ho.1).mono ?_
    rintro e w' ⟨vr', rs', fo, hi, he, hd, hf, hk⟩
    have hc := hP.ins hi
    exact ⟨vr', rs', _, by rw [he, hc.2]; rfl, hd, hc.1, hf, hk⟩
end Go.Proofs.Ytiedhjmnjpkcoaa
