/- Topologies: what is wrong with one. · Topologies: what is wrong with one, by the document. · Topologies: light ones. -/
import Derived.Test.YtjoblahedgpgbaaGreatTopL
namespace Go.Proofs.YtjoblahedgpgbaaGreat
set_option linter.unusedVariables false
set_option linter.unusedSimpArgs false
open Go.RowKit Go.Maps

def acesT (ports : List Int) : List Ac → Int
  | [] => 0
  | a :: rest => if portT ports a.dev a.port ≠ 0 then portT ports a.dev a.port else if checkF a.f ≠ 0 then checkF a.f else acesT ports rest
/-- What is wrong with a topology. -/
def checkT (T : Tp) : Int := if T.ports.length = 0 ∨ 16 < T.ports.length ∨ 32 < T.aces.length then 15 else if T.ports.any badP = true then 11 else if linksT T.ports [] (ends T.links) ≠ 0 then linksT T.ports [] (ends T.links) else acesT T.ports T.aces

theorem acCells_at : ∀ (l : List Ac) (i : Nat) (h : i < l.length) (j : Nat), j < 13 → (acCells l)[i * 13 + j]? = l[i].cells[j]?
  | a :: l, 0, _, j, hj => by
    have e : acCells (a :: l) = a.cells ++ acCells l := rfl
    have hl : a.cells.length = 13 := rfl
    rw [e, List.getElem?_append_left (by omega)]
    simp
  | a :: l, i + 1, h, j, hj => by
    have ih := acCells_at l i (by simpa using h) j hj
    have e : acCells (a :: l) = a.cells ++ acCells l := rfl
    have hl : a.cells.length = 13 := rfl
    rw [e, show (i + 1) * 13 + j = 13 + (i * 13 + j) by omega, List.getElem?_append_right (by omega), hl, show 13 + (i * 13 + j) - 13 = i * 13 + j by omega]
    simpa using ih

variable {B : Nat} {w : World} {vp vl va : Value} {T : Tp}
theorem TpIn.ace (h : TpIn B w vp vl va T) {i : Nat} (hi : i < T.aces.length) : ∃ b off cap, va = .slice (some ⟨b, off, none⟩) T.aces.length cap ∧ ∀ j u, T.aces[i].cells[j]? = some u → w.cell? ⟨b, off + i * 13 + j, none⟩ = some u := by
  obtain ⟨ao, cap, hv, hc⟩ := h.aces
  have hcc := acCells_at T.aces i hi
  obtain ⟨b, off, rfl, _, _⟩ := hc _ _ ((hcc 0 (by omega)).trans rfl)
  refine ⟨b, off, cap, hv, fun j u hu => ?_⟩
  have hj : j < 13 := (List.getElem?_eq_some_iff.1 hu).1
  obtain ⟨b2, off2, e2, _, d2⟩ := hc _ _ ((hcc j hj).trans hu)
  cases e2
  rw [show off + i * 13 + j = off + (i * 13 + j) by omega]
  exact d2

def Ac.obj (a : Ac) : Obj := .cells #[.int .i64 a.dev, .int .i64 a.port, .bool a.inn, .bool a.permit, .int .u32 (a.f.da : Int), .int .i64 a.f.dn, .int .u32 (a.f.sa : Int), .int .i64 a.f.sn, .int .i64 a.f.proto, .int .u16 (a.f.s1 : Int), .int .u16 (a.f.s2 : Int), .int .u16 (a.f.d1 : Int), .int .u16 (a.f.d2 : Int)] 265

set_option maxRecDepth 100000 in
set_option maxHeartbeats 4000000 in
theorem tcheck_calls (h : TpIn B w vp vl va T) (hB : B ≤ w.heap.size) (hp0 : T.ports.length ≤ 40) (hl : T.links.length ≤ 100) (ha0 : T.aces.length ≤ 60) : Calls Tryz.prog 88 #[.agg #[vp, vl, va]] w fun e w' => e = .returned (.int .i64 (checkT T)) ∧ Below w.heap.size w w' := by
  have H := Lib.hid h
  obtain ⟨ap, cp, rfl, _⟩ := h.ports
  obtain ⟨al, cl, rfl, _⟩ := h.links
  obtain ⟨aa, ca, rfl, _⟩ := h.aces
  clear h
  have HX := Lib.hid (heap_alloc_new w (.cells #[.slice ap T.ports.length cp, .slice al T.links.length cl, .slice aa T.aces.length ca] 26))
  have HK := Lib.hid ((Below.refl w.heap.size w).alloc (Nat.le_refl _) (.cells #[.slice ap T.ports.length cp, .slice al T.links.length cl, .slice aa T.aces.length ca] 26))
  obtain ⟨r, hr⟩ : ∃ r, r = checkT T := ⟨_, rfl⟩
  rw [← hr]
  unfold checkT at hr
  go_enter Tryz.func88, Tryz.ntmps88
  go_upto_region 1 with (fail)
  generalize w.alloc (.cells #[.slice ap T.ports.length cp, .slice al T.links.length cl, .slice aa T.aces.length ca] 26) = w1 at *
  have z0 := cell_of HX.out 0
  have z1 := cell_of HX.out 1
  have z2 := cell_of HX.out 2
  simp only [List.getElem?_toArray, List.getElem?_cons_zero, List.getElem?_cons_succ] at z0 z1 z2
  by_cases hs : T.ports.length = 0 ∨ 16 < T.ports.length ∨ 32 < T.aces.length
  · rw [if_pos hs] at hr
    subst hr
    by_cases h1 : T.ports.length = 0
    · have h1' : (T.ports.length : Int) = 0 := by omega
      clear hs
      go_wp2_with (fail)
      go_ret
      exact ⟨rfl, HK.out⟩
    · have h1'' : ¬ (T.ports.length : Int) = 0 := by omega
      have h1' : ((T.ports.length : Int) == 0) = false := beq_eq_false_iff_ne.2 h1''
      by_cases h2 : 16 < T.ports.length
      · have h2' : (16 : Int) < (T.ports.length : Int) := by omega
        clear hs
        go_wp2_with (fail)
        go_ret
        exact ⟨rfl, HK.out⟩
      · have h2' : ¬ (16 : Int) < (T.ports.length : Int) := by omega
        have h3' : (32 : Int) < (T.aces.length : Int) := by omega
        clear hs h1
        go_wp2_with (fail)
        go_ret
        exact ⟨rfl, HK.out⟩
  · rw [if_neg hs] at hr
    have h1'' : ¬ (T.ports.length : Int) = 0 := by omega
    have h1' : ((T.ports.length : Int) == 0) = false := beq_eq_false_iff_ne.2 h1''
    have h2' : ¬ (16 : Int) < (T.ports.length : Int) := by omega
    have h3' : ¬ (32 : Int) < (T.aces.length : Int) := by omega
    have HC := Lib.hid (contains_calls (H.out.kept (HK.out.mono hB)).ports (Nat.le_trans hB HK.out.size) (by omega))
    clear hs
    go_wp2_with (fail)
    refine Calls.mono HC.out ?_
    rintro e2 w2 ⟨he, k2⟩
    have HX2 := Lib.hid ((k2.block _ (lt_of_block HX.out)).trans HX.out)
    have HK2 := Lib.hid (HK.out.trans (k2.mono HK.out.size))
    clear k2 z0 z1 z2
    cases hbd : T.ports.any badP with
    | true =>
      rw [hbd] at he
      rw [if_pos hbd] at hr
      subst he
      subst hr
      clear hbd
      go_wp2_with (fail)
      go_ret
      exact ⟨rfl, HK2.out⟩
    | false =>
      rw [hbd] at he
      rw [hbd, if_neg (by simp)] at hr
      subst he
      have HBD := Lib.hid hbd
      clear hbd
      have z0 := cell_of HX2.out 0
      have z1 := cell_of HX2.out 1
      have z2 := cell_of HX2.out 2
      simp only [List.getElem?_toArray, List.getElem?_cons_zero, List.getElem?_cons_succ] at z0 z1 z2
      have HLK := Lib.hid (tlinks_calls (H.out.kept (HK2.out.mono hB)) (Nat.le_trans hB HK2.out.size) hl (by omega) HBD.out)
      generalize linksT T.ports [] (ends T.links) = q at *
      go_wp2_with (fail)
      refine Calls.mono HLK.out ?_
      rintro e3 w3 ⟨he, k3⟩
      have HX3 := Lib.hid ((k3.block _ (lt_of_block HX2.out)).trans HX2.out)
      have HK3 := Lib.hid (HK2.out.trans (k3.mono HK2.out.size))
      subst he
      clear k3 z0 z1 z2
      by_cases hq : q = 0
      · subst hq
        rw [if_neg (by simp)] at hr
        have HR := Lib.hid hr
        clear hr
        have z0 := cell_of HX3.out 0
        have z1 := cell_of HX3.out 1
        have z2 := cell_of HX3.out 2
        simp only [List.getElem?_toArray, List.getElem?_cons_zero, List.getElem?_cons_succ] at z0 z1 z2
        go_wp2_with (fail)
        go_loopg [35] T.aces.length (fun gk vi wr => ∃ i : Nat, i + gk = T.aces.length ∧ vi = .int .i64 (i : Int) ∧ Below w.heap.size w wr ∧ wr.heap[w.heap.size]? = some (.cells #[.slice ap T.ports.length cp, .slice al T.links.length cl, .slice aa T.aces.length ca] 26 (0, 0)) ∧ r = acesT T.ports (T.aces.drop i))
        case atStart => exact ⟨0, by omega, rfl, HK3.out, HX3.out, by simpa using HR.out⟩
        case round =>
          obtain ⟨i, hgk, rfl, hK, hB2, hri⟩ := hrel
          have HKR := Lib.hid hK
          have HB2 := Lib.hid hB2
          have HRI := Lib.hid hri
          clear hB2 hri
          by_cases hlt : i < T.aces.length
          · obtain ⟨b, off, cap', he, hc⟩ := (H.out.kept (hK.mono hB)).ace hlt
            cases he
            have HDR : Hid (T.aces.drop i = T.aces[i] :: T.aces.drop (i + 1)) := Lib.hid (List.drop_eq_getElem_cons hlt)
            have HWF : Hid (T.aces[i].f.Wf) := Lib.hid (H.out.wf _ (List.getElem_mem hlt))
            generalize T.aces[i] = x at *
            have e0 := hc 0 _ rfl
            have e1 := hc 1 _ rfl
            have e2 := hc 2 _ rfl
            have e3 := hc 3 _ rfl
            have e4 := hc 4 _ rfl
            have e5 := hc 5 _ rfl
            have e6 := hc 6 _ rfl
            have e7 := hc 7 _ rfl
            have e8 := hc 8 _ rfl
            have e9 := hc 9 _ rfl
            have e10 := hc 10 _ rfl
            have e11 := hc 11 _ rfl
            have e12 := hc 12 _ rfl
            rw [Nat.add_zero] at e0
            have HXA := Lib.hid (heap_alloc_new wr x.obj)
            have HKA := Lib.hid ((Below.refl wr.heap.size wr).alloc (Nat.le_refl _) x.obj)
            unfold Ac.obj at HXA HKA
            clear hc hK
            go_upto_region 11 with (fail)
            generalize wr.alloc (.cells #[.int .i64 x.dev, .int .i64 x.port, .bool x.inn, .bool x.permit, .int .u32 (x.f.da : Int), .int .i64 x.f.dn, .int .u32 (x.f.sa : Int), .int .i64 x.f.sn, .int .i64 x.f.proto, .int .u16 (x.f.s1 : Int), .int .u16 (x.f.s2 : Int), .int .u16 (x.f.d1 : Int), .int .u16 (x.f.d2 : Int)] 265) = wa at *
            have hba := (HKA.out.block _ (lt_of_block HB2.out)).trans HB2.out
            have z0 := cell_of hba 0
            have z1 := cell_of hba 1
            have z2 := cell_of hba 2
            have y0 := cell_of HXA.out 0
            have y1 := cell_of HXA.out 1
            simp only [List.getElem?_toArray, List.getElem?_cons_zero, List.getElem?_cons_succ] at z0 z1 z2 y0 y1
            have hkw := HKR.out.trans (HKA.out.mono HKR.out.size)
            have HKW := Lib.hid hkw
            have HPC := Lib.hid (tport_calls (H.out.kept (hkw.mono hB)) (Nat.le_trans hB hkw.size) x.dev x.port)
            have HBA := Lib.hid hba
            have hri := HRI.out
            rw [HDR.out] at hri
            unfold acesT at hri
            clear hkw hba e0 e1 e2 e3 e4 e5 e6 e7 e8 e9 e10 e11 e12
            go_wp2_with (fail)
            refine Calls.mono HPC.out ?_
            rintro e7 w7 ⟨he7, k7⟩
            have HB7 := Lib.hid ((k7.block _ (lt_of_block HBA.out)).trans HBA.out)
            have HY7 := Lib.hid ((k7.block _ (lt_of_block HXA.out)).trans HXA.out)
            have HK7 := Lib.hid (HKW.out.trans (k7.mono HKW.out.size))
            clear k7 y0 y1 z0 z1 z2
            by_cases hq : portT T.ports x.dev x.port = 0
            · rw [if_neg (by simpa using hq)] at hri
              rw [hq] at he7
              subst he7
              have y4 := cell_of HY7.out 4
              have y5 := cell_of HY7.out 5
              have y6 := cell_of HY7.out 6
              have y7 := cell_of HY7.out 7
              have y8 := cell_of HY7.out 8
              have y9 := cell_of HY7.out 9
              have y10 := cell_of HY7.out 10
              have y11 := cell_of HY7.out 11
              have y12 := cell_of HY7.out 12
              simp only [List.getElem?_toArray, List.getElem?_cons_zero, List.getElem?_cons_succ] at y4 y5 y6 y7 y8 y9 y10 y11 y12
              have HFC := Lib.hid (fcheck_calls w7 HWF.out)
              unfold Fl.val at HFC
              have HRJ := Lib.hid hri
              clear hq hri
              go_wp2_with (fail)
              refine Calls.mono HFC.out ?_
              rintro e8 w8 ⟨he8, k8⟩
              have HB8 := Lib.hid ((k8.block _ (lt_of_block HB7.out)).trans HB7.out)
              have HK8 := Lib.hid (HK7.out.trans (k8.mono HK7.out.size))
              clear k8 y4 y5 y6 y7 y8 y9 y10 y11 y12
              have hri := HRJ.out
              by_cases hf : checkF x.f = 0
              · rw [if_neg (by simpa using hf)] at hri
                rw [hf] at he8
                subst he8
                have HRK := Lib.hid hri
                clear hf hri
                go_wp2_with (fail)
                go_roundg (gk - 1)
                case measure => omega
                case rel => exact ⟨i + 1, by omega, by go_num, HK8.out, HB8.out, HRK.out⟩
              · rw [if_pos (by simpa using hf)] at hri
                rw [← hri] at he8 hf
                subst he8
                have hq2 : (r == 0) = false := beq_eq_false_iff_ne.2 hf
                clear hri
                go_wp2_with (fail)
                go_ret
                exact ⟨rfl, HK8.out⟩
            · rw [if_pos (by simpa using hq)] at hri
              rw [← hri] at he7 hq
              subst he7
              have hq2 : (r == 0) = false := beq_eq_false_iff_ne.2 hq
              clear hri
              go_wp2_with (fail)
              go_ret
              exact ⟨rfl, HK7.out⟩
          · obtain rfl : i = T.aces.length := by omega
            obtain rfl : r = 0 := by
              have := HRI.out
              rw [List.drop_length] at this
              exact this
            clear hK
            go_wp2_with (fail)
            go_ret
            exact ⟨rfl, HKR.out⟩
      · rw [if_pos hq] at hr
        subst hr
        have hq2 : (r == 0) = false := beq_eq_false_iff_ne.2 hq
        go_wp2_with (fail)
        go_ret
        exact ⟨rfl, HK3.out⟩
end Go.Proofs.YtjoblahedgpgbaaGreat

namespace Go.Proofs.YtjoblahedgpgbaaGreat
open Go.RowKit Go.Maps

theorem eq_int1 (a b : Int) (w : World) : (Op.equalIn 9999 3 (.int .i64 a) (.int .i64 b)).run Tryz.prog w = .ok (a == b) w := by
  kernel_rfl
theorem notAggI (w : World) : (isAgg 3).run Tryz.prog w = .ok false w := by kernel_rfl
theorem int_inf2 : (Tryz.prog.info? 3).map (fun i => (i.zero, i.size, i.bytes)) = some (some (.int .i64 0), 1, 8) := by kernel_rfl
theorem pr_eq (a b c d : Int) (w : World) : (Op.equalIn 10000 229 (.agg #[.int .i64 a, .int .i64 b]) (.agg #[.int .i64 c, .int .i64 d])).run Tryz.prog w = .ok (a == c && b == d) w := by
  obtain ⟨i0, hi, _⟩ := info_parts int_inf2
  have hc : Tryz.prog.cellsOf 3 = 1 := by kernel_rfl
  have n0 := notAggI w
  rw [run_equalIn_array w 9999 _ _ Tryz.underlying229 hi, hc, show List.range 2 = [0, 1] from rfl]
  by_cases h1 : a = c <;> by_cases h2 : b = d <;> simp [Op.eqItems, Sem.run_bind, part, n0, eq_int1, h1, h2]

variable {B : Nat} {w : World} {vp vl va : Value} {T : Tp}
theorem TpIn.portAt (h : TpIn B w vp vl va T) {i : Nat} (hi : i < T.ports.length) : ∃ b off cap, vp = .slice (some ⟨b, off, none⟩) T.ports.length cap ∧ w.cell? ⟨b, off + i, none⟩ = some (.int .i64 T.ports[i]) := by
  obtain ⟨ao, cap, hv, hc⟩ := h.ports
  obtain ⟨b, off, rfl, _, d0⟩ := hc i (i64v T.ports[i]) (by rw [List.getElem?_map, List.getElem?_eq_getElem hi]; rfl)
  exact ⟨b, off, cap, hv, d0⟩

set_option maxRecDepth 100000 in
set_option maxHeartbeats 8000000 in
theorem rcheck_calls (h : TpIn B w vp vl va T) (hB : B ≤ w.heap.size) (hp0 : T.ports.length ≤ 40) (hl : T.links.length ≤ 100) (ha0 : T.aces.length ≤ 60) : Calls Tryz.prog 73 #[.agg #[vp, vl, va]] w fun e w' => e = .returned (.int .i64 (checkT T)) ∧ Below w.heap.size w w' := by
  have H := Lib.hid h
  obtain ⟨ap, cp, rfl, _⟩ := h.ports
  obtain ⟨al, cl, rfl, _⟩ := h.links
  obtain ⟨aa, ca, rfl, _⟩ := h.aces
  clear h
  have HX := Lib.hid (heap_alloc_new w (.cells #[.slice ap T.ports.length cp, .slice al T.links.length cl, .slice aa T.aces.length ca] 26))
  have HK := Lib.hid ((Below.refl w.heap.size w).alloc (Nat.le_refl _) (.cells #[.slice ap T.ports.length cp, .slice al T.links.length cl, .slice aa T.aces.length ca] 26))
  obtain ⟨r, hr⟩ : ∃ r, r = checkT T := ⟨_, rfl⟩
  rw [← hr]
  unfold checkT at hr
  have hpe := pr_eq
  go_enter Tryz.func73, Tryz.ntmps73
  go_upto_region 1 with (fail)
  generalize w.alloc (.cells #[.slice ap T.ports.length cp, .slice al T.links.length cl, .slice aa T.aces.length ca] 26) = w1 at *
  have z0 := cell_of HX.out 0
  have z1 := cell_of HX.out 1
  have z2 := cell_of HX.out 2
  simp only [List.getElem?_toArray, List.getElem?_cons_zero, List.getElem?_cons_succ] at z0 z1 z2
  by_cases hs : T.ports.length = 0 ∨ 16 < T.ports.length ∨ 32 < T.aces.length
  · rw [if_pos hs] at hr
    subst hr
    by_cases h1 : T.ports.length = 0
    · have h1' : (T.ports.length : Int) < 1 := by omega
      clear hs h1
      go_wp2_with (fail)
      go_ret
      exact ⟨rfl, HK.out⟩
    · have h1' : ¬ (T.ports.length : Int) < 1 := by omega
      by_cases h2 : 16 < T.ports.length
      · have h2' : (16 : Int) < (T.ports.length : Int) := by omega
        clear hs h1
        go_wp2_with (fail)
        go_ret
        exact ⟨rfl, HK.out⟩
      · have h2' : ¬ (16 : Int) < (T.ports.length : Int) := by omega
        have h3' : (32 : Int) < (T.aces.length : Int) := by omega
        clear hs h1
        go_wp2_with (fail)
        go_ret
        exact ⟨rfl, HK.out⟩
  · rw [if_neg hs] at hr
    have h1' : ¬ (T.ports.length : Int) < 1 := by omega
    have h2' : ¬ (16 : Int) < (T.ports.length : Int) := by omega
    have h3' : ¬ (32 : Int) < (T.aces.length : Int) := by omega
    have HR0 := Lib.hid hr
    clear hs hr
    go_wp2_with (fail)
    go_loopg [3] T.ports.length (fun gk vi wr => ∃ i : Nat, i + gk = T.ports.length ∧ vi = .int .i64 (i : Int) ∧ wr = w1 ∧ (T.ports.take i).any badP = false)
    case atStart => exact ⟨0, by omega, rfl, rfl, by simp⟩
    case round =>
      obtain ⟨i, hgk, rfl, rfl, hN⟩ := hrel
      have HN := Lib.hid hN
      clear hN
      by_cases hlt : i < T.ports.length
      · obtain ⟨b, off, cap', he, hc⟩ := (H.out.kept (HK.out.mono hB)).portAt hlt
        cases he
        have HTK : Hid (T.ports.take (i + 1) = T.ports.take i ++ [T.ports[i]]) := Lib.hid (by rw [List.take_add_one, List.getElem?_eq_getElem hlt]; rfl)
        have HMEM : Hid (T.ports[i] ∈ T.ports) := Lib.hid (List.getElem_mem hlt)
        generalize T.ports[i] = y at *
        by_cases hy : y < 0 ∨ 8 < y
        · obtain rfl : r = 11 := by
            have := HR0.out
            rwa [if_pos (List.any_eq_true.2 ⟨y, HMEM.out, decide_eq_true hy⟩)] at this
          rcases Int.lt_or_le y 0 with hy1 | hy1
          · clear hy
            go_wp2_with (fail)
            go_ret
            exact ⟨rfl, HK.out⟩
          · have hy2 : 8 < y := by omega
            have hy3 : ¬ y < 0 := by omega
            clear hy hy1
            go_wp2_with (fail)
            go_ret
            exact ⟨rfl, HK.out⟩
        · have hy1 : ¬ y < 0 := by omega
          have hy2 : ¬ 8 < y := by omega
          have HBY : Hid (badP y = false) := Lib.hid (decide_eq_false hy)
          clear hy
          go_wp2_with (fail)
          go_roundg (gk - 1)
          case measure => omega
          case rel =>
            refine ⟨i + 1, by omega, by go_num, rfl, ?_⟩
            rw [HTK.out, List.any_append, HN.out]
            simp [HBY.out]
      · obtain rfl : i = T.ports.length := by omega
        have hbd := HN.out
        rw [List.take_length] at hbd
        have hr := HR0.out
        rw [hbd, if_neg (by simp)] at hr
        have HEN := Lib.hid (rends_calls (H.out.kept (HK.out.mono hB)) (Nat.le_trans hB HK.out.size) hl)
        have HES : Hid ((ends T.links).length ≤ 200) := Lib.hid (by rw [ends_len]; omega)
        generalize hES : ends T.links = es at *
        have HR2 : Hid (linksT T.ports [] es = 0 → r = acesT T.ports T.aces) := Lib.hid (fun h0 => by
          rw [if_neg (by simpa using h0)] at hr
          exact hr)
        have HR3 : Hid (linksT T.ports [] es ≠ 0 → r = linksT T.ports [] es) := Lib.hid (fun h0 => by
          rw [if_pos h0] at hr
          exact hr)
        obtain ⟨ll, hll⟩ : ∃ ll, ll = linksT T.ports [] es := ⟨_, rfl⟩
        rw [← hll] at HR2 HR3
        have HLL := Lib.hid hll
        clear hbd hr HR0 hES hll
        go_wp2_with (fail)
        refine Calls.mono HEN.out ?_
        rintro e2 w2 ⟨vo, he, ho, k2⟩
        subst he
        obtain ⟨ao, capo, rfl⟩ : ∃ ao cap, vo = .slice ao es.length cap := by
          rcases ho.2 with ⟨h0, h1⟩ | ⟨g', cap', cur, h0, _⟩
          · exact ⟨none, 0, by rw [h0, h1]⟩
          · exact ⟨_, cap', h0⟩
        have HX2 := Lib.hid ((k2.block _ (lt_of_block HX.out)).trans HX.out)
        have HK2 := Lib.hid (HK.out.trans (k2.mono HK.out.size))
        have HO := Lib.hid ho
        clear k2 ho z0 z1 z2
        go_wp2_with (fail)
        go_loopg [5] es.length (fun gk vi wr => ∃ i : Nat, i + gk = es.length ∧ vi = .int .i64 (i : Int) ∧ Below w2.heap.size w2 wr ∧ ll = linksT T.ports (es.take i) (es.drop i))
        case atStart => exact ⟨0, by omega, rfl, Below.refl _ _, by simpa using HLL.out⟩
        case round =>
          obtain ⟨i, hgk, rfl, hK, hL⟩ := hrel
          have HKR := Lib.hid hK
          have HL := Lib.hid hL
          clear hL
          by_cases hlt : i < es.length
          · obtain ⟨g, rfl⟩ : ∃ g, ao = some ⟨g, 0, none⟩ := by
              rcases HO.out.2 with ⟨h0, h1⟩ | ⟨g', cap', cur, h0, _⟩
              · omega
              · injection h0 with h0; exact ⟨g', h0⟩
            have HDR : Hid (es.drop i = es[i] :: es.drop (i + 1)) := Lib.hid (List.drop_eq_getElem_cons hlt)
            have HTK : Hid (es.take (i + 1) = es.take i ++ [es[i]]) := Lib.hid (by rw [List.take_add_one, List.getElem?_eq_getElem hlt]; rfl)
            have HROW : Hid (∀ W, Below w2.heap.size w2 W → ∀ k (hk : k < es.length), W.cell? ⟨g, k * 2, none⟩ = some (.int .i64 es[k].1) ∧ W.cell? ⟨g, k * 2 + 1, none⟩ = some (.int .i64 es[k].2)) := Lib.hid (fun W kW k hk => by
              have how := own_kept HO.out (Kept.of_below (S := []) kW) (by simp)
              exact ⟨(how.cellAt (k * 2) (by omega)).trans (prCells_get es k hk).1, (how.cellAt (k * 2 + 1) (by omega)).trans (prCells_get es k hk).2⟩)
            have hci := fun W kW => HROW.out W kW i hlt
            have HMI : Hid (∀ k (hk : k < i), es[k]? = some (es[k]'(by omega)) ∧ (es[k]'(by omega)) ∈ es.take i) := Lib.hid (fun k hk => ⟨List.getElem?_eq_getElem (by omega), List.mem_take_iff_getElem.2 ⟨k, by omega, rfl⟩⟩)
            generalize es[i] = ei at *
            obtain ⟨d, p⟩ := ei
            simp only at hci
            have HCELL : Hid (∀ W, Below w2.heap.size w2 W → (W.cell? ⟨w.heap.size, 0, none⟩ = some (.slice ap T.ports.length cp) ∧ W.cell? ⟨w.heap.size, 1, none⟩ = some (.slice al T.links.length cl) ∧ W.cell? ⟨w.heap.size, 2, none⟩ = some (.slice aa T.aces.length ca)) ∧ W.cell? ⟨g, i * 2, none⟩ = some (.int .i64 d) ∧ W.cell? ⟨g, i * 2 + 1, none⟩ = some (.int .i64 p)) := Lib.hid (fun W kW => by
              have hx := (kW.block _ (lt_of_block HX2.out)).trans HX2.out
              exact ⟨⟨cell_of hx 0, cell_of hx 1, cell_of hx 2⟩, (hci W kW).1, (hci W kW).2⟩)
            have HPORT : Hid (∀ W, Below w2.heap.size w2 W → Calls Tryz.prog 143 #[.agg #[.slice ap T.ports.length cp, .slice al T.links.length cl, .slice aa T.aces.length ca], .int .i64 d, .int .i64 p] W fun e w' => e = .returned (.int .i64 (portT T.ports d p)) ∧ Below w2.heap.size w2 w') := Lib.hid (fun W kW => by
              have hbw := HK2.out.trans (kW.mono HK2.out.size)
              exact (rport_calls (H.out.kept (hbw.mono hB)) (Nat.le_trans hB hbw.size) d p).mono fun _ _ ⟨he, k⟩ => ⟨he, kW.trans (k.mono kW.size)⟩)
            have hl1 := HL.out
            rw [HDR.out] at hl1
            unfold linksT at hl1
            simp only at hl1
            obtain ⟨q, hq⟩ : ∃ q, q = portT T.ports d p := ⟨_, rfl⟩
            rw [← hq] at HPORT hl1
            have HL1 := Lib.hid hl1
            have hwi : (i : Int) < (es.length : Int) := by omega
            clear hci hl1 hq hK
            go_upto_region 12 with (fail)
            have hBW := HKR.out.drew
            have hS := HCELL.out _ hBW
            go_region_held3 (fun w' => (w'.cell? ⟨w.heap.size, 0, none⟩ = some (.slice ap T.ports.length cp) ∧ w'.cell? ⟨w.heap.size, 1, none⟩ = some (.slice al T.links.length cl) ∧ w'.cell? ⟨w.heap.size, 2, none⟩ = some (.slice aa T.aces.length ca)) ∧ w'.cell? ⟨g, i * 2, none⟩ = some (.int .i64 d) ∧ w'.cell? ⟨g, i * 2 + 1, none⟩ = some (.int .i64 p)) (first | assumption) (first | (go_at_call 143; refine Calls.mono (HPORT.out _ (by assumption)) ?_; rintro e w' ⟨rfl, hB'⟩; have hS' := HCELL.out _ hB'))
            have HK7 := Lib.hid hB'
            clear hB' hS' hBW hS
            by_cases hq0 : q = 0
            · subst hq0
              have hl1 := HL1.out
              rw [if_neg (by simp)] at hl1
              have HL2 := Lib.hid hl1
              have hib : i ≤ 200 := by have := HES.out; omega
              clear hl1
              go_wp2_with (fail)
              generalize gk = gko at *
              go_loopg [7] i (fun gk vk w8 => ∃ k : Nat, k + gk = i ∧ vk = .int .i64 (k : Int) ∧ Below w2.heap.size w2 w8 ∧ ∀ x ∈ es.take k, x ≠ (d, p))
              case atStart => exact ⟨0, by omega, rfl, HK7.out, by simp⟩
              case round =>
                obtain ⟨k, hgk3, rfl, hK8, hN8⟩ := hrel
                have HK8 := Lib.hid hK8
                have HN8 := Lib.hid hN8
                clear hN8
                by_cases hki : k < i
                · have hkl : k < es.length := by omega
                  have hrk := HROW.out _ hK8 k hkl
                  have hci := (HCELL.out _ hK8).2
                  have HTK3 : Hid (es.take (k + 1) = es.take k ++ [es[k]]) := Lib.hid (by rw [List.take_add_one, List.getElem?_eq_getElem hkl]; rfl)
                  have HMK : Hid (es[k] ∈ es.take i) := Lib.hid (HMI.out k hki).2
                  generalize es[k] = ek at *
                  obtain ⟨c, f⟩ := ek
                  simp only at hrk
                  obtain ⟨r0, r1⟩ := hrk
                  obtain ⟨c0, c1⟩ := hci
                  have hwk : (k : Int) < (es.length : Int) := by omega
                  clear hK8
                  by_cases h1 : c = d
                  · by_cases h2 : f = p
                    · subst h1
                      subst h2
                      obtain rfl : r = 12 := by
                        have hl2 := HL2.out
                        rw [if_pos HMK.out] at hl2
                        rw [HR3.out (by rw [hl2]; decide), hl2]
                      go_wp2_with (fail)
                      go_region
                      go_wp2_with (fail)
                      go_ret
                      exact ⟨rfl, HK2.out.trans (HK8.out.drew.mono HK2.out.size)⟩
                    · subst h1
                      have h3 : (f == p) = false := beq_eq_false_iff_ne.2 h2
                      go_wp2_with (fail)
                      go_region
                      go_wp2_with (fail)
                      go_roundg (gk - 1)
                      case measure => omega
                      case rel =>
                        refine ⟨k + 1, by omega, by go_num, HK8.out.drew, fun x hx => ?_⟩
                        rw [HTK3.out] at hx
                        rcases List.mem_append.1 hx with hx | hx
                        · exact HN8.out x hx
                        · rw [show x = _ by simpa using hx]
                          intro e
                          exact h2 (congrArg Prod.snd e)
                  · have h3 : (c == d) = false := beq_eq_false_iff_ne.2 h1
                    go_wp2_with (fail)
                    go_region
                    go_wp2_with (fail)
                    go_roundg (gk - 1)
                    case measure => omega
                    case rel =>
                      refine ⟨k + 1, by omega, by go_num, HK8.out.drew, fun x hx => ?_⟩
                      rw [HTK3.out] at hx
                      rcases List.mem_append.1 hx with hx | hx
                      · exact HN8.out x hx
                      · rw [show x = _ by simpa using hx]
                        intro e
                        exact h1 (congrArg Prod.fst e)
                · obtain rfl : k = i := by omega
                  have HNI : Hid (¬ (d, p) ∈ es.take k) := Lib.hid (fun hm => HN8.out _ hm rfl)
                  clear hK8
                  go_wp2_with (fail)
                  go_roundg (gko - 1)
                  case measure => omega
                  case rel =>
                    have hl2 := HL2.out
                    rw [if_neg HNI.out] at hl2
                    refine ⟨k + 1, by omega, by go_num, HK8.out, ?_⟩
                    rw [HTK.out]
                    exact hl2
            · have hl1 := HL1.out
              rw [if_pos hq0] at hl1
              obtain rfl : r = q := by rw [HR3.out (by rw [hl1]; exact hq0), hl1]
              have hq2 : (r != 0) = true := bne_iff_ne.2 hq0
              clear hl1
              go_wp2_with (fail)
              go_ret
              exact ⟨rfl, HK2.out.trans (HK7.out.mono HK2.out.size)⟩
          · obtain rfl : i = es.length := by omega
            have hl1 := HL.out
            rw [List.drop_length] at hl1
            have hll0 : ll = 0 := by rw [hl1]; cases es.take es.length <;> rfl
            have HRA := Lib.hid (HR2.out hll0)
            have hx3 := (hK.block _ (lt_of_block HX2.out)).trans HX2.out
            have HX3 := Lib.hid hx3
            have HK3 := Lib.hid (HK2.out.trans (hK.mono HK2.out.size))
            have z0 := cell_of hx3 0
            have z1 := cell_of hx3 1
            have z2 := cell_of hx3 2
            simp only [List.getElem?_toArray, List.getElem?_cons_zero, List.getElem?_cons_succ] at z0 z1 z2
            clear hl1 hll0 hx3 hK HR2 HR3 HLL HL
            go_wp2_with (fail)
            go_loopg [8] T.aces.length (fun gk vi w8 => ∃ j : Nat, j + gk = T.aces.length ∧ vi = .int .i64 (j : Int) ∧ Below w.heap.size w w8 ∧ w8.heap[w.heap.size]? = some (.cells #[.slice ap T.ports.length cp, .slice al T.links.length cl, .slice aa T.aces.length ca] 26 (0, 0)) ∧ r = acesT T.ports (T.aces.drop j))
            case atStart => exact ⟨0, by omega, rfl, HK3.out, HX3.out, by simpa using HRA.out⟩
            case round =>
              obtain ⟨j, hgj, rfl, hK8, hB8, hr8⟩ := hrel
              have HK8 := Lib.hid hK8
              have HB8 := Lib.hid hB8
              have HR8 := Lib.hid hr8
              have z0 := cell_of hB8 0
              have z1 := cell_of hB8 1
              have z2 := cell_of hB8 2
              simp only [List.getElem?_toArray, List.getElem?_cons_zero, List.getElem?_cons_succ] at z0 z1 z2
              clear hB8 hr8
              by_cases hlt2 : j < T.aces.length
              · obtain ⟨b, off, cap', he, _⟩ := (H.out.kept (hK8.mono hB)).ace hlt2
                cases he
                have HAC : Hid (∀ W, Below w.heap.size w W → ∀ t u, T.aces[j].cells[t]? = some u → W.cell? ⟨b, off + j * 13 + t, none⟩ = some u) := Lib.hid (fun W kW => by
                  obtain ⟨b2, off2, cap2, he2, hc2⟩ := (H.out.kept (kW.mono hB)).ace hlt2
                  cases he2
                  exact hc2)
                have HDR : Hid (T.aces.drop j = T.aces[j] :: T.aces.drop (j + 1)) := Lib.hid (List.drop_eq_getElem_cons hlt2)
                have HWF : Hid (T.aces[j].f.Wf) := Lib.hid (H.out.wf _ (List.getElem_mem hlt2))
                generalize T.aces[j] = x at *
                have HCELL : Hid (∀ W, (Below w.heap.size w W ∧ W.heap[w.heap.size]? = some (.cells #[.slice ap T.ports.length cp, .slice al T.links.length cl, .slice (some ⟨b, off, none⟩) T.aces.length ca] 26 (0, 0))) → (W.cell? ⟨w.heap.size, 0, none⟩ = some (.slice ap T.ports.length cp) ∧ W.cell? ⟨w.heap.size, 1, none⟩ = some (.slice al T.links.length cl) ∧ W.cell? ⟨w.heap.size, 2, none⟩ = some (.slice (some ⟨b, off, none⟩) T.aces.length ca)) ∧ W.cell? ⟨b, off + j * 13, none⟩ = some (.int .i64 x.dev) ∧ W.cell? ⟨b, off + j * 13 + 1, none⟩ = some (.int .i64 x.port)) := Lib.hid (fun W kW => by
                  exact ⟨⟨cell_of kW.2 0, cell_of kW.2 1, cell_of kW.2 2⟩, HAC.out W kW.1 0 _ rfl, HAC.out W kW.1 1 _ rfl⟩)
                have HPORT : Hid (∀ W, (Below w.heap.size w W ∧ W.heap[w.heap.size]? = some (.cells #[.slice ap T.ports.length cp, .slice al T.links.length cl, .slice (some ⟨b, off, none⟩) T.aces.length ca] 26 (0, 0))) → Calls Tryz.prog 143 #[.agg #[.slice ap T.ports.length cp, .slice al T.links.length cl, .slice (some ⟨b, off, none⟩) T.aces.length ca], .int .i64 x.dev, .int .i64 x.port] W fun e w' => e = .returned (.int .i64 (portT T.ports x.dev x.port)) ∧ (Below w.heap.size w w' ∧ w'.heap[w.heap.size]? = some (.cells #[.slice ap T.ports.length cp, .slice al T.links.length cl, .slice (some ⟨b, off, none⟩) T.aces.length ca] 26 (0, 0)))) := Lib.hid (fun W kW => by
                  refine (rport_calls (H.out.kept (kW.1.mono hB)) (Nat.le_trans hB kW.1.size) x.dev x.port).mono ?_
                  rintro e w' ⟨he, k⟩
                  exact ⟨he, kW.1.trans (k.mono kW.1.size), (k.block _ (lt_of_block kW.2)).trans kW.2⟩)
                have hr9 := HR8.out
                rw [HDR.out] at hr9
                unfold acesT at hr9
                obtain ⟨q, hq⟩ : ∃ q, q = portT T.ports x.dev x.port := ⟨_, rfl⟩
                rw [← hq] at HPORT hr9
                have HR9 := Lib.hid hr9
                have hjl : (j : Int) < (T.aces.length : Int) := by omega
                clear hr9 hq hK8
                go_upto_region 23 with (fail)
                have hBW : Below w.heap.size w wr.drew ∧ wr.drew.heap[w.heap.size]? = some (.cells #[.slice ap T.ports.length cp, .slice al T.links.length cl, .slice (some ⟨b, off, none⟩) T.aces.length ca] 26 (0, 0)) := ⟨HK8.out.drew, HB8.out⟩
                have hS := HCELL.out _ hBW
                clear z0 z1 z2
                go_region_held3 (fun w' => (w'.cell? ⟨w.heap.size, 0, none⟩ = some (.slice ap T.ports.length cp) ∧ w'.cell? ⟨w.heap.size, 1, none⟩ = some (.slice al T.links.length cl) ∧ w'.cell? ⟨w.heap.size, 2, none⟩ = some (.slice (some ⟨b, off, none⟩) T.aces.length ca)) ∧ w'.cell? ⟨b, off + j * 13, none⟩ = some (.int .i64 x.dev) ∧ w'.cell? ⟨b, off + j * 13 + 1, none⟩ = some (.int .i64 x.port)) (first | assumption) (first | (go_at_call 143; refine Calls.mono (HPORT.out _ (by assumption)) ?_; rintro e w' ⟨rfl, hB'⟩; have hS' := HCELL.out _ hB'))
                have HBN := Lib.hid hB'
                clear hS hBW
                by_cases hq0 : q = 0
                · subst hq0
                  have hr9 := HR9.out
                  rw [if_neg (by simp)] at hr9
                  have HR10 := Lib.hid hr9
                  have hac := HAC.out _ HBN.out.1
                  have e4 := hac 4 _ rfl
                  have e5 := hac 5 _ rfl
                  have e6 := hac 6 _ rfl
                  have e7 := hac 7 _ rfl
                  have e8 := hac 8 _ rfl
                  have e9 := hac 9 _ rfl
                  have e10 := hac 10 _ rfl
                  have e11 := hac 11 _ rfl
                  have e12 := hac 12 _ rfl
                  have HFC := Lib.hid (fun W => rfcheck_calls W HWF.out)
                  unfold Fl.val at HFC
                  clear hr9 hac hB'
                  go_wp2_with (fail)
                  refine Calls.mono (HFC.out _) ?_
                  rintro e w9 ⟨he, k9⟩
                  have HK9 := Lib.hid (HBN.out.1.trans (k9.mono HBN.out.1.size))
                  have HB9 := Lib.hid ((k9.block _ (lt_of_block HBN.out.2)).trans HBN.out.2)
                  have hr9 := HR10.out
                  clear k9 e4 e5 e6 e7 e8 e9 e10 e11 e12 hS'
                  by_cases hf : checkF x.f = 0
                  · rw [if_neg (by simpa using hf)] at hr9
                    rw [hf] at he
                    subst he
                    have HR11 := Lib.hid hr9
                    clear hf hr9
                    go_wp2_with (fail)
                    go_roundg (gk - 1)
                    case measure => omega
                    case rel => exact ⟨j + 1, by omega, by go_num, HK9.out, HB9.out, HR11.out⟩
                  · rw [if_pos (by simpa using hf)] at hr9
                    rw [← hr9] at he hf
                    subst he
                    have hq2 : (r != 0) = true := bne_iff_ne.2 hf
                    clear hr9
                    go_wp2_with (fail)
                    go_ret
                    exact ⟨rfl, HK9.out⟩
                · have hr9 := HR9.out
                  rw [if_pos (by simpa using hq0)] at hr9
                  obtain rfl : r = q := hr9
                  have hq2 : (r != 0) = true := bne_iff_ne.2 hq0
                  clear hB'
                  go_wp2_with (fail)
                  go_ret
                  exact ⟨rfl, HBN.out.1⟩
              · obtain rfl : j = T.aces.length := by omega
                obtain rfl : r = 0 := by
                  have := HR8.out
                  rw [List.drop_length] at this
                  exact this
                clear hK8
                go_wp2_with (fail)
                go_ret
                exact ⟨rfl, HK8.out⟩
end Go.Proofs.YtjoblahedgpgbaaGreat

namespace Go.Proofs.YtjoblahedgpgbaaGreat
open Go.RowKit Go.Maps

def lightT (T : Tp) : Bool := decide (T.ports.length ≤ 40) && (decide (T.links.length ≤ 100) && decide (T.aces.length ≤ 60))
variable {B : Nat} {w : World} {vp vl va : Value} {T : Tp}
set_option maxRecDepth 100000 in
set_option maxHeartbeats 2000000 in
theorem light5_calls (h : TpIn B w vp vl va T) : Calls Tryz.prog 72 #[.agg #[vp, vl, va]] w fun e w' => e = .returned (.bool (lightT T)) ∧ Below w.heap.size w w' := by
  obtain ⟨ap, cp, rfl, _⟩ := h.ports
  obtain ⟨al, cl, rfl, _⟩ := h.links
  obtain ⟨aa, ca, rfl, _⟩ := h.aces
  clear h
  have HX := Lib.hid (heap_alloc_new w (.cells #[.slice ap T.ports.length cp, .slice al T.links.length cl, .slice aa T.aces.length ca] 26))
  have HK := Lib.hid ((Below.refl w.heap.size w).alloc (Nat.le_refl _) (.cells #[.slice ap T.ports.length cp, .slice al T.links.length cl, .slice aa T.aces.length ca] 26))
  obtain ⟨r, hr⟩ : ∃ r, r = lightT T := ⟨_, rfl⟩
  rw [← hr]
  unfold lightT at hr
  go_enter Tryz.func72, Tryz.ntmps72
  go_upto_region 1 with (fail)
  generalize w.alloc (.cells #[.slice ap T.ports.length cp, .slice al T.links.length cl, .slice aa T.aces.length ca] 26) = w1 at *
  have z0 := cell_of HX.out 0
  have z1 := cell_of HX.out 1
  have z2 := cell_of HX.out 2
  simp only [List.getElem?_toArray, List.getElem?_cons_zero, List.getElem?_cons_succ] at z0 z1 z2
  by_cases h1 : T.ports.length ≤ 40
  · rw [decide_eq_true h1, Bool.true_and] at hr
    have h1' : (T.ports.length : Int) ≤ 40 := by omega
    by_cases h2 : T.links.length ≤ 100
    · rw [decide_eq_true h2, Bool.true_and] at hr
      have h2' : (T.links.length : Int) ≤ 100 := by omega
      by_cases h3 : T.aces.length ≤ 60
      · rw [decide_eq_true h3] at hr
        have h3' : (T.aces.length : Int) ≤ 60 := by omega
        subst hr
        clear h1 h2 h3
        go_wp2_with (fail)
        go_ret
        exact ⟨rfl, HK.out⟩
      · rw [decide_eq_false h3] at hr
        have h3' : ¬ (T.aces.length : Int) ≤ 60 := by omega
        subst hr
        clear h1 h2 h3
        go_wp2_with (fail)
        go_ret
        exact ⟨rfl, HK.out⟩
    · rw [decide_eq_false h2, Bool.false_and] at hr
      have h2' : ¬ (T.links.length : Int) ≤ 100 := by omega
      subst hr
      clear h1 h2
      go_wp2_with (fail)
      go_ret
      exact ⟨rfl, HK.out⟩
  · rw [decide_eq_false h1, Bool.false_and] at hr
    have h1' : ¬ (T.ports.length : Int) ≤ 40 := by omega
    subst hr
    clear h1
    go_wp2_with (fail)
    go_ret
    exact ⟨rfl, HK.out⟩

theorem lightT_iff (T : Tp) : lightT T = true ↔ T.ports.length ≤ 40 ∧ T.links.length ≤ 100 ∧ T.aces.length ≤ 60 := by simp [lightT]
/-- A topology that may be, and is small. -/
def fineT (T : Tp) : Bool := lightT T && decide (checkT T = 0)
set_option maxRecDepth 100000 in
set_option maxHeartbeats 2000000 in
theorem light13_calls (h : TpIn B w vp vl va T) (hB : B ≤ w.heap.size) : Calls Tryz.prog 15 #[.agg #[vp, vl, va]] w fun e w' => e = .returned (.bool (fineT T)) ∧ Below w.heap.size w w' := by
  have H := Lib.hid h
  obtain ⟨ap, cp, rfl, _⟩ := h.ports
  obtain ⟨al, cl, rfl, _⟩ := h.links
  obtain ⟨aa, ca, rfl, _⟩ := h.aces
  clear h
  have HX := Lib.hid (heap_alloc_new w (.cells #[.slice ap T.ports.length cp, .slice al T.links.length cl, .slice aa T.aces.length ca] 26))
  have HK := Lib.hid ((Below.refl w.heap.size w).alloc (Nat.le_refl _) (.cells #[.slice ap T.ports.length cp, .slice al T.links.length cl, .slice aa T.aces.length ca] 26))
  obtain ⟨r, hr⟩ : ∃ r, r = fineT T := ⟨_, rfl⟩
  rw [← hr]
  unfold fineT at hr
  have HL := Lib.hid (light5_calls (H.out.kept (HK.out.mono hB)))
  go_enter Tryz.func15, Tryz.ntmps15
  go_upto_region 1 with (fail)
  generalize w.alloc (.cells #[.slice ap T.ports.length cp, .slice al T.links.length cl, .slice aa T.aces.length ca] 26) = w1 at *
  have z0 := cell_of HX.out 0
  have z1 := cell_of HX.out 1
  have z2 := cell_of HX.out 2
  simp only [List.getElem?_toArray, List.getElem?_cons_zero, List.getElem?_cons_succ] at z0 z1 z2
  go_wp2_with (fail)
  refine Calls.mono HL.out ?_
  rintro e w2 ⟨he, k2⟩
  have hx2 := (k2.block _ (lt_of_block HX.out)).trans HX.out
  have HK2 := Lib.hid (HK.out.trans (k2.mono HK.out.size))
  clear k2 z0 z1 z2
  have z0 := cell_of hx2 0
  have z1 := cell_of hx2 1
  have z2 := cell_of hx2 2
  simp only [List.getElem?_toArray, List.getElem?_cons_zero, List.getElem?_cons_succ] at z0 z1 z2
  clear hx2
  cases hlt : lightT T with
  | false =>
    rw [hlt] at he hr
    subst he
    obtain rfl : r = false := hr
    clear hlt
    go_wp2_with (fail)
    go_ret
    exact ⟨rfl, HK2.out⟩
  | true =>
    rw [hlt] at he
    rw [hlt, Bool.true_and] at hr
    subst he
    obtain ⟨l1, l2, l3⟩ := (lightT_iff T).1 hlt
    have HC := Lib.hid (rcheck_calls (H.out.kept (HK2.out.mono hB)) (Nat.le_trans hB HK2.out.size) l1 l2 l3)
    have HRR := Lib.hid hr
    clear hlt l1 l2 l3 hr
    go_wp2_with (fail)
    refine Calls.mono HC.out ?_
    rintro e w3 ⟨he, k3⟩
    subst he
    have HK3 := Lib.hid (HK2.out.trans (k3.mono HK2.out.size))
    have hr := HRR.out
    clear k3 z0 z1 z2
    generalize checkT T = c at *
    by_cases hc : c = 0
    · subst hc
      obtain rfl : r = true := by simpa using hr
      clear hr
      go_wp2_with (fail)
      go_ret
      exact ⟨rfl, HK3.out⟩
    · obtain rfl : r = false := by rw [hr]; simp [hc]
      have hq : (c == 0) = false := beq_eq_false_iff_ne.2 hc
      clear hr
      go_wp2_with (fail)
      go_ret
      exact ⟨by first | rfl | simp [hq], HK3.out⟩
end Go.Proofs.YtjoblahedgpgbaaGreat
