/- Topologies: the port that a port is joined with. · Topologies: what a port lets by. · Topologies: where a header comes to that goes out by a port. · A step of a net: the walk. · A way through a net: the walk. · Layer 13's awake. · The net's methods at nil. · A way through the document's net: the walk. -/
import Derived.Test.YtjoblahedgpgbaaGreatWayP
import Derived.Test.YtjoblahedgpgbaaGreatMadeW
import Derived.Deep.AppendLies
import Derived.Deep.Onto
namespace Go.Proofs.YtjoblahedgpgbaaGreat
set_option linter.unusedVariables false
set_option linter.unusedSimpArgs false
open Go.RowKit

def peerV (o : Option (Int × Int)) : Value := match o with
  | none => .tuple #[.int .i64 0, .int .i64 0, .bool false]
  | some e => .tuple #[.int .i64 e.1, .int .i64 e.2, .bool true]

variable {B : Nat} {w : World} {vp vl va : Value} {T : Tp}
set_option maxRecDepth 100000 in
set_option maxHeartbeats 4000000 in
theorem tpeer_calls (h : TpIn B w vp vl va T) (hB : B ≤ w.heap.size) (hl : T.links.length ≤ 100) (d p : Int) : Calls Tryz.prog 197 #[.agg #[vp, vl, va], .int .i64 d, .int .i64 p] w fun e w' => e = .returned (peerV (peerT T.links d p)) ∧ Below w.heap.size w w' := by
  have H := Lib.hid h
  obtain ⟨ap, cp, rfl, _⟩ := h.ports
  obtain ⟨al, cl, rfl, _⟩ := h.links
  obtain ⟨aa, ca, rfl, _⟩ := h.aces
  clear h
  have HX := Lib.hid (heap_alloc_new w (.cells #[.slice ap T.ports.length cp, .slice al T.links.length cl, .slice aa T.aces.length ca] 26))
  have HK := Lib.hid ((Below.refl w.heap.size w).alloc (Nat.le_refl _) (.cells #[.slice ap T.ports.length cp, .slice al T.links.length cl, .slice aa T.aces.length ca] 26))
  obtain ⟨r, hr⟩ : ∃ r, r = peerT T.links d p := ⟨_, rfl⟩
  rw [← hr]
  have HR := Lib.hid hr
  clear hr
  go_enter Tryz.func197, Tryz.ntmps197
  go_upto_region 1 with (fail)
  generalize w.alloc (.cells #[.slice ap T.ports.length cp, .slice al T.links.length cl, .slice aa T.aces.length ca] 26) = w1 at *
  have z1 := cell_of HX.out 1
  simp only [List.getElem?_toArray, List.getElem?_cons_zero, List.getElem?_cons_succ] at z1
  go_wp2_with (fail)
  go_loopg [14] T.links.length (fun gk vi wr => ∃ i : Nat, i + gk = T.links.length ∧ vi = .int .i64 (i : Int) ∧ Below w.heap.size w wr ∧ r = peerT (T.links.drop i) d p)
  case atStart => exact ⟨0, by omega, rfl, HK.out, by simpa using HR.out⟩
  case round =>
    obtain ⟨i, hgk, rfl, hK, hri⟩ := hrel
    have HKR := Lib.hid hK
    by_cases hlt : i < T.links.length
    · obtain ⟨b, off, cap', he, e0, e1, e2, e3⟩ := (H.out.kept (hK.mono hB)).link hlt
      cases he
      have hdr := List.drop_eq_getElem_cons hlt
      rw [hdr] at hri
      generalize T.links[i] = x at *
      clear hdr
      obtain ⟨x1, x2, x3, x4⟩ := x
      simp only at e0 e1 e2 e3
      unfold peerT at hri
      simp only at hri
      have HXA := Lib.hid (heap_alloc_new wr (.cells #[.int .i64 x1, .int .i64 x2, .int .i64 x3, .int .i64 x4] 348))
      have HKA := Lib.hid (hK.alloc hK.size (.cells #[.int .i64 x1, .int .i64 x2, .int .i64 x3, .int .i64 x4] 348))
      have HRI := Lib.hid hri
      clear hK hri z1
      go_upto_region 4 with (fail)
      generalize wr.alloc (.cells #[.int .i64 x1, .int .i64 x2, .int .i64 x3, .int .i64 x4] 348) = wa at *
      have y0 := cell_of HXA.out 0
      have y1 := cell_of HXA.out 1
      have y2 := cell_of HXA.out 2
      have y3 := cell_of HXA.out 3
      simp only [List.getElem?_toArray, List.getElem?_cons_zero, List.getElem?_cons_succ] at y0 y1 y2 y3
      clear e0 e1 e2 e3
      by_cases h1 : x1 = d ∧ x2 = p
      · have hri := HRI.out
        rw [if_pos h1] at hri
        obtain ⟨rfl, rfl⟩ := h1
        subst hri
        go_wp2_with (fail)
        go_region
        go_wp2_with (fail)
        exact bodyPost_ret (v := .tuple #[.int .i64 x3, .int .i64 x4, .bool true]) (by simp [results, Tryz.results197, go_sem]) rfl ⟨rfl, HKA.out.drew⟩
      · have hri := HRI.out
        rw [if_neg h1] at hri
        have H1 := Lib.hid h1
        clear h1
        by_cases h2 : x3 = d ∧ x4 = p
        · rw [if_pos h2] at hri
          obtain ⟨rfl, rfl⟩ := h2
          subst hri
          go_wp2_with (fail)
          all_goals first
            | (exfalso; have a1 := H1.out; omega)
            | (go_region
               go_wp2_with (fail)
               exact bodyPost_ret (v := .tuple #[.int .i64 x1, .int .i64 x2, .bool true]) (by simp [results, Tryz.results197, go_sem]) rfl ⟨rfl, HKA.out.drew⟩)
        · rw [if_neg h2] at hri
          have H2 := Lib.hid h2
          have HRJ := Lib.hid hri
          clear h2 hri
          go_wp2_with (fail)
          all_goals first
            | (exfalso; have a1 := H1.out; have a2 := H2.out; omega)
            | (subst_vars
               go_roundg (gk - 1)
               case measure => omega
               case rel => exact ⟨i + 1, by omega, by go_num, HKA.out, HRJ.out⟩)
    · obtain rfl : i = T.links.length := by omega
      rw [List.drop_eq_nil_of_le (Nat.le_refl _)] at hri
      obtain rfl : r = none := hri
      clear hK
      go_wp2_with (fail)
      exact bodyPost_ret (v := .tuple #[.int .i64 0, .int .i64 0, .bool false]) (by simp [results, Tryz.results197, go_sem]) rfl ⟨rfl, HKR.out⟩

theorem other_lt {ls : List Lk} {i : Nat} (hi : i < (ends ls).length) : other i < (ends ls).length := by
  rw [ends_len] at *
  unfold other
  split <;> omega
set_option maxRecDepth 100000 in
set_option maxHeartbeats 4000000 in
theorem rpeer_calls (h : TpIn B w vp vl va T) (hB : B ≤ w.heap.size) (hl : T.links.length ≤ 100) (d p : Int) : Calls Tryz.prog 153 #[.agg #[vp, vl, va], .int .i64 d, .int .i64 p] w fun e w' => e = .returned (peerV (peerT T.links d p)) ∧ Below w.heap.size w w' := by
  have H := Lib.hid h
  obtain ⟨ap, cp, rfl, _⟩ := h.ports
  obtain ⟨al, cl, rfl, _⟩ := h.links
  obtain ⟨aa, ca, rfl, _⟩ := h.aces
  clear h
  have HX := Lib.hid (heap_alloc_new w (.cells #[.slice ap T.ports.length cp, .slice al T.links.length cl, .slice aa T.aces.length ca] 26))
  have HK := Lib.hid ((Below.refl w.heap.size w).alloc (Nat.le_refl _) (.cells #[.slice ap T.ports.length cp, .slice al T.links.length cl, .slice aa T.aces.length ca] 26))
  obtain ⟨r, hr⟩ : ∃ r, r = peerT T.links d p := ⟨_, rfl⟩
  rw [← hr]
  have HHIT : Hid (∀ i, (ends T.links)[i]? = some (d, p) → (∀ x ∈ (ends T.links).take i, x ≠ (d, p)) → r = (ends T.links)[other i]?) := Lib.hid (fun i hi hn => hr.trans (peer_hit _ _ _ i hi (fun j hj e => by
    obtain ⟨hlt, he⟩ := List.getElem?_eq_some_iff.1 e
    exact hn _ (List.mem_take_iff_getElem.2 ⟨j, by omega, rfl⟩) he)))
  have HNONE : Hid ((∀ x ∈ ends T.links, x ≠ (d, p)) → r = none) := Lib.hid (fun hn => hr.trans (peer_none _ _ _ (fun j e => hn _ (List.mem_of_getElem? e) rfl)))
  have HOTH : Hid (∀ i, i < (ends T.links).length → other i < (ends T.links).length) := Lib.hid (fun i hi => other_lt hi)
  have HES : Hid ((ends T.links).length ≤ 200) := Lib.hid (by rw [ends_len]; omega)
  clear hr
  have hpe := pr_eq
  go_enter Tryz.func153, Tryz.ntmps153
  go_upto_region 1 with (fail)
  generalize w.alloc (.cells #[.slice ap T.ports.length cp, .slice al T.links.length cl, .slice aa T.aces.length ca] 26) = w1 at *
  have HEN := Lib.hid (rends_calls (H.out.kept (HK.out.mono hB)) (Nat.le_trans hB HK.out.size) hl)
  have z0 := cell_of HX.out 0
  have z1 := cell_of HX.out 1
  have z2 := cell_of HX.out 2
  simp only [List.getElem?_toArray, List.getElem?_cons_zero, List.getElem?_cons_succ] at z0 z1 z2
  generalize ends T.links = es at *
  go_wp2_with (fail)
  refine Calls.mono HEN.out ?_
  rintro e w2 ⟨vo, he, ho, k2⟩
  subst he
  obtain ⟨ao, capo, rfl⟩ : ∃ ao cap, vo = .slice ao es.length cap := by
    rcases ho.2 with ⟨h0, h1⟩ | ⟨g', cap', cur, h0, _⟩
    · exact ⟨none, 0, by rw [h0, h1]⟩
    · exact ⟨_, cap', h0⟩
  have HK2 := Lib.hid (HK.out.trans (k2.mono HK.out.size))
  have HO := Lib.hid ho
  clear k2 ho z0 z1 z2
  go_wp2_with (fail)
  go_loopg [10] es.length (fun gk vi wr => ∃ i : Nat, i + gk = es.length ∧ vi = .int .i64 (i : Int) ∧ wr = w2 ∧ ∀ x ∈ es.take i, x ≠ (d, p))
  case atStart => exact ⟨0, by omega, rfl, rfl, by simp⟩
  case round =>
    obtain ⟨i, hgk, rfl, rfl, hN⟩ := hrel
    have HN := Lib.hid hN
    clear hN
    by_cases hlt : i < es.length
    · obtain ⟨g, rfl⟩ : ∃ g, ao = some ⟨g, 0, none⟩ := by
        rcases HO.out.2 with ⟨h0, h1⟩ | ⟨g', cap', cur, h0, _⟩
        · omega
        · injection h0 with h0; exact ⟨g', h0⟩
      have HROW : Hid (∀ k (hk : k < es.length), wr.cell? ⟨g, k * 2, none⟩ = some (.int .i64 es[k].1) ∧ wr.cell? ⟨g, k * 2 + 1, none⟩ = some (.int .i64 es[k].2)) := Lib.hid (fun k hk => ⟨(HO.out.cellAt (k * 2) (by omega)).trans (prCells_get es k hk).1, (HO.out.cellAt (k * 2 + 1) (by omega)).trans (prCells_get es k hk).2⟩)
      obtain ⟨r0, r1⟩ := HROW.out i hlt
      have HTK : Hid (es.take (i + 1) = es.take i ++ [es[i]]) := Lib.hid (by rw [List.take_add_one, List.getElem?_eq_getElem hlt]; rfl)
      have HGI : Hid (es[i]? = some es[i]) := Lib.hid (List.getElem?_eq_getElem hlt)
      generalize es[i] = ei at *
      obtain ⟨c, f⟩ := ei
      simp only at r0 r1
      have hwi : (i : Int) < (es.length : Int) := by omega
      have HI2 : Hid (i < 1000) := Lib.hid (by have := HES.out; omega)
      have hib : i < 1000 := HI2.out
      by_cases h1 : c = d ∧ f = p
      · obtain ⟨rfl, rfl⟩ := h1
        have hhit := HHIT.out i HGI.out HN.out
        have hol := HOTH.out i hlt
        have hoi := HI2.out
        obtain ⟨q0, q1⟩ := HROW.out _ hol
        rw [List.getElem?_eq_getElem hol] at hhit
        generalize es[other i] = eo at *
        obtain ⟨c2, f2⟩ := eo
        subst hhit
        simp only at q0 q1
        unfold other at hol q0 q1
        by_cases hodd : i % 2 = 1
        · rw [if_pos hodd] at hol q0 q1
          obtain ⟨k, rfl⟩ : ∃ k, i = k + 1 := ⟨i - 1, by omega⟩
          rw [Nat.add_sub_cancel] at hol q0 q1
          have ho1 : ((k : Int) + 1) % 2 = 1 := by omega
          have ho2 : Int.tmod ((k : Int) + 1) 2 = 1 := by rw [Int.tmod_eq_emod_of_nonneg (by omega)]; exact ho1
          have hki : (k : Int) < (es.length : Int) := by omega
          clear hodd
          go_wp2_with (fail)
          go_region
          go_wp2_with (fail)
          exact bodyPost_ret (v := .tuple #[.int .i64 c2, .int .i64 f2, .bool true]) (by simp [results, Tryz.results153, go_sem]) rfl ⟨rfl, HK2.out.drew⟩
        · rw [if_neg hodd] at hol q0 q1
          have ho1 : (i : Int) % 2 = 0 := by omega
          have ho2 : Int.tmod (i : Int) 2 = 0 := by rw [Int.tmod_eq_emod_of_nonneg (by omega)]; exact ho1
          have hki : (i : Int) + 1 < (es.length : Int) := by omega
          clear hodd
          go_wp2_with (fail)
          go_region
          go_wp2_with (fail)
          exact bodyPost_ret (v := .tuple #[.int .i64 c2, .int .i64 f2, .bool true]) (by simp [results, Tryz.results153, go_sem]) rfl ⟨rfl, HK2.out.drew⟩
      · have H1 : Hid ((c, f) ≠ (d, p)) := Lib.hid (fun e => h1 ⟨congrArg Prod.fst e, congrArg Prod.snd e⟩)
        by_cases h2 : c = d
        · have h3 : (f == p) = false := beq_eq_false_iff_ne.2 (fun e => h1 ⟨h2, e⟩)
          subst h2
          clear h1
          go_wp2_with (fail)
          go_roundg (gk - 1)
          case measure => omega
          case rel =>
            refine ⟨i + 1, by omega, by go_num, rfl, fun x hx => ?_⟩
            rw [HTK.out] at hx
            rcases List.mem_append.1 hx with hx | hx
            · exact HN.out x hx
            · rw [List.mem_singleton.1 hx]
              intro e
              exact H1.out e
        · have h3 : (c == d) = false := beq_eq_false_iff_ne.2 h2
          clear h1 h2
          go_wp2_with (fail)
          go_roundg (gk - 1)
          case measure => omega
          case rel =>
            refine ⟨i + 1, by omega, by go_num, rfl, fun x hx => ?_⟩
            rw [HTK.out] at hx
            rcases List.mem_append.1 hx with hx | hx
            · exact HN.out x hx
            · rw [List.mem_singleton.1 hx]
              intro e
              exact H1.out e
    · obtain rfl : i = es.length := by omega
      have hn := HN.out
      rw [List.take_length] at hn
      obtain rfl : r = none := HNONE.out hn
      clear hn
      go_wp2_with (fail)
      exact bodyPost_ret (v := .tuple #[.int .i64 0, .int .i64 0, .bool false]) (by simp [results, Tryz.results153, go_sem]) rfl ⟨rfl, HK2.out⟩
end Go.Proofs.YtjoblahedgpgbaaGreat

namespace Go.Proofs.YtjoblahedgpgbaaGreat
set_option linter.unusedVariables false
set_option linter.unusedSimpArgs false
open Go.RowKit
variable {B : Nat} {w : World} {vp vl va : Value} {T : Tp}

set_option maxRecDepth 100000 in
set_option maxHeartbeats 4000000 in
theorem tpermit_calls (h : TpIn B w vp vl va T) (hB : B ≤ w.heap.size) (ha : T.aces.length ≤ 60) (hc : ∀ a ∈ T.aces, checkF a.f = 0) (d p : Int) (inn : Bool) (hv : Hv) (hh : hv.Wf) : Calls Tryz.prog 240 #[.agg #[vp, vl, va], .int .i64 d, .int .i64 p, .bool inn, hv.val] w fun e w' => e = .returned (.bool (permT T.aces d p inn hv)) ∧ Below w.heap.size w w' := by
  have H := Lib.hid h
  obtain ⟨ap, cp, rfl, _⟩ := h.ports
  obtain ⟨al, cl, rfl, _⟩ := h.links
  obtain ⟨aa, ca, rfl, _⟩ := h.aces
  clear h
  have HM : Hid (∀ W, ∀ a ∈ T.aces, Calls Tryz.prog 275 #[a.f.val, hv.val] W fun e w' => e = .returned (.bool (matchF a.f hv)) ∧ Below W.heap.size W w') := Lib.hid (fun W a ham => fmatch_calls W (H.out.wf a ham) hh (hc a ham))
  obtain ⟨r, hr⟩ : ∃ r, r = permT T.aces d p inn hv := ⟨_, rfl⟩
  rw [← hr]
  have HR := Lib.hid hr
  obtain ⟨hd, hs, hpr, sp, dp⟩ := hv
  unfold Hv.val at *
  simp only at *
  clear hr hc
  have HX : Hid (((w.alloc (.cells #[.slice ap T.ports.length cp, .slice al T.links.length cl, .slice aa T.aces.length ca] 26)).alloc (.cells #[.int .u32 (hd : Int), .int .u32 (hs : Int), .int .u8 (hpr : Int), .int .u16 (sp : Int), .int .u16 (dp : Int)] 31)).heap[w.heap.size]? = some (.cells #[.slice ap T.ports.length cp, .slice al T.links.length cl, .slice aa T.aces.length ca] 26 (0, 0))) := Lib.hid (blk_alloc (heap_alloc_new w _) _)
  have HY : Hid (((w.alloc (.cells #[.slice ap T.ports.length cp, .slice al T.links.length cl, .slice aa T.aces.length ca] 26)).alloc (.cells #[.int .u32 (hd : Int), .int .u32 (hs : Int), .int .u8 (hpr : Int), .int .u16 (sp : Int), .int .u16 (dp : Int)] 31)).heap[w.heap.size + 1]? = some (.cells #[.int .u32 (hd : Int), .int .u32 (hs : Int), .int .u8 (hpr : Int), .int .u16 (sp : Int), .int .u16 (dp : Int)] 31 (0, 0))) := Lib.hid (by
    have := heap_alloc_new (w.alloc (.cells #[.slice ap T.ports.length cp, .slice al T.links.length cl, .slice aa T.aces.length ca] 26)) (.cells #[.int .u32 (hd : Int), .int .u32 (hs : Int), .int .u8 (hpr : Int), .int .u16 (sp : Int), .int .u16 (dp : Int)] 31)
    rwa [show (w.alloc (.cells #[.slice ap T.ports.length cp, .slice al T.links.length cl, .slice aa T.aces.length ca] 26)).heap.size = w.heap.size + 1 by simp] at this)
  have HK : Hid (Below w.heap.size w ((w.alloc (.cells #[.slice ap T.ports.length cp, .slice al T.links.length cl, .slice aa T.aces.length ca] 26)).alloc (.cells #[.int .u32 (hd : Int), .int .u32 (hs : Int), .int .u8 (hpr : Int), .int .u16 (sp : Int), .int .u16 (dp : Int)] 31))) := Lib.hid (((Below.refl w.heap.size w).alloc (Nat.le_refl _) _).alloc (by simp) _)
  go_enter Tryz.func240, Tryz.ntmps240
  go_upto_region 1 with (fail)
  generalize (w.alloc (.cells #[.slice ap T.ports.length cp, .slice al T.links.length cl, .slice aa T.aces.length ca] 26)).alloc (.cells #[.int .u32 (hd : Int), .int .u32 (hs : Int), .int .u8 (hpr : Int), .int .u16 (sp : Int), .int .u16 (dp : Int)] 31) = w1 at *
  have z2 := cell_of HX.out 2
  simp only [List.getElem?_toArray, List.getElem?_cons_zero, List.getElem?_cons_succ] at z2
  go_wp2_with (fail)
  go_loopg [16] T.aces.length (fun gk vi wr => ∃ i : Nat, i + gk = T.aces.length ∧ vi = .int .i64 (i : Int) ∧ Below w.heap.size w wr ∧ wr.heap[w.heap.size]? = some (.cells #[.slice ap T.ports.length cp, .slice al T.links.length cl, .slice aa T.aces.length ca] 26 (0, 0)) ∧ wr.heap[w.heap.size + 1]? = some (.cells #[.int .u32 (hd : Int), .int .u32 (hs : Int), .int .u8 (hpr : Int), .int .u16 (sp : Int), .int .u16 (dp : Int)] 31 (0, 0)) ∧ r = permT (T.aces.drop i) d p inn ⟨hd, hs, hpr, sp, dp⟩)
  case atStart => exact ⟨0, by omega, rfl, HK.out, HX.out, HY.out, by simpa using HR.out⟩
  case round =>
    obtain ⟨i, hgk, rfl, hK, hB2, hB3, hri⟩ := hrel
    have HKR := Lib.hid hK
    have HB2 := Lib.hid (And.intro hB2 hB3)
    have z2 := cell_of hB2 2
    simp only [List.getElem?_toArray, List.getElem?_cons_zero, List.getElem?_cons_succ] at z2
    clear hB2 hB3
    by_cases hlt : i < T.aces.length
    · obtain ⟨b, off, cap', he, hcell⟩ := (H.out.kept (hK.mono hB)).ace hlt
      cases he
      have hdr := List.drop_eq_getElem_cons hlt
      have HMA := Lib.hid (fun W => HM.out W _ (List.getElem_mem hlt))
      rw [hdr] at hri
      generalize T.aces[i] = x at *
      clear hdr
      obtain ⟨xd, xp, xi, xr, f0, f1, f2, f3, f4, f5, f6, f7, f8⟩ := x
      unfold permT at hri
      unfold Fl.val at HMA
      simp only at hri HMA
      have e0 := hcell 0 _ rfl
      have e1 := hcell 1 _ rfl
      have e2 := hcell 2 _ rfl
      have e3 := hcell 3 _ rfl
      have e4 := hcell 4 _ rfl
      have e5 := hcell 5 _ rfl
      have e6 := hcell 6 _ rfl
      have e7 := hcell 7 _ rfl
      have e8 := hcell 8 _ rfl
      have e9 := hcell 9 _ rfl
      have e10 := hcell 10 _ rfl
      have e11 := hcell 11 _ rfl
      have e12 := hcell 12 _ rfl
      rw [Nat.add_zero] at e0
      have HXA := Lib.hid (heap_alloc_new wr (.cells #[.int .i64 xd, .int .i64 xp, .bool xi, .bool xr, .int .u32 (f0 : Int), .int .i64 f1, .int .u32 (f2 : Int), .int .i64 f3, .int .i64 f4, .int .u16 (f5 : Int), .int .u16 (f6 : Int), .int .u16 (f7 : Int), .int .u16 (f8 : Int)] 265))
      have HKA := Lib.hid (hK.alloc hK.size (.cells #[.int .i64 xd, .int .i64 xp, .bool xi, .bool xr, .int .u32 (f0 : Int), .int .i64 f1, .int .u32 (f2 : Int), .int .i64 f3, .int .i64 f4, .int .u16 (f5 : Int), .int .u16 (f6 : Int), .int .u16 (f7 : Int), .int .u16 (f8 : Int)] 265))
      have HB4 := Lib.hid (And.intro (blk_alloc HB2.out.1 (.cells #[.int .i64 xd, .int .i64 xp, .bool xi, .bool xr, .int .u32 (f0 : Int), .int .i64 f1, .int .u32 (f2 : Int), .int .i64 f3, .int .i64 f4, .int .u16 (f5 : Int), .int .u16 (f6 : Int), .int .u16 (f7 : Int), .int .u16 (f8 : Int)] 265)) (blk_alloc HB2.out.2 (.cells #[.int .i64 xd, .int .i64 xp, .bool xi, .bool xr, .int .u32 (f0 : Int), .int .i64 f1, .int .u32 (f2 : Int), .int .i64 f3, .int .i64 f4, .int .u16 (f5 : Int), .int .u16 (f6 : Int), .int .u16 (f7 : Int), .int .u16 (f8 : Int)] 265)))
      have HRI := Lib.hid hri
      clear hK hri hcell
      go_upto_region 4 with (fail)
      generalize wr.alloc (.cells #[.int .i64 xd, .int .i64 xp, .bool xi, .bool xr, .int .u32 (f0 : Int), .int .i64 f1, .int .u32 (f2 : Int), .int .i64 f3, .int .i64 f4, .int .u16 (f5 : Int), .int .u16 (f6 : Int), .int .u16 (f7 : Int), .int .u16 (f8 : Int)] 265) = wa at *
      have y0 := cell_of HXA.out 0
      have y1 := cell_of HXA.out 1
      have y2 := cell_of HXA.out 2
      simp only [List.getElem?_toArray, List.getElem?_cons_zero, List.getElem?_cons_succ] at y0 y1 y2
      clear e0 e1 e2 e3 e4 e5 e6 e7 e8 e9 e10 e11 e12 z2
      by_cases h1 : xd = d
      · by_cases h2 : xp = p
        · by_cases h3 : xi = inn
          · subst h1
            subst h2
            subst h3
            have y4 := cell_of HXA.out 4
            have y5 := cell_of HXA.out 5
            have y6 := cell_of HXA.out 6
            have y7 := cell_of HXA.out 7
            have y8 := cell_of HXA.out 8
            have y9 := cell_of HXA.out 9
            have y10 := cell_of HXA.out 10
            have y11 := cell_of HXA.out 11
            have y12 := cell_of HXA.out 12
            have x0 := cell_of HB4.out.2 0
            have x1 := cell_of HB4.out.2 1
            have x2 := cell_of HB4.out.2 2
            have x3 := cell_of HB4.out.2 3
            have x4 := cell_of HB4.out.2 4
            simp only [List.getElem?_toArray, List.getElem?_cons_zero, List.getElem?_cons_succ] at y4 y5 y6 y7 y8 y9 y10 y11 y12 x0 x1 x2 x3 x4
            have HMB := Lib.hid (HMA.out wa)
            generalize matchF ⟨f0, f1, f2, f3, f4, f5, f6, f7, f8⟩ ⟨hd, hs, hpr, sp, dp⟩ = m at *
            go_wp2_with (fail)
            refine Calls.mono HMB.out ?_
            rintro e w7 ⟨he, k7⟩
            have HXA7 := Lib.hid ((k7.block _ (lt_of_block HXA.out)).trans HXA.out)
            have HB7 := Lib.hid (And.intro ((k7.block _ (lt_of_block HB4.out.1)).trans HB4.out.1) ((k7.block _ (lt_of_block HB4.out.2)).trans HB4.out.2))
            have HK7 := Lib.hid (HKA.out.trans (k7.mono HKA.out.size))
            subst he
            clear k7 y0 y1 y2 y4 y5 y6 y7 y8 y9 y10 y11 y12 x0 x1 x2 x3 x4
            have y3 := cell_of HXA7.out 3
            simp only [List.getElem?_toArray, List.getElem?_cons_zero, List.getElem?_cons_succ] at y3
            have hri := HRI.out
            cases m with
            | true =>
              rw [if_pos (by simp)] at hri
              subst hri
              go_wp2_with (fail)
              go_ret
              exact ⟨rfl, HK7.out⟩
            | false =>
              rw [if_neg (by simp)] at hri
              have HRJ := Lib.hid hri
              clear hri
              go_wp2_with (fail)
              go_roundg (gk - 1)
              case measure => omega
              case rel => exact ⟨i + 1, by omega, by go_num, HK7.out, HB7.out.1, HB7.out.2, HRJ.out⟩
          · have h4 : (xi == inn) = false := by
              cases xi <;> cases inn <;> first | rfl | exact absurd rfl h3
            subst h1
            subst h2
            have hri := HRI.out
            rw [if_neg (fun e => h3 e.2.2.1)] at hri
            have HRJ := Lib.hid hri
            clear hri
            go_wp2_with (fail)
            go_roundg (gk - 1)
            case measure => omega
            case rel => exact ⟨i + 1, by omega, by go_num, HKA.out, HB4.out.1, HB4.out.2, HRJ.out⟩
        · have h4 : (xp == p) = false := beq_eq_false_iff_ne.2 h2
          subst h1
          have hri := HRI.out
          rw [if_neg (fun e => h2 e.2.1)] at hri
          have HRJ := Lib.hid hri
          clear hri
          go_wp2_with (fail)
          go_roundg (gk - 1)
          case measure => omega
          case rel => exact ⟨i + 1, by omega, by go_num, HKA.out, HB4.out.1, HB4.out.2, HRJ.out⟩
      · have h4 : (xd == d) = false := beq_eq_false_iff_ne.2 h1
        have hri := HRI.out
        rw [if_neg (fun e => h1 e.1)] at hri
        have HRJ := Lib.hid hri
        clear hri
        go_wp2_with (fail)
        go_roundg (gk - 1)
        case measure => omega
        case rel => exact ⟨i + 1, by omega, by go_num, HKA.out, HB4.out.1, HB4.out.2, HRJ.out⟩
    · obtain rfl : i = T.aces.length := by omega
      rw [List.drop_eq_nil_of_le (Nat.le_refl _)] at hri
      obtain rfl : r = true := hri
      clear hK
      go_wp2_with (fail)
      go_ret
      exact ⟨rfl, HKR.out⟩

set_option maxRecDepth 100000 in
set_option maxHeartbeats 4000000 in
theorem rpermit_calls (h : TpIn B w vp vl va T) (hB : B ≤ w.heap.size) (ha : T.aces.length ≤ 60) (hc : ∀ a ∈ T.aces, checkF a.f = 0) (d p : Int) (inn : Bool) (hv : Hv) (hh : hv.Wf) : Calls Tryz.prog 152 #[.agg #[vp, vl, va], .int .i64 d, .int .i64 p, .bool inn, hv.val] w fun e w' => e = .returned (.bool (permT T.aces d p inn hv)) ∧ Below w.heap.size w w' := by
  have H := Lib.hid h
  obtain ⟨ap, cp, rfl, _⟩ := h.ports
  obtain ⟨al, cl, rfl, _⟩ := h.links
  obtain ⟨aa, ca, rfl, _⟩ := h.aces
  clear h
  have HM : Hid (∀ W, ∀ a ∈ T.aces, Calls Tryz.prog 214 #[a.f.val, hv.val] W fun e w' => e = .returned (.bool (matchF a.f hv)) ∧ Below W.heap.size W w') := Lib.hid (fun W a ham => rfmatch_calls W (H.out.wf a ham) hh (hc a ham))
  obtain ⟨r, hr⟩ : ∃ r, r = permT T.aces d p inn hv := ⟨_, rfl⟩
  rw [← hr]
  have HR := Lib.hid hr
  obtain ⟨hd, hs, hpr, sp, dp⟩ := hv
  unfold Hv.val at *
  simp only at *
  clear hr hc
  have HX : Hid (((w.alloc (.cells #[.slice ap T.ports.length cp, .slice al T.links.length cl, .slice aa T.aces.length ca] 26)).alloc (.cells #[.int .u32 (hd : Int), .int .u32 (hs : Int), .int .u8 (hpr : Int), .int .u16 (sp : Int), .int .u16 (dp : Int)] 31)).heap[w.heap.size]? = some (.cells #[.slice ap T.ports.length cp, .slice al T.links.length cl, .slice aa T.aces.length ca] 26 (0, 0))) := Lib.hid (blk_alloc (heap_alloc_new w _) _)
  have HY : Hid (((w.alloc (.cells #[.slice ap T.ports.length cp, .slice al T.links.length cl, .slice aa T.aces.length ca] 26)).alloc (.cells #[.int .u32 (hd : Int), .int .u32 (hs : Int), .int .u8 (hpr : Int), .int .u16 (sp : Int), .int .u16 (dp : Int)] 31)).heap[w.heap.size + 1]? = some (.cells #[.int .u32 (hd : Int), .int .u32 (hs : Int), .int .u8 (hpr : Int), .int .u16 (sp : Int), .int .u16 (dp : Int)] 31 (0, 0))) := Lib.hid (by
    have := heap_alloc_new (w.alloc (.cells #[.slice ap T.ports.length cp, .slice al T.links.length cl, .slice aa T.aces.length ca] 26)) (.cells #[.int .u32 (hd : Int), .int .u32 (hs : Int), .int .u8 (hpr : Int), .int .u16 (sp : Int), .int .u16 (dp : Int)] 31)
    rwa [show (w.alloc (.cells #[.slice ap T.ports.length cp, .slice al T.links.length cl, .slice aa T.aces.length ca] 26)).heap.size = w.heap.size + 1 by simp] at this)
  have HK : Hid (Below w.heap.size w ((w.alloc (.cells #[.slice ap T.ports.length cp, .slice al T.links.length cl, .slice aa T.aces.length ca] 26)).alloc (.cells #[.int .u32 (hd : Int), .int .u32 (hs : Int), .int .u8 (hpr : Int), .int .u16 (sp : Int), .int .u16 (dp : Int)] 31))) := Lib.hid (((Below.refl w.heap.size w).alloc (Nat.le_refl _) _).alloc (by simp) _)
  go_enter Tryz.func152, Tryz.ntmps152
  go_upto_region 1 with (fail)
  generalize (w.alloc (.cells #[.slice ap T.ports.length cp, .slice al T.links.length cl, .slice aa T.aces.length ca] 26)).alloc (.cells #[.int .u32 (hd : Int), .int .u32 (hs : Int), .int .u8 (hpr : Int), .int .u16 (sp : Int), .int .u16 (dp : Int)] 31) = w1 at *
  have z2 := cell_of HX.out 2
  simp only [List.getElem?_toArray, List.getElem?_cons_zero, List.getElem?_cons_succ] at z2
  go_wp2_with (fail)
  go_loopg [11] T.aces.length (fun gk vi wr => ∃ i : Nat, i + gk = T.aces.length ∧ vi = .int .i64 (i : Int) ∧ Below w.heap.size w wr ∧ wr.heap[w.heap.size]? = some (.cells #[.slice ap T.ports.length cp, .slice al T.links.length cl, .slice aa T.aces.length ca] 26 (0, 0)) ∧ wr.heap[w.heap.size + 1]? = some (.cells #[.int .u32 (hd : Int), .int .u32 (hs : Int), .int .u8 (hpr : Int), .int .u16 (sp : Int), .int .u16 (dp : Int)] 31 (0, 0)) ∧ r = permT (T.aces.drop i) d p inn ⟨hd, hs, hpr, sp, dp⟩)
  case atStart => exact ⟨0, by omega, rfl, HK.out, HX.out, HY.out, by simpa using HR.out⟩
  case round =>
    obtain ⟨i, hgk, rfl, hK, hB2, hB3, hri⟩ := hrel
    have HKR := Lib.hid hK
    have HB2 := Lib.hid (And.intro hB2 hB3)
    have z2 := cell_of hB2 2
    simp only [List.getElem?_toArray, List.getElem?_cons_zero, List.getElem?_cons_succ] at z2
    clear hB2 hB3
    by_cases hlt : i < T.aces.length
    · obtain ⟨b, off, cap', he, hcell⟩ := (H.out.kept (hK.mono hB)).ace hlt
      cases he
      have hdr := List.drop_eq_getElem_cons hlt
      have HMA := Lib.hid (fun W => HM.out W _ (List.getElem_mem hlt))
      rw [hdr] at hri
      generalize T.aces[i] = x at *
      clear hdr
      obtain ⟨xd, xp, xi, xr, f0, f1, f2, f3, f4, f5, f6, f7, f8⟩ := x
      unfold permT at hri
      unfold Fl.val at HMA
      simp only at hri HMA
      have e0 := hcell 0 _ rfl
      have e1 := hcell 1 _ rfl
      have e2 := hcell 2 _ rfl
      have e3 := hcell 3 _ rfl
      have e4 := hcell 4 _ rfl
      have e5 := hcell 5 _ rfl
      have e6 := hcell 6 _ rfl
      have e7 := hcell 7 _ rfl
      have e8 := hcell 8 _ rfl
      have e9 := hcell 9 _ rfl
      have e10 := hcell 10 _ rfl
      have e11 := hcell 11 _ rfl
      have e12 := hcell 12 _ rfl
      rw [Nat.add_zero] at e0
      have HXA := Lib.hid (heap_alloc_new wr (.cells #[.int .i64 xd, .int .i64 xp, .bool xi, .bool xr, .int .u32 (f0 : Int), .int .i64 f1, .int .u32 (f2 : Int), .int .i64 f3, .int .i64 f4, .int .u16 (f5 : Int), .int .u16 (f6 : Int), .int .u16 (f7 : Int), .int .u16 (f8 : Int)] 265))
      have HKA := Lib.hid (hK.alloc hK.size (.cells #[.int .i64 xd, .int .i64 xp, .bool xi, .bool xr, .int .u32 (f0 : Int), .int .i64 f1, .int .u32 (f2 : Int), .int .i64 f3, .int .i64 f4, .int .u16 (f5 : Int), .int .u16 (f6 : Int), .int .u16 (f7 : Int), .int .u16 (f8 : Int)] 265))
      have HB4 := Lib.hid (And.intro (blk_alloc HB2.out.1 (.cells #[.int .i64 xd, .int .i64 xp, .bool xi, .bool xr, .int .u32 (f0 : Int), .int .i64 f1, .int .u32 (f2 : Int), .int .i64 f3, .int .i64 f4, .int .u16 (f5 : Int), .int .u16 (f6 : Int), .int .u16 (f7 : Int), .int .u16 (f8 : Int)] 265)) (blk_alloc HB2.out.2 (.cells #[.int .i64 xd, .int .i64 xp, .bool xi, .bool xr, .int .u32 (f0 : Int), .int .i64 f1, .int .u32 (f2 : Int), .int .i64 f3, .int .i64 f4, .int .u16 (f5 : Int), .int .u16 (f6 : Int), .int .u16 (f7 : Int), .int .u16 (f8 : Int)] 265)))
      have HRI := Lib.hid hri
      clear hK hri hcell
      go_upto_region 5 with (fail)
      generalize wr.alloc (.cells #[.int .i64 xd, .int .i64 xp, .bool xi, .bool xr, .int .u32 (f0 : Int), .int .i64 f1, .int .u32 (f2 : Int), .int .i64 f3, .int .i64 f4, .int .u16 (f5 : Int), .int .u16 (f6 : Int), .int .u16 (f7 : Int), .int .u16 (f8 : Int)] 265) = wa at *
      have y0 := cell_of HXA.out 0
      have y1 := cell_of HXA.out 1
      have y2 := cell_of HXA.out 2
      simp only [List.getElem?_toArray, List.getElem?_cons_zero, List.getElem?_cons_succ] at y0 y1 y2
      clear e0 e1 e2 e3 e4 e5 e6 e7 e8 e9 e10 e11 e12 z2
      by_cases h1 : xd = d
      · by_cases h2 : xp = p
        · by_cases h3 : xi = inn
          · subst h1
            subst h2
            subst h3
            have y4 := cell_of HXA.out 4
            have y5 := cell_of HXA.out 5
            have y6 := cell_of HXA.out 6
            have y7 := cell_of HXA.out 7
            have y8 := cell_of HXA.out 8
            have y9 := cell_of HXA.out 9
            have y10 := cell_of HXA.out 10
            have y11 := cell_of HXA.out 11
            have y12 := cell_of HXA.out 12
            have x0 := cell_of HB4.out.2 0
            have x1 := cell_of HB4.out.2 1
            have x2 := cell_of HB4.out.2 2
            have x3 := cell_of HB4.out.2 3
            have x4 := cell_of HB4.out.2 4
            simp only [List.getElem?_toArray, List.getElem?_cons_zero, List.getElem?_cons_succ] at y4 y5 y6 y7 y8 y9 y10 y11 y12 x0 x1 x2 x3 x4
            have HMB := Lib.hid (HMA.out wa)
            generalize matchF ⟨f0, f1, f2, f3, f4, f5, f6, f7, f8⟩ ⟨hd, hs, hpr, sp, dp⟩ = m at *
            go_wp2_with (fail)
            refine Calls.mono HMB.out ?_
            rintro e w7 ⟨he, k7⟩
            have HXA7 := Lib.hid ((k7.block _ (lt_of_block HXA.out)).trans HXA.out)
            have HB7 := Lib.hid (And.intro ((k7.block _ (lt_of_block HB4.out.1)).trans HB4.out.1) ((k7.block _ (lt_of_block HB4.out.2)).trans HB4.out.2))
            have HK7 := Lib.hid (HKA.out.trans (k7.mono HKA.out.size))
            subst he
            clear k7 y0 y1 y2 y4 y5 y6 y7 y8 y9 y10 y11 y12 x0 x1 x2 x3 x4
            have y3 := cell_of HXA7.out 3
            simp only [List.getElem?_toArray, List.getElem?_cons_zero, List.getElem?_cons_succ] at y3
            have hri := HRI.out
            cases m with
            | true =>
              rw [if_pos (by simp)] at hri
              subst hri
              go_wp2_with (fail)
              go_ret
              exact ⟨rfl, HK7.out⟩
            | false =>
              rw [if_neg (by simp)] at hri
              have HRJ := Lib.hid hri
              clear hri
              go_wp2_with (fail)
              go_roundg (gk - 1)
              case measure => omega
              case rel => exact ⟨i + 1, by omega, by go_num, HK7.out, HB7.out.1, HB7.out.2, HRJ.out⟩
          · have h4 : (xi == inn) = false := by
              cases xi <;> cases inn <;> first | rfl | exact absurd rfl h3
            subst h1
            subst h2
            have hri := HRI.out
            rw [if_neg (fun e => h3 e.2.2.1)] at hri
            have HRJ := Lib.hid hri
            clear hri
            go_wp2_with (fail)
            go_roundg (gk - 1)
            case measure => omega
            case rel => exact ⟨i + 1, by omega, by go_num, HKA.out, HB4.out.1, HB4.out.2, HRJ.out⟩
        · have h4 : (xp == p) = false := beq_eq_false_iff_ne.2 h2
          subst h1
          have hri := HRI.out
          rw [if_neg (fun e => h2 e.2.1)] at hri
          have HRJ := Lib.hid hri
          clear hri
          go_wp2_with (fail)
          go_roundg (gk - 1)
          case measure => omega
          case rel => exact ⟨i + 1, by omega, by go_num, HKA.out, HB4.out.1, HB4.out.2, HRJ.out⟩
      · have h4 : (xd == d) = false := beq_eq_false_iff_ne.2 h1
        have hri := HRI.out
        rw [if_neg (fun e => h1 e.1)] at hri
        have HRJ := Lib.hid hri
        clear hri
        go_wp2_with (fail)
        go_roundg (gk - 1)
        case measure => omega
        case rel => exact ⟨i + 1, by omega, by go_num, HKA.out, HB4.out.1, HB4.out.2, HRJ.out⟩
    · obtain rfl : i = T.aces.length := by omega
      rw [List.drop_eq_nil_of_le (Nat.le_refl _)] at hri
      obtain rfl : r = true := hri
      clear hK
      go_wp2_with (fail)
      go_ret
      exact ⟨rfl, HKR.out⟩
end Go.Proofs.YtjoblahedgpgbaaGreat

namespace Go.Proofs.YtjoblahedgpgbaaGreat
set_option linter.unusedVariables false
set_option linter.unusedSimpArgs false
open Go.RowKit
variable {B : Nat} {w : World} {vp vl va : Value} {T : Tp}

set_option maxRecDepth 100000 in
set_option maxHeartbeats 4000000 in
theorem tcross_calls (h : TpIn B w vp vl va T) (hB : B ≤ w.heap.size) (hl : T.links.length ≤ 100) (ha : T.aces.length ≤ 60) (hc : ∀ a ∈ T.aces, checkF a.f = 0) (d p : Int) (hv : Hv) (hh : hv.Wf) : Calls Tryz.prog 206 #[.agg #[vp, vl, va], .int .i64 d, .int .i64 p, hv.val] w fun e w' => e = .returned (.tuple #[.int .i64 (crossT T d p hv).1, .bool (crossT T d p hv).2.1, .bool (crossT T d p hv).2.2]) ∧ Below w.heap.size w w' := by
  have HPM : Hid (∀ W, Below w.heap.size w W → ∀ d p inn, Calls Tryz.prog 240 #[.agg #[vp, vl, va], .int .i64 d, .int .i64 p, .bool inn, hv.val] W fun e w' => e = .returned (.bool (permT T.aces d p inn hv)) ∧ Below W.heap.size W w') := Lib.hid (fun W kW d p inn => tpermit_calls (h.kept (kW.mono hB)) (Nat.le_trans hB kW.size) ha hc d p inn hv hh)
  have HPE : Hid (∀ W, Below w.heap.size w W → Calls Tryz.prog 197 #[.agg #[vp, vl, va], .int .i64 d, .int .i64 p] W fun e w' => e = .returned (peerV (peerT T.links d p)) ∧ Below W.heap.size W w') := Lib.hid (fun W kW => tpeer_calls (h.kept (kW.mono hB)) (Nat.le_trans hB kW.size) hl d p)
  obtain ⟨ap, cp, rfl, _⟩ := h.ports
  obtain ⟨al, cl, rfl, _⟩ := h.links
  obtain ⟨aa, ca, rfl, _⟩ := h.aces
  obtain ⟨r, hr⟩ : ∃ r, r = crossT T d p hv := ⟨_, rfl⟩
  rw [← hr]
  unfold crossT at hr
  generalize hpt : permT T.aces = pt at *
  generalize hpe : peerT T.links d p = pe at *
  obtain ⟨hd, hs, hpr, sp, dp⟩ := hv
  unfold Hv.val at *
  simp only at *
  clear h hc hpt hpe
  have HR := Lib.hid hr
  clear hr
  have HX : Hid (((w.alloc (.cells #[.slice ap T.ports.length cp, .slice al T.links.length cl, .slice aa T.aces.length ca] 26)).alloc (.cells #[.int .u32 (hd : Int), .int .u32 (hs : Int), .int .u8 (hpr : Int), .int .u16 (sp : Int), .int .u16 (dp : Int)] 31)).heap[w.heap.size]? = some (.cells #[.slice ap T.ports.length cp, .slice al T.links.length cl, .slice aa T.aces.length ca] 26 (0, 0))) := Lib.hid (blk_alloc (heap_alloc_new w _) _)
  have HY : Hid (((w.alloc (.cells #[.slice ap T.ports.length cp, .slice al T.links.length cl, .slice aa T.aces.length ca] 26)).alloc (.cells #[.int .u32 (hd : Int), .int .u32 (hs : Int), .int .u8 (hpr : Int), .int .u16 (sp : Int), .int .u16 (dp : Int)] 31)).heap[w.heap.size + 1]? = some (.cells #[.int .u32 (hd : Int), .int .u32 (hs : Int), .int .u8 (hpr : Int), .int .u16 (sp : Int), .int .u16 (dp : Int)] 31 (0, 0))) := Lib.hid (by
    have := heap_alloc_new (w.alloc (.cells #[.slice ap T.ports.length cp, .slice al T.links.length cl, .slice aa T.aces.length ca] 26)) (.cells #[.int .u32 (hd : Int), .int .u32 (hs : Int), .int .u8 (hpr : Int), .int .u16 (sp : Int), .int .u16 (dp : Int)] 31)
    rwa [show (w.alloc (.cells #[.slice ap T.ports.length cp, .slice al T.links.length cl, .slice aa T.aces.length ca] 26)).heap.size = w.heap.size + 1 by simp] at this)
  have HK : Hid (Below w.heap.size w ((w.alloc (.cells #[.slice ap T.ports.length cp, .slice al T.links.length cl, .slice aa T.aces.length ca] 26)).alloc (.cells #[.int .u32 (hd : Int), .int .u32 (hs : Int), .int .u8 (hpr : Int), .int .u16 (sp : Int), .int .u16 (dp : Int)] 31))) := Lib.hid (((Below.refl w.heap.size w).alloc (Nat.le_refl _) _).alloc (by simp) _)
  go_enter Tryz.func206, Tryz.ntmps206
  go_upto_region 1 with (fail)
  generalize (w.alloc (.cells #[.slice ap T.ports.length cp, .slice al T.links.length cl, .slice aa T.aces.length ca] 26)).alloc (.cells #[.int .u32 (hd : Int), .int .u32 (hs : Int), .int .u8 (hpr : Int), .int .u16 (sp : Int), .int .u16 (dp : Int)] 31) = w1 at *
  have HCC : Hid (∀ W, Below w1.heap.size w1 W → W.cell? ⟨w.heap.size, 0, none⟩ = some (.slice ap T.ports.length cp) ∧ W.cell? ⟨w.heap.size, 1, none⟩ = some (.slice al T.links.length cl) ∧ W.cell? ⟨w.heap.size, 2, none⟩ = some (.slice aa T.aces.length ca) ∧ W.cell? ⟨w.heap.size + 1, 0, none⟩ = some (.int .u32 (hd : Int)) ∧ W.cell? ⟨w.heap.size + 1, 1, none⟩ = some (.int .u32 (hs : Int)) ∧ W.cell? ⟨w.heap.size + 1, 2, none⟩ = some (.int .u8 (hpr : Int)) ∧ W.cell? ⟨w.heap.size + 1, 3, none⟩ = some (.int .u16 (sp : Int)) ∧ W.cell? ⟨w.heap.size + 1, 4, none⟩ = some (.int .u16 (dp : Int))) := Lib.hid (fun W kW => by
    have bx := (kW.block _ (lt_of_block HX.out)).trans HX.out
    have bY := (kW.block _ (lt_of_block HY.out)).trans HY.out
    exact ⟨cell_of bx 0, cell_of bx 1, cell_of bx 2, cell_of bY 0, cell_of bY 1, cell_of bY 2, cell_of bY 3, cell_of bY 4⟩)
  have z := HCC.out w1 (Below.refl _ _)
  obtain ⟨q, hq⟩ : ∃ q, q = pt d p false ⟨hd, hs, hpr, sp, dp⟩ := ⟨_, rfl⟩
  have HP1 := Lib.hid (HPM.out w1 HK.out d p false)
  rw [← hq] at HP1
  have hr := HR.out
  rw [← hq] at hr
  have HR1 := Lib.hid hr
  clear hr hq
  go_wp2_with (fail)
  refine Calls.mono HP1.out ?_
  rintro e w2 ⟨he, k2⟩
  subst he
  have HK2 := Lib.hid (HK.out.trans (k2.mono HK.out.size))
  have HW2 := Lib.hid k2
  clear k2 z
  have hr := HR1.out
  cases q with
  | false =>
    rw [if_pos rfl] at hr
    subst hr
    go_wp2_with (fail)
    exact bodyPost_ret (v := .tuple #[.int .i64 0, .bool false, .bool false]) (by simp [results, Tryz.results206, go_sem]) rfl ⟨rfl, HK2.out⟩
  | true =>
    rw [if_neg (by simp)] at hr
    have z := HCC.out w2 HW2.out
    have HP2 := Lib.hid (HPE.out w2 HK2.out)
    have HR2 := Lib.hid hr
    clear hr
    go_wp2_with (fail)
    refine Calls.mono HP2.out ?_
    rintro e w3 ⟨he, k3⟩
    have HK3 := Lib.hid (HK2.out.trans (k3.mono HK2.out.size))
    have HW3 := Lib.hid (HW2.out.trans (k3.mono HW2.out.size))
    clear k3 z
    have hr := HR2.out
    cases pe with
    | none =>
      simp only at hr
      subst hr
      unfold peerV at he
      simp only at he
      subst he
      go_wp2_with (fail)
      exact bodyPost_ret (v := .tuple #[.int .i64 0, .bool true, .bool false]) (by simp [results, Tryz.results206, go_sem]) rfl ⟨rfl, HK3.out⟩
    | some e2 =>
      obtain ⟨d2, p2⟩ := e2
      simp only at hr
      unfold peerV at he
      simp only at he
      subst he
      have z := HCC.out w3 HW3.out
      obtain ⟨q, hq⟩ : ∃ q, q = pt d2 p2 true ⟨hd, hs, hpr, sp, dp⟩ := ⟨_, rfl⟩
      have HP3 := Lib.hid (HPM.out w3 HK3.out d2 p2 true)
      rw [← hq] at HP3 hr
      have HR3 := Lib.hid hr
      clear hr hq
      go_wp2_with (fail)
      refine Calls.mono HP3.out ?_
      rintro e w4 ⟨he, k4⟩
      subst he
      have HK4 := Lib.hid (HK3.out.trans (k4.mono HK3.out.size))
      clear k4 z
      have hr := HR3.out
      cases q with
      | false =>
        rw [if_pos rfl] at hr
        subst hr
        go_wp2_with (fail)
        exact bodyPost_ret (v := .tuple #[.int .i64 0, .bool false, .bool false]) (by simp [results, Tryz.results206, go_sem]) rfl ⟨rfl, HK4.out⟩
      | true =>
        rw [if_neg (by simp)] at hr
        subst hr
        go_wp2_with (fail)
        exact bodyPost_ret (v := .tuple #[.int .i64 d2, .bool false, .bool true]) (by simp [results, Tryz.results206, go_sem]) rfl ⟨rfl, HK4.out⟩

set_option maxRecDepth 100000 in
set_option maxHeartbeats 4000000 in
theorem rcross_calls (h : TpIn B w vp vl va T) (hB : B ≤ w.heap.size) (hl : T.links.length ≤ 100) (ha : T.aces.length ≤ 60) (hc : ∀ a ∈ T.aces, checkF a.f = 0) (d p : Int) (hv : Hv) (hh : hv.Wf) : Calls Tryz.prog 84 #[.agg #[vp, vl, va], .int .i64 d, .int .i64 p, hv.val] w fun e w' => e = .returned (.tuple #[.int .i64 (crossT T d p hv).1, .bool (crossT T d p hv).2.1, .bool (crossT T d p hv).2.2]) ∧ Below w.heap.size w w' := by
  have HPM : Hid (∀ W, Below w.heap.size w W → ∀ d p inn, Calls Tryz.prog 152 #[.agg #[vp, vl, va], .int .i64 d, .int .i64 p, .bool inn, hv.val] W fun e w' => e = .returned (.bool (permT T.aces d p inn hv)) ∧ Below W.heap.size W w') := Lib.hid (fun W kW d p inn => rpermit_calls (h.kept (kW.mono hB)) (Nat.le_trans hB kW.size) ha hc d p inn hv hh)
  have HPE : Hid (∀ W, Below w.heap.size w W → Calls Tryz.prog 153 #[.agg #[vp, vl, va], .int .i64 d, .int .i64 p] W fun e w' => e = .returned (peerV (peerT T.links d p)) ∧ Below W.heap.size W w') := Lib.hid (fun W kW => rpeer_calls (h.kept (kW.mono hB)) (Nat.le_trans hB kW.size) hl d p)
  obtain ⟨ap, cp, rfl, _⟩ := h.ports
  obtain ⟨al, cl, rfl, _⟩ := h.links
  obtain ⟨aa, ca, rfl, _⟩ := h.aces
  obtain ⟨r, hr⟩ : ∃ r, r = crossT T d p hv := ⟨_, rfl⟩
  rw [← hr]
  unfold crossT at hr
  generalize hpt : permT T.aces = pt at *
  generalize hpe : peerT T.links d p = pe at *
  obtain ⟨hd, hs, hpr, sp, dp⟩ := hv
  unfold Hv.val at *
  simp only at *
  clear h hc hpt hpe
  have HR := Lib.hid hr
  clear hr
  have HX : Hid (((w.alloc (.cells #[.slice ap T.ports.length cp, .slice al T.links.length cl, .slice aa T.aces.length ca] 26)).alloc (.cells #[.int .u32 (hd : Int), .int .u32 (hs : Int), .int .u8 (hpr : Int), .int .u16 (sp : Int), .int .u16 (dp : Int)] 31)).heap[w.heap.size]? = some (.cells #[.slice ap T.ports.length cp, .slice al T.links.length cl, .slice aa T.aces.length ca] 26 (0, 0))) := Lib.hid (blk_alloc (heap_alloc_new w _) _)
  have HY : Hid (((w.alloc (.cells #[.slice ap T.ports.length cp, .slice al T.links.length cl, .slice aa T.aces.length ca] 26)).alloc (.cells #[.int .u32 (hd : Int), .int .u32 (hs : Int), .int .u8 (hpr : Int), .int .u16 (sp : Int), .int .u16 (dp : Int)] 31)).heap[w.heap.size + 1]? = some (.cells #[.int .u32 (hd : Int), .int .u32 (hs : Int), .int .u8 (hpr : Int), .int .u16 (sp : Int), .int .u16 (dp : Int)] 31 (0, 0))) := Lib.hid (by
    have := heap_alloc_new (w.alloc (.cells #[.slice ap T.ports.length cp, .slice al T.links.length cl, .slice aa T.aces.length ca] 26)) (.cells #[.int .u32 (hd : Int), .int .u32 (hs : Int), .int .u8 (hpr : Int), .int .u16 (sp : Int), .int .u16 (dp : Int)] 31)
    rwa [show (w.alloc (.cells #[.slice ap T.ports.length cp, .slice al T.links.length cl, .slice aa T.aces.length ca] 26)).heap.size = w.heap.size + 1 by simp] at this)
  have HK : Hid (Below w.heap.size w ((w.alloc (.cells #[.slice ap T.ports.length cp, .slice al T.links.length cl, .slice aa T.aces.length ca] 26)).alloc (.cells #[.int .u32 (hd : Int), .int .u32 (hs : Int), .int .u8 (hpr : Int), .int .u16 (sp : Int), .int .u16 (dp : Int)] 31))) := Lib.hid (((Below.refl w.heap.size w).alloc (Nat.le_refl _) _).alloc (by simp) _)
  go_enter Tryz.func84, Tryz.ntmps84
  go_upto_region 1 with (fail)
  generalize (w.alloc (.cells #[.slice ap T.ports.length cp, .slice al T.links.length cl, .slice aa T.aces.length ca] 26)).alloc (.cells #[.int .u32 (hd : Int), .int .u32 (hs : Int), .int .u8 (hpr : Int), .int .u16 (sp : Int), .int .u16 (dp : Int)] 31) = w1 at *
  have HCC : Hid (∀ W, Below w1.heap.size w1 W → W.cell? ⟨w.heap.size, 0, none⟩ = some (.slice ap T.ports.length cp) ∧ W.cell? ⟨w.heap.size, 1, none⟩ = some (.slice al T.links.length cl) ∧ W.cell? ⟨w.heap.size, 2, none⟩ = some (.slice aa T.aces.length ca) ∧ W.cell? ⟨w.heap.size + 1, 0, none⟩ = some (.int .u32 (hd : Int)) ∧ W.cell? ⟨w.heap.size + 1, 1, none⟩ = some (.int .u32 (hs : Int)) ∧ W.cell? ⟨w.heap.size + 1, 2, none⟩ = some (.int .u8 (hpr : Int)) ∧ W.cell? ⟨w.heap.size + 1, 3, none⟩ = some (.int .u16 (sp : Int)) ∧ W.cell? ⟨w.heap.size + 1, 4, none⟩ = some (.int .u16 (dp : Int))) := Lib.hid (fun W kW => by
    have bx := (kW.block _ (lt_of_block HX.out)).trans HX.out
    have bY := (kW.block _ (lt_of_block HY.out)).trans HY.out
    exact ⟨cell_of bx 0, cell_of bx 1, cell_of bx 2, cell_of bY 0, cell_of bY 1, cell_of bY 2, cell_of bY 3, cell_of bY 4⟩)
  have z := HCC.out w1 (Below.refl _ _)
  obtain ⟨q, hq⟩ : ∃ q, q = pt d p false ⟨hd, hs, hpr, sp, dp⟩ := ⟨_, rfl⟩
  have HP1 := Lib.hid (HPM.out w1 HK.out d p false)
  rw [← hq] at HP1
  have hr := HR.out
  rw [← hq] at hr
  have HR1 := Lib.hid hr
  clear hr hq
  go_wp2_with (fail)
  refine Calls.mono HP1.out ?_
  rintro e w2 ⟨he, k2⟩
  subst he
  have HK2 := Lib.hid (HK.out.trans (k2.mono HK.out.size))
  have HW2 := Lib.hid k2
  clear k2 z
  have hr := HR1.out
  cases q with
  | false =>
    rw [if_pos rfl] at hr
    subst hr
    go_wp2_with (fail)
    exact bodyPost_ret (v := .tuple #[.int .i64 0, .bool false, .bool false]) (by simp [results, Tryz.results84, go_sem]) rfl ⟨rfl, HK2.out⟩
  | true =>
    rw [if_neg (by simp)] at hr
    have z := HCC.out w2 HW2.out
    have HP2 := Lib.hid (HPE.out w2 HK2.out)
    have HR2 := Lib.hid hr
    clear hr
    go_wp2_with (fail)
    refine Calls.mono HP2.out ?_
    rintro e w3 ⟨he, k3⟩
    have HK3 := Lib.hid (HK2.out.trans (k3.mono HK2.out.size))
    have HW3 := Lib.hid (HW2.out.trans (k3.mono HW2.out.size))
    clear k3 z
    have hr := HR2.out
    cases pe with
    | none =>
      simp only at hr
      subst hr
      unfold peerV at he
      simp only at he
      subst he
      go_wp2_with (fail)
      exact bodyPost_ret (v := .tuple #[.int .i64 0, .bool true, .bool false]) (by simp [results, Tryz.results84, go_sem]) rfl ⟨rfl, HK3.out⟩
    | some e2 =>
      obtain ⟨d2, p2⟩ := e2
      simp only at hr
      unfold peerV at he
      simp only at he
      subst he
      have z := HCC.out w3 HW3.out
      obtain ⟨q, hq⟩ : ∃ q, q = pt d2 p2 true ⟨hd, hs, hpr, sp, dp⟩ := ⟨_, rfl⟩
      have HP3 := Lib.hid (HPM.out w3 HK3.out d2 p2 true)
      rw [← hq] at HP3 hr
      have HR3 := Lib.hid hr
      clear hr hq
      go_wp2_with (fail)
      refine Calls.mono HP3.out ?_
      rintro e w4 ⟨he, k4⟩
      subst he
      have HK4 := Lib.hid (HK3.out.trans (k4.mono HK3.out.size))
      clear k4 z
      have hr := HR3.out
      cases q with
      | false =>
        rw [if_pos rfl] at hr
        subst hr
        go_wp2_with (fail)
        exact bodyPost_ret (v := .tuple #[.int .i64 0, .bool false, .bool false]) (by simp [results, Tryz.results84, go_sem]) rfl ⟨rfl, HK4.out⟩
      | true =>
        rw [if_neg (by simp)] at hr
        subst hr
        go_wp2_with (fail)
        exact bodyPost_ret (v := .tuple #[.int .i64 d2, .bool false, .bool true]) (by simp [results, Tryz.results84, go_sem]) rfl ⟨rfl, HK4.out⟩
end Go.Proofs.YtjoblahedgpgbaaGreat

namespace Go.Proofs.YtjoblahedgpgbaaGreat
set_option linter.unusedVariables false
set_option linter.unusedSimpArgs false
open Go.RowKit

/-- What the walks of steps ask. -/
structure Fine (T : Tp) : Prop where
  light : lightT T = true
  check : checkT T = 0
theorem Fine.small {T : Tp} (h : Fine T) : T.ports.length ≤ 40 ∧ T.links.length ≤ 100 ∧ T.aces.length ≤ 60 := (lightT_iff T).1 h.light
theorem Fine.pos {T : Tp} (h : Fine T) : 0 < T.ports.length := by
  have := h.check
  unfold checkT at this
  split at this
  · cases this
  · omega
theorem acesT_ok {ports : List Int} : ∀ {l : List Ac}, acesT ports l = 0 → ∀ a ∈ l, checkF a.f = 0
  | [], _, a, h => by cases h
  | x :: l, h, a, ha => by
    unfold acesT at h
    by_cases h1 : portT ports x.dev x.port ≠ 0
    · rw [if_pos h1] at h
      exact absurd h h1
    · rw [if_neg h1] at h
      by_cases h2 : checkF x.f ≠ 0
      · rw [if_pos h2] at h
        exact absurd h h2
      · rw [if_neg h2] at h
        rcases List.mem_cons.1 ha with rfl | ha
        · exact Decidable.not_not.1 h2
        · exact acesT_ok h a ha
theorem Fine.parts {T : Tp} (h : Fine T) : linksT T.ports [] (ends T.links) = 0 ∧ ∀ a ∈ T.aces, checkF a.f = 0 := by
  have := h.check
  unfold checkT at this
  split at this
  · cases this
  · split at this
    · cases this
    · by_cases h1 : linksT T.ports [] (ends T.links) ≠ 0
      · rw [if_pos h1] at this
        exact absurd this h1
      · rw [if_neg h1] at this
        exact ⟨Decidable.not_not.1 h1, acesT_ok this⟩
def stepV (s : Int × Ed × Bool) : Value := .tuple #[.int .i64 s.1, .agg #[.int .i64 s.2.1.kind, .int .i64 s.2.1.dev, .int .i64 s.2.1.port], .bool s.2.2]
def edZ : Obj := .cells #[.int .i64 0, .int .i64 0, .int .i64 0] 158
theorem two_newS (w : World) (a b : Obj) : ((w.alloc a).alloc b).heap[w.heap.size]? = some a ∧ ((w.alloc a).alloc b).heap[w.heap.size + 1]? = some b ∧ Below w.heap.size w ((w.alloc a).alloc b) := by
  have e1 : (w.alloc a).heap.size = w.heap.size + 1 := by simp
  have h2 := heap_alloc_new (w.alloc a) b
  rw [e1] at h2
  exact ⟨blk_alloc (heap_alloc_new w a) b, h2, ((Below.refl w.heap.size w).alloc (Nat.le_refl _) _).alloc (by omega) _⟩

def set6 (w : World) (b : Nat) (x0 x1 x2 x3 x4 x5 : Value) : World := (((((w.setCell ⟨b, 0, none⟩ x0).setCell ⟨b, 1, none⟩ x1).setCell ⟨b, 2, none⟩ x2).setCell ⟨b, 3, none⟩ x3).setCell ⟨b, 4, none⟩ x4).setCell ⟨b, 5, none⟩ x5
theorem kept_set6 (w : World) (b : Nat) (x0 x1 x2 x3 x4 x5 : Value) : Kept [b] w (set6 w b x0 x1 x2 x3 x4 x5) := ((((((Kept.refl [b] w).setCell _ _ (by simp)).setCell _ _ (by simp)).setCell _ _ (by simp)).setCell _ _ (by simp)).setCell _ _ (by simp)).setCell _ _ (by simp)
theorem set6_block {w : World} {b : Nat} {t : TypeId} {y0 y1 y2 y3 y4 y5 : Value} (h : w.heap[b]? = some (.cells #[y0, y1, y2, y3, y4, y5] t (0, 0))) (x0 x1 x2 x3 x4 x5 : Value) : (set6 w b x0 x1 x2 x3 x4 x5).heap[b]? = some (.cells #[x0, x1, x2, x3, x4, x5] t (0, 0)) := by
  unfold set6
  exact set_block (set_block (set_block (set_block (set_block (set_block h 0 x0) 1 x1) 2 x2) 3 x3) 4 x4) 5 x5
def set3 (w : World) (b : Nat) (x0 x1 x2 : Value) : World := ((w.setCell ⟨b, 0, none⟩ x0).setCell ⟨b, 1, none⟩ x1).setCell ⟨b, 2, none⟩ x2
theorem kept_set3 (w : World) (b : Nat) (x0 x1 x2 : Value) : Kept [b] w (set3 w b x0 x1 x2) := (((Kept.refl [b] w).setCell _ _ (by simp)).setCell _ _ (by simp)).setCell _ _ (by simp)
/-- A rule in a box of its own. -/
def RBox (w1 wq : World) (rb : Nat) (r : Rl) : Prop := wq.heap[rb]? = some (.cells #[.int .i64 r.id, .int .i64 r.dev, .int .u32 (r.addr : Int), .int .i64 r.bits, .int .i64 r.prio, .int .i64 r.out] 89 (0, 0)) ∧ Below w1.heap.size w1 wq
theorem RBox.mk6 {w1 w5 : World} {b : Nat} {y0 y1 y2 y3 y4 y5 : Value} {r : Rl} (h : w5.heap[b]? = some (.cells #[y0, y1, y2, y3, y4, y5] 89 (0, 0))) (k : Below w1.heap.size w1 w5) (hb : w1.heap.size ≤ b) : RBox w1 (set6 w5 b (.int .i64 r.id) (.int .i64 r.dev) (.int .u32 (r.addr : Int)) (.int .i64 r.bits) (.int .i64 r.prio) (.int .i64 r.out)) b r :=
  ⟨set6_block h _ _ _ _ _ _, k.trans ((kept_set6 _ _ _ _ _ _ _ _).below k.size (fun x hx => (List.mem_singleton.1 hx).symm ▸ hb))⟩

theorem RBox.new {w1 w5 : World} {r : Rl} (k : Below w1.heap.size w1 w5) : RBox w1 (w5.alloc (.cells #[.int .i64 r.id, .int .i64 r.dev, .int .u32 (r.addr : Int), .int .i64 r.bits, .int .i64 r.prio, .int .i64 r.out] 89)) w5.heap.size r :=
  ⟨heap_alloc_new w5 _, k.alloc k.size _⟩
variable {w : World} {B B0 nb : Nat} {vp vl va vt : Value} {ts : List TD} {ls : List (List Rl)} {T : Tp}
set_option maxRecDepth 100000 in
set_option maxHeartbeats 8000000 in
theorem sstep_calls (hN : NetAt w B nb vp vl va vt ts) (hP : Pairs (TD.Ls ts) ls) (hT : TpIn B0 w vp vl va T) (hB0 : B0 ≤ w.heap.size) (hF : Fine T) (hok : NetOk T.ports (TD.Ls ts)) (hL : lenT (TD.Ls ts) < 100000) (d : Nat) (hd : d < T.ports.length) (hv : Hv) (hh : hv.Wf) :
    Calls Tryz.prog 137 #[.pointer (some ⟨nb, 0, none⟩), .int .i64 (d : Int), hv.val] w fun e w' => e = .returned (stepV (stepS T ls hv d)) ∧ Below w.heap.size w w' := by
  have hln : ts.length = T.ports.length := by have := hok.len; simpa [TD.Ls] using this
  have hdt : d < ts.length := by omega
  have hdl : d < ls.length := by rw [← hP.len, hok.len]; exact hd
  have hpr := hP.get d (by rw [hok.len]; exact hd) hdl
  have hLi : (TD.Ls ts)[d]'(by rw [hok.len]; exact hd) = ts[d].L := by simp [TD.Ls]
  rw [hLi] at hpr
  have HOUT : Hid (∀ r ∈ ls[d], -1 ≤ r.out ∧ r.out < T.ports[d]) := Lib.hid (fun r hr => by
    have h1 := hok.dev d _ (by rw [List.getElem?_eq_getElem (by rw [hok.len]; exact hd), hLi]) r (hpr.perm.mem_iff.1 hr)
    rw [getElem!_pos T.ports d hd] at h1
    exact ⟨h1.2.1, h1.2.2⟩)
  obtain ⟨sv, hsv⟩ : ∃ sv, sv = stepS T ls hv d := ⟨_, rfl⟩
  rw [← hsv]
  unfold stepS at hsv
  rw [Int.toNat_natCast, getElem!_pos ls d hdl] at hsv
  have hcr := fun W (kW : Below w.heap.size w W) o => tcross_calls (hT.kept (kW.mono hB0)) (Nat.le_trans hB0 kW.size) hF.small.2.1 hF.small.2.2 hF.parts.2 (d : Int) o hv hh
  have HCR := Lib.hid hcr
  have HTAB := Lib.hid (hN.tab _ (List.getElem_mem hdt))
  have HLEN : Hid (ts[d].L.length < 100000) := Lib.hid (by
    have := lenT_mem (Ls := TD.Ls ts) (L := ts[d].L) (List.mem_map_of_mem (List.getElem_mem hdt))
    omega)
  obtain ⟨g, cap, rfl, e0⟩ := hN.at hdt
  obtain ⟨bp, op, cp, rfl, hpc⟩ := hT.portAt hd
  obtain ⟨al, cl, rfl, _⟩ := hT.links
  obtain ⟨aa, ca, rfl, _⟩ := hT.aces
  have HE0 := Lib.hid e0
  have HPC := Lib.hid hpc
  have HNH := Lib.hid hN.head
  have HPR := Lib.hid hpr
  have HSV := Lib.hid hsv
  have hdst := hh.dst
  have hdi : (d : Int) < (ts.length : Int) := by omega
  have hdi2 : (d : Int) < (T.ports.length : Int) := by omega
  generalize ts[d] = t at *
  generalize ls[d] = l at *
  generalize T.ports[d] = y at *
  clear hN hP hT hok hL hLi hpr hcr e0 hpc hsv hln hF hdt hdl hd
  unfold Hv.val at *
  have h2n := two_newS w (.cells #[.int .u32 (hv.dst : Int), .int .u32 (hv.src : Int), .int .u8 (hv.proto : Int), .int .u16 (hv.sport : Int), .int .u16 (hv.dport : Int)] 31) edZ
  unfold edZ at h2n
  have H2 := Lib.hid h2n
  clear h2n
  go_enter Tryz.func137, Tryz.ntmps137
  go_upto_region 1 with (fail)
  generalize (w.alloc (.cells #[.int .u32 (hv.dst : Int), .int .u32 (hv.src : Int), .int .u8 (hv.proto : Int), .int .u16 (hv.sport : Int), .int .u16 (hv.dport : Int)] 31)).alloc (.cells #[.int .i64 0, .int .i64 0, .int .i64 0] 158) = w1 at *
  have HCELL : Hid (∀ W, Below w1.heap.size w1 W → W.cell? ⟨nb, 3, none⟩ = some (.slice (some ⟨g, 0, none⟩) ts.length cap) ∧ W.cell? ⟨g, d, none⟩ = some (.pointer (some ⟨t.p, 0, none⟩)) ∧ W.cell? ⟨w.heap.size, 0, none⟩ = some (.int .u32 (hv.dst : Int))) := Lib.hid (fun W kW => by
    have k := H2.out.2.2.trans (kW.mono H2.out.2.2.size)
    have hn := (k.block _ (lt_of_block HNH.out)).trans HNH.out
    have hx := (kW.block _ (lt_of_block H2.out.1)).trans H2.out.1
    exact ⟨cell_of hn 3, (Kept.of_below (S := []) k).cell HE0.out (by simp), cell_of hx 0⟩)
  obtain ⟨rv, hrv⟩ : ∃ rv, rv = (l.find? (hasR hv.dst)).getD noRule := ⟨_, rfl⟩
  obtain ⟨bv, hbv⟩ : ∃ bv, bv = (l.find? (hasR hv.dst)).isSome := ⟨_, rfl⟩
  have HBEST : Hid (∀ W, Below w1.heap.size w1 W → Calls Tryz.prog 205 #[.pointer (some ⟨t.p, 0, none⟩), .int .u32 (hv.dst : Int)] W fun e w' => e = .returned (.tuple #[.agg #[.int .i64 rv.id, .int .i64 rv.dev, .int .u32 (rv.addr : Int), .int .i64 rv.bits, .int .i64 rv.prio, .int .i64 rv.out], .bool bv]) ∧ Below W.heap.size W w') := Lib.hid (fun W kW => (tbestL_calls (HTAB.out.kept (Kept.of_below (S := []) (H2.out.2.2.trans (kW.mono H2.out.2.2.size))) (by simp) (by simp)) HPR.out HLEN.out hv.dst hdst).mono (by
    rintro e w' ⟨he, k⟩
    rw [← hrv, ← hbv] at he
    exact ⟨he, k⟩))
  have HRV := Lib.hid hrv
  have HBV := Lib.hid hbv
  clear hrv hbv
  have hBW := (Below.refl w1.heap.size w1).drew
  have hBZ0 := (Below.refl w1.heap.size w1).alloc (Nat.le_refl _) (.cells #[.int .i64 0, .int .i64 0, .int .u32 0, .int .i64 0, .int .i64 0, .int .i64 0] 89)
  have hBZ : Below w1.heap.size w1 (w1.alloc (.cells #[.int .i64 0, .int .i64 0, .int .u32 0, .int .i64 0, .int .i64 0, .int .i64 0] 89)).drew := hBZ0.drew
  have hS := HCELL.out _ (Below.refl _ _)
  have hS2 := HCELL.out _ hBZ0
  have HZN := Lib.hid (heap_alloc_new w1 (.cells #[.int .i64 0, .int .i64 0, .int .u32 0, .int .i64 0, .int .i64 0, .int .i64 0] 89))
  clear hBZ0
  refine (have KEY : ∀ (rb : Nat) (wq : World), RBox w1 wq rb rv → (?PP : Nat → World → Prop) rb wq := ?hkey; ?main)
  case main =>
    go_region_law (first | (go_simp; go_at_call 205; with_reducible refine Calls.mono (HBEST.out w1.drew hBW) ?_; rintro e w5 ⟨he, hB5⟩; subst he; have hz := heap_alloc_new w5 (.cells #[.int .i64 0, .int .i64 0, .int .u32 0, .int .i64 0, .int .i64 0, .int .i64 0] 89); have b0 := And.intro (cell_of hz 0) (unfrozen_of hz 0); have b1 := And.intro (cell_of hz 1) (unfrozen_of hz 1); have b2 := And.intro (cell_of hz 2) (unfrozen_of hz 2); have b3 := And.intro (cell_of hz 3) (unfrozen_of hz 3); have b4 := And.intro (cell_of hz 4) (unfrozen_of hz 4); have b5 := And.intro (cell_of hz 5) (unfrozen_of hz 5); simp only [List.getElem?_toArray, List.getElem?_cons_zero, List.getElem?_cons_succ] at b0 b1 b2 b3 b4 b5; have hb6 := hBW.trans (hB5.mono hBW.size); have hrb := RBox.new (r := rv) hb6; have HRB := Lib.hid hrb; clear hB5 hz hb6 hrb) | (go_simp; go_at_call 205; refine Calls.mono (HBEST.out _ hBZ) ?_; rintro e w5 ⟨he, hB5⟩; subst he; have hz : w5.heap[w1.heap.size]? = some (.cells #[.int .i64 0, .int .i64 0, .int .u32 0, .int .i64 0, .int .i64 0, .int .i64 0] 89 (0, 0)) := (hB5.block w1.heap.size (lt_of_block HZN.out)).trans HZN.out; have b0 := And.intro (cell_of hz 0) (unfrozen_of hz 0); have b1 := And.intro (cell_of hz 1) (unfrozen_of hz 1); have b2 := And.intro (cell_of hz 2) (unfrozen_of hz 2); have b3 := And.intro (cell_of hz 3) (unfrozen_of hz 3); have b4 := And.intro (cell_of hz 4) (unfrozen_of hz 4); have b5 := And.intro (cell_of hz 5) (unfrozen_of hz 5); simp only [List.getElem?_toArray, List.getElem?_cons_zero, List.getElem?_cons_succ] at b0 b1 b2 b3 b4 b5; have hb6 := hBZ.trans (hB5.mono hBZ.size); have hrb := RBox.mk6 (r := rv) hz hb6 (Nat.le_refl _); unfold set6 at hrb; have HRB := Lib.hid hrb; clear hB5 hz hb6 hrb))
    all_goals
      go_simp
      first
        | (have hrb : RBox w1 (w5.alloc (.cells #[.int .i64 rv.id, .int .i64 rv.dev, .int .u32 (rv.addr : Int), .int .i64 rv.bits, .int .i64 rv.prio, .int .i64 rv.out] 89)) w5.heap.size rv := by with_reducible exact HRB.out
           clear HRB
           revert hrb
           generalize (w5.alloc (.cells #[.int .i64 rv.id, .int .i64 rv.dev, .int .u32 (rv.addr : Int), .int .i64 rv.bits, .int .i64 rv.prio, .int .i64 rv.out] 89)) = wq
           generalize w5.heap.size = rb
           intro hrb
           exact KEY rb wq hrb)
        | (have hrb : RBox w1 ((((((w5.setCell ⟨w1.heap.size, 0, none⟩ (.int .i64 rv.id)).setCell ⟨w1.heap.size, 1, none⟩ (.int .i64 rv.dev)).setCell ⟨w1.heap.size, 2, none⟩ (.int .u32 (rv.addr : Int))).setCell ⟨w1.heap.size, 3, none⟩ (.int .i64 rv.bits)).setCell ⟨w1.heap.size, 4, none⟩ (.int .i64 rv.prio)).setCell ⟨w1.heap.size, 5, none⟩ (.int .i64 rv.out)) w1.heap.size rv := by with_reducible exact HRB.out
           clear HRB
           revert hrb
           generalize ((((((w5.setCell ⟨w1.heap.size, 0, none⟩ (.int .i64 rv.id)).setCell ⟨w1.heap.size, 1, none⟩ (.int .i64 rv.dev)).setCell ⟨w1.heap.size, 2, none⟩ (.int .u32 (rv.addr : Int))).setCell ⟨w1.heap.size, 3, none⟩ (.int .i64 rv.bits)).setCell ⟨w1.heap.size, 4, none⟩ (.int .i64 rv.prio)).setCell ⟨w1.heap.size, 5, none⟩ (.int .i64 rv.out)) = wq
           generalize w1.heap.size = rb
           intro hrb
           exact KEY rb wq hrb)
  case hkey =>
    intro rb wq hq
    obtain ⟨hrb, hkq⟩ := hq
    have HRB := Lib.hid hrb
    have HKQ := Lib.hid (H2.out.2.2.trans (hkq.mono H2.out.2.2.size))
    have HXQ := Lib.hid ((hkq.block _ (lt_of_block H2.out.1)).trans H2.out.1)
    have HEQ := Lib.hid ((hkq.block _ (lt_of_block H2.out.2.1)).trans H2.out.2.1)
    have HNQ := Lib.hid ((HKQ.out.block _ (lt_of_block HNH.out)).trans HNH.out)
    clear hrb hkq hS hS2 hBW hBZ HBEST HCELL
    cases hfo : l.find? (hasR hv.dst) with
    | none =>
      have hsv := HSV.out
      rw [hfo] at hsv
      simp only at hsv
      subst hsv
      obtain rfl : bv = false := by rw [HBV.out, hfo]; rfl
      clear hfo
      have e0 := And.intro (cell_of HEQ.out 0) (unfrozen_of HEQ.out 0)
      have e1 := And.intro (cell_of HEQ.out 1) (unfrozen_of HEQ.out 1)
      have e2 := And.intro (cell_of HEQ.out 2) (unfrozen_of HEQ.out 2)
      simp only [List.getElem?_toArray, List.getElem?_cons_zero, List.getElem?_cons_succ] at e0 e1 e2
      go_wp2_with (fail)
      exact bodyPost_ret (v := .tuple #[.int .i64 0, .agg #[.int .i64 1, .int .i64 (d : Int), .int .i64 (-1)], .bool false]) (by simp [results, Tryz.results137, go_sem, e0, e1, e2]) rfl ⟨rfl, HKQ.out.trans ((kept_set3 wq (w.heap.size + 1) (.int .i64 1) (.int .i64 (d : Int)) (.int .i64 (-1))).below HKQ.out.size (by simp))⟩
    | some r =>
      have hsv := HSV.out
      rw [hfo] at hsv
      simp only at hsv
      obtain rfl : bv = true := by rw [HBV.out, hfo]; rfl
      obtain rfl : rv = r := by rw [HRV.out, hfo]; rfl
      have hout := HOUT.out rv (List.mem_of_find?_eq_some hfo)
      have hrb := HRB.out
      have r5 := cell_of hrb 5
      have c0 := cell_of HNQ.out 0
      have p0 := (Kept.of_below (S := []) HKQ.out).cell HPC.out (by simp)
      simp only [List.getElem?_toArray, List.getElem?_cons_zero, List.getElem?_cons_succ] at r5 c0
      obtain ⟨rout, hro⟩ : ∃ rout, rout = rv.out := ⟨_, rfl⟩
      rw [← hro] at hsv hout r5 hrb
      have HRB := Lib.hid hrb
      clear hfo hro hrb
      have e0 := And.intro (cell_of HEQ.out 0) (unfrozen_of HEQ.out 0)
      have e1 := And.intro (cell_of HEQ.out 1) (unfrozen_of HEQ.out 1)
      have e2 := And.intro (cell_of HEQ.out 2) (unfrozen_of HEQ.out 2)
      simp only [List.getElem?_toArray, List.getElem?_cons_zero, List.getElem?_cons_succ] at e0 e1 e2
      by_cases h1 : rout < 0
      · rw [if_pos h1] at hsv
        subst hsv
        have h1' : decide (rout < 0) = true := decide_eq_true h1
        clear h1 hout
        go_wp2_with (fail)
        go_region
        clear r5 c0 p0 e0 e1 e2
        have HKD := Lib.hid HKQ.out.drew
        have HED := Lib.hid (blk_drew HEQ.out)
        generalize wq.drew = wd at *
        have e0 := And.intro (cell_of HED.out 0) (unfrozen_of HED.out 0)
        have e1 := And.intro (cell_of HED.out 1) (unfrozen_of HED.out 1)
        have e2 := And.intro (cell_of HED.out 2) (unfrozen_of HED.out 2)
        simp only [List.getElem?_toArray, List.getElem?_cons_zero, List.getElem?_cons_succ] at e0 e1 e2
        go_wp2_with (fail)
        exact bodyPost_ret (v := .tuple #[.int .i64 0, .agg #[.int .i64 2, .int .i64 (d : Int), .int .i64 (-1)], .bool false]) (by simp [results, Tryz.results137, go_sem, e0, e1, e2]) rfl ⟨rfl, HKD.out.trans ((kept_set3 wd (w.heap.size + 1) (.int .i64 2) (.int .i64 (d : Int)) (.int .i64 (-1))).below HKD.out.size (by simp))⟩
      · rw [if_neg h1] at hsv
        have h1' : decide (rout < 0) = false := decide_eq_false h1
        have h2' : decide (y ≤ rout) = false := decide_eq_false (by omega)
        clear h1 hout
        go_wp2_with (fail)
        go_region
        clear r5 c0 p0 e0 e1 e2 h1' h2'
        have HKD := Lib.hid HKQ.out.drew
        have HCELL : Hid (∀ w', Below wq.heap.size wq w' → w'.cell? ⟨nb, 0, none⟩ = some (.slice (some ⟨bp, op, none⟩) T.ports.length cp) ∧ w'.cell? ⟨nb, 1, none⟩ = some (.slice al T.links.length cl) ∧ w'.cell? ⟨nb, 2, none⟩ = some (.slice aa T.aces.length ca) ∧ w'.cell? ⟨rb, 5, none⟩ = some (.int .i64 rout) ∧ w'.cell? ⟨w.heap.size, 0, none⟩ = some (.int .u32 (hv.dst : Int)) ∧ w'.cell? ⟨w.heap.size, 1, none⟩ = some (.int .u32 (hv.src : Int)) ∧ w'.cell? ⟨w.heap.size, 2, none⟩ = some (.int .u8 (hv.proto : Int)) ∧ w'.cell? ⟨w.heap.size, 3, none⟩ = some (.int .u16 (hv.sport : Int)) ∧ w'.cell? ⟨w.heap.size, 4, none⟩ = some (.int .u16 (hv.dport : Int))) := Lib.hid (fun w' kW => by
          have hx := (kW.block _ (lt_of_block HXQ.out)).trans HXQ.out
          have hn := (kW.block _ (lt_of_block HNQ.out)).trans HNQ.out
          have hr := (kW.block _ (lt_of_block HRB.out)).trans HRB.out
          exact ⟨cell_of hn 0, cell_of hn 1, cell_of hn 2, cell_of hr 5, cell_of hx 0, cell_of hx 1, cell_of hx 2, cell_of hx 3, cell_of hx 4⟩)
        obtain ⟨c1, c2, c3, hcx⟩ : ∃ c1 c2 c3, crossT T (d : Int) rout hv = (c1, c2, c3) := ⟨_, _, _, rfl⟩
        have HCALL : Hid (∀ W, Below wq.heap.size wq W → Calls Tryz.prog 206 #[.agg #[.slice (some ⟨bp, op, none⟩) T.ports.length cp, .slice al T.links.length cl, .slice aa T.aces.length ca], .int .i64 (d : Int), .int .i64 rout, .agg #[.int .u32 (hv.dst : Int), .int .u32 (hv.src : Int), .int .u8 (hv.proto : Int), .int .u16 (hv.sport : Int), .int .u16 (hv.dport : Int)]] W fun e w' => e = .returned (.tuple #[.int .i64 c1, .bool c2, .bool c3]) ∧ Below wq.heap.size wq w') := Lib.hid (fun W kW => (HCR.out W (HKQ.out.trans (kW.mono HKQ.out.size)) rout).mono (by
          rintro e w' ⟨he, k⟩
          rw [hcx] at he
          exact ⟨he, kW.trans (k.mono kW.size)⟩))
        unfold outS at hsv
        rw [hcx] at hsv
        simp only at hsv
        have HSV2 := Lib.hid hsv
        clear hsv hcx
        have hBD : Below wq.heap.size wq wq.drew := (Below.refl _ _).drew
        go_upto_region 6 with (fail)
        have hBW : Below wq.heap.size wq wq.drew.drew := (Below.refl _ _).drew.drew
        have hS := HCELL.out _ hBW
        go_region_held3 (fun w' => w'.cell? ⟨nb, 0, none⟩ = some (.slice (some ⟨bp, op, none⟩) T.ports.length cp) ∧ w'.cell? ⟨nb, 1, none⟩ = some (.slice al T.links.length cl) ∧ w'.cell? ⟨nb, 2, none⟩ = some (.slice aa T.aces.length ca) ∧ w'.cell? ⟨rb, 5, none⟩ = some (.int .i64 rout) ∧ w'.cell? ⟨w.heap.size, 0, none⟩ = some (.int .u32 (hv.dst : Int)) ∧ w'.cell? ⟨w.heap.size, 1, none⟩ = some (.int .u32 (hv.src : Int)) ∧ w'.cell? ⟨w.heap.size, 2, none⟩ = some (.int .u8 (hv.proto : Int)) ∧ w'.cell? ⟨w.heap.size, 3, none⟩ = some (.int .u16 (hv.sport : Int)) ∧ w'.cell? ⟨w.heap.size, 4, none⟩ = some (.int .u16 (hv.dport : Int))) (first | assumption) (first | (go_at_call 206; refine Calls.mono (HCALL.out _ (by assumption)) ?_; rintro e w' ⟨rfl, hB'⟩; have hS' := HCELL.out _ hB'))
        have HK7 := Lib.hid (HKQ.out.trans (hB'.mono HKQ.out.size))
        have HE7 := Lib.hid ((hB'.block _ (lt_of_block HEQ.out)).trans HEQ.out)
        have hr7 := (hB'.block _ (lt_of_block HRB.out)).trans HRB.out
        have r5 := cell_of hr7 5
        simp only [List.getElem?_toArray, List.getElem?_cons_zero, List.getElem?_cons_succ] at r5
        clear hB' hS' hBW hS hBD hr7
        have hsv := HSV2.out
        have e0 := And.intro (cell_of HE7.out 0) (unfrozen_of HE7.out 0)
        have e1 := And.intro (cell_of HE7.out 1) (unfrozen_of HE7.out 1)
        have e2 := And.intro (cell_of HE7.out 2) (unfrozen_of HE7.out 2)
        simp only [List.getElem?_toArray, List.getElem?_cons_zero, List.getElem?_cons_succ] at e0 e1 e2
        cases c3 with
        | true =>
          rw [if_pos rfl] at hsv
          subst hsv
          go_wp2_with (fail)
          exact bodyPost_ret (v := .tuple #[.int .i64 c1, .agg #[.int .i64 0, .int .i64 0, .int .i64 0], .bool true]) (by simp [results, Tryz.results137, go_sem, e0, e1, e2]) rfl ⟨rfl, HK7.out.trans ((kept_set3 w' (w.heap.size + 1) (.int .i64 0) (.int .i64 0) (.int .i64 0)).below HK7.out.size (by simp))⟩
        | false =>
          rw [if_neg (by simp)] at hsv
          cases c2 with
          | true =>
            rw [if_pos rfl] at hsv
            subst hsv
            go_wp2_with (fail)
            have HKD7 := Lib.hid HK7.out.drew
            go_region
            all_goals
              go_wp2_with (fail)
              exact bodyPost_ret (v := .tuple #[.int .i64 0, .agg #[.int .i64 4, .int .i64 (d : Int), .int .i64 rout], .bool false]) (by simp [results, Tryz.results137, go_sem, e0, e1, e2]) rfl ⟨rfl, HKD7.out.trans ((kept_set3 w'.drew (w.heap.size + 1) (.int .i64 4) (.int .i64 (d : Int)) (.int .i64 rout)).below HKD7.out.size (by simp))⟩
          | false =>
            rw [if_neg (by simp)] at hsv
            subst hsv
            go_wp2_with (fail)
            have HKD7 := Lib.hid HK7.out.drew
            go_region
            all_goals
              go_wp2_with (fail)
              exact bodyPost_ret (v := .tuple #[.int .i64 0, .agg #[.int .i64 3, .int .i64 (d : Int), .int .i64 rout], .bool false]) (by simp [results, Tryz.results137, go_sem, e0, e1, e2]) rfl ⟨rfl, HKD7.out.trans ((kept_set3 w'.drew (w.heap.size + 1) (.int .i64 3) (.int .i64 (d : Int)) (.int .i64 rout)).below HKD7.out.size (by simp))⟩
end Go.Proofs.YtjoblahedgpgbaaGreat

namespace Go.Proofs.YtjoblahedgpgbaaGreat
set_option linter.unusedVariables false
set_option linter.unusedSimpArgs false
open Go.RowKit

theorem bool_inf3 : (Tryz.prog.info? 4).map (fun i => (i.zero, i.size, i.bytes)) = some (some (.bool false), 1, 1) := by kernel_rfl
theorem int_inf3 : (Tryz.prog.info? 3).map (fun i => (i.zero, i.size, i.bytes)) = some (some (.int .i64 0), 1, 8) := by kernel_rfl
def flagsW (n : Nat) (way : List Int) : List Value := (List.range n).map fun i : Nat => .bool (decide ((i : Int) ∈ way))
theorem flagsW_len (n : Nat) (way : List Int) : (flagsW n way).length = n := by simp [flagsW]
theorem flagsW_get {n d : Nat} (way : List Int) (h : d < n) : (flagsW n way)[d]? = some (.bool (decide ((d : Int) ∈ way))) := by simp [flagsW, h]
theorem flagsW_set (n d : Nat) (way : List Int) : (flagsW n way).set d (.bool true) = flagsW n (way ++ [(d : Int)]) := by
  apply List.ext_getElem?
  intro j
  rw [List.getElem?_set]
  by_cases hj : j < n
  · by_cases e : d = j
    · subst e
      rw [if_pos rfl, flagsW_get _ hj, if_pos (by rw [flagsW_len]; exact hj)]
      simp
    · rw [if_neg e, flagsW_get _ hj, flagsW_get _ hj]
      have : ((j : Nat) : Int) ≠ (d : Int) := by omega
      simp [this]
  · rw [List.getElem?_eq_none (by rw [flagsW_len]; omega), List.getElem?_eq_none (by rw [flagsW_len]; omega)]
    split
    · rw [if_neg (by rw [flagsW_len]; omega)]
    · rfl
theorem flagsW_nil (n : Nat) : flagsW n [] = List.replicate n (.bool false) := by
  apply List.ext_getElem?
  intro j
  by_cases hj : j < n
  · rw [flagsW_get _ hj, List.getElem?_replicate, if_pos hj]
    simp
  · rw [List.getElem?_eq_none (by rw [flagsW_len]; omega), List.getElem?_eq_none (by simp; omega)]
def falseRow (n : Nat) : Obj := .cells (List.replicate n (.bool false)).toArray 4
theorem made_falses (n : Nat) : madeCells #[.bool false] n = (List.replicate n (.bool false)).toArray := by
  apply Array.toList_inj.1
  rw [toList_madeCells_one]
theorem make_boolsT (n : Nat) (hn : n ≤ 1000) (W : World) : (Instr.makeSlice 46 (.int .i64 (n : Int)) (.int .i64 (n : Int))).run Tryz.prog W = .ok (.slice (some ⟨W.heap.size, 0, none⟩) n n) (W.alloc (falseRow n)) := by
  obtain ⟨i0, hi, hz0, hz1, hz2⟩ := info_parts bool_inf3
  have := run_make (P := Tryz.prog) W 46 4 i0 _ Tryz.underlying46 hi hz0 .i64 .i64 n n (by omega) (Int.le_refl _) (by rw [hz2]; omega) (by omega)
  rw [this, hz1]
  simp only [Int.toNat_natCast, Nat.mul_one, Value.cells, made_falses]
  rfl
theorem bools_made (n : Nat) (hn : n ≤ 1000) {W : World} {base : Nat} (hb : base ≤ W.heap.size) : (W.alloc (falseRow n)).ownsRow base 4 1 (.slice (some ⟨W.heap.size, 0, none⟩) n n) n (flagsW n []) := by
  have := World.ownsRow_lit (base := base) (e := 4) (size := 1) W (List.replicate n (Value.bool false)).toArray n hb (by unfold maxLen; omega) (by simp)
  rw [flagsW_nil]
  simpa [falseRow] using this

/-- What a trace leaves: the way in a row of its own, how it ends. -/
def TracePost (T : Tp) (ls : List (List Rl)) (hv : Hv) (d : Nat) (w : World) (e : Ending) (w' : World) : Prop :=
  ∃ vw, e = .returned (.tuple #[vw, .agg #[.int .i64 (wayS T ls hv (T.ports.length + 1) [] d).2.kind, .int .i64 (wayS T ls hv (T.ports.length + 1) [] d).2.dev, .int .i64 (wayS T ls hv (T.ports.length + 1) [] d).2.port], .int .i64 0]) ∧
    w'.ownsRow w.heap.size 3 1 vw (wayS T ls hv (T.ports.length + 1) [] d).1.length ((wayS T ls hv (T.ports.length + 1) [] d).1.map i64v) ∧ Below w.heap.size w w'

variable {w : World} {B B0 nb : Nat} {vp vl va vt : Value} {ts : List TD} {ls : List (List Rl)} {T : Tp}
set_option maxRecDepth 100000 in
set_option maxHeartbeats 8000000 in
theorem strace_bad (hN : NetAt w B nb vp vl va vt ts) (hl : ts.length ≤ 40) (d : Int) (hd : d < 0 ∨ (ts.length : Int) ≤ d) (hv : Hv) :
    Calls Tryz.prog 69 #[.pointer (some ⟨nb, 0, none⟩), .int .i64 d, hv.val] w fun e w' => e = .returned (.tuple #[.slice none 0 0, .agg #[.int .i64 0, .int .i64 0, .int .i64 0], .int .i64 10]) ∧ Below w.heap.size w w' := by
  have h2n := two_newS w (.cells #[.int .u32 (hv.dst : Int), .int .u32 (hv.src : Int), .int .u8 (hv.proto : Int), .int .u16 (hv.sport : Int), .int .u16 (hv.dport : Int)] 31) edZ
  unfold edZ at h2n
  have H2 := Lib.hid h2n
  have HN := Lib.hid hN
  obtain ⟨ao, cap, rfl, _⟩ := hN.shape
  clear h2n hN
  unfold Hv.val
  go_enter Tryz.func69, Tryz.ntmps69
  go_upto_region 1 with (fail)
  generalize (w.alloc (.cells #[.int .u32 (hv.dst : Int), .int .u32 (hv.src : Int), .int .u8 (hv.proto : Int), .int .u16 (hv.sport : Int), .int .u16 (hv.dport : Int)] 31)).alloc (.cells #[.int .i64 0, .int .i64 0, .int .i64 0] 158) = w1 at *
  have c3 := cell_of (HN.out.below H2.out.2.2).head 3
  have e0 := And.intro (cell_of H2.out.2.1 0) (unfrozen_of H2.out.2.1 0)
  have e1 := And.intro (cell_of H2.out.2.1 1) (unfrozen_of H2.out.2.1 1)
  have e2 := And.intro (cell_of H2.out.2.1 2) (unfrozen_of H2.out.2.1 2)
  simp only [List.getElem?_toArray, List.getElem?_cons_zero, List.getElem?_cons_succ] at c3 e0 e1 e2
  have hk := kept_set3 w1 (w.heap.size + 1) (.int .i64 0) (.int .i64 0) (.int .i64 0)
  have HFIN := Lib.hid (H2.out.2.2.trans (hk.below H2.out.2.2.size (by simp)))
  clear hk
  by_cases h1 : d < 0
  · clear hd
    go_wp2_with (fail)
    exact bodyPost_ret (v := .tuple #[.slice none 0 0, .agg #[.int .i64 0, .int .i64 0, .int .i64 0], .int .i64 10]) (by simp [results, Tryz.results69, go_sem, e0, e1, e2]) rfl ⟨rfl, HFIN.out⟩
  · have h2 : (ts.length : Int) ≤ d := by omega
    have h1' : decide (d < 0) = false := decide_eq_false h1
    have h2' : decide ((ts.length : Int) ≤ d) = true := decide_eq_true h2
    clear hd h1 h2
    go_wp2_with (fail)
    exact bodyPost_ret (v := .tuple #[.slice none 0 0, .agg #[.int .i64 0, .int .i64 0, .int .i64 0], .int .i64 10]) (by simp [results, Tryz.results69, go_sem, e0, e1, e2]) rfl ⟨rfl, HFIN.out⟩

set_option maxRecDepth 100000 in
set_option maxHeartbeats 16000000 in
theorem strace_calls (hN : NetAt w B nb vp vl va vt ts) (hP : Pairs (TD.Ls ts) ls) (hT : TpIn B0 w vp vl va T) (hB0 : B0 ≤ w.heap.size) (hF : Fine T) (hok : NetOk T.ports (TD.Ls ts)) (hL : lenT (TD.Ls ts) < 100000) (d : Nat) (hd : d < T.ports.length) (hv : Hv) (hh : hv.Wf) :
    Calls Tryz.prog 69 #[.pointer (some ⟨nb, 0, none⟩), .int .i64 (d : Int), hv.val] w fun e w' => TracePost T ls hv d w e w' := by
  obtain ⟨i0, hi, hz0, hz1, hz2⟩ := info_parts int_inf3
  have h2n := two_newS w (.cells #[.int .u32 (hv.dst : Int), .int .u32 (hv.src : Int), .int .u8 (hv.proto : Int), .int .u16 (hv.sport : Int), .int .u16 (hv.dport : Int)] 31) (.cells #[.int .i64 0, .int .i64 0, .int .i64 0] 158)
  have H2 := Lib.hid h2n
  have HN := Lib.hid hN
  have hln : ts.length = T.ports.length := by have := hok.len; simpa [TD.Ls] using this
  have HST : Hid (∀ W, Below w.heap.size w W → ∀ x : Nat, x < T.ports.length → Calls Tryz.prog 137 #[.pointer (some ⟨nb, 0, none⟩), .int .i64 (x : Int), .agg #[.int .u32 (hv.dst : Int), .int .u32 (hv.src : Int), .int .u8 (hv.proto : Int), .int .u16 (hv.sport : Int), .int .u16 (hv.dport : Int)]] W fun e w' => e = .returned (stepV (stepS T ls hv x)) ∧ Below W.heap.size W w') := Lib.hid (fun W kW x hx => sstep_calls (hN.below kW) hP (hT.kept (kW.mono hB0)) (Nat.le_trans hB0 kW.size) hF hok hL x hx hv hh)
  have HSI : Hid (∀ x : Int, (stepS T ls hv x).2.2 = true → ∃ y : Nat, (stepS T ls hv x).1 = y ∧ y < T.ports.length) := Lib.hid (fun x hx => by
    have := step_in hF.parts.1 hx
    exact ⟨(stepS T ls hv x).1.toNat, by omega, by omega⟩)
  obtain ⟨ao, cap, rfl, _⟩ := hN.shape
  have hn40 := hF.small.1
  obtain ⟨res, hres⟩ : ∃ res, res = wayS T ls hv (T.ports.length + 1) [] d := ⟨_, rfl⟩
  unfold TracePost
  rw [← hres]
  have HRES := Lib.hid hres
  have HLN := Lib.hid hln
  have hmk := make_boolsT T.ports.length (by omega)
  rw [hln] at HN
  clear h2n hN hP hT hF hok hL hres hln hB0
  unfold Hv.val
  go_enter Tryz.func69, Tryz.ntmps69
  go_upto_region 1 with (fail)
  generalize (w.alloc (.cells #[.int .u32 (hv.dst : Int), .int .u32 (hv.src : Int), .int .u8 (hv.proto : Int), .int .u16 (hv.sport : Int), .int .u16 (hv.dport : Int)] 31)).alloc (.cells #[.int .i64 0, .int .i64 0, .int .i64 0] 158) = w1 at *
  have c3 := cell_of (HN.out.below H2.out.2.2).head 3
  simp only [List.getElem?_toArray, List.getElem?_cons_zero, List.getElem?_cons_succ] at c3
  have h1' : decide (((d : Nat) : Int) < 0) = false := decide_eq_false (by omega)
  have h2' : ¬ T.ports.length ≤ d := by omega
  have h3' : decide (T.ports.length ≤ d) = false := decide_eq_false h2'
  have HS0 := Lib.hid (bools_made T.ports.length (by omega) (W := w1) (base := w.heap.size + 1 + 1) (lt_of_block H2.out.2.1))
  have HK2 := Lib.hid (H2.out.2.2.alloc H2.out.2.2.size (falseRow T.ports.length))
  have HX2 := Lib.hid (And.intro (blk_alloc H2.out.1 (falseRow T.ports.length)) (blk_alloc H2.out.2.1 (falseRow T.ports.length)))
  go_upto_region 7 with (fail)
  clear c3 h1' h2' h3'
  generalize w1.alloc (falseRow T.ports.length) = w2 at *
  generalize w1.heap.size = sb at *
  go_loopg [1, 9] (T.ports.length + 1) (fun gk vd vw wr => ∃ (way : List Int) (x : Nat), gk + way.length = T.ports.length + 1 ∧ vd = .int .i64 (x : Int) ∧ x < T.ports.length ∧ way.Nodup ∧ (∀ y ∈ way, InDev T y) ∧ wr.ownsRow (w.heap.size + 1 + 1) 3 1 vw way.length (way.map i64v) ∧ wr.ownsRow (w.heap.size + 1 + 1) 4 1 (.slice (some ⟨sb, 0, none⟩) T.ports.length T.ports.length) T.ports.length (flagsW T.ports.length way) ∧ res = wayS T ls hv gk way x ∧ Below w.heap.size w wr ∧ (wr.heap[w.heap.size]? = some (.cells #[.int .u32 (hv.dst : Int), .int .u32 (hv.src : Int), .int .u8 (hv.proto : Int), .int .u16 (hv.sport : Int), .int .u16 (hv.dport : Int)] 31 (0, 0)) ∧ wr.heap[w.heap.size + 1]? = some (.cells #[.int .i64 0, .int .i64 0, .int .i64 0] 158 (0, 0))))
  case atStart => exact ⟨[], d, by simp, rfl, hd, List.nodup_nil, by simp, World.ownsRow_nil _ _ _ _, HS0.out, HRES.out, HK2.out, HX2.out⟩
  case round =>
    obtain ⟨way, x, hgk, rfl, hx, hnd, hin, how, hsn, hr, hK, hX⟩ := hrel
    have hwl := few T.ports.length way hnd hin
    obtain ⟨gk, rfl⟩ : ∃ g, gk = g + 1 := ⟨gk - 1, by omega⟩
    unfold wayS at hr
    have HW := Lib.hid how
    have HSN := Lib.hid hsn
    have HKR := Lib.hid hK
    have HXR := Lib.hid hX
    have HND := Lib.hid (And.intro hnd hin)
    have f0 := hsn.cellAt (x * 1) (by omega)
    rw [Nat.mul_one, flagsW_get way hx] at f0
    have f1 := hsn.frozenAt x
    have hxi : (x : Int) < (T.ports.length : Int) := by omega
    have HXI := Lib.hid hx
    clear how hsn hK hX hnd hin
    by_cases hm : (x : Int) ∈ way
    · rw [if_pos hm] at hr
      have hm' : decide ((x : Int) ∈ way) = true := decide_eq_true hm
      rw [hm'] at f0
      subst hr
      have e0 := And.intro (cell_of HXR.out.2 0) (unfrozen_of HXR.out.2 0)
      have e1 := And.intro (cell_of HXR.out.2 1) (unfrozen_of HXR.out.2 1)
      have e2 := And.intro (cell_of HXR.out.2 2) (unfrozen_of HXR.out.2 2)
      simp only [List.getElem?_toArray, List.getElem?_cons_zero, List.getElem?_cons_succ] at e0 e1 e2
      clear hm hm'
      go_wp2_with (fail)
      have hk := kept_set3 wr (w.heap.size + 1) (.int .i64 0) (.int .i64 (x : Int)) (.int .i64 (-1))
      exact bodyPost_ret (v := .tuple #[u9, .agg #[.int .i64 0, .int .i64 (x : Int), .int .i64 (-1)], .int .i64 0]) (by simp [results, Tryz.results69, go_sem, e0, e1, e2]) rfl ⟨_, rfl, (own_kept HW.out hk (fun g hg hc => by have := own_pastT HW.out g hg; have := List.mem_singleton.1 hc; omega)).mono (by omega), HKR.out.trans (hk.below HKR.out.size (by simp))⟩
    · rw [if_neg hm] at hr
      have hm' : decide ((x : Int) ∈ way) = false := decide_eq_false hm
      rw [hm'] at f0
      have HM := Lib.hid hm
      have HR := Lib.hid hr
      clear hm hm' hr
      have hne : ∀ g, u9.ownBlock = some g → g ≠ sb := fun g hg e => by
        obtain ⟨c1, h1⟩ := own_ty HW.out hg
        obtain ⟨c2, h2⟩ := own_ty HSN.out (g := sb) rfl
        refine block_ne h1 h2 (fun e => ?_) e
        injection e with _ e2 _
        cases e2
      have hsb := own_pastT HSN.out sb rfl
      have hk3 : Kept [sb] wr (wr.setCell ⟨sb, x, none⟩ (.bool true)) := Kept.of_setCell wr ⟨sb, x, none⟩ _
      have HW3 := Lib.hid (own_kept HW.out hk3 (fun g hg hc => hne g hg (List.mem_singleton.1 hc)))
      have hsn3 := (HSN.out.stored x (.bool true)).1
      rw [flagsW_set] at hsn3
      have HSN3 := Lib.hid hsn3
      have HK3 := Lib.hid (HKR.out.trans (hk3.below HKR.out.size (fun y hy => by rw [List.mem_singleton.1 hy]; omega)))
      have HX3 := Lib.hid (And.intro ((hk3.block _ (lt_of_block HXR.out.1) (by simp; omega)).trans HXR.out.1) ((hk3.block _ (lt_of_block HXR.out.2) (by simp; omega)).trans HXR.out.2))
      have HNE := Lib.hid hne
      have HSB := Lib.hid hsb
      clear hne hk3 hsn3 hsb
      go_upto_region 9 with (fail)
      clear f0 f1
      generalize wr.setCell ⟨sb, x, none⟩ (.bool true) = w3 at *
      have hz3 := lt_of_block HX3.out.2
      go_upto_region 10 with (at_builtin; go_must (refine wpList_append_lies _ rfl (.tmp 45) (.tmp 47) 22 rfl (w.heap.size + 1 + 1) 3 i0 _ 1 8 Tryz.underlying22 hi hz0 hz1 hz2 rfl (by decide) _ way.length (way.map i64v) rfl ?_ ⟨w3.heap.size, 0, none⟩ 1 1 [.int .i64 (x : Int)] rfl rfl ?_ ?_ (by omega) ?_ ?_ ?_ _ rfl ?_); (· exact own_kept HW3.out ((Kept.refl [] _).alloc _) (by simp)); (· exact news_atT (by simp)); (· simp [Value.oneCell']); (· unfold maxLen; omega); (· omega); (· simp; omega); intro g9 cap9 w9 how9 hgr9 hat9 hlt9; have HOW9 := Lib.hid how9; have HGR9 := Lib.hid hgr9; clear how9 hgr9 hat9 hlt9; have hkg := ((Kept.refl [] w3).alloc (.cells #[.int .i64 (x : Int)] 3)); have hx9 : ∀ (y : Nat) (o : Obj), (∀ g, u9.ownBlock = some g → g ≠ y) → w3.heap[y]? = some o → w9.heap[y]? = some o := (fun y o hy ho => (HGR9.out.block y (by have := lt_of_block ho; simp; omega) (fun e => hy y e.symm rfl)).trans (blk_alloc ho _)); have hhd := hx9 w.heap.size _ (fun g hg e => by have := own_pastT HW3.out g hg; omega) HX3.out.1; have x0 := cell_of hhd 0; have x1 := cell_of hhd 1; have x2 := cell_of hhd 2; have x3 := cell_of hhd 3; have x4 := cell_of hhd 4; simp only [List.getElem?_toArray, List.getElem?_cons_zero, List.getElem?_cons_succ] at x0 x1 x2 x3 x4; have HX9 := Lib.hid hx9; clear hx9 hhd hkg)
      have hX9 := And.intro (HX9.out w.heap.size _ (fun g hg e => by have := own_pastT HW3.out g hg; omega) HX3.out.1) (HX9.out (w.heap.size + 1) _ (fun g hg e => by have := own_pastT HW3.out g hg; omega) HX3.out.2)
      have hk9 : Kept u9.ownBlock.toList w3 w9 := ((Kept.refl _ w3).alloc (.cells #[.int .i64 (x : Int)] 3)).grown_rowT (show (w3.alloc (.cells #[.int .i64 (x : Int)] 3)).grownBy w9 u9.ownBlock from HGR9.out) (fun k e => Or.inl (by rw [e]; simp))
      have HSN9 := Lib.hid (own_kept HSN3.out hk9 (fun g hg hc => HNE.out g (Option.mem_toList.1 hc) (Option.some.inj hg).symm))
      have HK9 := Lib.hid (HK3.out.trans (hk9.below HK3.out.size (fun y hy => by have := own_pastT HW3.out y (Option.mem_toList.1 hy); omega)))
      have HW9 : Hid (w9.ownsRow (w.heap.size + 1 + 1) 3 1 (.slice (some ⟨g9, 0, none⟩) (way.length + 1) cap9) (way ++ [(x : Int)]).length ((way ++ [(x : Int)]).map i64v)) := Lib.hid (by
        rw [List.length_append, List.map_append]
        exact HOW9.out)
      have HXX := Lib.hid hX9
      have HCALL := Lib.hid (HST.out w9 HK9.out x HXI.out)
      clear hX9 hk9 HX9 HOW9 HGR9 HNE
      obtain ⟨s1, s2, s3, s4, s5, hss⟩ : ∃ s1 s2 s3 s4 s5, stepS T ls hv x = (s1, ⟨s2, s3, s4⟩, s5) := ⟨_, _, _, _, _, rfl⟩
      have hr := HR.out
      rw [hss] at HCALL hr
      have hsi := HSI.out x
      rw [hss] at hsi
      unfold stepV at HCALL
      simp only at HCALL hr hsi
      have HR2 := Lib.hid hr
      have HSI2 := Lib.hid hsi
      clear hss hr hsi HR
      go_wp2_with (fail)
      refine Calls.mono HCALL.out ?_
      rintro e w10 ⟨he, k10⟩
      subst he
      have HK10 := Lib.hid (HK9.out.trans (k10.mono HK9.out.size))
      have HW10 := Lib.hid (own_kept HW9.out (Kept.of_below (S := []) k10) (by simp))
      have HSN10 := Lib.hid (own_kept HSN9.out (Kept.of_below (S := []) k10) (by simp))
      have HX10 := Lib.hid (And.intro ((k10.block _ (lt_of_block HXX.out.1)).trans HXX.out.1) ((k10.block _ (lt_of_block HXX.out.2)).trans HXX.out.2))
      clear k10 x0 x1 x2 x3 x4 hz3
      have HK11 := Lib.hid (HK10.out.alloc HK10.out.size (.cells #[.int .i64 s2, .int .i64 s3, .int .i64 s4] 158))
      have HW11 := Lib.hid (own_kept HW10.out (Kept.of_alloc (S := []) w10 (.cells #[.int .i64 s2, .int .i64 s3, .int .i64 s4] 158)) (by simp))
      have HSN11 := Lib.hid (own_kept HSN10.out (Kept.of_alloc (S := []) w10 (.cells #[.int .i64 s2, .int .i64 s3, .int .i64 s4] 158)) (by simp))
      have HX11 := Lib.hid (And.intro (blk_alloc HX10.out.1 (.cells #[.int .i64 s2, .int .i64 s3, .int .i64 s4] 158)) (blk_alloc HX10.out.2 (.cells #[.int .i64 s2, .int .i64 s3, .int .i64 s4] 158)))
      have HEB := Lib.hid (heap_alloc_new w10 (.cells #[.int .i64 s2, .int .i64 s3, .int .i64 s4] 158))
      have hr := HR2.out
      go_upto_region 11 with (fail)
      generalize w10.alloc (.cells #[.int .i64 s2, .int .i64 s3, .int .i64 s4] 158) = w11 at *
      cases s5 with
      | false =>
        rw [if_neg (by simp)] at hr
        subst hr
        have b0 := cell_of HEB.out 0
        have b1 := cell_of HEB.out 1
        have b2 := cell_of HEB.out 2
        have e0 := And.intro (cell_of HX11.out.2 0) (unfrozen_of HX11.out.2 0)
        have e1 := And.intro (cell_of HX11.out.2 1) (unfrozen_of HX11.out.2 1)
        have e2 := And.intro (cell_of HX11.out.2 2) (unfrozen_of HX11.out.2 2)
        simp only [List.getElem?_toArray, List.getElem?_cons_zero, List.getElem?_cons_succ] at b0 b1 b2 e0 e1 e2
        go_wp2_with (fail)
        go_region
        all_goals
          go_wp2_with (fail)
          first
          | (have hk : Kept [w.heap.size + 1] w11 ((set3 w11 (w.heap.size + 1) (.int .i64 s2) (.int .i64 s3) (.int .i64 s4)).drew) := (kept_set3 w11 (w.heap.size + 1) (.int .i64 s2) (.int .i64 s3) (.int .i64 s4)).drew
             have hfin : ((set3 w11 (w.heap.size + 1) (.int .i64 s2) (.int .i64 s3) (.int .i64 s4)).drew).ownsRow w.heap.size 3 1 (.slice (some ⟨g9, 0, none⟩) (way.length + 1) cap9) (way.length + 1) (way.map i64v ++ [i64v (x : Int)]) := by
               have h1 := (own_kept HW11.out hk (fun g hg hc => by have := own_pastT HW11.out g hg; have := List.mem_singleton.1 hc; omega)).mono (show w.heap.size ≤ w.heap.size + 1 + 1 by omega)
               simpa using h1
             exact bodyPost_ret (v := .tuple #[.slice (some ⟨g9, 0, none⟩) (way.length + 1) cap9, .agg #[.int .i64 s2, .int .i64 s3, .int .i64 s4], .int .i64 0]) (by simp [results, Tryz.results69, go_sem, e0, e1, e2]) rfl ⟨_, rfl, hfin, HK11.out.trans (hk.below HK11.out.size (by simp))⟩)
          | (have hk : Kept [w.heap.size + 1] w11 (set3 w11.drew (w.heap.size + 1) (.int .i64 s2) (.int .i64 s3) (.int .i64 s4)) := ((Kept.refl [w.heap.size + 1] w11).drew).trans (kept_set3 w11.drew (w.heap.size + 1) (.int .i64 s2) (.int .i64 s3) (.int .i64 s4)) (fun x hx => Or.inl hx)
             have hfin : (set3 w11.drew (w.heap.size + 1) (.int .i64 s2) (.int .i64 s3) (.int .i64 s4)).ownsRow w.heap.size 3 1 (.slice (some ⟨g9, 0, none⟩) (way.length + 1) cap9) (way.length + 1) (way.map i64v ++ [i64v (x : Int)]) := by
               have h1 := (own_kept HW11.out hk (fun g hg hc => by have := own_pastT HW11.out g hg; have := List.mem_singleton.1 hc; omega)).mono (show w.heap.size ≤ w.heap.size + 1 + 1 by omega)
               simpa using h1
             exact bodyPost_ret (v := .tuple #[.slice (some ⟨g9, 0, none⟩) (way.length + 1) cap9, .agg #[.int .i64 s2, .int .i64 s3, .int .i64 s4], .int .i64 0]) (by simp [results, Tryz.results69, go_sem, e0, e1, e2]) rfl ⟨_, rfl, hfin, HK11.out.trans (hk.below HK11.out.size (by simp))⟩)
      | true =>
        rw [if_pos rfl] at hr
        obtain ⟨y, rfl, hy⟩ := HSI2.out rfl
        have HR3 := Lib.hid (And.intro hr hy)
        clear hr hy
        go_wp2_with (fail)
        go_roundg gk
        case measure => omega
        case rel =>
          refine ⟨way ++ [(x : Int)], y, by simp; omega, rfl, HR3.out.2, List.nodup_append.2 ⟨HND.out.1, by simp, fun a ha b hb => ?_⟩, fun z hz => ?_, HW11.out, HSN11.out, HR3.out.1, HK11.out, HX11.out⟩
          · rw [List.mem_singleton.1 hb]
            exact fun e => HM.out (e ▸ ha)
          · rcases List.mem_append.1 hz with hz | hz
            · exact HND.out.2 z hz
            · rw [List.mem_singleton.1 hz]
              have := HXI.out
              exact ⟨by omega, by omega⟩
end Go.Proofs.YtjoblahedgpgbaaGreat

namespace Go.Proofs.YtjoblahedgpgbaaGreat
set_option linter.unusedVariables false
set_option linter.unusedSimpArgs false
open Go.RowKit

def tA : Tp := ⟨[1, 1], [], []⟩
def hZ : Hv := ⟨0, 0, 0, 0, 0⟩
theorem tA_fine : Fine tA := ⟨by decide, by decide⟩
theorem hZ_wf : hZ.Wf := ⟨by decide, by decide, by decide⟩
theorem tA_way : wayS tA (List.replicate 2 []) hZ 3 [] 1 = ([1], ⟨1, 1, -1⟩) := by rfl
theorem ints_in {w : World} : RowIn (w.heap.size + 1) (w.alloc (.cells #[.int .i64 1, .int .i64 1] 3)) (.slice (some ⟨w.heap.size, 0, none⟩) 2 2) 2 ([1, 1].map i64v) := by
  refine ⟨_, _, rfl, fun j u hu => ⟨w.heap.size, 0, rfl, by omega, ?_⟩⟩
  have := cell_of (heap_alloc_new w (.cells #[.int .i64 1, .int .i64 1] 3)) (0 + j)
  rw [this, Nat.zero_add]
  simpa [i64v] using hu
theorem nil_in (B : Nat) (w : World) (xs : List Value) (h : xs = []) : RowIn B w (.slice none 0 0) 0 xs := ⟨none, 0, rfl, fun j u hu => by rw [h] at hu; simp at hu⟩

end Go.Proofs.YtjoblahedgpgbaaGreat

namespace Go.Proofs.YtjoblahedgpgbaaGreat
set_option linter.unusedVariables false
set_option linter.unusedSimpArgs false
open Go.RowKit

theorem nlen_nil (w : World) : Calls Tryz.prog 145 #[.pointer none] w fun e w' => e = .returned (.int .i64 0) ∧ Below w.heap.size w w' := by
  have k0 := Below.refl w.heap.size w
  go_enter Tryz.func145, Tryz.ntmps145
  go_wp2
  go_ret
  exact ⟨rfl, k0⟩
theorem nhas_nil (w : World) (id : Int) : Calls Tryz.prog 140 #[.pointer none, .int .i64 id] w fun e w' => e = .returned (.bool false) ∧ Below w.heap.size w w' := by
  have k0 := Below.refl w.heap.size w
  go_enter Tryz.func140, Tryz.ntmps140
  go_wp2
  go_ret
  exact ⟨rfl, k0⟩
theorem nclone_nil (w : World) : Calls Tryz.prog 70 #[.pointer none] w fun e w' => e = .returned (.pointer none) ∧ Below w.heap.size w w' := by
  have k0 := Below.refl w.heap.size w
  go_enter Tryz.func70, Tryz.ntmps70
  go_wp2
  go_ret
  exact ⟨rfl, k0⟩
theorem nchg_nil (w : World) : Calls Tryz.prog 71 #[.pointer none, .agg #[.bool false, .int .i64 0, .int .i64 0, .int .u32 0, .int .i64 0, .int .i64 0, .int .i64 0]] w fun e w' => e = .returned (.int .i64 2) ∧ Below w.heap.size w w' := by
  have k0 := (Below.refl w.heap.size w).alloc (Nat.le_refl _) (.cells #[.bool false, .int .i64 0, .int .i64 0, .int .u32 0, .int .i64 0, .int .i64 0, .int .i64 0] 91)
  go_enter Tryz.func71, Tryz.ntmps71
  go_wp2
  go_ret
  exact ⟨rfl, k0⟩
end Go.Proofs.YtjoblahedgpgbaaGreat

namespace Go.Proofs.YtjoblahedgpgbaaGreat
set_option linter.unusedVariables false
set_option linter.unusedSimpArgs false
open Go.RowKit

theorem three_new (w : World) (a b c : Obj) : (((w.alloc a).alloc b).alloc c).heap[w.heap.size]? = some a ∧ (((w.alloc a).alloc b).alloc c).heap[w.heap.size + 1]? = some b ∧ (((w.alloc a).alloc b).alloc c).heap[w.heap.size + 1 + 1]? = some c ∧ Below w.heap.size w (((w.alloc a).alloc b).alloc c) := by
  have e1 : (w.alloc a).heap.size = w.heap.size + 1 := by simp
  have e2 : ((w.alloc a).alloc b).heap.size = w.heap.size + 1 + 1 := by simp
  have h2 := heap_alloc_new (w.alloc a) b
  have h3 := heap_alloc_new ((w.alloc a).alloc b) c
  rw [e1] at h2
  rw [e2] at h3
  exact ⟨blk_alloc (blk_alloc (heap_alloc_new w a) b) c, blk_alloc h2 c, h3, (((Below.refl w.heap.size w).alloc (Nat.le_refl _) _).alloc (by omega) _).alloc (by omega) _⟩
def RTracePost (T : Tp) (ls : List (List Rl)) (hv : Hv) (d : Nat) (w : World) (e : Ending) (w' : World) : Prop :=
  ∃ vw, e = .returned (.tuple #[vw, .agg #[.int .i64 (wayS T ls hv (T.ports.length + 1) [] d).2.kind, .int .i64 (wayS T ls hv (T.ports.length + 1) [] d).2.dev, .int .i64 (wayS T ls hv (T.ports.length + 1) [] d).2.port]]) ∧
    w'.ownsRow w.heap.size 3 1 vw (wayS T ls hv (T.ports.length + 1) [] d).1.length ((wayS T ls hv (T.ports.length + 1) [] d).1.map i64v) ∧ Below w.heap.size w w'

variable {w : World} {B B0 : Nat} {vp vl va vr : Value} {rs : List Value} {ls : List (List Rl)} {T : Tp}
set_option maxRecDepth 100000 in
set_option maxHeartbeats 16000000 in
theorem rtrace_calls (hR : RNetAt w B vr rs ls) (hlen : ls.length = T.ports.length) (hrok : ∀ l ∈ ls, (∀ r ∈ l, r.Ok) ∧ l.length < 1000000) (hT : TpIn B0 w vp vl va T) (hB0 : B0 ≤ w.heap.size) (hF : Fine T) (d : Nat) (hd : d < T.ports.length) (hv : Hv) (hh : hv.Wf) :
    Calls Tryz.prog 25 #[.agg #[vp, vl, va, vr], .int .i64 (d : Int), hv.val] w fun e w' => RTracePost T ls hv d w e w' := by
  obtain ⟨i0, hi, hz0, hz1, hz2⟩ := info_parts int_inf3
  have HSI : Hid (∀ x : Int, (stepS T ls hv x).2.2 = true → ∃ y : Nat, (stepS T ls hv x).1 = y ∧ y < T.ports.length) := Lib.hid (fun x hx => by
    have := step_in hF.parts.1 hx
    exact ⟨(stepS T ls hv x).1.toNat, by omega, by omega⟩)
  have HCR := Lib.hid (fun W (kW : Below w.heap.size w W) (x : Nat) o => rcross_calls (hT.kept (kW.mono hB0)) (Nat.le_trans hB0 kW.size) hF.small.2.1 hF.small.2.2 hF.parts.2 (x : Int) o hv hh)
  have HROK := Lib.hid hrok
  have hn40 := hF.small.1
  obtain ⟨ap, cp, rfl, _⟩ := hT.ports
  obtain ⟨al, cl, rfl, _⟩ := hT.links
  obtain ⟨aa, ca, rfl, _⟩ := hT.aces
  obtain ⟨ar, cr, rfl, _, har⟩ := hR.shape
  have HR := Lib.hid hR
  have HLEN := Lib.hid hlen
  have hdst := hh.dst
  obtain ⟨res, hres⟩ : ∃ res, res = wayS T ls hv (T.ports.length + 1) [] d := ⟨_, rfl⟩
  unfold RTracePost
  rw [← hres]
  have HRES := Lib.hid hres
  have H3 := Lib.hid (three_new w (.cells #[.slice ap T.ports.length cp, .slice al T.links.length cl, .slice aa T.aces.length ca, .slice ar ls.length cr] 38) (.cells #[.int .u32 (hv.dst : Int), .int .u32 (hv.src : Int), .int .u8 (hv.proto : Int), .int .u16 (hv.sport : Int), .int .u16 (hv.dport : Int)] 31) (.cells #[.int .i64 0, .int .i64 0, .int .i64 0] 52))
  clear hR hlen hrok hT hF hres har hB0
  unfold Hv.val at *
  go_enter Tryz.func25, Tryz.ntmps25
  go_upto_region 1 with (fail)
  generalize ((w.alloc (.cells #[.slice ap T.ports.length cp, .slice al T.links.length cl, .slice aa T.aces.length ca, .slice ar ls.length cr] 38)).alloc (.cells #[.int .u32 (hv.dst : Int), .int .u32 (hv.src : Int), .int .u8 (hv.proto : Int), .int .u16 (hv.sport : Int), .int .u16 (hv.dport : Int)] 31)).alloc (.cells #[.int .i64 0, .int .i64 0, .int .i64 0] 52) = w1 at *
  go_wp2_with (fail)
  go_loopg [1, 8] (T.ports.length + 1) (fun gk vd vw wr => ∃ (way : List Int) (x : Nat), gk + way.length = T.ports.length + 1 ∧ vd = .int .i64 (x : Int) ∧ x < T.ports.length ∧ way.Nodup ∧ (∀ y ∈ way, InDev T y) ∧ wr.ownsRow (w.heap.size + 1 + 1 + 1) 3 1 vw way.length (way.map i64v) ∧ res = wayS T ls hv gk way x ∧ Below w.heap.size w wr ∧ (wr.heap[w.heap.size]? = some (.cells #[.slice ap T.ports.length cp, .slice al T.links.length cl, .slice aa T.aces.length ca, .slice ar ls.length cr] 38 (0, 0)) ∧ wr.heap[w.heap.size + 1]? = some (.cells #[.int .u32 (hv.dst : Int), .int .u32 (hv.src : Int), .int .u8 (hv.proto : Int), .int .u16 (hv.sport : Int), .int .u16 (hv.dport : Int)] 31 (0, 0)) ∧ wr.heap[w.heap.size + 1 + 1]? = some (.cells #[.int .i64 0, .int .i64 0, .int .i64 0] 52 (0, 0))))
  case atStart => exact ⟨[], d, by simp, rfl, hd, List.nodup_nil, by simp, World.ownsRow_nil _ _ _ _, HRES.out, H3.out.2.2.2, H3.out.1, H3.out.2.1, H3.out.2.2.1⟩
  case round =>
    obtain ⟨way, x, hgk, rfl, hx, hnd, hin, how, hr, hK, hX⟩ := hrel
    have hwl := few T.ports.length way hnd hin
    obtain ⟨gk, rfl⟩ : ∃ g, gk = g + 1 := ⟨gk - 1, by omega⟩
    unfold wayS at hr
    have HW := Lib.hid how
    have HKR := Lib.hid hK
    have HXR := Lib.hid hX
    have HND := Lib.hid (And.intro hnd hin)
    have HXI := Lib.hid hx
    have HRR := Lib.hid hr
    obtain ⟨aw, cw, rfl, haw⟩ : ∃ aw cw, u8 = .slice aw way.length cw ∧ ∀ i, i < way.length → ∃ g, aw = some ⟨g, 0, none⟩ := by
      rcases how.2 with ⟨h0, h1⟩ | ⟨g', cap', cur, h0, _⟩
      · exact ⟨none, 0, by rw [h0, h1], fun i hi => by omega⟩
      · exact ⟨_, cap', h0, fun i _ => ⟨g', rfl⟩⟩
    have HAW := Lib.hid haw
    clear how hK hX hnd hin hr haw
    generalize gk = gko at *
    go_wp2_with (fail)
    go_loopg [9] way.length (fun gk vi wz => ∃ i : Nat, i + gk = way.length ∧ vi = .int .i64 (i : Int) ∧ (x : Int) ∉ way.take i ∧ wz = wr)
    case atStart => exact ⟨0, by omega, rfl, by simp, rfl⟩
    case round =>
      obtain ⟨i, hgk2, rfl, hni, rfl⟩ := hrel
      have HNI := Lib.hid hni
      clear hni
      by_cases hil : i < way.length
      · obtain ⟨g, rfl⟩ := HAW.out i hil
        have d0 := HW.out.cellAt (i * 1) (by omega)
        rw [Nat.mul_one, List.getElem?_map, List.getElem?_eq_getElem hil] at d0
        simp only [Option.map_some, i64v] at d0
        have HTK : Hid (way.take (i + 1) = way.take i ++ [way[i]]) := Lib.hid (by rw [List.take_add_one, List.getElem?_eq_getElem hil]; rfl)
        have HME : Hid (way[i] ∈ way) := Lib.hid (List.getElem_mem hil)
        generalize way[i] = wi at *
        by_cases he : wi = (x : Int)
        · subst he
          have hr := HRR.out
          rw [if_pos HME.out] at hr
          subst hr
          have e0 := And.intro (cell_of HXR.out.2.2 0) (unfrozen_of HXR.out.2.2 0)
          have e1 := And.intro (cell_of HXR.out.2.2 1) (unfrozen_of HXR.out.2.2 1)
          have e2 := And.intro (cell_of HXR.out.2.2 2) (unfrozen_of HXR.out.2.2 2)
          simp only [List.getElem?_toArray, List.getElem?_cons_zero, List.getElem?_cons_succ] at e0 e1 e2
          go_wp2_with (fail)
          have hk := kept_set3 wr (w.heap.size + 1 + 1) (.int .i64 0) (.int .i64 (x : Int)) (.int .i64 (-1))
          exact bodyPost_ret (v := .tuple #[.slice (some ⟨g, 0, none⟩) way.length cw, .agg #[.int .i64 0, .int .i64 (x : Int), .int .i64 (-1)]]) (by simp [results, Tryz.results25, go_sem, e0, e1, e2]) rfl ⟨_, rfl, (own_kept HW.out hk (fun g hg hc => by have := own_pastT HW.out g hg; have := List.mem_singleton.1 hc; omega)).mono (by omega), HKR.out.trans (hk.below HKR.out.size (by simp; omega))⟩
        · have hne : (wi == (x : Int)) = false := beq_eq_false_iff_ne.2 he
          have HNE := Lib.hid he
          clear he
          go_wp2_with (fail)
          go_roundg (gk - 1)
          case measure => omega
          case rel =>
            refine ⟨i + 1, by omega, by go_num, fun hm => ?_, rfl⟩
            rw [HTK.out] at hm
            rcases List.mem_append.1 hm with hm | hm
            · exact HNI.out hm
            · exact HNE.out (List.mem_singleton.1 hm).symm
      · obtain rfl : i = way.length := by omega
        have hm := HNI.out
        rw [List.take_length] at hm
        have hr := HRR.out
        rw [if_neg hm] at hr
        have HM := Lib.hid hm
        have HR2 := Lib.hid hr
        clear hm hr HNI
        have hz3 := HKR.out.size
        have hz4 := lt_of_block HXR.out.2.2
        go_upto_region 8 with (at_builtin; go_must (refine wpList_append_lies _ rfl (.tmp 30) (.tmp 32) 22 rfl (w.heap.size + 1 + 1 + 1) 3 i0 _ 1 8 Tryz.underlying22 hi hz0 hz1 hz2 rfl (by decide) (.slice aw way.length cw) way.length (way.map i64v) rfl ?_ ⟨wr.heap.size, 0, none⟩ 1 1 [.int .i64 (x : Int)] rfl rfl ?_ ?_ (by omega) ?_ ?_ ?_ _ rfl ?_); (· exact own_kept HW.out ((Kept.refl [] _).alloc _) (by simp)); (· exact news_atT (by simp)); (· simp [Value.oneCell']); (· unfold maxLen; omega); (· omega); (· simp; omega); intro g9 cap9 w9 how9 hgr9 hat9 hlt9; have HOW9 := Lib.hid how9; have HGR9 := Lib.hid hgr9; clear how9 hgr9 hat9 hlt9)
        have hx9 : ∀ (y : Nat) (o : Obj), y < w.heap.size + 1 + 1 + 1 → wr.heap[y]? = some o → w9.heap[y]? = some o := fun y o hy ho => (HGR9.out.block y (by have := lt_of_block ho; simp; omega) (fun e => by have := own_pastT HW.out y e.symm; omega)).trans (blk_alloc ho _)
        have hX9 := And.intro (hx9 w.heap.size _ (by omega) HXR.out.1) (And.intro (hx9 (w.heap.size + 1) _ (by omega) HXR.out.2.1) (hx9 (w.heap.size + 1 + 1) _ (by omega) HXR.out.2.2))
        have hk9 : Kept (Value.slice aw way.length cw).ownBlock.toList wr w9 := ((Kept.refl _ wr).alloc (.cells #[.int .i64 (x : Int)] 3)).grown_rowT (show (wr.alloc (.cells #[.int .i64 (x : Int)] 3)).grownBy w9 (Value.slice aw way.length cw).ownBlock from HGR9.out) (fun k e => Or.inl (by rw [e]; simp))
        have HK9 := Lib.hid (HKR.out.trans (hk9.below HKR.out.size (fun y hy => by have := own_pastT HW.out y (Option.mem_toList.1 hy); omega)))
        have HW9 : Hid (w9.ownsRow (w.heap.size + 1 + 1 + 1) 3 1 (.slice (some ⟨g9, 0, none⟩) (way.length + 1) cap9) (way ++ [(x : Int)]).length ((way ++ [(x : Int)]).map i64v)) := Lib.hid (by
          rw [List.length_append, List.map_append]
          exact HOW9.out)
        have HXX := Lib.hid hX9
        clear hx9 hX9 hk9 HOW9 HGR9 hz3 hz4
        have hxl : x < ls.length := by have := HLEN.out; omega
        have hdoc := HR.out.below HK9.out
        obtain ⟨g, capz, aoz, cz, he, e0, hrsi, hO, haz⟩ := hdoc.rowAt hxl
        cases he
        obtain ⟨hrk, hrl⟩ := HROK.out _ (List.getElem_mem hxl)
        have hsv : stepS T ls hv (x : Int) = _ := rfl
        unfold stepS at hsv
        rw [Int.toNat_natCast, getElem!_pos ls x hxl] at hsv
        obtain ⟨sv, hsv2⟩ : ∃ sv, sv = stepS T ls hv (x : Int) := ⟨_, rfl⟩
        have HSV : Hid (sv = match (ls[x]).find? (hasR hv.dst) with
          | none => (0, ⟨1, (x : Int), -1⟩, false)
          | some r => if r.out < 0 then (0, ⟨2, (x : Int), -1⟩, false) else outS T hv (x : Int) r.out) := Lib.hid (by
          rw [hsv2]
          unfold stepS
          rw [Int.toNat_natCast, getElem!_pos ls x hxl]
          cases (ls[x]).find? (hasR hv.dst) <;> rfl)
        have hsi := HSI.out x
        have hr := HR2.out
        rw [← hsv2] at hr hsi
        have HR4 := Lib.hid hr
        have HSI2 := Lib.hid hsi
        have HO := Lib.hid hO
        have HRK := Lib.hid hrk
        have hxi : (x : Int) < (ls.length : Int) := by omega
        generalize ls[x] = l at *
        clear hdoc hrsi hO haz hsv hsv2 hr hsi HR2 hrk
        have HCELL : Hid (∀ X, Below w9.heap.size w9 X → X.cell? ⟨w.heap.size, 3, none⟩ = some (.slice (some ⟨g, 0, none⟩) ls.length cr) ∧ X.cell? ⟨g, x, none⟩ = some (.slice aoz l.length cz) ∧ X.cell? ⟨w.heap.size + 1, 0, none⟩ = some (.int .u32 (hv.dst : Int))) := Lib.hid (fun X kX => by
          have hm := (kX.block _ (lt_of_block HXX.out.1)).trans HXX.out.1
          have hh2 := (kX.block _ (lt_of_block HXX.out.2.1)).trans HXX.out.2.1
          exact ⟨cell_of hm 3, (Kept.of_below (S := []) kX).cell e0 (by simp), cell_of hh2 0⟩)
        obtain ⟨rv, hrv⟩ : ∃ rv, rv = (l.find? (hasR hv.dst)).getD noRule := ⟨_, rfl⟩
        obtain ⟨bv, hbv⟩ : ∃ bv, bv = (l.find? (hasR hv.dst)).isSome := ⟨_, rfl⟩
        have HBEST : Hid (∀ X, Below w9.heap.size w9 X → Calls Tryz.prog 83 #[.slice aoz l.length cz, .int .u32 (hv.dst : Int)] X fun e w' => e = .returned (.tuple #[.agg #[.int .i64 rv.id, .int .i64 rv.dev, .int .u32 (rv.addr : Int), .int .i64 rv.bits, .int .i64 rv.prio, .int .i64 rv.out], .bool bv]) ∧ Below X.heap.size X w') := Lib.hid (fun X kX => (rbest_calls (own_kept HO.out (Kept.of_below (S := []) kX) (by simp)) HRK.out hrl hv.dst hdst).mono (by
          rintro e w' ⟨he, k⟩
          rw [← hrv, ← hbv] at he
          exact ⟨he, k⟩))
        have HRV := Lib.hid hrv
        have HBV := Lib.hid hbv
        clear hrv hbv e0
        have hBW := (Below.refl w9.heap.size w9).drew
        have hBZ0 := (Below.refl w9.heap.size w9).alloc (Nat.le_refl _) (.cells #[.int .i64 0, .int .i64 0, .int .u32 0, .int .i64 0, .int .i64 0, .int .i64 0] 89)
        have hBZ : Below w9.heap.size w9 (w9.alloc (.cells #[.int .i64 0, .int .i64 0, .int .u32 0, .int .i64 0, .int .i64 0, .int .i64 0] 89)).drew := hBZ0.drew
        have hS := HCELL.out _ (Below.refl _ _)
        have hS2 := HCELL.out _ hBZ0
        have HZN := Lib.hid (heap_alloc_new w9 (.cells #[.int .i64 0, .int .i64 0, .int .u32 0, .int .i64 0, .int .i64 0, .int .i64 0] 89))
        clear hBZ0
        refine (have KEY : ∀ (rb : Nat) (wq : World), RBox w9 wq rb rv → (?PP : Nat → World → Prop) rb wq := ?hkey; ?main)
        case main =>
          go_region_law (first | (go_simp; go_at_call 83; with_reducible refine Calls.mono (HBEST.out w9.drew hBW) ?_; rintro e w5z ⟨he, hB5⟩; subst he; have hz := heap_alloc_new w5z (.cells #[.int .i64 0, .int .i64 0, .int .u32 0, .int .i64 0, .int .i64 0, .int .i64 0] 89); have b0 := And.intro (cell_of hz 0) (unfrozen_of hz 0); have b1 := And.intro (cell_of hz 1) (unfrozen_of hz 1); have b2 := And.intro (cell_of hz 2) (unfrozen_of hz 2); have b3 := And.intro (cell_of hz 3) (unfrozen_of hz 3); have b4 := And.intro (cell_of hz 4) (unfrozen_of hz 4); have b5 := And.intro (cell_of hz 5) (unfrozen_of hz 5); simp only [List.getElem?_toArray, List.getElem?_cons_zero, List.getElem?_cons_succ] at b0 b1 b2 b3 b4 b5; have hb6 := hBW.trans (hB5.mono hBW.size); have hrb := RBox.new (r := rv) hb6; have HRB := Lib.hid hrb; clear hB5 hz hb6 hrb) | (go_simp; go_at_call 83; refine Calls.mono (HBEST.out _ hBZ) ?_; rintro e w5z ⟨he, hB5⟩; subst he; have hz : w5z.heap[w9.heap.size]? = some (.cells #[.int .i64 0, .int .i64 0, .int .u32 0, .int .i64 0, .int .i64 0, .int .i64 0] 89 (0, 0)) := (hB5.block w9.heap.size (lt_of_block HZN.out)).trans HZN.out; have b0 := And.intro (cell_of hz 0) (unfrozen_of hz 0); have b1 := And.intro (cell_of hz 1) (unfrozen_of hz 1); have b2 := And.intro (cell_of hz 2) (unfrozen_of hz 2); have b3 := And.intro (cell_of hz 3) (unfrozen_of hz 3); have b4 := And.intro (cell_of hz 4) (unfrozen_of hz 4); have b5 := And.intro (cell_of hz 5) (unfrozen_of hz 5); simp only [List.getElem?_toArray, List.getElem?_cons_zero, List.getElem?_cons_succ] at b0 b1 b2 b3 b4 b5; have hb6 := hBZ.trans (hB5.mono hBZ.size); have hrb := RBox.mk6 (r := rv) hz hb6 (Nat.le_refl _); unfold set6 at hrb; have HRB := Lib.hid hrb; clear hB5 hz hb6 hrb))
          all_goals
            go_simp
            first
              | (have hrb : RBox w9 (w5z.alloc (.cells #[.int .i64 rv.id, .int .i64 rv.dev, .int .u32 (rv.addr : Int), .int .i64 rv.bits, .int .i64 rv.prio, .int .i64 rv.out] 89)) w5z.heap.size rv := by with_reducible exact HRB.out
                 clear HRB
                 revert hrb
                 generalize w5z.alloc (.cells #[.int .i64 rv.id, .int .i64 rv.dev, .int .u32 (rv.addr : Int), .int .i64 rv.bits, .int .i64 rv.prio, .int .i64 rv.out] 89) = wq
                 generalize w5z.heap.size = rb
                 intro hrb
                 exact KEY rb wq hrb)
              | (have hrb : RBox w9 ((((((w5z.setCell ⟨w9.heap.size, 0, none⟩ (.int .i64 rv.id)).setCell ⟨w9.heap.size, 1, none⟩ (.int .i64 rv.dev)).setCell ⟨w9.heap.size, 2, none⟩ (.int .u32 (rv.addr : Int))).setCell ⟨w9.heap.size, 3, none⟩ (.int .i64 rv.bits)).setCell ⟨w9.heap.size, 4, none⟩ (.int .i64 rv.prio)).setCell ⟨w9.heap.size, 5, none⟩ (.int .i64 rv.out)) w9.heap.size rv := by with_reducible exact HRB.out
                 clear HRB
                 revert hrb
                 generalize ((((((w5z.setCell ⟨w9.heap.size, 0, none⟩ (.int .i64 rv.id)).setCell ⟨w9.heap.size, 1, none⟩ (.int .i64 rv.dev)).setCell ⟨w9.heap.size, 2, none⟩ (.int .u32 (rv.addr : Int))).setCell ⟨w9.heap.size, 3, none⟩ (.int .i64 rv.bits)).setCell ⟨w9.heap.size, 4, none⟩ (.int .i64 rv.prio)).setCell ⟨w9.heap.size, 5, none⟩ (.int .i64 rv.out)) = wq
                 generalize w9.heap.size = rb
                 intro hrb
                 exact KEY rb wq hrb)
        case hkey =>
          intro rb wq hq
          obtain ⟨hrb, hkq⟩ := hq
          have HRB := Lib.hid hrb
          have HKQ := Lib.hid (HK9.out.trans (hkq.mono HK9.out.size))
          have HXQ := Lib.hid (And.intro ((hkq.block _ (lt_of_block HXX.out.1)).trans HXX.out.1) (And.intro ((hkq.block _ (lt_of_block HXX.out.2.1)).trans HXX.out.2.1) ((hkq.block _ (lt_of_block HXX.out.2.2)).trans HXX.out.2.2)))
          have HWQ := Lib.hid (own_kept HW9.out (Kept.of_below (S := []) hkq) (by simp))
          clear hrb hkq hS hS2 hBW hBZ HBEST HCELL
          cases hfo : l.find? (hasR hv.dst) with
          | none =>
            have hsv := HSV.out
            rw [hfo] at hsv
            simp only at hsv
            have hr := HR4.out
            rw [hsv] at hr
            simp only at hr
            rw [if_neg (by simp)] at hr
            subst hr
            obtain rfl : bv = false := by rw [HBV.out, hfo]; rfl
            clear hfo hsv
            have e0 := And.intro (cell_of HXQ.out.2.2 0) (unfrozen_of HXQ.out.2.2 0)
            have e1 := And.intro (cell_of HXQ.out.2.2 1) (unfrozen_of HXQ.out.2.2 1)
            have e2 := And.intro (cell_of HXQ.out.2.2 2) (unfrozen_of HXQ.out.2.2 2)
            simp only [List.getElem?_toArray, List.getElem?_cons_zero, List.getElem?_cons_succ] at e0 e1 e2
            go_wp2_with (fail)
            have hk : Kept [w.heap.size + 1 + 1] wq (set3 wq (w.heap.size + 1 + 1) (.int .i64 1) (.int .i64 (x : Int)) (.int .i64 (-1))) := kept_set3 wq (w.heap.size + 1 + 1) (.int .i64 1) (.int .i64 (x : Int)) (.int .i64 (-1))
            have hfin : (set3 wq (w.heap.size + 1 + 1) (.int .i64 1) (.int .i64 (x : Int)) (.int .i64 (-1))).ownsRow w.heap.size 3 1 (.slice (some ⟨g9, 0, none⟩) (way.length + 1) cap9) (way.length + 1) (way.map i64v ++ [i64v (x : Int)]) := by
              have h1 := (own_kept HWQ.out hk (fun g hg hc => by have := own_pastT HWQ.out g hg; have := List.mem_singleton.1 hc; omega)).mono (show w.heap.size ≤ w.heap.size + 1 + 1 + 1 by omega)
              simpa using h1
            exact bodyPost_ret (v := .tuple #[.slice (some ⟨g9, 0, none⟩) (way.length + 1) cap9, .agg #[.int .i64 1, .int .i64 (x : Int), .int .i64 (-1)]]) (by simp [results, Tryz.results25, go_sem, e0, e1, e2]) rfl ⟨_, rfl, hfin, HKQ.out.trans (hk.below HKQ.out.size (by simp; omega))⟩
          | some r =>
            have hsv := HSV.out
            rw [hfo] at hsv
            simp only at hsv
            obtain rfl : bv = true := by rw [HBV.out, hfo]; rfl
            obtain rfl : rv = r := by rw [HRV.out, hfo]; rfl
            have r5 := cell_of HRB.out 5
            simp only [List.getElem?_toArray, List.getElem?_cons_zero, List.getElem?_cons_succ] at r5
            obtain ⟨rout, hro⟩ : ∃ rout, rout = rv.out := ⟨_, rfl⟩
            rw [← hro] at hsv r5
            have hrbo := HRB.out
            rw [← hro] at hrbo
            have HRB2 := Lib.hid hrbo
            clear hfo hro hrbo
            have e0 := And.intro (cell_of HXQ.out.2.2 0) (unfrozen_of HXQ.out.2.2 0)
            have e1 := And.intro (cell_of HXQ.out.2.2 1) (unfrozen_of HXQ.out.2.2 1)
            have e2 := And.intro (cell_of HXQ.out.2.2 2) (unfrozen_of HXQ.out.2.2 2)
            simp only [List.getElem?_toArray, List.getElem?_cons_zero, List.getElem?_cons_succ] at e0 e1 e2
            by_cases h1 : rout < 0
            · rw [if_pos h1] at hsv
              have hr := HR4.out
              rw [hsv] at hr
              simp only at hr
              rw [if_neg (by simp)] at hr
              subst hr
              have h1' : decide (rout < 0) = true := decide_eq_true h1
              clear h1 hsv
              go_wp2_with (fail)
              have hk : Kept [w.heap.size + 1 + 1] wq (set3 wq (w.heap.size + 1 + 1) (.int .i64 2) (.int .i64 (x : Int)) (.int .i64 (-1))) := kept_set3 wq (w.heap.size + 1 + 1) (.int .i64 2) (.int .i64 (x : Int)) (.int .i64 (-1))
              have hfin : (set3 wq (w.heap.size + 1 + 1) (.int .i64 2) (.int .i64 (x : Int)) (.int .i64 (-1))).ownsRow w.heap.size 3 1 (.slice (some ⟨g9, 0, none⟩) (way.length + 1) cap9) (way.length + 1) (way.map i64v ++ [i64v (x : Int)]) := by
                have h1 := (own_kept HWQ.out hk (fun g hg hc => by have := own_pastT HWQ.out g hg; have := List.mem_singleton.1 hc; omega)).mono (show w.heap.size ≤ w.heap.size + 1 + 1 + 1 by omega)
                simpa using h1
              exact bodyPost_ret (v := .tuple #[.slice (some ⟨g9, 0, none⟩) (way.length + 1) cap9, .agg #[.int .i64 2, .int .i64 (x : Int), .int .i64 (-1)]]) (by simp [results, Tryz.results25, go_sem, e0, e1, e2]) rfl ⟨_, rfl, hfin, HKQ.out.trans (hk.below HKQ.out.size (by simp; omega))⟩
            · rw [if_neg h1] at hsv
              have h1' : decide (rout < 0) = false := decide_eq_false h1
              obtain ⟨c1, c2, c3, hcx⟩ : ∃ c1 c2 c3, crossT T (x : Int) rout hv = (c1, c2, c3) := ⟨_, _, _, rfl⟩
              have HEX : Hid (c2 = true → c3 = false) := Lib.hid (fun e => by
                have h2 := hcx
                unfold crossT at h2
                split at h2
                · injection h2 with _ h3
                  injection h3 with h4 h5
                  exact h5.symm
                · split at h2
                  · injection h2 with _ h3
                    injection h3 with h4 h5
                    exact h5.symm
                  · split at h2
                    · injection h2 with _ h3
                      injection h3 with h4 h5
                      exact h5.symm
                    · injection h2 with _ h3
                      injection h3 with h4 h5
                      rw [← h4] at e
                      cases e)
              have hcall := HCR.out wq HKQ.out x rout
              rw [hcx] at hcall
              unfold outS at hsv
              rw [hcx] at hsv
              simp only at hsv hcall
              have HCALL := Lib.hid hcall
              have HSV2 := Lib.hid hsv
              have m0 := cell_of HXQ.out.1 0
              have m1 := cell_of HXQ.out.1 1
              have m2 := cell_of HXQ.out.1 2
              have x0 := cell_of HXQ.out.2.1 0
              have x1 := cell_of HXQ.out.2.1 1
              have x2 := cell_of HXQ.out.2.1 2
              have x3 := cell_of HXQ.out.2.1 3
              have x4 := cell_of HXQ.out.2.1 4
              simp only [List.getElem?_toArray, List.getElem?_cons_zero, List.getElem?_cons_succ] at m0 m1 m2 x0 x1 x2 x3 x4
              clear h1 hcx hsv hcall
              go_wp2_with (fail)
              refine Calls.mono HCALL.out ?_
              rintro e w7 ⟨he, k7⟩
              subst he
              have HK7 := Lib.hid (HKQ.out.trans (k7.mono HKQ.out.size))
              have HW7 := Lib.hid (own_kept HWQ.out (Kept.of_below (S := []) k7) (by simp))
              have HX7 := Lib.hid (And.intro ((k7.block _ (lt_of_block HXQ.out.1)).trans HXQ.out.1) (And.intro ((k7.block _ (lt_of_block HXQ.out.2.1)).trans HXQ.out.2.1) ((k7.block _ (lt_of_block HXQ.out.2.2)).trans HXQ.out.2.2)))
              have hr7 := (k7.block _ (lt_of_block HRB2.out)).trans HRB2.out
              clear k7 e0 e1 e2 m0 m1 m2 x0 x1 x2 x3 x4 r5
              have r5 := cell_of hr7 5
              simp only [List.getElem?_toArray, List.getElem?_cons_zero, List.getElem?_cons_succ] at r5
              have e0 := And.intro (cell_of HX7.out.2.2 0) (unfrozen_of HX7.out.2.2 0)
              have e1 := And.intro (cell_of HX7.out.2.2 1) (unfrozen_of HX7.out.2.2 1)
              have e2 := And.intro (cell_of HX7.out.2.2 2) (unfrozen_of HX7.out.2.2 2)
              simp only [List.getElem?_toArray, List.getElem?_cons_zero, List.getElem?_cons_succ] at e0 e1 e2
              clear hr7
              have hsv := HSV2.out
              cases c2 with
              | true =>
                obtain rfl : c3 = false := HEX.out rfl
                rw [if_neg (by simp), if_pos rfl] at hsv
                have hr := HR4.out
                rw [hsv] at hr
                simp only at hr
                rw [if_neg (by simp)] at hr
                subst hr
                clear hsv
                go_wp2_with (fail)
                go_region
                all_goals
                  go_wp2_with (fail)
                  first
                  | (have hk : Kept [w.heap.size + 1 + 1] w7 ((set3 w7 (w.heap.size + 1 + 1) (.int .i64 4) (.int .i64 (x : Int)) (.int .i64 rout)).drew) := (kept_set3 w7 (w.heap.size + 1 + 1) (.int .i64 4) (.int .i64 (x : Int)) (.int .i64 rout)).drew
                     have hfin : ((set3 w7 (w.heap.size + 1 + 1) (.int .i64 4) (.int .i64 (x : Int)) (.int .i64 rout)).drew).ownsRow w.heap.size 3 1 (.slice (some ⟨g9, 0, none⟩) (way.length + 1) cap9) (way.length + 1) (way.map i64v ++ [i64v (x : Int)]) := by
                       have h1 := (own_kept HW7.out hk (fun g hg hc => by have := own_pastT HW7.out g hg; have := List.mem_singleton.1 hc; omega)).mono (show w.heap.size ≤ w.heap.size + 1 + 1 + 1 by omega)
                       simpa using h1
                     exact bodyPost_ret (v := .tuple #[.slice (some ⟨g9, 0, none⟩) (way.length + 1) cap9, .agg #[.int .i64 4, .int .i64 (x : Int), .int .i64 rout]]) (by simp [results, Tryz.results25, go_sem, e0, e1, e2]) rfl ⟨_, rfl, hfin, HK7.out.trans (hk.below HK7.out.size (by simp; omega))⟩)
                  | (have hk : Kept [w.heap.size + 1 + 1] w7 (set3 w7.drew (w.heap.size + 1 + 1) (.int .i64 4) (.int .i64 (x : Int)) (.int .i64 rout)) := ((Kept.refl [w.heap.size + 1 + 1] w7).drew).trans (kept_set3 w7.drew (w.heap.size + 1 + 1) (.int .i64 4) (.int .i64 (x : Int)) (.int .i64 rout)) (fun x hx => Or.inl hx)
                     have hfin : (set3 w7.drew (w.heap.size + 1 + 1) (.int .i64 4) (.int .i64 (x : Int)) (.int .i64 rout)).ownsRow w.heap.size 3 1 (.slice (some ⟨g9, 0, none⟩) (way.length + 1) cap9) (way.length + 1) (way.map i64v ++ [i64v (x : Int)]) := by
                       have h1 := (own_kept HW7.out hk (fun g hg hc => by have := own_pastT HW7.out g hg; have := List.mem_singleton.1 hc; omega)).mono (show w.heap.size ≤ w.heap.size + 1 + 1 + 1 by omega)
                       simpa using h1
                     exact bodyPost_ret (v := .tuple #[.slice (some ⟨g9, 0, none⟩) (way.length + 1) cap9, .agg #[.int .i64 4, .int .i64 (x : Int), .int .i64 rout]]) (by simp [results, Tryz.results25, go_sem, e0, e1, e2]) rfl ⟨_, rfl, hfin, HK7.out.trans (hk.below HK7.out.size (by simp; omega))⟩)
              | false =>
                cases c3 with
                | false =>
                  rw [if_neg (by simp), if_neg (by simp)] at hsv
                  have hr := HR4.out
                  rw [hsv] at hr
                  simp only at hr
                  rw [if_neg (by simp)] at hr
                  subst hr
                  clear hsv
                  go_wp2_with (fail)
                  go_region
                  all_goals
                    go_wp2_with (fail)
                    first
                    | (have hk : Kept [w.heap.size + 1 + 1] w7 ((set3 w7 (w.heap.size + 1 + 1) (.int .i64 3) (.int .i64 (x : Int)) (.int .i64 rout)).drew) := (kept_set3 w7 (w.heap.size + 1 + 1) (.int .i64 3) (.int .i64 (x : Int)) (.int .i64 rout)).drew
                       have hfin : ((set3 w7 (w.heap.size + 1 + 1) (.int .i64 3) (.int .i64 (x : Int)) (.int .i64 rout)).drew).ownsRow w.heap.size 3 1 (.slice (some ⟨g9, 0, none⟩) (way.length + 1) cap9) (way.length + 1) (way.map i64v ++ [i64v (x : Int)]) := by
                         have h1 := (own_kept HW7.out hk (fun g hg hc => by have := own_pastT HW7.out g hg; have := List.mem_singleton.1 hc; omega)).mono (show w.heap.size ≤ w.heap.size + 1 + 1 + 1 by omega)
                         simpa using h1
                       exact bodyPost_ret (v := .tuple #[.slice (some ⟨g9, 0, none⟩) (way.length + 1) cap9, .agg #[.int .i64 3, .int .i64 (x : Int), .int .i64 rout]]) (by simp [results, Tryz.results25, go_sem, e0, e1, e2]) rfl ⟨_, rfl, hfin, HK7.out.trans (hk.below HK7.out.size (by simp; omega))⟩)
                    | (have hk : Kept [w.heap.size + 1 + 1] w7 (set3 w7.drew (w.heap.size + 1 + 1) (.int .i64 3) (.int .i64 (x : Int)) (.int .i64 rout)) := ((Kept.refl [w.heap.size + 1 + 1] w7).drew).trans (kept_set3 w7.drew (w.heap.size + 1 + 1) (.int .i64 3) (.int .i64 (x : Int)) (.int .i64 rout)) (fun x hx => Or.inl hx)
                       have hfin : (set3 w7.drew (w.heap.size + 1 + 1) (.int .i64 3) (.int .i64 (x : Int)) (.int .i64 rout)).ownsRow w.heap.size 3 1 (.slice (some ⟨g9, 0, none⟩) (way.length + 1) cap9) (way.length + 1) (way.map i64v ++ [i64v (x : Int)]) := by
                         have h1 := (own_kept HW7.out hk (fun g hg hc => by have := own_pastT HW7.out g hg; have := List.mem_singleton.1 hc; omega)).mono (show w.heap.size ≤ w.heap.size + 1 + 1 + 1 by omega)
                         simpa using h1
                       exact bodyPost_ret (v := .tuple #[.slice (some ⟨g9, 0, none⟩) (way.length + 1) cap9, .agg #[.int .i64 3, .int .i64 (x : Int), .int .i64 rout]]) (by simp [results, Tryz.results25, go_sem, e0, e1, e2]) rfl ⟨_, rfl, hfin, HK7.out.trans (hk.below HK7.out.size (by simp; omega))⟩)
                | true =>
                  rw [if_pos rfl] at hsv
                  have hr := HR4.out
                  have hsi := HSI2.out
                  rw [hsv] at hr hsi
                  simp only at hr hsi
                  rw [if_pos trivial] at hr
                  obtain ⟨y, rfl, hy⟩ := hsi trivial
                  have HR5 := Lib.hid (And.intro hr hy)
                  clear hr hy hsv hsi e0 e1 e2 r5
                  go_wp2_with (fail)
                  go_roundg gko
                  case measure => omega
                  case rel =>
                    refine ⟨way ++ [(x : Int)], y, by simp; omega, rfl, HR5.out.2, List.nodup_append.2 ⟨HND.out.1, by simp, fun a ha b hb => ?_⟩, fun z hz => ?_, HW7.out, HR5.out.1, HK7.out, HX7.out⟩
                    · rw [List.mem_singleton.1 hb]
                      exact fun e => HM.out (e ▸ ha)
                    · rcases List.mem_append.1 hz with hz | hz
                      · exact HND.out.2 z hz
                      · rw [List.mem_singleton.1 hz]
                        have := HXI.out
                        exact ⟨by omega, by omega⟩
end Go.Proofs.YtjoblahedgpgbaaGreat
