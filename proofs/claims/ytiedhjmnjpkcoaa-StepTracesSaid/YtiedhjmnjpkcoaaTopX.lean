/- Topologies: the port that a port is joined with. · Topologies: what a port lets by. · Topologies: where a header comes to that goes out by a port. -/
import Derived.Test.YtiedhjmnjpkcoaaWayP
namespace Go.Proofs.Ytiedhjmnjpkcoaa
set_option linter.unusedVariables false
set_option linter.unusedSimpArgs false
open Go.RowKit

def peerV (o : Option (Int × Int)) : Value := match o with
  | none => .tuple #[.int .i64 0, .int .i64 0, .bool false]
  | some e => .tuple #[.int .i64 e.1, .int .i64 e.2, .bool true]

variable {B : Nat} {w : World} {vp vl va : Value} {T : Tp}
set_option maxRecDepth 100000 in
set_option maxHeartbeats 4000000 in
theorem tpeer_calls (h : TpIn B w vp vl va T) (hB : B ≤ w.heap.size) (hl : T.links.length ≤ 100) (d p : Int) : Calls Try.prog 96 #[.agg #[vp, vl, va], .int .i64 d, .int .i64 p] w fun e w' => e = .returned (peerV (peerT T.links d p)) ∧ Below w.heap.size w w' := by
  have H := Lib.hid h
  obtain ⟨ap, cp, rfl, _⟩ := h.ports
  obtain ⟨al, cl, rfl, _⟩ := h.links
  obtain ⟨aa, ca, rfl, _⟩ := h.aces
  clear h
  have HX := Lib.hid (heap_alloc_new w (.cells #[.slice ap T.ports.length cp, .slice al T.links.length cl, .slice aa T.aces.length ca] 64))
  have HK := Lib.hid ((Below.refl w.heap.size w).alloc (Nat.le_refl _) (.cells #[.slice ap T.ports.length cp, .slice al T.links.length cl, .slice aa T.aces.length ca] 64))
  obtain ⟨r, hr⟩ : ∃ r, r = peerT T.links d p := ⟨_, rfl⟩
  rw [← hr]
  have HR := Lib.hid hr
  clear hr
  go_enter Try.func96, Try.ntmps96
  go_upto_region 1 with (fail)
  generalize w.alloc (.cells #[.slice ap T.ports.length cp, .slice al T.links.length cl, .slice aa T.aces.length ca] 64) = w1 at *
  have z1 := cell_of HX.out 1
  simp only [List.getElem?_toArray, List.getElem?_cons_zero, List.getElem?_cons_succ] at z1
  go_wp2_with (fail)
  go_loopg [14] T.links.length (fun gk vi wr => ∃ i : Nat, i + gk = T.links.length ∧ vi = .int .i64 (i : Int) ∧ Below w.heap.size w wr ∧ r = peerT (T.links.drop i) d p)
  case atStart => exact ⟨0, by omega, rfl, HK.out, by simpa using HR.out⟩
  case round =>
    obtain ⟨i, hgk, rfl, hK, hri⟩ := hrel
    have HKR := Lib.hid hK
    by_cases hlt : i < T.links.length
    · obtain ⟨b, off, cap', he, e0, e1, e2, e3⟩ := (H.out.kept (hK.mono hB)).link hlt
      cases he
      have hdr := List.drop_eq_getElem_cons hlt
      rw [hdr] at hri
      generalize T.links[i] = x at *
      clear hdr
      obtain ⟨x1, x2, x3, x4⟩ := x
      simp only at e0 e1 e2 e3
      unfold peerT at hri
      simp only at hri
      have HXA := Lib.hid (heap_alloc_new wr (.cells #[.int .i64 x1, .int .i64 x2, .int .i64 x3, .int .i64 x4] 172))
      have HKA := Lib.hid (hK.alloc hK.size (.cells #[.int .i64 x1, .int .i64 x2, .int .i64 x3, .int .i64 x4] 172))
      have HRI := Lib.hid hri
      clear hK hri z1
      go_upto_region 4 with (fail)
      generalize wr.alloc (.cells #[.int .i64 x1, .int .i64 x2, .int .i64 x3, .int .i64 x4] 172) = wa at *
      have y0 := cell_of HXA.out 0
      have y1 := cell_of HXA.out 1
      have y2 := cell_of HXA.out 2
      have y3 := cell_of HXA.out 3
      simp only [List.getElem?_toArray, List.getElem?_cons_zero, List.getElem?_cons_succ] at y0 y1 y2 y3
      clear e0 e1 e2 e3
      by_cases h1 : x1 = d ∧ x2 = p
      · have hri := HRI.out
        rw [if_pos h1] at hri
        obtain ⟨rfl, rfl⟩ := h1
        subst hri
        go_wp2_with (fail)
        go_region
        go_wp2_with (fail)
        exact bodyPost_ret (v := .tuple #[.int .i64 x3, .int .i64 x4, .bool true]) (by simp [results, Try.results96, go_sem]) rfl ⟨rfl, HKA.out.drew⟩
      · have hri := HRI.out
        rw [if_neg h1] at hri
        have H1 := Lib.hid h1
        clear h1
        by_cases h2 : x3 = d ∧ x4 = p
        · rw [if_pos h2] at hri
          obtain ⟨rfl, rfl⟩ := h2
          subst hri
          go_wp2_with (fail)
          all_goals first
            | (exfalso; have a1 := H1.out; omega)
            | (go_region
               go_wp2_with (fail)
               exact bodyPost_ret (v := .tuple #[.int .i64 x1, .int .i64 x2, .bool true]) (by simp [results, Try.results96, go_sem]) rfl ⟨rfl, HKA.out.drew⟩)
        · rw [if_neg h2] at hri
          have H2 := Lib.hid h2
          have HRJ := Lib.hid hri
          clear h2 hri
          go_wp2_with (fail)
          all_goals first
            | (exfalso; have a1 := H1.out; have a2 := H2.out; omega)
            | (subst_vars
               go_roundg (gk - 1)
               case measure => omega
               case rel => exact ⟨i + 1, by omega, by go_num, HKA.out, HRJ.out⟩)
    · obtain rfl : i = T.links.length := by omega
      rw [List.drop_eq_nil_of_le (Nat.le_refl _)] at hri
      obtain rfl : r = none := hri
      clear hK
      go_wp2_with (fail)
      exact bodyPost_ret (v := .tuple #[.int .i64 0, .int .i64 0, .bool false]) (by simp [results, Try.results96, go_sem]) rfl ⟨rfl, HKR.out⟩

theorem other_lt {ls : List Lk} {i : Nat} (hi : i < (ends ls).length) : other i < (ends ls).length := by
  rw [ends_len] at *
  unfold other
  split <;> omega
set_option maxRecDepth 100000 in
set_option maxHeartbeats 4000000 in
theorem rpeer_calls (h : TpIn B w vp vl va T) (hB : B ≤ w.heap.size) (hl : T.links.length ≤ 100) (d p : Int) : Calls Try.prog 48 #[.agg #[vp, vl, va], .int .i64 d, .int .i64 p] w fun e w' => e = .returned (peerV (peerT T.links d p)) ∧ Below w.heap.size w w' := by
  have H := Lib.hid h
  obtain ⟨ap, cp, rfl, _⟩ := h.ports
  obtain ⟨al, cl, rfl, _⟩ := h.links
  obtain ⟨aa, ca, rfl, _⟩ := h.aces
  clear h
  have HX := Lib.hid (heap_alloc_new w (.cells #[.slice ap T.ports.length cp, .slice al T.links.length cl, .slice aa T.aces.length ca] 64))
  have HK := Lib.hid ((Below.refl w.heap.size w).alloc (Nat.le_refl _) (.cells #[.slice ap T.ports.length cp, .slice al T.links.length cl, .slice aa T.aces.length ca] 64))
  obtain ⟨r, hr⟩ : ∃ r, r = peerT T.links d p := ⟨_, rfl⟩
  rw [← hr]
  have HHIT : Hid (∀ i, (ends T.links)[i]? = some (d, p) → (∀ x ∈ (ends T.links).take i, x ≠ (d, p)) → r = (ends T.links)[other i]?) := Lib.hid (fun i hi hn => hr.trans (peer_hit _ _ _ i hi (fun j hj e => by
    obtain ⟨hlt, he⟩ := List.getElem?_eq_some_iff.1 e
    exact hn _ (List.mem_take_iff_getElem.2 ⟨j, by omega, rfl⟩) he)))
  have HNONE : Hid ((∀ x ∈ ends T.links, x ≠ (d, p)) → r = none) := Lib.hid (fun hn => hr.trans (peer_none _ _ _ (fun j e => hn _ (List.mem_of_getElem? e) rfl)))
  have HOTH : Hid (∀ i, i < (ends T.links).length → other i < (ends T.links).length) := Lib.hid (fun i hi => other_lt hi)
  have HES : Hid ((ends T.links).length ≤ 200) := Lib.hid (by rw [ends_len]; omega)
  clear hr
  have hpe := pr_eq
  go_enter Try.func48, Try.ntmps48
  go_upto_region 1 with (fail)
  generalize w.alloc (.cells #[.slice ap T.ports.length cp, .slice al T.links.length cl, .slice aa T.aces.length ca] 64) = w1 at *
  have HEN := Lib.hid (rends_calls (H.out.kept (HK.out.mono hB)) (Nat.le_trans hB HK.out.size) hl)
  have z0 := cell_of HX.out 0
  have z1 := cell_of HX.out 1
  have z2 := cell_of HX.out 2
  simp only [List.getElem?_toArray, List.getElem?_cons_zero, List.getElem?_cons_succ] at z0 z1 z2
  generalize ends T.links = es at *
  go_wp2_with (fail)
  refine Calls.mono HEN.out ?_
  rintro e w2 ⟨vo, he, ho, k2⟩
  subst he
  obtain ⟨ao, capo, rfl⟩ : ∃ ao cap, vo = .slice ao es.length cap := by
    rcases ho.2 with ⟨h0, h1⟩ | ⟨g', cap', cur, h0, _⟩
    · exact ⟨none, 0, by rw [h0, h1]⟩
    · exact ⟨_, cap', h0⟩
  have HK2 := Lib.hid (HK.out.trans (k2.mono HK.out.size))
  have HO := Lib.hid ho
  clear k2 ho z0 z1 z2
  go_wp2_with (fail)
  go_loopg [10] es.length (fun gk vi wr => ∃ i : Nat, i + gk = es.length ∧ vi = .int .i64 (i : Int) ∧ wr = w2 ∧ ∀ x ∈ es.take i, x ≠ (d, p))
  case atStart => exact ⟨0, by omega, rfl, rfl, by simp⟩
  case round =>
    obtain ⟨i, hgk, rfl, rfl, hN⟩ := hrel
    have HN := Lib.hid hN
    clear hN
    by_cases hlt : i < es.length
    · obtain ⟨g, rfl⟩ : ∃ g, ao = some ⟨g, 0, none⟩ := by
        rcases HO.out.2 with ⟨h0, h1⟩ | ⟨g', cap', cur, h0, _⟩
        · omega
        · injection h0 with h0; exact ⟨g', h0⟩
      have HROW : Hid (∀ k (hk : k < es.length), wr.cell? ⟨g, k * 2, none⟩ = some (.int .i64 es[k].1) ∧ wr.cell? ⟨g, k * 2 + 1, none⟩ = some (.int .i64 es[k].2)) := Lib.hid (fun k hk => ⟨(HO.out.cellAt (k * 2) (by omega)).trans (prCells_get es k hk).1, (HO.out.cellAt (k * 2 + 1) (by omega)).trans (prCells_get es k hk).2⟩)
      obtain ⟨r0, r1⟩ := HROW.out i hlt
      have HTK : Hid (es.take (i + 1) = es.take i ++ [es[i]]) := Lib.hid (by rw [List.take_add_one, List.getElem?_eq_getElem hlt]; rfl)
      have HGI : Hid (es[i]? = some es[i]) := Lib.hid (List.getElem?_eq_getElem hlt)
      generalize es[i] = ei at *
      obtain ⟨c, f⟩ := ei
      simp only at r0 r1
      have hwi : (i : Int) < (es.length : Int) := by omega
      have HI2 : Hid (i < 1000) := Lib.hid (by have := HES.out; omega)
      have hib : i < 1000 := HI2.out
      by_cases h1 : c = d ∧ f = p
      · obtain ⟨rfl, rfl⟩ := h1
        have hhit := HHIT.out i HGI.out HN.out
        have hol := HOTH.out i hlt
        have hoi := HI2.out
        obtain ⟨q0, q1⟩ := HROW.out _ hol
        rw [List.getElem?_eq_getElem hol] at hhit
        generalize es[other i] = eo at *
        obtain ⟨c2, f2⟩ := eo
        subst hhit
        simp only at q0 q1
        unfold other at hol q0 q1
        by_cases hodd : i % 2 = 1
        · rw [if_pos hodd] at hol q0 q1
          obtain ⟨k, rfl⟩ : ∃ k, i = k + 1 := ⟨i - 1, by omega⟩
          rw [Nat.add_sub_cancel] at hol q0 q1
          have ho1 : ((k : Int) + 1) % 2 = 1 := by omega
          have ho2 : Int.tmod ((k : Int) + 1) 2 = 1 := by rw [Int.tmod_eq_emod_of_nonneg (by omega)]; exact ho1
          have hki : (k : Int) < (es.length : Int) := by omega
          clear hodd
          go_wp2_with (fail)
          go_region
          go_wp2_with (fail)
          exact bodyPost_ret (v := .tuple #[.int .i64 c2, .int .i64 f2, .bool true]) (by simp [results, Try.results48, go_sem]) rfl ⟨rfl, HK2.out.drew⟩
        · rw [if_neg hodd] at hol q0 q1
          have ho1 : (i : Int) % 2 = 0 := by omega
          have ho2 : Int.tmod (i : Int) 2 = 0 := by rw [Int.tmod_eq_emod_of_nonneg (by omega)]; exact ho1
          have hki : (i : Int) + 1 < (es.length : Int) := by omega
          clear hodd
          go_wp2_with (fail)
          go_region
          go_wp2_with (fail)
          exact bodyPost_ret (v := .tuple #[.int .i64 c2, .int .i64 f2, .bool true]) (by simp [results, Try.results48, go_sem]) rfl ⟨rfl, HK2.out.drew⟩
      · have H1 : Hid ((c, f) ≠ (d, p)) := Lib.hid (fun e => h1 ⟨congrArg Prod.fst e, congrArg Prod.snd e⟩)
        by_cases h2 : c = d
        · have h3 : (f == p) = false := beq_eq_false_iff_ne.2 (fun e => h1 ⟨h2, e⟩)
          subst h2
          clear h1
          go_wp2_with (fail)
          go_roundg (gk - 1)
          case measure => omega
          case rel =>
            refine ⟨i + 1, by omega, by go_num, rfl, fun x hx => ?_⟩
            rw [HTK.out] at hx
            rcases List.mem_append.1 hx with hx | hx
            · exact HN.out x hx
            · rw [List.mem_singleton.1 hx]
              intro e
              exact H1.out e
        · have h3 : (c == d) = false := beq_eq_false_iff_ne.2 h2
          clear h1 h2
          go_wp2_with (fail)
          go_roundg (gk - 1)
          case measure => omega
          case rel =>
            refine ⟨i + 1, by omega, by go_num, rfl, fun x hx => ?_⟩
            rw [HTK.out] at hx
            rcases List.mem_append.1 hx with hx | hx
            · exact HN.out x hx
            · rw [List.mem_singleton.1 hx]
              intro e
              exact H1.out e
    · obtain rfl : i = es.length := by omega
      have hn := HN.out
      rw [List.take_length] at hn
      obtain rfl : r = none := HNONE.out hn
      clear hn
      go_wp2_with (fail)
      exact bodyPost_ret (v := .tuple #[.int .i64 0, .int .i64 0, .bool false]) (by simp [results, Try.results48, go_sem]) rfl ⟨rfl, HK2.out⟩
end Go.Proofs.Ytiedhjmnjpkcoaa

namespace Go.Proofs.Ytiedhjmnjpkcoaa
open Go.RowKit
variable {B : Nat} {w : World} {vp vl va : Value} {T : Tp}

set_option maxRecDepth 100000 in
set_option maxHeartbeats 4000000 in
theorem tpermit_calls (h : TpIn B w vp vl va T) (hB : B ≤ w.heap.size) (ha : T.aces.length ≤ 60) (hc : ∀ a ∈ T.aces, checkF a.f = 0) (d p : Int) (inn : Bool) (hv : Hv) (hh : hv.Wf) : Calls Try.prog 95 #[.agg #[vp, vl, va], .int .i64 d, .int .i64 p, .bool inn, hv.val] w fun e w' => e = .returned (.bool (permT T.aces d p inn hv)) ∧ Below w.heap.size w w' := by
  have H := Lib.hid h
  obtain ⟨ap, cp, rfl, _⟩ := h.ports
  obtain ⟨al, cl, rfl, _⟩ := h.links
  obtain ⟨aa, ca, rfl, _⟩ := h.aces
  clear h
  have HM : Hid (∀ W, ∀ a ∈ T.aces, Calls Try.prog 110 #[a.f.val, hv.val] W fun e w' => e = .returned (.bool (matchF a.f hv)) ∧ Below W.heap.size W w') := Lib.hid (fun W a ham => fmatch_calls W (H.out.wf a ham) hh (hc a ham))
  obtain ⟨r, hr⟩ : ∃ r, r = permT T.aces d p inn hv := ⟨_, rfl⟩
  rw [← hr]
  have HR := Lib.hid hr
  obtain ⟨hd, hs, hpr, sp, dp⟩ := hv
  unfold Hv.val at *
  simp only at *
  clear hr hc
  have HX : Hid (((w.alloc (.cells #[.slice ap T.ports.length cp, .slice al T.links.length cl, .slice aa T.aces.length ca] 64)).alloc (.cells #[.int .u32 (hd : Int), .int .u32 (hs : Int), .int .u8 (hpr : Int), .int .u16 (sp : Int), .int .u16 (dp : Int)] 89)).heap[w.heap.size]? = some (.cells #[.slice ap T.ports.length cp, .slice al T.links.length cl, .slice aa T.aces.length ca] 64 (0, 0))) := Lib.hid (blk_alloc (heap_alloc_new w _) _)
  have HY : Hid (((w.alloc (.cells #[.slice ap T.ports.length cp, .slice al T.links.length cl, .slice aa T.aces.length ca] 64)).alloc (.cells #[.int .u32 (hd : Int), .int .u32 (hs : Int), .int .u8 (hpr : Int), .int .u16 (sp : Int), .int .u16 (dp : Int)] 89)).heap[w.heap.size + 1]? = some (.cells #[.int .u32 (hd : Int), .int .u32 (hs : Int), .int .u8 (hpr : Int), .int .u16 (sp : Int), .int .u16 (dp : Int)] 89 (0, 0))) := Lib.hid (by
    have := heap_alloc_new (w.alloc (.cells #[.slice ap T.ports.length cp, .slice al T.links.length cl, .slice aa T.aces.length ca] 64)) (.cells #[.int .u32 (hd : Int), .int .u32 (hs : Int), .int .u8 (hpr : Int), .int .u16 (sp : Int), .int .u16 (dp : Int)] 89)
    rwa [show (w.alloc (.cells #[.slice ap T.ports.length cp, .slice al T.links.length cl, .slice aa T.aces.length ca] 64)).heap.size = w.heap.size + 1 by simp] at this)
  have HK : Hid (Below w.heap.size w ((w.alloc (.cells #[.slice ap T.ports.length cp, .slice al T.links.length cl, .slice aa T.aces.length ca] 64)).alloc (.cells #[.int .u32 (hd : Int), .int .u32 (hs : Int), .int .u8 (hpr : Int), .int .u16 (sp : Int), .int .u16 (dp : Int)] 89))) := Lib.hid (((Below.refl w.heap.size w).alloc (Nat.le_refl _) _).alloc (by simp) _)
  go_enter Try.func95, Try.ntmps95
  go_upto_region 1 with (fail)
  generalize (w.alloc (.cells #[.slice ap T.ports.length cp, .slice al T.links.length cl, .slice aa T.aces.length ca] 64)).alloc (.cells #[.int .u32 (hd : Int), .int .u32 (hs : Int), .int .u8 (hpr : Int), .int .u16 (sp : Int), .int .u16 (dp : Int)] 89) = w1 at *
  have z2 := cell_of HX.out 2
  simp only [List.getElem?_toArray, List.getElem?_cons_zero, List.getElem?_cons_succ] at z2
  go_wp2_with (fail)
  go_loopg [16] T.aces.length (fun gk vi wr => ∃ i : Nat, i + gk = T.aces.length ∧ vi = .int .i64 (i : Int) ∧ Below w.heap.size w wr ∧ wr.heap[w.heap.size]? = some (.cells #[.slice ap T.ports.length cp, .slice al T.links.length cl, .slice aa T.aces.length ca] 64 (0, 0)) ∧ wr.heap[w.heap.size + 1]? = some (.cells #[.int .u32 (hd : Int), .int .u32 (hs : Int), .int .u8 (hpr : Int), .int .u16 (sp : Int), .int .u16 (dp : Int)] 89 (0, 0)) ∧ r = permT (T.aces.drop i) d p inn ⟨hd, hs, hpr, sp, dp⟩)
  case atStart => exact ⟨0, by omega, rfl, HK.out, HX.out, HY.out, by simpa using HR.out⟩
  case round =>
    obtain ⟨i, hgk, rfl, hK, hB2, hB3, hri⟩ := hrel
    have HKR := Lib.hid hK
    have HB2 := Lib.hid (And.intro hB2 hB3)
    have z2 := cell_of hB2 2
    simp only [List.getElem?_toArray, List.getElem?_cons_zero, List.getElem?_cons_succ] at z2
    clear hB2 hB3
    by_cases hlt : i < T.aces.length
    · obtain ⟨b, off, cap', he, hcell⟩ := (H.out.kept (hK.mono hB)).ace hlt
      cases he
      have hdr := List.drop_eq_getElem_cons hlt
      have HMA := Lib.hid (fun W => HM.out W _ (List.getElem_mem hlt))
      rw [hdr] at hri
      generalize T.aces[i] = x at *
      clear hdr
      obtain ⟨xd, xp, xi, xr, f0, f1, f2, f3, f4, f5, f6, f7, f8⟩ := x
      unfold permT at hri
      unfold Fl.val at HMA
      simp only at hri HMA
      have e0 := hcell 0 _ rfl
      have e1 := hcell 1 _ rfl
      have e2 := hcell 2 _ rfl
      have e3 := hcell 3 _ rfl
      have e4 := hcell 4 _ rfl
      have e5 := hcell 5 _ rfl
      have e6 := hcell 6 _ rfl
      have e7 := hcell 7 _ rfl
      have e8 := hcell 8 _ rfl
      have e9 := hcell 9 _ rfl
      have e10 := hcell 10 _ rfl
      have e11 := hcell 11 _ rfl
      have e12 := hcell 12 _ rfl
      rw [Nat.add_zero] at e0
      have HXA := Lib.hid (heap_alloc_new wr (.cells #[.int .i64 xd, .int .i64 xp, .bool xi, .bool xr, .int .u32 (f0 : Int), .int .i64 f1, .int .u32 (f2 : Int), .int .i64 f3, .int .i64 f4, .int .u16 (f5 : Int), .int .u16 (f6 : Int), .int .u16 (f7 : Int), .int .u16 (f8 : Int)] 149))
      have HKA := Lib.hid (hK.alloc hK.size (.cells #[.int .i64 xd, .int .i64 xp, .bool xi, .bool xr, .int .u32 (f0 : Int), .int .i64 f1, .int .u32 (f2 : Int), .int .i64 f3, .int .i64 f4, .int .u16 (f5 : Int), .int .u16 (f6 : Int), .int .u16 (f7 : Int), .int .u16 (f8 : Int)] 149))
      have HB4 := Lib.hid (And.intro (blk_alloc HB2.out.1 (.cells #[.int .i64 xd, .int .i64 xp, .bool xi, .bool xr, .int .u32 (f0 : Int), .int .i64 f1, .int .u32 (f2 : Int), .int .i64 f3, .int .i64 f4, .int .u16 (f5 : Int), .int .u16 (f6 : Int), .int .u16 (f7 : Int), .int .u16 (f8 : Int)] 149)) (blk_alloc HB2.out.2 (.cells #[.int .i64 xd, .int .i64 xp, .bool xi, .bool xr, .int .u32 (f0 : Int), .int .i64 f1, .int .u32 (f2 : Int), .int .i64 f3, .int .i64 f4, .int .u16 (f5 : Int), .int .u16 (f6 : Int), .int .u16 (f7 : Int), .int .u16 (f8 : Int)] 149)))
      have HRI := Lib.hid hri
      clear hK hri hcell
      go_upto_region 4 with (fail)
      generalize wr.alloc (.cells #[.int .i64 xd, .int .i64 xp, .bool xi, .bool xr, .int .u32 (f0 : Int), .int .i64 f1, .int .u32 (f2 : Int), .int .i64 f3, .int .i64 f4, .int .u16 (f5 : Int), .int .u16 (f6 : Int), .int .u16 (f7 : Int), .int .u16 (f8 : Int)] 149) = wa at *
      have y0 := cell_of HXA.out 0
      have y1 := cell_of HXA.out 1
      have y2 := cell_of HXA.out 2
      simp only [List.getElem?_toArray, List.getElem?_cons_zero, List.getElem?_cons_succ] at y0 y1 y2
      clear e0 e1 e2 e3 e4 e5 e6 e7 e8 e9 e10 e11 e12 z2
      by_cases h1 : xd = d
      · by_cases h2 : xp = p
        · by_cases h3 : xi = inn
          · subst h1
            subst h2
            subst h3
            have y4 := cell_of HXA.out 4
            have y5 := cell_of HXA.out 5
            have y6 := cell_of HXA.out 6
            have y7 := cell_of HXA.out 7
            have y8 := cell_of HXA.out 8
            have y9 := cell_of HXA.out 9
            have y10 := cell_of HXA.out 10
            have y11 := cell_of HXA.out 11
            have y12 := cell_of HXA.out 12
            have x0 := cell_of HB4.out.2 0
            have x1 := cell_of HB4.out.2 1
            have x2 := cell_of HB4.out.2 2
            have x3 := cell_of HB4.out.2 3
            have x4 := cell_of HB4.out.2 4
            simp only [List.getElem?_toArray, List.getElem?_cons_zero, List.getElem?_cons_succ] at y4 y5 y6 y7 y8 y9 y10 y11 y12 x0 x1 x2 x3 x4
            have HMB := Lib.hid (HMA.out wa)
            generalize matchF ⟨f0, f1, f2, f3, f4, f5, f6, f7, f8⟩ ⟨hd, hs, hpr, sp, dp⟩ = m at *
            go_wp2_with (fail)
            refine Calls.mono HMB.out ?_
            rintro e w7 ⟨he, k7⟩
            have HXA7 := Lib.hid ((k7.block _ (lt_of_block HXA.out)).trans HXA.out)
            have HB7 := Lib.hid (And.intro ((k7.block _ (lt_of_block HB4.out.1)).trans HB4.out.1) ((k7.block _ (lt_of_block HB4.out.2)).trans HB4.out.2))
            have HK7 := Lib.hid (HKA.out.trans (k7.mono HKA.out.size))
            subst he
            clear k7 y0 y1 y2 y4 y5 y6 y7 y8 y9 y10 y11 y12 x0 x1 x2 x3 x4
            have y3 := cell_of HXA7.out 3
            simp only [List.getElem?_toArray, List.getElem?_cons_zero, List.getElem?_cons_succ] at y3
            have hri := HRI.out
            cases m with
            | true =>
              rw [if_pos (by simp)] at hri
              subst hri
              go_wp2_with (fail)
              go_ret
              exact ⟨rfl, HK7.out⟩
            | false =>
              rw [if_neg (by simp)] at hri
              have HRJ := Lib.hid hri
              clear hri
              go_wp2_with (fail)
              go_roundg (gk - 1)
              case measure => omega
              case rel => exact ⟨i + 1, by omega, by go_num, HK7.out, HB7.out.1, HB7.out.2, HRJ.out⟩
          · have h4 : (xi == inn) = false := by
              cases xi <;> cases inn <;> first | rfl | exact absurd rfl h3
            subst h1
            subst h2
            have hri := HRI.out
            rw [if_neg (fun e => h3 e.2.2.1)] at hri
            have HRJ := Lib.hid hri
            clear hri
            go_wp2_with (fail)
            go_roundg (gk - 1)
            case measure => omega
            case rel => exact ⟨i + 1, by omega, by go_num, HKA.out, HB4.out.1, HB4.out.2, HRJ.out⟩
        · have h4 : (xp == p) = false := beq_eq_false_iff_ne.2 h2
          subst h1
          have hri := HRI.out
          rw [if_neg (fun e => h2 e.2.1)] at hri
          have HRJ := Lib.hid hri
          clear hri
          go_wp2_with (fail)
          go_roundg (gk - 1)
          case measure => omega
          case rel => exact ⟨i + 1, by omega, by go_num, HKA.out, HB4.out.1, HB4.out.2, HRJ.out⟩
      · have h4 : (xd == d) = false := beq_eq_false_iff_ne.2 h1
        have hri := HRI.out
        rw [if_neg (fun e => h1 e.1)] at hri
        have HRJ := Lib.hid hri
        clear hri
        go_wp2_with (fail)
        go_roundg (gk - 1)
        case measure => omega
        case rel => exact ⟨i + 1, by omega, by go_num, HKA.out, HB4.out.1, HB4.out.2, HRJ.out⟩
    · obtain rfl : i = T.aces.length := by omega
      rw [List.drop_eq_nil_of_le (Nat.le_refl _)] at hri
      obtain rfl : r = true := hri
      clear hK
      go_wp2_with (fail)
      go_ret
      exact ⟨rfl, HKR.out⟩

set_option maxRecDepth 100000 in
set_option maxHeartbeats 4000000 in
theorem rpermit_calls (h : TpIn B w vp vl va T) (hB : B ≤ w.heap.size) (ha : T.aces.length ≤ 60) (hc : ∀ a ∈ T.aces, checkF a.f = 0) (d p : Int) (inn : Bool) (hv : Hv) (hh : hv.Wf) : Calls Try.prog 94 #[.agg #[vp, vl, va], .int .i64 d, .int .i64 p, .bool inn, hv.val] w fun e w' => e = .returned (.bool (permT T.aces d p inn hv)) ∧ Below w.heap.size w w' := by
  have H := Lib.hid h
  obtain ⟨ap, cp, rfl, _⟩ := h.ports
  obtain ⟨al, cl, rfl, _⟩ := h.links
  obtain ⟨aa, ca, rfl, _⟩ := h.aces
  clear h
  have HM : Hid (∀ W, ∀ a ∈ T.aces, Calls Try.prog 109 #[a.f.val, hv.val] W fun e w' => e = .returned (.bool (matchF a.f hv)) ∧ Below W.heap.size W w') := Lib.hid (fun W a ham => rfmatch_calls W (H.out.wf a ham) hh (hc a ham))
  obtain ⟨r, hr⟩ : ∃ r, r = permT T.aces d p inn hv := ⟨_, rfl⟩
  rw [← hr]
  have HR := Lib.hid hr
  obtain ⟨hd, hs, hpr, sp, dp⟩ := hv
  unfold Hv.val at *
  simp only at *
  clear hr hc
  have HX : Hid (((w.alloc (.cells #[.slice ap T.ports.length cp, .slice al T.links.length cl, .slice aa T.aces.length ca] 64)).alloc (.cells #[.int .u32 (hd : Int), .int .u32 (hs : Int), .int .u8 (hpr : Int), .int .u16 (sp : Int), .int .u16 (dp : Int)] 89)).heap[w.heap.size]? = some (.cells #[.slice ap T.ports.length cp, .slice al T.links.length cl, .slice aa T.aces.length ca] 64 (0, 0))) := Lib.hid (blk_alloc (heap_alloc_new w _) _)
  have HY : Hid (((w.alloc (.cells #[.slice ap T.ports.length cp, .slice al T.links.length cl, .slice aa T.aces.length ca] 64)).alloc (.cells #[.int .u32 (hd : Int), .int .u32 (hs : Int), .int .u8 (hpr : Int), .int .u16 (sp : Int), .int .u16 (dp : Int)] 89)).heap[w.heap.size + 1]? = some (.cells #[.int .u32 (hd : Int), .int .u32 (hs : Int), .int .u8 (hpr : Int), .int .u16 (sp : Int), .int .u16 (dp : Int)] 89 (0, 0))) := Lib.hid (by
    have := heap_alloc_new (w.alloc (.cells #[.slice ap T.ports.length cp, .slice al T.links.length cl, .slice aa T.aces.length ca] 64)) (.cells #[.int .u32 (hd : Int), .int .u32 (hs : Int), .int .u8 (hpr : Int), .int .u16 (sp : Int), .int .u16 (dp : Int)] 89)
    rwa [show (w.alloc (.cells #[.slice ap T.ports.length cp, .slice al T.links.length cl, .slice aa T.aces.length ca] 64)).heap.size = w.heap.size + 1 by simp] at this)
  have HK : Hid (Below w.heap.size w ((w.alloc (.cells #[.slice ap T.ports.length cp, .slice al T.links.length cl, .slice aa T.aces.length ca] 64)).alloc (.cells #[.int .u32 (hd : Int), .int .u32 (hs : Int), .int .u8 (hpr : Int), .int .u16 (sp : Int), .int .u16 (dp : Int)] 89))) := Lib.hid (((Below.refl w.heap.size w).alloc (Nat.le_refl _) _).alloc (by simp) _)
  go_enter Try.func94, Try.ntmps94
  go_upto_region 1 with (fail)
  generalize (w.alloc (.cells #[.slice ap T.ports.length cp, .slice al T.links.length cl, .slice aa T.aces.length ca] 64)).alloc (.cells #[.int .u32 (hd : Int), .int .u32 (hs : Int), .int .u8 (hpr : Int), .int .u16 (sp : Int), .int .u16 (dp : Int)] 89) = w1 at *
  have z2 := cell_of HX.out 2
  simp only [List.getElem?_toArray, List.getElem?_cons_zero, List.getElem?_cons_succ] at z2
  go_wp2_with (fail)
  go_loopg [11] T.aces.length (fun gk vi wr => ∃ i : Nat, i + gk = T.aces.length ∧ vi = .int .i64 (i : Int) ∧ Below w.heap.size w wr ∧ wr.heap[w.heap.size]? = some (.cells #[.slice ap T.ports.length cp, .slice al T.links.length cl, .slice aa T.aces.length ca] 64 (0, 0)) ∧ wr.heap[w.heap.size + 1]? = some (.cells #[.int .u32 (hd : Int), .int .u32 (hs : Int), .int .u8 (hpr : Int), .int .u16 (sp : Int), .int .u16 (dp : Int)] 89 (0, 0)) ∧ r = permT (T.aces.drop i) d p inn ⟨hd, hs, hpr, sp, dp⟩)
  case atStart => exact ⟨0, by omega, rfl, HK.out, HX.out, HY.out, by simpa using HR.out⟩
  case round =>
    obtain ⟨i, hgk, rfl, hK, hB2, hB3, hri⟩ := hrel
    have HKR := Lib.hid hK
    have HB2 := Lib.hid (And.intro hB2 hB3)
    have z2 := cell_of hB2 2
    simp only [List.getElem?_toArray, List.getElem?_cons_zero, List.getElem?_cons_succ] at z2
    clear hB2 hB3
    by_cases hlt : i < T.aces.length
    · obtain ⟨b, off, cap', he, hcell⟩ := (H.out.kept (hK.mono hB)).ace hlt
      cases he
      have hdr := List.drop_eq_getElem_cons hlt
      have HMA := Lib.hid (fun W => HM.out W _ (List.getElem_mem hlt))
      rw [hdr] at hri
      generalize T.aces[i] = x at *
      clear hdr
      obtain ⟨xd, xp, xi, xr, f0, f1, f2, f3, f4, f5, f6, f7, f8⟩ := x
      unfold permT at hri
      unfold Fl.val at HMA
      simp only at hri HMA
      have e0 := hcell 0 _ rfl
      have e1 := hcell 1 _ rfl
      have e2 := hcell 2 _ rfl
      have e3 := hcell 3 _ rfl
      have e4 := hcell 4 _ rfl
      have e5 := hcell 5 _ rfl
      have e6 := hcell 6 _ rfl
      have e7 := hcell 7 _ rfl
      have e8 := hcell 8 _ rfl
      have e9 := hcell 9 _ rfl
      have e10 := hcell 10 _ rfl
      have e11 := hcell 11 _ rfl
      have e12 := hcell 12 _ rfl
      rw [Nat.add_zero] at e0
      have HXA := Lib.hid (heap_alloc_new wr (.cells #[.int .i64 xd, .int .i64 xp, .bool xi, .bool xr, .int .u32 (f0 : Int), .int .i64 f1, .int .u32 (f2 : Int), .int .i64 f3, .int .i64 f4, .int .u16 (f5 : Int), .int .u16 (f6 : Int), .int .u16 (f7 : Int), .int .u16 (f8 : Int)] 149))
      have HKA := Lib.hid (hK.alloc hK.size (.cells #[.int .i64 xd, .int .i64 xp, .bool xi, .bool xr, .int .u32 (f0 : Int), .int .i64 f1, .int .u32 (f2 : Int), .int .i64 f3, .int .i64 f4, .int .u16 (f5 : Int), .int .u16 (f6 : Int), .int .u16 (f7 : Int), .int .u16 (f8 : Int)] 149))
      have HB4 := Lib.hid (And.intro (blk_alloc HB2.out.1 (.cells #[.int .i64 xd, .int .i64 xp, .bool xi, .bool xr, .int .u32 (f0 : Int), .int .i64 f1, .int .u32 (f2 : Int), .int .i64 f3, .int .i64 f4, .int .u16 (f5 : Int), .int .u16 (f6 : Int), .int .u16 (f7 : Int), .int .u16 (f8 : Int)] 149)) (blk_alloc HB2.out.2 (.cells #[.int .i64 xd, .int .i64 xp, .bool xi, .bool xr, .int .u32 (f0 : Int), .int .i64 f1, .int .u32 (f2 : Int), .int .i64 f3, .int .i64 f4, .int .u16 (f5 : Int), .int .u16 (f6 : Int), .int .u16 (f7 : Int), .int .u16 (f8 : Int)] 149)))
      have HRI := Lib.hid hri
      clear hK hri hcell
      go_upto_region 5 with (fail)
      generalize wr.alloc (.cells #[.int .i64 xd, .int .i64 xp, .bool xi, .bool xr, .int .u32 (f0 : Int), .int .i64 f1, .int .u32 (f2 : Int), .int .i64 f3, .int .i64 f4, .int .u16 (f5 : Int), .int .u16 (f6 : Int), .int .u16 (f7 : Int), .int .u16 (f8 : Int)] 149) = wa at *
      have y0 := cell_of HXA.out 0
      have y1 := cell_of HXA.out 1
      have y2 := cell_of HXA.out 2
      simp only [List.getElem?_toArray, List.getElem?_cons_zero, List.getElem?_cons_succ] at y0 y1 y2
      clear e0 e1 e2 e3 e4 e5 e6 e7 e8 e9 e10 e11 e12 z2
      by_cases h1 : xd = d
      · by_cases h2 : xp = p
        · by_cases h3 : xi = inn
          · subst h1
            subst h2
            subst h3
            have y4 := cell_of HXA.out 4
            have y5 := cell_of HXA.out 5
            have y6 := cell_of HXA.out 6
            have y7 := cell_of HXA.out 7
            have y8 := cell_of HXA.out 8
            have y9 := cell_of HXA.out 9
            have y10 := cell_of HXA.out 10
            have y11 := cell_of HXA.out 11
            have y12 := cell_of HXA.out 12
            have x0 := cell_of HB4.out.2 0
            have x1 := cell_of HB4.out.2 1
            have x2 := cell_of HB4.out.2 2
            have x3 := cell_of HB4.out.2 3
            have x4 := cell_of HB4.out.2 4
            simp only [List.getElem?_toArray, List.getElem?_cons_zero, List.getElem?_cons_succ] at y4 y5 y6 y7 y8 y9 y10 y11 y12 x0 x1 x2 x3 x4
            have HMB := Lib.hid (HMA.out wa)
            generalize matchF ⟨f0, f1, f2, f3, f4, f5, f6, f7, f8⟩ ⟨hd, hs, hpr, sp, dp⟩ = m at *
            go_wp2_with (fail)
            refine Calls.mono HMB.out ?_
            rintro e w7 ⟨he, k7⟩
            have HXA7 := Lib.hid ((k7.block _ (lt_of_block HXA.out)).trans HXA.out)
            have HB7 := Lib.hid (And.intro ((k7.block _ (lt_of_block HB4.out.1)).trans HB4.out.1) ((k7.block _ (lt_of_block HB4.out.2)).trans HB4.out.2))
            have HK7 := Lib.hid (HKA.out.trans (k7.mono HKA.out.size))
            subst he
            clear k7 y0 y1 y2 y4 y5 y6 y7 y8 y9 y10 y11 y12 x0 x1 x2 x3 x4
            have y3 := cell_of HXA7.out 3
            simp only [List.getElem?_toArray, List.getElem?_cons_zero, List.getElem?_cons_succ] at y3
            have hri := HRI.out
            cases m with
            | true =>
              rw [if_pos (by simp)] at hri
              subst hri
              go_wp2_with (fail)
              go_ret
              exact ⟨rfl, HK7.out⟩
            | false =>
              rw [if_neg (by simp)] at hri
              have HRJ := Lib.hid hri
              clear hri
              go_wp2_with (fail)
              go_roundg (gk - 1)
              case measure => omega
              case rel => exact ⟨i + 1, by omega, by go_num, HK7.out, HB7.out.1, HB7.out.2, HRJ.out⟩
          · have h4 : (xi == inn) = false := by
              cases xi <;> cases inn <;> first | rfl | exact absurd rfl h3
            subst h1
            subst h2
            have hri := HRI.out
            rw [if_neg (fun e => h3 e.2.2.1)] at hri
            have HRJ := Lib.hid hri
            clear hri
            go_wp2_with (fail)
            go_roundg (gk - 1)
            case measure => omega
            case rel => exact ⟨i + 1, by omega, by go_num, HKA.out, HB4.out.1, HB4.out.2, HRJ.out⟩
        · have h4 : (xp == p) = false := beq_eq_false_iff_ne.2 h2
          subst h1
          have hri := HRI.out
          rw [if_neg (fun e => h2 e.2.1)] at hri
          have HRJ := Lib.hid hri
          clear hri
          go_wp2_with (fail)
          go_roundg (gk - 1)
          case measure => omega
          case rel => exact ⟨i + 1, by omega, by go_num, HKA.out, HB4.out.1, HB4.out.2, HRJ.out⟩
      · have h4 : (xd == d) = false := beq_eq_false_iff_ne.2 h1
        have hri := HRI.out
        rw [if_neg (fun e => h1 e.1)] at hri
        have HRJ := Lib.hid hri
        clear hri
        go_wp2_with (fail)
        go_roundg (gk - 1)
        case measure => omega
        case rel => exact ⟨i + 1, by omega, by go_num, HKA.out, HB4.out.1, HB4.out.2, HRJ.out⟩
    · obtain rfl : i = T.aces.length := by omega
      rw [List.drop_eq_nil_of_le (Nat.le_refl _)] at hri
      obtain rfl : r = true := hri
      clear hK
      go_wp2_with (fail)
      go_ret
      exact ⟨rfl, HKR.out⟩
end Go.Proofs.Ytiedhjmnjpkcoaa

namespace Go.Proofs.Ytiedhjmnjpkcoaa
open Go.RowKit
variable {B : Nat} {w : World} {vp vl va : Value} {T : Tp}

set_option maxRecDepth 100000 in
set_option maxHeartbeats 4000000 in
theorem tcross_calls (h : TpIn B w vp vl va T) (hB : B ≤ w.heap.size) (hl : T.links.length ≤ 100) (ha : T.aces.length ≤ 60) (hc : ∀ a ∈ T.aces, checkF a.f = 0) (d p : Int) (hv : Hv) (hh : hv.Wf) : Calls Try.prog 74 #[.agg #[vp, vl, va], .int .i64 d, .int .i64 p, hv.val] w fun e w' => e = .returned (.tuple #[.int .i64 (crossT T d p hv).1, .bool (crossT T d p hv).2.1, .bool (crossT T d p hv).2.2]) ∧ Below w.heap.size w w' := by
  have HPM : Hid (∀ W, Below w.heap.size w W → ∀ d p inn, Calls Try.prog 95 #[.agg #[vp, vl, va], .int .i64 d, .int .i64 p, .bool inn, hv.val] W fun e w' => e = .returned (.bool (permT T.aces d p inn hv)) ∧ Below W.heap.size W w') := Lib.hid (fun W kW d p inn => tpermit_calls (h.kept (kW.mono hB)) (Nat.le_trans hB kW.size) ha hc d p inn hv hh)
  have HPE : Hid (∀ W, Below w.heap.size w W → Calls Try.prog 96 #[.agg #[vp, vl, va], .int .i64 d, .int .i64 p] W fun e w' => e = .returned (peerV (peerT T.links d p)) ∧ Below W.heap.size W w') := Lib.hid (fun W kW => tpeer_calls (h.kept (kW.mono hB)) (Nat.le_trans hB kW.size) hl d p)
  obtain ⟨ap, cp, rfl, _⟩ := h.ports
  obtain ⟨al, cl, rfl, _⟩ := h.links
  obtain ⟨aa, ca, rfl, _⟩ := h.aces
  obtain ⟨r, hr⟩ : ∃ r, r = crossT T d p hv := ⟨_, rfl⟩
  rw [← hr]
  unfold crossT at hr
  generalize hpt : permT T.aces = pt at *
  generalize hpe : peerT T.links d p = pe at *
  obtain ⟨hd, hs, hpr, sp, dp⟩ := hv
  unfold Hv.val at *
  simp only at *
  clear h hc hpt hpe
  have HR := Lib.hid hr
  clear hr
  have HX : Hid (((w.alloc (.cells #[.slice ap T.ports.length cp, .slice al T.links.length cl, .slice aa T.aces.length ca] 64)).alloc (.cells #[.int .u32 (hd : Int), .int .u32 (hs : Int), .int .u8 (hpr : Int), .int .u16 (sp : Int), .int .u16 (dp : Int)] 89)).heap[w.heap.size]? = some (.cells #[.slice ap T.ports.length cp, .slice al T.links.length cl, .slice aa T.aces.length ca] 64 (0, 0))) := Lib.hid (blk_alloc (heap_alloc_new w _) _)
  have HY : Hid (((w.alloc (.cells #[.slice ap T.ports.length cp, .slice al T.links.length cl, .slice aa T.aces.length ca] 64)).alloc (.cells #[.int .u32 (hd : Int), .int .u32 (hs : Int), .int .u8 (hpr : Int), .int .u16 (sp : Int), .int .u16 (dp : Int)] 89)).heap[w.heap.size + 1]? = some (.cells #[.int .u32 (hd : Int), .int .u32 (hs : Int), .int .u8 (hpr : Int), .int .u16 (sp : Int), .int .u16 (dp : Int)] 89 (0, 0))) := Lib.hid (by
    have := heap_alloc_new (w.alloc (.cells #[.slice ap T.ports.length cp, .slice al T.links.length cl, .slice aa T.aces.length ca] 64)) (.cells #[.int .u32 (hd : Int), .int .u32 (hs : Int), .int .u8 (hpr : Int), .int .u16 (sp : Int), .int .u16 (dp : Int)] 89)
    rwa [show (w.alloc (.cells #[.slice ap T.ports.length cp, .slice al T.links.length cl, .slice aa T.aces.length ca] 64)).heap.size = w.heap.size + 1 by simp] at this)
  have HK : Hid (Below w.heap.size w ((w.alloc (.cells #[.slice ap T.ports.length cp, .slice al T.links.length cl, .slice aa T.aces.length ca] 64)).alloc (.cells #[.int .u32 (hd : Int), .int .u32 (hs : Int), .int .u8 (hpr : Int), .int .u16 (sp : Int), .int .u16 (dp : Int)] 89))) := Lib.hid (((Below.refl w.heap.size w).alloc (Nat.le_refl _) _).alloc (by simp) _)
  go_enter Try.func74, Try.ntmps74
  go_upto_region 1 with (fail)
  generalize (w.alloc (.cells #[.slice ap T.ports.length cp, .slice al T.links.length cl, .slice aa T.aces.length ca] 64)).alloc (.cells #[.int .u32 (hd : Int), .int .u32 (hs : Int), .int .u8 (hpr : Int), .int .u16 (sp : Int), .int .u16 (dp : Int)] 89) = w1 at *
  have HCC : Hid (∀ W, Below w1.heap.size w1 W → W.cell? ⟨w.heap.size, 0, none⟩ = some (.slice ap T.ports.length cp) ∧ W.cell? ⟨w.heap.size, 1, none⟩ = some (.slice al T.links.length cl) ∧ W.cell? ⟨w.heap.size, 2, none⟩ = some (.slice aa T.aces.length ca) ∧ W.cell? ⟨w.heap.size + 1, 0, none⟩ = some (.int .u32 (hd : Int)) ∧ W.cell? ⟨w.heap.size + 1, 1, none⟩ = some (.int .u32 (hs : Int)) ∧ W.cell? ⟨w.heap.size + 1, 2, none⟩ = some (.int .u8 (hpr : Int)) ∧ W.cell? ⟨w.heap.size + 1, 3, none⟩ = some (.int .u16 (sp : Int)) ∧ W.cell? ⟨w.heap.size + 1, 4, none⟩ = some (.int .u16 (dp : Int))) := Lib.hid (fun W kW => by
    have bx := (kW.block _ (lt_of_block HX.out)).trans HX.out
    have bY := (kW.block _ (lt_of_block HY.out)).trans HY.out
    exact ⟨cell_of bx 0, cell_of bx 1, cell_of bx 2, cell_of bY 0, cell_of bY 1, cell_of bY 2, cell_of bY 3, cell_of bY 4⟩)
  have z := HCC.out w1 (Below.refl _ _)
  obtain ⟨q, hq⟩ : ∃ q, q = pt d p false ⟨hd, hs, hpr, sp, dp⟩ := ⟨_, rfl⟩
  have HP1 := Lib.hid (HPM.out w1 HK.out d p false)
  rw [← hq] at HP1
  have hr := HR.out
  rw [← hq] at hr
  have HR1 := Lib.hid hr
  clear hr hq
  go_wp2_with (fail)
  refine Calls.mono HP1.out ?_
  rintro e w2 ⟨he, k2⟩
  subst he
  have HK2 := Lib.hid (HK.out.trans (k2.mono HK.out.size))
  have HW2 := Lib.hid k2
  clear k2 z
  have hr := HR1.out
  cases q with
  | false =>
    rw [if_pos rfl] at hr
    subst hr
    go_wp2_with (fail)
    exact bodyPost_ret (v := .tuple #[.int .i64 0, .bool false, .bool false]) (by simp [results, Try.results74, go_sem]) rfl ⟨rfl, HK2.out⟩
  | true =>
    rw [if_neg (by simp)] at hr
    have z := HCC.out w2 HW2.out
    have HP2 := Lib.hid (HPE.out w2 HK2.out)
    have HR2 := Lib.hid hr
    clear hr
    go_wp2_with (fail)
    refine Calls.mono HP2.out ?_
    rintro e w3 ⟨he, k3⟩
    have HK3 := Lib.hid (HK2.out.trans (k3.mono HK2.out.size))
    have HW3 := Lib.hid (HW2.out.trans (k3.mono HW2.out.size))
    clear k3 z
    have hr := HR2.out
    cases pe with
    | none =>
      simp only at hr
      subst hr
      unfold peerV at he
      simp only at he
      subst he
      go_wp2_with (fail)
      exact bodyPost_ret (v := .tuple #[.int .i64 0, .bool true, .bool false]) (by simp [results, Try.results74, go_sem]) rfl ⟨rfl, HK3.out⟩
    | some e2 =>
      obtain ⟨d2, p2⟩ := e2
      simp only at hr
      unfold peerV at he
      simp only at he
      subst he
      have z := HCC.out w3 HW3.out
      obtain ⟨q, hq⟩ : ∃ q, q = pt d2 p2 true ⟨hd, hs, hpr, sp, dp⟩ := ⟨_, rfl⟩
      have HP3 := Lib.hid (HPM.out w3 HK3.out d2 p2 true)
      rw [← hq] at HP3 hr
      have HR3 := Lib.hid hr
      clear hr hq
      go_wp2_with (fail)
      refine Calls.mono HP3.out ?_
      rintro e w4 ⟨he, k4⟩
      subst he
      have HK4 := Lib.hid (HK3.out.trans (k4.mono HK3.out.size))
      clear k4 z
      have hr := HR3.out
      cases q with
      | false =>
        rw [if_pos rfl] at hr
        subst hr
        go_wp2_with (fail)
        exact bodyPost_ret (v := .tuple #[.int .i64 0, .bool false, .bool false]) (by simp [results, Try.results74, go_sem]) rfl ⟨rfl, HK4.out⟩
      | true =>
        rw [if_neg (by simp)] at hr
        subst hr
        go_wp2_with (fail)
        exact bodyPost_ret (v := .tuple #[.int .i64 d2, .bool false, .bool true]) (by simp [results, Try.results74, go_sem]) rfl ⟨rfl, HK4.out⟩

set_option maxRecDepth 100000 in
set_option maxHeartbeats 4000000 in
theorem rcross_calls (h : TpIn B w vp vl va T) (hB : B ≤ w.heap.size) (hl : T.links.length ≤ 100) (ha : T.aces.length ≤ 60) (hc : ∀ a ∈ T.aces, checkF a.f = 0) (d p : Int) (hv : Hv) (hh : hv.Wf) : Calls Try.prog 73 #[.agg #[vp, vl, va], .int .i64 d, .int .i64 p, hv.val] w fun e w' => e = .returned (.tuple #[.int .i64 (crossT T d p hv).1, .bool (crossT T d p hv).2.1, .bool (crossT T d p hv).2.2]) ∧ Below w.heap.size w w' := by
  have HPM : Hid (∀ W, Below w.heap.size w W → ∀ d p inn, Calls Try.prog 94 #[.agg #[vp, vl, va], .int .i64 d, .int .i64 p, .bool inn, hv.val] W fun e w' => e = .returned (.bool (permT T.aces d p inn hv)) ∧ Below W.heap.size W w') := Lib.hid (fun W kW d p inn => rpermit_calls (h.kept (kW.mono hB)) (Nat.le_trans hB kW.size) ha hc d p inn hv hh)
  have HPE : Hid (∀ W, Below w.heap.size w W → Calls Try.prog 48 #[.agg #[vp, vl, va], .int .i64 d, .int .i64 p] W fun e w' => e = .returned (peerV (peerT T.links d p)) ∧ Below W.heap.size W w') := Lib.hid (fun W kW => rpeer_calls (h.kept (kW.mono hB)) (Nat.le_trans hB kW.size) hl d p)
  obtain ⟨ap, cp, rfl, _⟩ := h.ports
  obtain ⟨al, cl, rfl, _⟩ := h.links
  obtain ⟨aa, ca, rfl, _⟩ := h.aces
  obtain ⟨r, hr⟩ : ∃ r, r = crossT T d p hv := ⟨_, rfl⟩
  rw [← hr]
  unfold crossT at hr
  generalize hpt : permT T.aces = pt at *
  generalize hpe : peerT T.links d p = pe at *
  obtain ⟨hd, hs, hpr, sp, dp⟩ := hv
  unfold Hv.val at *
  simp only at *
  clear h hc hpt hpe
  have HR := Lib.hid hr
  clear hr
  have HX : Hid (((w.alloc (.cells #[.slice ap T.ports.length cp, .slice al T.links.length cl, .slice aa T.aces.length ca] 64)).alloc (.cells #[.int .u32 (hd : Int), .int .u32 (hs : Int), .int .u8 (hpr : Int), .int .u16 (sp : Int), .int .u16 (dp : Int)] 89)).heap[w.heap.size]? = some (.cells #[.slice ap T.ports.length cp, .slice al T.links.length cl, .slice aa T.aces.length ca] 64 (0, 0))) := Lib.hid (blk_alloc (heap_alloc_new w _) _)
  have HY : Hid (((w.alloc (.cells #[.slice ap T.ports.length cp, .slice al T.links.length cl, .slice aa T.aces.length ca] 64)).alloc (.cells #[.int .u32 (hd : Int), .int .u32 (hs : Int), .int .u8 (hpr : Int), .int .u16 (sp : Int), .int .u16 (dp : Int)] 89)).heap[w.heap.size + 1]? = some (.cells #[.int .u32 (hd : Int), .int .u32 (hs : Int), .int .u8 (hpr : Int), .int .u16 (sp : Int), .int .u16 (dp : Int)] 89 (0, 0))) := Lib.hid (by
    have := heap_alloc_new (w.alloc (.cells #[.slice ap T.ports.length cp, .slice al T.links.length cl, .slice aa T.aces.length ca] 64)) (.cells #[.int .u32 (hd : Int), .int .u32 (hs : Int), .int .u8 (hpr : Int), .int .u16 (sp : Int), .int .u16 (dp : Int)] 89)
    rwa [show (w.alloc (.cells #[.slice ap T.ports.length cp, .slice al T.links.length cl, .slice aa T.aces.length ca] 64)).heap.size = w.heap.size + 1 by simp] at this)
  have HK : Hid (Below w.heap.size w ((w.alloc (.cells #[.slice ap T.ports.length cp, .slice al T.links.length cl, .slice aa T.aces.length ca] 64)).alloc (.cells #[.int .u32 (hd : Int), .int .u32 (hs : Int), .int .u8 (hpr : Int), .int .u16 (sp : Int), .int .u16 (dp : Int)] 89))) := Lib.hid (((Below.refl w.heap.size w).alloc (Nat.le_refl _) _).alloc (by simp) _)
  go_enter Try.func73, Try.ntmps73
  go_upto_region 1 with (fail)
  generalize (w.alloc (.cells #[.slice ap T.ports.length cp, .slice al T.links.length cl, .slice aa T.aces.length ca] 64)).alloc (.cells #[.int .u32 (hd : Int), .int .u32 (hs : Int), .int .u8 (hpr : Int), .int .u16 (sp : Int), .int .u16 (dp : Int)] 89) = w1 at *
  have HCC : Hid (∀ W, Below w1.heap.size w1 W → W.cell? ⟨w.heap.size, 0, none⟩ = some (.slice ap T.ports.length cp) ∧ W.cell? ⟨w.heap.size, 1, none⟩ = some (.slice al T.links.length cl) ∧ W.cell? ⟨w.heap.size, 2, none⟩ = some (.slice aa T.aces.length ca) ∧ W.cell? ⟨w.heap.size + 1, 0, none⟩ = some (.int .u32 (hd : Int)) ∧ W.cell? ⟨w.heap.size + 1, 1, none⟩ = some (.int .u32 (hs : Int)) ∧ W.cell? ⟨w.heap.size + 1, 2, none⟩ = some (.int .u8 (hpr : Int)) ∧ W.cell? ⟨w.heap.size + 1, 3, none⟩ = some (.int .u16 (sp : Int)) ∧ W.cell? ⟨w.heap.size + 1, 4, none⟩ = some (.int .u16 (dp : Int))) := Lib.hid (fun W kW => by
    have bx := (kW.block _ (lt_of_block HX.out)).trans HX.out
    have bY := (kW.block _ (lt_of_block HY.out)).trans HY.out
    exact ⟨cell_of bx 0, cell_of bx 1, cell_of bx 2, cell_of bY 0, cell_of bY 1, cell_of bY 2, cell_of bY 3, cell_of bY 4⟩)
  have z := HCC.out w1 (Below.refl _ _)
  obtain ⟨q, hq⟩ : ∃ q, q = pt d p false ⟨hd, hs, hpr, sp, dp⟩ := ⟨_, rfl⟩
  have HP1 := Lib.hid (HPM.out w1 HK.out d p false)
  rw [← hq] at HP1
  have hr := HR.out
  rw [← hq] at hr
  have HR1 := Lib.hid hr
  clear hr hq
  go_wp2_with (fail)
  refine Calls.mono HP1.out ?_
  rintro e w2 ⟨he, k2⟩
  subst he
  have HK2 := Lib.hid (HK.out.trans (k2.mono HK.out.size))
  have HW2 := Lib.hid k2
  clear k2 z
  have hr := HR1.out
  cases q with
  | false =>
    rw [if_pos rfl] at hr
    subst hr
    go_wp2_with (fail)
    exact bodyPost_ret (v := .tuple #[.int .i64 0, .bool false, .bool false]) (by simp [results, Try.results73, go_sem]) rfl ⟨rfl, HK2.out⟩
  | true =>
    rw [if_neg (by simp)] at hr
    have z := HCC.out w2 HW2.out
    have HP2 := Lib.hid (HPE.out w2 HK2.out)
    have HR2 := Lib.hid hr
    clear hr
    go_wp2_with (fail)
    refine Calls.mono HP2.out ?_
    rintro e w3 ⟨he, k3⟩
    have HK3 := Lib.hid (HK2.out.trans (k3.mono HK2.out.size))
    have HW3 := Lib.hid (HW2.out.trans (k3.mono HW2.out.size))
    clear k3 z
    have hr := HR2.out
    cases pe with
    | none =>
      simp only at hr
      subst hr
      unfold peerV at he
      simp only at he
      subst he
      go_wp2_with (fail)
      exact bodyPost_ret (v := .tuple #[.int .i64 0, .bool true, .bool false]) (by simp [results, Try.results73, go_sem]) rfl ⟨rfl, HK3.out⟩
    | some e2 =>
      obtain ⟨d2, p2⟩ := e2
      simp only at hr
      unfold peerV at he
      simp only at he
      subst he
      have z := HCC.out w3 HW3.out
      obtain ⟨q, hq⟩ : ∃ q, q = pt d2 p2 true ⟨hd, hs, hpr, sp, dp⟩ := ⟨_, rfl⟩
      have HP3 := Lib.hid (HPM.out w3 HK3.out d2 p2 true)
      rw [← hq] at HP3 hr
      have HR3 := Lib.hid hr
      clear hr hq
      go_wp2_with (fail)
      refine Calls.mono HP3.out ?_
      rintro e w4 ⟨he, k4⟩
      subst he
      have HK4 := Lib.hid (HK3.out.trans (k4.mono HK3.out.size))
      clear k4 z
      have hr := HR3.out
      cases q with
      | false =>
        rw [if_pos rfl] at hr
        subst hr
        go_wp2_with (fail)
        exact bodyPost_ret (v := .tuple #[.int .i64 0, .bool false, .bool false]) (by simp [results, Try.results73, go_sem]) rfl ⟨rfl, HK4.out⟩
      | true =>
        rw [if_neg (by simp)] at hr
        subst hr
        go_wp2_with (fail)
        exact bodyPost_ret (v := .tuple #[.int .i64 d2, .bool false, .bool true]) (by simp [results, Try.results73, go_sem]) rfl ⟨rfl, HK4.out⟩
end Go.Proofs.Ytiedhjmnjpkcoaa
