/- Nets: a table more. · Nets: a new one. -/
import Derived.Test.YtjoblahedgpgbaaGreatRChg
import Derived.Test.YtjoblahedgpgbaaGreatTopG
import Derived.Deep.AppendLies
import Derived.Deep.Onto
namespace Go.Proofs.YtjoblahedgpgbaaGreat
set_option linter.unusedVariables false
set_option linter.unusedSimpArgs false
open Go.RowKit

theorem tabp_info : (Tryz.prog.info? 174).map (fun i => (i.zero, i.size, i.bytes)) = some (some (.pointer none), 1, 8) := by kernel_rfl
variable {w w' : World} {B nb : Nat} {vp vl va vt : Value} {ts : List TD}
theorem own_ty {w : World} {base : Nat} {e : TypeId} {size : Nat} {v : Value} {n : Nat} {xs : List Value} (h : w.ownsRow base e size v n xs) {g : Nat} (hg : v.ownBlock = some g) : ∃ cur, w.heap[g]? = some (.cells cur e (0, 0)) := by
  rcases h.2 with ⟨rfl, _⟩ | ⟨g', cap, cur, rfl, h1, h2, _⟩
  · cases hg
  · cases hg
    exact ⟨cur, h2⟩
theorem NetAt.nb_ne (h : NetAt w B nb vp vl va vt ts) {g : Nat} (hg : vt.ownBlock = some g) : nb ≠ g := by
  obtain ⟨cur, hb⟩ := own_ty h.row hg
  refine block_ne h.head hb fun e => ?_
  injection e with _ e2 _
  cases e2
/-- A table more, behind the others. -/
theorem NetAt.push {wa w2 : World} {p mb : Nat} {F : List Nat} {L : List Rl} {vt' : Value} (h : NetAt w B nb vp vl va vt ts) (k : Below w.heap.size w wa) (hT : TabAt wa p mb F L) (hF : ∀ x ∈ F, w.heap.size ≤ x) (hm : w.heap.size ≤ mb)
    (how : w2.ownsRow B 174 1 vt' (ts.length + 1) (ts.map tdV ++ [.pointer (some ⟨p, 0, none⟩)])) (hg : wa.grownBy w2 vt.ownBlock) (hat : vt'.ownBlock = vt.ownBlock ∨ vt'.ownBlock = some wa.heap.size) :
    NetAt (w2.setCell ⟨nb, 3, none⟩ vt') B nb vp vl va vt' (ts ++ [⟨p, mb, F, L⟩]) := by
  have h2 := h.below k
  have hnl := lt_of_block h.head
  have hS : Kept vt.ownBlock.toList wa w2 := (Kept.refl _ _).grown_rowT hg (fun x e => Or.inl (by rw [e]; simp))
  have hgl : ∀ g, vt.ownBlock = some g → g < w.heap.size := fun g e => own_inN h.row e
  have hfl : ∀ t ∈ ts, ∀ x ∈ t.foot, x < w.heap.size := fun t ht => (h.tab t ht).foot_lt
  have hnew : ∀ x ∈ mb :: F, w.heap.size ≤ x := fun x hx => by
    rcases List.mem_cons.1 hx with rfl | hx
    · exact hm
    · exact hF x hx
  have hhead : w2.heap[nb]? = some (.cells #[vp, vl, va, vt] 173 (0, 0)) := (hS.block nb (Nat.lt_of_lt_of_le hnl k.size) (fun hm => h.nb_ne (Option.mem_toList.1 hm) rfl)).trans h2.head
  have k3 : Kept [nb] w2 (w2.setCell ⟨nb, 3, none⟩ vt') := Kept.of_setCell w2 ⟨nb, 3, none⟩ vt'
  have hvn : ∀ g, vt'.ownBlock = some g → nb ≠ g := fun g e => by
    rcases hat with h1 | h1
    · exact h.nb_ne (h1.symm.trans e)
    · have : wa.heap.size = g := Option.some.inj (h1.symm.trans e)
      have := k.size
      omega
  have hkeep : ∀ q m G M, TabAt wa q m G M → (∀ x ∈ m :: G, x ≠ nb ∧ vt.ownBlock ≠ some x) → TabAt (w2.setCell ⟨nb, 3, none⟩ vt') q m G M := fun q m G M hq hx =>
    (hq.kept hS (fun x hxG hc => (hx x (List.mem_cons_of_mem _ hxG)).2 (Option.mem_toList.1 hc)) (fun hc => (hx m List.mem_cons_self).2 (Option.mem_toList.1 hc))).kept k3 (fun x hxG hc => (hx x (List.mem_cons_of_mem _ hxG)).1 (List.mem_singleton.1 hc)) (fun hc => (hx m List.mem_cons_self).1 (List.mem_singleton.1 hc))
  refine ⟨?_, ?_, ?_, ?_, ?_, ?_, ?_⟩
  · have := set_block hhead 3 vt'
    exact this
  · rw [List.map_append, List.length_append]
    exact own_kept how k3 (fun g e hc => hvn g e (List.mem_singleton.1 hc).symm)
  · intro t ht
    rcases List.mem_append.1 ht with ht | ht
    · exact hkeep _ _ _ _ (h2.tab t ht) fun x hx => ⟨fun e => (h.far t ht).1 (e ▸ hx), fun e => (h.far t ht).2 x e hx⟩
    · obtain rfl := List.mem_singleton.1 ht
      exact hkeep _ _ _ _ hT fun x hx => ⟨fun e => by have := hnew x hx; omega, fun e => by have := hnew x hx; have := hgl x e; omega⟩
  · rw [List.pairwise_append]
    refine ⟨h.apart, by simp, fun a ha b hb x hx hx2 => ?_⟩
    obtain rfl := List.mem_singleton.1 hb
    have h1 := hfl a ha x hx
    have h2 := hnew x hx2
    omega
  · intro t ht
    rcases List.mem_append.1 ht with ht | ht
    · refine ⟨(h.far t ht).1, fun g e hx => ?_⟩
      rcases hat with h1 | h1
      · exact (h.far t ht).2 g (h1.symm.trans e) hx
      · have e2 : wa.heap.size = g := Option.some.inj (h1.symm.trans e)
        have := hfl t ht g hx
        have := k.size
        omega
    · obtain rfl := List.mem_singleton.1 ht
      refine ⟨fun hx => by have := hnew nb hx; omega, fun g e hx => ?_⟩
      rcases hat with h1 | h1
      · have := hgl g (h1.symm.trans e)
        have := hnew g hx
        omega
      · have e2 : wa.heap.size = g := Option.some.inj (h1.symm.trans e)
        have := hT.foot_lt g hx
        omega
  · refine ⟨h.lo.1, fun t ht x hx => ?_⟩
    rcases List.mem_append.1 ht with ht | ht
    · exact h.lo.2 t ht x hx
    · obtain rfl := List.mem_singleton.1 ht
      exact Nat.le_trans h.size (hnew x hx)
  · exact Nat.le_trans h2.size (Nat.le_trans hS.size k3.size)
/-- What else was there stays. -/
theorem NetAt.push_below {wa w2 : World} {B0 : Nat} {vt' : Value} (h : NetAt w B nb vp vl va vt ts) (hB : B0 ≤ B) (k : Below w.heap.size w wa) (hg : wa.grownBy w2 vt.ownBlock) : Below B0 w (w2.setCell ⟨nb, 3, none⟩ vt') := by
  have hS : Kept vt.ownBlock.toList wa w2 := (Kept.refl _ _).grown_rowT hg (fun x e => Or.inl (by rw [e]; simp))
  have h1 : Below B0 w wa := k.mono (Nat.le_trans hB h.size)
  have h2 : Below B0 wa w2 := hS.below (Nat.le_trans (Nat.le_trans hB h.size) k.size) (fun x hx => Nat.le_trans hB (own_pastT h.row x (Option.mem_toList.1 hx)))
  have h3 : Below B0 w2 (w2.setCell ⟨nb, 3, none⟩ vt') := (Kept.of_setCell w2 ⟨nb, 3, none⟩ vt').below (Nat.le_trans (Nat.le_trans (Nat.le_trans hB h.size) k.size) hS.size) (fun x hx => by rw [List.mem_singleton.1 hx]; exact Nat.le_trans hB h.lo.1)
  exact (h1.trans h2).trans h3
end Go.Proofs.YtjoblahedgpgbaaGreat

namespace Go.Proofs.YtjoblahedgpgbaaGreat
set_option linter.unusedVariables false
set_option linter.unusedSimpArgs false
open Go.RowKit
variable {w : World} {B nb : Nat} {vp vl va vt : Value} {ts : List TD} {T : Tp}

theorem nets_empty (n : Nat) : (List.replicate n ([] : List Rl)) ++ [[]] = List.replicate (n + 1) [] := by
  rw [List.replicate_succ']
theorem head_net {w1 : World} (hz : w.heap.size ≤ w1.heap.size) : NetAt (w1.alloc (.cells #[vp, vl, va, .slice none 0 0] 173)) w.heap.size w1.heap.size vp vl va (.slice none 0 0) [] :=
  ⟨heap_alloc_new w1 _, World.ownsRow_nil _ _ _ _, fun t ht => (by cases ht), List.Pairwise.nil, fun t ht => (by cases ht), ⟨hz, fun t ht => (by cases ht)⟩, by simp; omega⟩

set_option maxRecDepth 100000 in
set_option maxHeartbeats 4000000 in
theorem nnew_bad (h : TpIn B w vp vl va T) (hB : B ≤ w.heap.size) (hl : lightT T = true) (hc : checkT T ≠ 0) : Calls Tryz.prog 29 #[.agg #[vp, vl, va]] w fun e w' => e = .returned (.tuple #[.pointer none, .int .i64 (checkT T)]) ∧ Below w.heap.size w w' := by
  have H := Lib.hid h
  obtain ⟨l1, l2, l3⟩ := (lightT_iff T).1 hl
  obtain ⟨ap, cp, rfl, _⟩ := h.ports
  obtain ⟨al, cl, rfl, _⟩ := h.links
  obtain ⟨aa, ca, rfl, _⟩ := h.aces
  clear h
  have HX := Lib.hid (heap_alloc_new w (.cells #[.slice ap T.ports.length cp, .slice al T.links.length cl, .slice aa T.aces.length ca] 26))
  have HK := Lib.hid ((Below.refl w.heap.size w).alloc (Nat.le_refl _) (.cells #[.slice ap T.ports.length cp, .slice al T.links.length cl, .slice aa T.aces.length ca] 26))
  have HC := Lib.hid (tcheck_calls (H.out.kept (HK.out.mono hB)) (Nat.le_trans hB HK.out.size) l1 l2 l3)
  generalize checkT T = c at *
  have hc2 : (c == 0) = false := beq_eq_false_iff_ne.2 hc
  go_enter Tryz.func29, Tryz.ntmps29
  go_upto_region 1 with (fail)
  generalize w.alloc (.cells #[.slice ap T.ports.length cp, .slice al T.links.length cl, .slice aa T.aces.length ca] 26) = w1 at *
  have z0 := cell_of HX.out 0
  have z1 := cell_of HX.out 1
  have z2 := cell_of HX.out 2
  simp only [List.getElem?_toArray, List.getElem?_cons_zero, List.getElem?_cons_succ] at z0 z1 z2
  go_wp2_with (fail)
  refine Calls.mono HC.out ?_
  rintro e w2 ⟨he, k2⟩
  subst he
  have HK2 := Lib.hid (HK.out.trans (k2.mono HK.out.size))
  clear k2 z0 z1 z2
  go_wp2_with (fail)
  exact bodyPost_ret (v := .tuple #[.pointer none, .int .i64 c]) (by simp [results, Tryz.results29, go_sem]) rfl ⟨rfl, HK2.out⟩

set_option maxRecDepth 100000 in
set_option maxHeartbeats 8000000 in
theorem nnew_calls (h : TpIn B w vp vl va T) (hB : B ≤ w.heap.size) (hl : lightT T = true) (hc : checkT T = 0) : Calls Tryz.prog 29 #[.agg #[vp, vl, va]] w fun e w' => ∃ nb vt ts, e = .returned (.tuple #[.pointer (some ⟨nb, 0, none⟩), .int .i64 0]) ∧ NetAt w' w.heap.size nb vp vl va vt ts ∧ TD.Ls ts = List.replicate T.ports.length [] ∧ Below w.heap.size w w' := by
  obtain ⟨i0, hi, hz0, hz1, hz2⟩ := info_parts tabp_info
  have H := Lib.hid h
  obtain ⟨l1, l2, l3⟩ := (lightT_iff T).1 hl
  obtain ⟨ap, cp, rfl, _⟩ := h.ports
  obtain ⟨al, cl, rfl, _⟩ := h.links
  obtain ⟨aa, ca, rfl, _⟩ := h.aces
  clear h
  have HX := Lib.hid (heap_alloc_new w (.cells #[.slice ap T.ports.length cp, .slice al T.links.length cl, .slice aa T.aces.length ca] 26))
  have HK := Lib.hid ((Below.refl w.heap.size w).alloc (Nat.le_refl _) (.cells #[.slice ap T.ports.length cp, .slice al T.links.length cl, .slice aa T.aces.length ca] 26))
  have hcc := tcheck_calls (H.out.kept (HK.out.mono hB)) (Nat.le_trans hB HK.out.size) l1 l2 l3
  rw [hc] at hcc
  have HC := Lib.hid hcc
  clear hc hl hcc l2 l3
  go_enter Tryz.func29, Tryz.ntmps29
  go_upto_region 1 with (fail)
  generalize w.alloc (.cells #[.slice ap T.ports.length cp, .slice al T.links.length cl, .slice aa T.aces.length ca] 26) = w1 at *
  have z0 := cell_of HX.out 0
  have z1 := cell_of HX.out 1
  have z2 := cell_of HX.out 2
  simp only [List.getElem?_toArray, List.getElem?_cons_zero, List.getElem?_cons_succ] at z0 z1 z2
  go_wp2_with (fail)
  refine Calls.mono HC.out ?_
  rintro e w2 ⟨he, k2⟩
  subst he
  have HX2 := Lib.hid ((k2.block _ (lt_of_block HX.out)).trans HX.out)
  have HK2 := Lib.hid (HK.out.trans (k2.mono HK.out.size))
  clear k2 z0 z1 z2
  have z0 := cell_of HX2.out 0
  have z1 := cell_of HX2.out 1
  have z2 := cell_of HX2.out 2
  simp only [List.getElem?_toArray, List.getElem?_cons_zero, List.getElem?_cons_succ] at z0 z1 z2
  have HN0 := Lib.hid (head_net (vp := .slice ap T.ports.length cp) (vl := .slice al T.links.length cl) (va := .slice aa T.aces.length ca) HK2.out.size)
  have HK3 := Lib.hid (HK2.out.alloc HK2.out.size (.cells #[.slice ap T.ports.length cp, .slice al T.links.length cl, .slice aa T.aces.length ca, .slice none 0 0] 173))
  have HX3 := Lib.hid (blk_alloc HX2.out (.cells #[.slice ap T.ports.length cp, .slice al T.links.length cl, .slice aa T.aces.length ca, .slice none 0 0] 173))
  go_upto_region 5 with (fail)
  generalize w2.alloc (.cells #[.slice ap T.ports.length cp, .slice al T.links.length cl, .slice aa T.aces.length ca, .slice none 0 0] 173) = w3 at *
  clear z0 z1 z2
  have z0 := cell_of HX3.out 0
  simp only [List.getElem?_toArray, List.getElem?_cons_zero, List.getElem?_cons_succ] at z0
  go_wp2_with (fail)
  go_loopg [17] T.ports.length (fun gk vi wr => ∃ (i : Nat) (vt : Value) (ts : List TD), i + gk = T.ports.length ∧ vi = .int .i64 (i : Int) ∧ NetAt wr w.heap.size w2.heap.size (.slice ap T.ports.length cp) (.slice al T.links.length cl) (.slice aa T.aces.length ca) vt ts ∧ TD.Ls ts = List.replicate i [] ∧ Below w.heap.size w wr)
  case atStart => exact ⟨0, _, [], by omega, rfl, HN0.out, rfl, HK3.out⟩
  case round =>
    obtain ⟨i, vt, ts, hgk, rfl, hN, hL, hK⟩ := hrel
    have HN := Lib.hid hN
    have HL := Lib.hid hL
    have HKR := Lib.hid hK
    obtain rfl : i = ts.length := by have := congrArg List.length hL; simpa [TD.Ls] using this.symm
    by_cases hlt : ts.length < T.ports.length
    · obtain ⟨ao, cap, rfl, _⟩ := hN.shape
      have c3 := cell_of hN.head 3
      simp only [List.getElem?_toArray, List.getElem?_cons_zero, List.getElem?_cons_succ] at c3
      have HNEW : Hid (∀ W, Below wr.heap.size wr W → Calls Tryz.prog 89 #[] W fun e w' => ∃ p mb, e = .returned (.pointer (some ⟨p, 0, none⟩)) ∧ TabAt w' p mb [p] [] ∧ wr.heap.size ≤ p ∧ wr.heap.size ≤ mb ∧ Below wr.heap.size wr w' ∧ w'.heap[w2.heap.size]? = some (.cells #[.slice ap T.ports.length cp, .slice al T.links.length cl, .slice aa T.aces.length ca, .slice ao ts.length cap] 173 (0, 0)) ∧ w'.cell? ⟨w2.heap.size, 3, none⟩ = some (.slice ao ts.length cap)) := Lib.hid (fun W kW => (tnew_calls W).mono (by
        rintro e w' ⟨p, mb, he, hT, hp, hm, hk⟩
        have kk := kW.trans (hk.mono kW.size)
        have hh := (kk.block _ (lt_of_block HN.out.head)).trans HN.out.head
        exact ⟨p, mb, he, hT, Nat.le_trans kW.size hp, Nat.le_trans kW.size hm, kk, hh, cell_of hh 3⟩))
      have HOWN : Hid (∀ W, Below wr.heap.size wr W → W.ownsRow w.heap.size 174 1 (.slice ao ts.length cap) ts.length (ts.map tdV)) := Lib.hid (fun W kW => own_kept HN.out.row (Kept.of_below (S := []) kW) (by simp))
      have hl40 : ts.length ≤ 40 := by omega
      have HNB : Hid (∀ g, (Value.slice ao ts.length cap).ownBlock = some g → w2.heap.size ≠ g) := Lib.hid (fun g hg => HN.out.nb_ne hg)
      have HLO := Lib.hid (Nat.le_trans HKR.out.size (Nat.le_refl _))
      clear hN hL hK
      go_upto_region 7 with (fail)
      have hBd := (Below.refl wr.heap.size wr).drew
      go_region_law (first | (go_simp; go_at_call 89; refine Calls.mono (HNEW.out _ (by assumption)) ?_; rintro e w5 ⟨p, mb, he, hT, hp, hm, hB5, h5, c5⟩; subst he; have HB5 := Lib.hid (And.intro hT (And.intro hp (And.intro hm hB5))); have H5 := Lib.hid h5; have c5b := cell_of (blk_alloc h5 (.cells #[.pointer (some ⟨p, 0, none⟩)] 174)) 3; simp only [List.getElem?_toArray, List.getElem?_cons_zero, List.getElem?_cons_succ] at c5b; clear hT hp hm h5) | (refine step_append_lies _ rfl (.tmp 23) (.tmp 25) 171 rfl w.heap.size 174 i0 _ 1 8 Tryz.underlying171 hi hz0 hz1 hz2 rfl (by decide) _ ts.length (ts.map tdV) rfl ?_ ⟨w5.heap.size, 0, none⟩ 1 1 [.pointer (some ⟨p, 0, none⟩)] rfl rfl ?_ ?_ (by omega) ?_ ?_ ?_ _ rfl ?_; (· exact own_kept (HOWN.out _ HB5.out.2.2.2) ((Kept.refl [] _).alloc _) (by simp)); (· exact news_atT (by simp)); (· simp [Value.oneCell']); (· unfold maxLen; omega); (· omega); (· have := HLO.out; have := HB5.out.2.2.2.size; simp; omega); intro g9 cap9 w9 how9 hgr9 hat9 hlt9; have HOW9 := Lib.hid how9; have HGR9 := Lib.hid hgr9; have HAT9 := Lib.hid hat9; have h9 : w9.heap[w2.heap.size]? = some (.cells #[.slice ap T.ports.length cp, .slice al T.links.length cl, .slice aa T.aces.length ca, .slice ao ts.length cap] 173 (0, 0)) := (hgr9.block w2.heap.size (by have := lt_of_block H5.out; simp; omega) (fun e => HNB.out _ e.symm rfl)).trans (blk_alloc H5.out _); have c9 := cell_of h9 3; have f9 := unfrozen_of h9 3; simp only [List.getElem?_toArray, List.getElem?_cons_zero, List.getElem?_cons_succ] at c9; clear h9; clear how9 hgr9 hat9 hlt9))
      all_goals
        obtain ⟨hT, hp, hm, hk5⟩ := HB5.out
        have hk6 := hk5.alloc hk5.size (.cells #[.pointer (some ⟨p, 0, none⟩)] 174)
        have hT6 := hT.kept (Kept.of_alloc (S := []) w5 (.cells #[.pointer (some ⟨p, 0, none⟩)] 174)) (by simp) (by simp)
        have HN2 := Lib.hid (HN.out.push hk6 hT6 (by simpa using hp) hm HOW9.out HGR9.out (HAT9.out.elim (fun e => Or.inl e.symm) (fun e => Or.inr (congrArg some e))))
        have HK2 := Lib.hid (HKR.out.trans (HN.out.push_below (Nat.le_refl _) hk6 HGR9.out (vt' := .slice (some ⟨g9, 0, none⟩) (ts.length + 1) cap9)))
        clear hT hp hm hk5 hk6 hT6
        go_wp2_with (fail)
        go_roundg (gk - 1)
        case measure => omega
        case rel => exact ⟨ts.length + 1, _, ts ++ [⟨p, mb, [p], []⟩], by omega, by go_num, HN2.out, by rw [← nets_empty, ← HL.out]; simp [TD.Ls], HK2.out⟩
    · have hE : T.ports.length = ts.length := by omega
      have HE := Lib.hid hE
      clear hN hL hK hE
      go_wp2_with (fail)
      exact bodyPost_ret (v := .tuple #[.pointer (some ⟨w2.heap.size, 0, none⟩), .int .i64 0]) (by simp [results, Tryz.results29, go_sem]) rfl ⟨w2.heap.size, vt, ts, rfl, HN.out, by rw [HL.out, HE.out], HKR.out⟩

set_option maxRecDepth 100000 in
set_option maxHeartbeats 8000000 in
theorem nclone_calls (h : NetAt w B nb vp vl va vt ts) (hl : ts.length ≤ 40) (hL : ∀ t ∈ ts, t.L.length < 100000) : Calls Tryz.prog 70 #[.pointer (some ⟨nb, 0, none⟩)] w fun e w' => ∃ nb2 vt2 ts2, e = .returned (.pointer (some ⟨nb2, 0, none⟩)) ∧ NetAt w' w.heap.size nb2 vp vl va vt2 ts2 ∧ TD.Ls ts2 = TD.Ls ts ∧ Below w.heap.size w w' := by
  obtain ⟨i0, hi, hz0, hz1, hz2⟩ := info_parts tabp_info
  have H := Lib.hid h
  have HLL := Lib.hid hL
  obtain ⟨ao0, cap0, rfl, hao0⟩ := h.shape
  have HAO := Lib.hid hao0
  have c0 := cell_of h.head 0
  have c1 := cell_of h.head 1
  have c2 := cell_of h.head 2
  simp only [List.getElem?_toArray, List.getElem?_cons_zero, List.getElem?_cons_succ] at c0 c1 c2
  have HN0 := Lib.hid (head_net (vp := vp) (vl := vl) (va := va) (Nat.le_refl w.heap.size))
  have hkx := (Below.refl w.heap.size w).alloc (Nat.le_refl _) (.cells #[vp, vl, va, .slice none 0 0] 173)
  have HK1 := Lib.hid hkx
  have c3 := cell_of (h.below hkx).head 3
  simp only [List.getElem?_toArray, List.getElem?_cons_zero, List.getElem?_cons_succ] at c3
  clear h hL hao0 hkx
  go_enter Tryz.func70, Tryz.ntmps70
  go_upto_region 4 with (fail)
  clear c0 c1 c2
  generalize w.alloc (.cells #[vp, vl, va, .slice none 0 0] 173) = w1 at *
  go_wp2_with (fail)
  go_loopg [19] ts.length (fun gk vi wr => ∃ (i : Nat) (vt2 : Value) (tn : List TD), i + gk = ts.length ∧ vi = .int .i64 (i : Int) ∧ NetAt wr w.heap.size w.heap.size vp vl va vt2 tn ∧ TD.Ls tn = (TD.Ls ts).take i ∧ Below w.heap.size w wr)
  case atStart => exact ⟨0, _, [], by omega, rfl, HN0.out, rfl, HK1.out⟩
  case round =>
    obtain ⟨i, vt2, tn, hgk, rfl, hN, hLs, hK⟩ := hrel
    have HN := Lib.hid hN
    have HL := Lib.hid hLs
    have HKR := Lib.hid hK
    obtain rfl : i = tn.length := by
      have := congrArg List.length hLs
      simp only [TD.Ls, List.length_map, List.length_take] at this
      omega
    by_cases hlt : tn.length < ts.length
    · obtain ⟨g0, rfl⟩ := HAO.out tn.length hlt
      have hsrc := H.out.below hK
      obtain ⟨g2, cap2, he, e0⟩ := hsrc.at hlt
      cases he
      obtain ⟨ao, cap, rfl, _⟩ := hN.shape
      have c3 := cell_of hN.head 3
      simp only [List.getElem?_toArray, List.getElem?_cons_zero, List.getElem?_cons_succ] at c3
      have HTL : Hid ((TD.Ls ts).take (tn.length + 1) = (TD.Ls ts).take tn.length ++ [ts[tn.length].L]) := Lib.hid (by
        rw [List.take_add_one, show (TD.Ls ts)[tn.length]? = some ts[tn.length].L by simp [TD.Ls, hlt]]
        rfl)
      have htab := hsrc.tab _ (List.getElem_mem hlt)
      have hll := HLL.out _ (List.getElem_mem hlt)
      generalize ts[tn.length] = td at *
      have HNEW : Hid (∀ W, Below wr.heap.size wr W → Calls Tryz.prog 138 #[.pointer (some ⟨td.p, 0, none⟩)] W fun e w' => ∃ p mb F, e = .returned (.pointer (some ⟨p, 0, none⟩)) ∧ TabAt w' p mb F td.L ∧ (∀ x ∈ F, wr.heap.size ≤ x) ∧ wr.heap.size ≤ mb ∧ Below wr.heap.size wr w' ∧ w'.heap[w.heap.size]? = some (.cells #[vp, vl, va, .slice ao tn.length cap] 173 (0, 0)) ∧ w'.cell? ⟨w.heap.size, 3, none⟩ = some (.slice ao tn.length cap)) := Lib.hid (fun W kW => (tclone_calls (htab.kept (Kept.of_below (S := []) kW) (by simp) (by simp)) hll).mono (by
        rintro e w' ⟨p, mb, F, he, hT, hF, hm, hk⟩
        have kk := kW.trans (hk.mono kW.size)
        have hh := (kk.block _ (lt_of_block HN.out.head)).trans HN.out.head
        exact ⟨p, mb, F, he, hT, fun x hx => Nat.le_trans kW.size (hF x hx), Nat.le_trans kW.size hm, kk, hh, cell_of hh 3⟩))
      have HOWN : Hid (∀ W, Below wr.heap.size wr W → W.ownsRow w.heap.size 174 1 (.slice ao tn.length cap) tn.length (tn.map tdV)) := Lib.hid (fun W kW => own_kept HN.out.row (Kept.of_below (S := []) kW) (by simp))
      have hl40 : tn.length ≤ 40 := by omega
      have HNB : Hid (∀ g, (Value.slice ao tn.length cap).ownBlock = some g → w.heap.size ≠ g) := Lib.hid (fun g hg => HN.out.nb_ne hg)
      have HLO := Lib.hid (Nat.le_trans HKR.out.size (Nat.le_refl _))
      clear hN hLs hK hsrc htab hll
      go_upto_region 7 with (fail)
      have hBd := (Below.refl wr.heap.size wr).drew
      go_region_law (first | (go_simp; go_at_call 138; refine Calls.mono (HNEW.out _ (by assumption)) ?_; rintro e w5 ⟨p, mb, F, he, hT, hp, hm, hB5, h5, c5⟩; subst he; have HB5 := Lib.hid (And.intro hT (And.intro hp (And.intro hm hB5))); have H5 := Lib.hid h5; have c5b := cell_of (blk_alloc h5 (.cells #[.pointer (some ⟨p, 0, none⟩)] 174)) 3; simp only [List.getElem?_toArray, List.getElem?_cons_zero, List.getElem?_cons_succ] at c5b; clear hT hp hm h5) | (refine step_append_lies _ rfl (.tmp 27) (.tmp 30) 171 rfl w.heap.size 174 i0 _ 1 8 Tryz.underlying171 hi hz0 hz1 hz2 rfl (by decide) _ tn.length (tn.map tdV) rfl ?_ ⟨w5.heap.size, 0, none⟩ 1 1 [.pointer (some ⟨p, 0, none⟩)] rfl rfl ?_ ?_ (by omega) ?_ ?_ ?_ _ rfl ?_; (· exact own_kept (HOWN.out _ HB5.out.2.2.2) ((Kept.refl [] _).alloc _) (by simp)); (· exact news_atT (by simp)); (· simp [Value.oneCell']); (· unfold maxLen; omega); (· omega); (· have := HLO.out; have := HB5.out.2.2.2.size; simp; omega); intro g9 cap9 w9 how9 hgr9 hat9 hlt9; have HOW9 := Lib.hid how9; have HGR9 := Lib.hid hgr9; have HAT9 := Lib.hid hat9; have h9 : w9.heap[w.heap.size]? = some (.cells #[vp, vl, va, .slice ao tn.length cap] 173 (0, 0)) := (hgr9.block w.heap.size (by have := lt_of_block H5.out; simp; omega) (fun e => HNB.out _ e.symm rfl)).trans (blk_alloc H5.out _); have c9 := cell_of h9 3; have f9 := unfrozen_of h9 3; simp only [List.getElem?_toArray, List.getElem?_cons_zero, List.getElem?_cons_succ] at c9; clear h9; clear how9 hgr9 hat9 hlt9))
      all_goals
        obtain ⟨hT, hp, hm, hk5⟩ := HB5.out
        have hk6 := hk5.alloc hk5.size (.cells #[.pointer (some ⟨p, 0, none⟩)] 174)
        have hT6 := hT.kept (Kept.of_alloc (S := []) w5 (.cells #[.pointer (some ⟨p, 0, none⟩)] 174)) (by simp) (by simp)
        have HN2 := Lib.hid (HN.out.push hk6 hT6 hp hm HOW9.out HGR9.out (HAT9.out.elim (fun e => Or.inl e.symm) (fun e => Or.inr (congrArg some e))))
        have HK2 := Lib.hid (HKR.out.trans (HN.out.push_below (Nat.le_refl _) hk6 HGR9.out (vt' := .slice (some ⟨g9, 0, none⟩) (tn.length + 1) cap9)))
        clear hT hp hm hk5 hk6 hT6
        go_wp2_with (fail)
        go_roundg (gk - 1)
        case measure => omega
        case rel => exact ⟨tn.length + 1, _, tn ++ [⟨p, mb, F, td.L⟩], by omega, by go_num, HN2.out, by rw [HTL.out, ← HL.out]; simp [TD.Ls], HK2.out⟩
    · have hE : ts.length = tn.length := by omega
      have HE := Lib.hid hE
      clear hN hLs hK hE
      go_wp2_with (fail)
      exact bodyPost_ret (v := .pointer (some ⟨w.heap.size, 0, none⟩)) (by simp [results, Tryz.results70, go_sem]) rfl ⟨w.heap.size, vt2, tn, rfl, HN.out, by rw [HL.out, List.take_of_length_le (by simp [TD.Ls]; exact Nat.le_of_eq HE.out)], HKR.out⟩
end Go.Proofs.YtjoblahedgpgbaaGreat
