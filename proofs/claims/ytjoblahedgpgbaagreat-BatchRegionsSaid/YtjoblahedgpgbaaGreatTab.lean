/- The table of rules in memory: the walks of New, Len, Get, Add, Drop. -/
import Derived.Test.YtjoblahedgpgbaaGreatTabP
namespace Go.Proofs.YtjoblahedgpgbaaGreat
set_option linter.unusedVariables false
set_option linter.unusedSimpArgs false
open Go.RowKit Go.Maps Go.MapKept Go.ChangeMaps

theorem idKeyed : Keyed Tryz.prog 3 := int_keyed Tryz.underlying3
theorem i64_inj (x y : Int) (h : i64 x = i64 y) : x = y := by injection h
theorem i64_key {x : Int} (h : okI x) : ∃ l, keyOf Tryz.prog 3 (i64 x) = some l := ⟨_, keyOf_int_mk Tryz.underlying3 (WalkArith.wf_i64 (by unfold okI at h; omega))⟩
def noRule : Rl := ⟨0, 0, 0, 0, 0, 0⟩
theorem rule_zero (w : World) : (zeroValue 89).run Tryz.prog w = .ok noRule.val w := by kernel_rfl

structure TabAt (w : World) (p mb : Nat) (F : List Nat) (L : List Rl) : Prop where
  head : w.cell? ⟨p, 0, none⟩ = some (.map (some mb))
  map : IsMapOf Tryz.prog 3 i64 Rl.val w mb L.length (findR L)
  tree : ∃ B S V, TreeAt w p F B S V ∧ TVals V L
  count : ∃ n : Int, w.cell? ⟨p, 4, none⟩ = some (.int .i64 n)
  apart : mb ∉ F
  lt : ∀ x ∈ F, x < w.heap.size
  ids : (L.map (·.id)).Nodup
  ok : ∀ r ∈ L, r.Ok
theorem TabAt.pF {w : World} {p mb : Nat} {F : List Nat} {L : List Rl} (h : TabAt w p mb F L) : p ∈ F := by
  obtain ⟨B, S, V, hT, _⟩ := h.tree
  exact (hT.node _ _ _ hT.root).1
theorem TabAt.kept {w w' : World} {p mb : Nat} {F S : List Nat} {L : List Rl} (h : TabAt w p mb F L) (k : Kept S w w') (hF : ∀ x ∈ F, x ∉ S) (hm : mb ∉ S) : TabAt w' p mb F L := by
  obtain ⟨B, S2, V, hT, hV⟩ := h.tree
  obtain ⟨n, hn⟩ := h.count
  exact ⟨k.cell h.head (hF p h.pF), h.map.of_block (k.block _ h.map.lt hm), ⟨B, S2, V, hT.kept k h.lt hF, hV⟩, ⟨n, k.cell hn (hF p h.pF)⟩, h.apart, fun x hx => Nat.lt_of_lt_of_le (h.lt x hx) k.size, h.ids, h.ok⟩
theorem TabAt.perm {w : World} {p mb : Nat} {F : List Nat} {L L' : List Rl} (h : TabAt w p mb F L) (hp : L.Perm L') : TabAt w p mb F L' := by
  obtain ⟨B, S2, V, hT, hV⟩ := h.tree
  refine ⟨h.head, ?_, ⟨B, S2, V, hT, hV.perm hp⟩, h.count, h.apart, h.lt, (hp.map _).nodup_iff.1 h.ids, fun r hr => h.ok r (hp.mem_iff.2 hr)⟩
  rw [← hp.length_eq]
  exact h.map.congr fun x => find_perm hp h.ids x

/-- What a call leaves that turned the table. -/
def TabPost (w w' : World) (p mb : Nat) (F : List Nat) (L' : List Rl) : Prop := ∃ F', TabAt w' p mb F' L' ∧ (∀ x ∈ F', x ∈ F ∨ w.heap.size ≤ x) ∧ Kept (mb :: F) w w'

theorem tree_empty {w : World} {p : Nat} {o : Nat × Nat} {u v : Value} {t : TypeId} (h : w.heap[p]? = some (.cells #[u, .slice none 0 0, .pointer none, .pointer none, v] t (0, 0))) : TreeAt w p [p] (fun π => if π = [] then some (p, 1) else none) (fun _ => .slice none 0 0) (fun _ => []) := by
  refine ⟨if_pos rfl, fun π b e => ?_, fun π g o e => ?_, fun π π' g o o' e e' => ?_, fun π e => ⟨rfl, Or.inl ⟨rfl, rfl⟩⟩, fun π k e e2 => by simp [Value.ownBlock] at e2, fun _ _ => rfl⟩
  · simp at e
  · by_cases hπ : π = []
    · rw [if_pos hπ] at e
      obtain ⟨rfl, rfl⟩ : p = g ∧ 1 = o := by simpa using e
      refine ⟨by simp, ?_, ?_, ?_, fun j => ?_⟩
      · rw [cell_of h]; rfl
      · rw [cell_of h]; simp [kidV]
      · rw [cell_of h]; simp [kidV]
      · exact unfrozen_of h j
    · rw [if_neg hπ] at e; cases e
  · by_cases hπ : π = []
    · by_cases hπ' : π' = []
      · rw [hπ, hπ']
      · rw [if_neg hπ'] at e'; cases e'
    · rw [if_neg hπ] at e; cases e

set_option maxRecDepth 100000 in
theorem tnew_calls (w : World) : Calls Tryz.prog 89 #[] w fun e w' => ∃ p mb, e = .returned (.pointer (some ⟨p, 0, none⟩)) ∧ TabAt w' p mb [p] [] ∧ w.heap.size ≤ p ∧ w.heap.size ≤ mb ∧ Below w.heap.size w w' := by
  have hmm := @run_makeMap Tryz.prog
  go_enter Tryz.func89, Tryz.ntmps89
  go_wp2_with (fail)
  have hM := IsMapOf.made w Tryz.prog 3 i64 Rl.val
  have hX := heap_alloc_new (w.alloc (.map #[] 0)) (.cells #[.map (some w.heap.size), .slice none 0 0, .pointer none, .pointer none, .int .i64 0] 276)
  have hz : (w.alloc (.map #[] 0)).heap.size = w.heap.size + 1 := by simp
  rw [hz] at hX
  refine bodyPost_ret (v := .pointer (some ⟨w.heap.size + 1, 0, none⟩)) (by simp [results, Tryz.results89, go_sem]) rfl ⟨w.heap.size + 1, w.heap.size, rfl, ⟨?_, ?_, ⟨_, _, _, tree_empty (o := (0, 0)) hX, TVals.nil⟩, ⟨0, ?_⟩, by simp, by simp, by simp, by simp⟩, by omega, Nat.le_refl _, ?_⟩
  · rw [cell_of hX]; rfl
  · exact (hM.of_block (Below.heap_alloc _ _ _ hM.lt)).congr fun x => rfl
  · rw [cell_of hX]; rfl
  · exact ((Below.refl w.heap.size w).alloc (Nat.le_refl _) _).alloc (by simp) _

theorem tlen_calls {w : World} {p mb : Nat} {F : List Nat} {L : List Rl} (h : TabAt w p mb F L) : Calls Tryz.prog 209 #[.pointer (some ⟨p, 0, none⟩)] w fun e w' => e = .returned (.int .i64 L.length) ∧ w' = w := by
  have c0 := h.head
  have hlen := h.map.len Tryz.underlying268 3
  have H := Lib.hid h
  clear h
  go_enter Tryz.func209, Tryz.ntmps209
  go_wp2_with (fail)
  exact bodyPost_ret (v := .int .i64 L.length) (by simp [results, Tryz.results209, go_sem]) rfl ⟨rfl, rfl⟩

/-- A look-up in the table's map. -/
theorem TabAt.look {w w' : World} {p mb : Nat} {F : List Nat} {L : List Rl} (h : TabAt w p mb F L) (hb : w'.heap[mb]? = w.heap[mb]?) {id : Int} (hid : okI id) (c : Bool) :
    (Instr.lookup 268 (.map (some mb)) (.int .i64 id) c).run Tryz.prog w' = .ok (if c then .tuple #[((findR L id).getD noRule).val, .bool (findR L id).isSome] else ((findR L id).getD noRule).val) w' := by
  have := (h.map.of_block hb).look idKeyed i64_inj Tryz.underlying268 (rule_zero _) id (i64_key hid) c
  cases hf : findR L id with
  | none => rw [hf] at this; exact this
  | some r => rw [hf] at this; exact this

set_option maxRecDepth 100000 in
theorem tget_calls {w : World} {p mb : Nat} {F : List Nat} {L : List Rl} (h : TabAt w p mb F L) (id : Int) (hid : okI id) : Calls Tryz.prog 77 #[.pointer (some ⟨p, 0, none⟩), .int .i64 id] w fun e w' => e = .returned (.tuple #[((findR L id).getD noRule).val, .bool (findR L id).isSome]) ∧ Below w.heap.size w w' := by
  have hlk := fun o => h.look (w' := w.alloc o) (Below.heap_alloc _ _ _ h.map.lt) hid true
  have c0 := fun o => (Kept.of_alloc (S := []) w o).cell h.head (by simp)
  simp only [if_true] at hlk
  clear h
  generalize (findR L id).getD noRule = r at *
  generalize (findR L id).isSome = b at *
  unfold Rl.val at *
  go_enter Tryz.func77, Tryz.ntmps77
  go_wp2_with (fail)
  simp [bodyPost, results, Tryz.results77, go_sem]
  exact ((Below.refl _ _).alloc (Nat.le_refl _) _).alloc (by simp) _

/-- What Add comes to. -/
def addT (L : List Rl) (r : Rl) : List Rl × Int := if rtB r.dst then (if (findR L r.id).isSome then (L, 4) else (r :: L, 0)) else (L, 13)
theorem TabAt.post0 {w w' : World} {p mb : Nat} {F : List Nat} {L : List Rl} (h : TabAt w p mb F L) (k : Below w.heap.size w w') : TabPost w w' p mb F L :=
  ⟨F, h.kept (Kept.of_below (S := []) k) (by simp) (by simp), fun x hx => Or.inl hx, (Kept.of_below k)⟩
theorem TabAt.post1 {w w1 w6 w' : World} {p mb : Nat} {F : List Nat} {L L' : List Rl} {V' : List Bool → List Int} (h : TabAt w p mb F L) (k : Kept [] w w1) (M : IsMapOf Tryz.prog 3 i64 Rl.val w6 mb L'.length (findR L')) (k6 : Kept [mb] w1 w6) (hT : TreeOut w6 w' p F V') (hV : TVals V' L') (hi : (L'.map (·.id)).Nodup) (ho : ∀ r ∈ L', r.Ok) : TabPost w w' p mb F L' := by
  obtain ⟨F', B', S', hT', hfoot, hlt⟩ := hT.ex
  have hmp : p ≠ mb := fun e => h.apart (e ▸ h.pF)
  have hml := h.map.lt
  have hk : Kept (mb :: F) w w' := ((k.mono (S' := mb :: F) (by simp)).trans k6 (fun i hi => Or.inl (by simpa using Or.inl (List.mem_singleton.1 hi)))).trans hT.kept (fun i hi => Or.inl (List.mem_cons_of_mem _ hi))
  have hz6 : w.heap.size ≤ w6.heap.size := Nat.le_trans k.size k6.size
  refine ⟨F', ⟨?_, M.of_block (hT.kept.block _ M.lt h.apart), ⟨B', S', V', hT', hV⟩, hT.count, fun hm => ?_, hlt, hi, ho⟩, fun x hx => (hfoot x hx).imp id (fun e => Nat.le_trans hz6 e), hk⟩
  · rw [hT.cell]
    exact k6.cell (k.cell h.head (by simp)) (by simpa using hmp)
  · rcases hfoot mb hm with h1 | h1
    · exact h.apart h1
    · omega

set_option maxRecDepth 100000 in
set_option maxHeartbeats 2000000 in
theorem tabadd_calls {w : World} {p mb : Nat} {F : List Nat} {L : List Rl} (h : TabAt w p mb F L) (hl : L.length < 100000) (r : Rl) (hr1 : r.addr < 2 ^ 32) (hr3 : okI r.id) : Calls Tryz.prog 141 #[.pointer (some ⟨p, 0, none⟩), r.val] w fun e w' =>
    e = .returned (.int .i64 (addT L r).2) ∧ TabPost w w' p mb F (addT L r).1 := by
  have HR := Lib.hid (fun w' => cright_calls w' r.dst hr1)
  have hX := heap_alloc_new w (.cells #[.int .i64 r.id, .int .i64 r.dev, .int .u32 (r.addr : Int), .int .i64 r.bits, .int .i64 r.prio, .int .i64 r.out] 89)
  have k0 := (Kept.refl [] w).alloc (.cells #[.int .i64 r.id, .int .i64 r.dev, .int .u32 (r.addr : Int), .int .i64 r.bits, .int .i64 r.prio, .int .i64 r.out] 89)
  have kb := (Below.refl w.heap.size w).alloc (Nat.le_refl _) (.cells #[.int .i64 r.id, .int .i64 r.dev, .int .u32 (r.addr : Int), .int .i64 r.bits, .int .i64 r.prio, .int .i64 r.out] 89)
  have HK0 := Lib.hid k0
  have HKB := Lib.hid kb
  have HX := Lib.hid hX
  have H0 := Lib.hid h
  have hval : r.val = .agg #[.int .i64 r.id, .int .i64 r.dev, .int .u32 (r.addr : Int), .int .i64 r.bits, .int .i64 r.prio, .int .i64 r.out] := rfl
  rw [hval]
  cases hrt : rtB r.dst with
  | false =>
    have hadd : addT L r = (L, 13) := by unfold addT; rw [hrt]; rfl
    rw [hadd]
    rw [hrt] at HR
    clear h hX k0 kb hrt hadd
    go_enter Tryz.func141, Tryz.ntmps141
    go_wp2_with (fail)
    refine (HR.out _).mono ?_
    rintro e w2 ⟨he, k2⟩
    subst he
    have K2 := Lib.hid k2
    clear k2
    go_wp2_with (fail)
    exact bodyPost_ret (v := .int .i64 13) (by simp [results, Tryz.results141, go_sem]) rfl ⟨rfl, H0.out.post0 (HKB.out.trans (K2.out.mono (by simp)))⟩
  | true =>
    rw [hrt] at HR
    obtain ⟨hb0, hb1, hb2⟩ := (rtB_iff _).1 hrt
    have hn0 : 0 ≤ r.bits := hb0
    have hn1 : r.bits ≤ 32 := hb1
    obtain ⟨n, hn⟩ := Int.eq_ofNat_of_zero_le hn0
    have HN := Lib.hid hn
    have HRT := Lib.hid hrt
    clear h hX k0 hb0 hb1 hb2 hn hrt kb
    go_enter Tryz.func141, Tryz.ntmps141
    go_wp2_with (fail)
    generalize w.alloc (.cells #[.int .i64 r.id, .int .i64 r.dev, .int .u32 (r.addr : Int), .int .i64 r.bits, .int .i64 r.prio, .int .i64 r.out] 89) = w1 at *
    refine (HR.out _).mono ?_
    rintro e w2 ⟨he, k2⟩
    subst he
    have k2' := HK0.out.trans (Kept.of_below (S := []) k2) (by simp)
    have hT := H0.out.kept k2' (by simp) (by simp)
    have HX2 := Lib.hid ((k2.block _ (lt_of_block HX.out)).trans HX.out)
    have K2 := Lib.hid (HKB.out.trans (k2.mono HKB.out.size))
    have HT := Lib.hid hT
    have c0 := hT.head
    have dx := And.intro (cell_of HX2.out 0) (And.intro (cell_of HX2.out 1) (And.intro (cell_of HX2.out 2) (And.intro (cell_of HX2.out 3) (And.intro (cell_of HX2.out 4) (cell_of HX2.out 5)))))
    simp only [List.getElem?_toArray, List.getElem?_cons_zero, List.getElem?_cons_succ] at dx
    have hlkd := hT.look (w' := w2.drew) rfl hr3 true
    have hlke := fun o => hT.look (w' := w2.drew.alloc o) (Below.heap_alloc w2.drew _ _ hT.map.lt) hr3 true
    simp only [if_true] at hlkd hlke
    have c0e := fun o => (Kept.of_alloc (S := []) w2.drew o).cell (show w2.drew.cell? ⟨p, 0, none⟩ = some (.map (some mb)) from c0) (by simp)
    have dxe := fun o => (Kept.of_alloc (S := []) w2.drew o).cell (show w2.drew.cell? ⟨w.heap.size, 0, none⟩ = some (.int .i64 r.id) from dx.1) (by simp)
    have c0d : w2.drew.cell? ⟨p, 0, none⟩ = some (.map (some mb)) := c0
    have dxd : w2.drew.cell? ⟨w.heap.size, 0, none⟩ = some (.int .i64 r.id) := dx.1
    clear k2 k2' hT hval
    unfold Rl.val at hlkd hlke
    generalize hfo : findR L r.id = fo at *
    have HFO := Lib.hid hfo
    clear hfo
    cases fo with
    | some r0 =>
      have hadd : addT L r = (L, 4) := by unfold addT; rw [HRT.out, HFO.out]; rfl
      have HADD := Lib.hid hadd
      clear hadd
      simp only [Option.getD_some, Option.isSome_some] at hlkd hlke
      have HB := Lib.hid (K2.out.trans (((Kept.refl [] w2).drew.below (Nat.le_refl _) (by simp)).mono K2.out.size))
      go_upto_region 5 with (fail)
      generalize hwd : w2.drew = wd at *
      go_region
      all_goals go_wp2_with (fail)
      exact bodyPost_ret (v := .int .i64 4) (by simp [results, Tryz.results141, go_sem]) rfl ⟨by rw [HADD.out], by rw [HADD.out]; exact H0.out.post0 (HB.out.alloc HB.out.size _)⟩
    | none =>
      have hadd : addT L r = (r :: L, 0) := by unfold addT; rw [HRT.out, HFO.out]; rfl
      have HADD := Lib.hid hadd
      clear hadd
      simp only [Option.getD_none, Option.isSome_none] at hlkd hlke
      unfold noRule at hlkd hlke
      have HB := Lib.hid (((Kept.of_below (S := []) K2.out).drew))
      have HXd := Lib.hid (blk_drew HX2.out)
      go_upto_region 5 with (fail)
      generalize hwd : w2.drew = wd at *
      go_region
      go_wp2_with (fail)
      have kd2 := HB.out.trans ((Kept.refl [] wd).alloc (.cells #[.int .i64 0, .int .i64 0, .int .u32 0, .int .i64 0, .int .i64 0, .int .i64 0] 89)) (by simp)
      have hb2 := blk_drew (blk_alloc HXd.out (.cells #[.int .i64 0, .int .i64 0, .int .u32 0, .int .i64 0, .int .i64 0, .int .i64 0] 89))
      clear hwd c0e dxe c0d dxd hlkd hlke c0 dx
      generalize wd.alloc (.cells #[.int .i64 0, .int .i64 0, .int .u32 0, .int .i64 0, .int .i64 0, .int .i64 0] 89) = w3 at *
      have HK3 := Lib.hid kd2.drew
      have hT3 := H0.out.kept kd2.drew (by simp) (by simp)
      have HT3 := Lib.hid hT3
      have c3 := hT3.head
      have HX3 := Lib.hid hb2
      have dx3 := And.intro (cell_of HX3.out 0) (And.intro (cell_of HX3.out 1) (And.intro (cell_of HX3.out 2) (And.intro (cell_of HX3.out 3) (And.intro (cell_of HX3.out 4) (cell_of HX3.out 5)))))
      simp only [List.getElem?_toArray, List.getElem?_cons_zero, List.getElem?_cons_succ] at dx3
      clear kd2 hb2 hT3
      go_upto_region 8 with (fail)
      go_still_tail 7, (by kernel_rfl)
      change wpList _ _ _ _ _ w3.drew
      generalize w3.drew = w4 at *
      go_wp2_with (at_mapUpdate; refine wpList_put _ rfl _ _ _ 268 89 rfl idKeyed i64_inj Tryz.underlying268 HT3.out.map r.id r (i64_key hr3) rfl rfl rfl ?_; intro w5 m5 hg5; have M5 := Lib.hid m5; have HG5 := Lib.hid hg5; clear m5 hg5)
      rw [HFO.out] at M5
      have k5 := Kept.of_grown HG5.out
      obtain ⟨B, S2, V, hTr, hV⟩ := HT3.out.tree
      obtain ⟨cn, hcn⟩ := HT3.out.count
      have hpF := H0.out.pF
      have hmp : p ≠ mb := fun e => H0.out.apart (e ▸ hpF)
      have hFm : ∀ x ∈ F, x ∉ [mb] := fun x hx hm => H0.out.apart (List.mem_singleton.1 hm ▸ hx)
      have hz0 := HB.out.size
      have hXm : w.heap.size ≠ mb := by have := H0.out.map.lt; omega
      have HTr := Lib.hid (hTr.kept k5.drew HT3.out.lt hFm)
      have hx5 := (k5.drew.block _ (lt_of_block HX3.out) (by simpa using hXm)).trans HX3.out
      have HX5 := Lib.hid hx5
      have dx5 := And.intro (cell_of hx5 0) (And.intro (cell_of hx5 2) (cell_of hx5 3))
      simp only [List.getElem?_toArray, List.getElem?_cons_zero, List.getElem?_cons_succ] at dx5
      have HF5 := Lib.hid (show ∀ x ∈ F, x < w5.drew.heap.size from fun x hx => Nat.lt_of_lt_of_le (HT3.out.lt x hx) k5.drew.size)
      have HC5 := Lib.hid (show ∃ nn : Int, w5.drew.cell? ⟨p, 4, none⟩ = some (.int .i64 nn) from ⟨cn, k5.drew.cell hcn (by simpa using hmp)⟩)
      have HV := Lib.hid hV
      have HK4 := HK3
      clear hTr hcn k5 hV dx3 hx5 c3
      go_upto_region 9 with (fail)
      go_still_tail 7, (by kernel_rfl)
      change wpList _ _ _ _ _ w5.drew
      generalize hw6 : w5.drew = w6 at *
      have HW6 := Lib.hid hw6
      clear hw6
      go_wp2_with (fail)
      have hpth : pth r.addr n = r.path := by unfold Rl.path; rw [HN.out]; rfl
      have hln := HV.out.len r.path
      have hnf := find_none.1 HFO.out
      have hc := tadd_calls HTr.out HF5.out r.addr n hr1 (by have := HN.out; omega) (by have := HRT.out; unfold Rl.dst at this; rwa [HN.out] at this) r.id (HV.out _).2 (by
        rw [hpth, Bool.eq_false_iff]
        intro hm
        obtain ⟨x, hx, _, he⟩ := HV.out.mem.1 (List.contains_iff_mem.1 hm)
        exact hnf x hx he) (by rw [hpth]; omega) HC5.out
      rw [hpth, show ((n : Nat) : Int) = r.bits from HN.out.symm] at hc
      refine hc.mono ?_
      rintro e w7 ⟨he, hout⟩
      subst he
      have HOUT := Lib.hid hout
      clear hc hout hpth
      go_wp2_with (fail)
      refine bodyPost_ret (v := .int .i64 0) (by simp [results, Tryz.results141, go_sem]) rfl ⟨by rw [HADD.out], ?_⟩
      rw [HADD.out]
      have hup : upd (findR L) r.id r = findR (r :: L) := by
        funext x
        unfold upd findR
        by_cases hx : x = r.id
        · rw [if_pos hx, List.find?_cons_of_pos (by simp [hx])]
        · rw [if_neg hx, List.find?_cons_of_neg (by simpa using fun e : r.id = x => hx e.symm)]
      refine TabAt.post1 H0.out HK3.out (by rw [← HW6.out]; exact (hup ▸ M5.out : IsMapOf _ _ _ _ w5 mb (r :: L).length (findR (r :: L)))) (by rw [← HW6.out]; exact (Kept.of_grown HG5.out).drew) HOUT.out (HV.out.add r hnf) ?_ ?_
      · rw [List.map_cons, List.nodup_cons]
        refine ⟨fun hm => ?_, H0.out.ids⟩
        obtain ⟨x, hx, he⟩ := List.mem_map.1 hm
        exact hnf x hx he
      · intro x hx
        rcases List.mem_cons.1 hx with rfl | hx
        · exact ⟨hr1, HRT.out, hr3⟩
        · exact H0.out.ok x hx


/-- What Drop comes to. -/
def dropT (L : List Rl) (id : Int) : List Rl × Int := if (findR L id).isSome then (L.filter fun r => decide (r.id ≠ id), 0) else (L, 3)
theorem drop_perm {L : List Rl} {r : Rl} (hn : (L.map (·.id)).Nodup) (hr : r ∈ L) : L.Perm (r :: L.filter fun x => decide (x.id ≠ r.id)) := by
  induction L with
  | nil => cases hr
  | cons a L ih =>
    rw [List.map_cons, List.nodup_cons] at hn
    rcases List.mem_cons.1 hr with rfl | hr
    · rw [List.filter_cons_of_neg (by simp), List.filter_eq_self.2 fun x hx => by simpa using fun e : x.id = r.id => hn.1 (e ▸ List.mem_map_of_mem hx)]
    · have hne : a.id ≠ r.id := fun e => hn.1 (e ▸ List.mem_map_of_mem hr)
      rw [List.filter_cons_of_pos (by simpa using hne)]
      exact ((ih hn.2 hr).cons a).trans (List.Perm.swap _ _ _)

theorem del_find : ∀ (L : List Rl) (id : Int), del (findR L) id = findR (L.filter fun r => decide (r.id ≠ id))
  | [], id => by
    funext x
    unfold del
    split <;> rfl
  | a :: L, id => by
    funext x
    have ih := congrFun (del_find L id) x
    unfold del findR at *
    by_cases ha : a.id = id
    · rw [List.filter_cons_of_neg (by simpa using ha), ← ih]
      by_cases hx : x = id
      · rw [if_pos hx, if_pos hx]
      · rw [if_neg hx, if_neg hx, List.find?_cons_of_neg (by simpa using fun e : a.id = x => hx (e.symm.trans ha))]
    · rw [List.filter_cons_of_pos (by simpa using ha)]
      by_cases hax : a.id = x
      · rw [if_neg (by omega), List.find?_cons_of_pos (by simpa using hax), List.find?_cons_of_pos (by simpa using hax)]
      · rw [List.find?_cons_of_neg (by simpa using hax), List.find?_cons_of_neg (by simpa using hax), ← ih]

set_option maxRecDepth 100000 in
set_option maxHeartbeats 2000000 in
theorem tabdrop_calls {w : World} {p mb : Nat} {F : List Nat} {L : List Rl} (h : TabAt w p mb F L) (hl : L.length < 100000) (id : Int) (hid : okI id) : Calls Tryz.prog 139 #[.pointer (some ⟨p, 0, none⟩), .int .i64 id] w fun e w' =>
    e = .returned (.int .i64 (dropT L id).2) ∧ TabPost w w' p mb F (dropT L id).1 := by
  have hlk := h.look (w' := w) rfl hid true
  have c0 := h.head
  have c0e := fun o => (Kept.of_alloc (S := []) w o).cell c0 (by simp)
  simp only [if_true] at hlk
  have H0 := Lib.hid h
  clear h
  unfold Rl.val at hlk
  generalize hfo : findR L id = fo at *
  have HFO := Lib.hid hfo
  clear hfo
  cases fo with
  | none =>
    have HADD := Lib.hid (show dropT L id = (L, 3) by unfold dropT; rw [HFO.out]; rfl)
    simp only [Option.getD_none, Option.isSome_none] at hlk
    unfold noRule at hlk
    go_enter Tryz.func139, Tryz.ntmps139
    go_wp2_with (fail)
    exact bodyPost_ret (v := .int .i64 3) (by simp [results, Tryz.results139, go_sem]) rfl ⟨by rw [HADD.out], by rw [HADD.out]; exact H0.out.post0 ((Below.refl _ _).alloc (Nat.le_refl _) _)⟩
  | some r =>
    have HADD := Lib.hid (show dropT L id = (L.filter fun r => decide (r.id ≠ id), 0) by unfold dropT; rw [HFO.out]; rfl)
    simp only [Option.getD_some, Option.isSome_some] at hlk
    obtain ⟨hrL, hrid⟩ := find_id HFO.out
    obtain ⟨hr1, hrt, hr3⟩ := H0.out.ok r hrL
    obtain ⟨hb0, hb1, hb2⟩ := (rtB_iff _).1 hrt
    have hn0 : 0 ≤ r.bits := hb0
    have hn1 : r.bits ≤ 32 := hb1
    obtain ⟨n, hn⟩ := Int.eq_ofNat_of_zero_le hn0
    have HN := Lib.hid hn
    have HRT := Lib.hid hrt
    have HRL := Lib.hid hrL
    have HRID := Lib.hid hrid
    have kd2 := (Kept.refl [] w).alloc (.cells #[.int .i64 r.id, .int .i64 r.dev, .int .u32 (r.addr : Int), .int .i64 r.bits, .int .i64 r.prio, .int .i64 r.out] 89)
    have hX := heap_alloc_new w (.cells #[.int .i64 r.id, .int .i64 r.dev, .int .u32 (r.addr : Int), .int .i64 r.bits, .int .i64 r.prio, .int .i64 r.out] 89)
    have HK3 := Lib.hid kd2
    have HT3 := Lib.hid (H0.out.kept kd2 (by simp) (by simp))
    have HX3 := Lib.hid hX
    clear kd2 hX hb0 hb1 hb2 hn hrt hrL hrid
    go_enter Tryz.func139, Tryz.ntmps139
    go_wp2_with (at_delete; go_must (refine wpList_drop _ rfl _ _ 268 89 rfl idKeyed i64_inj Tryz.underlying268 HT3.out.map id (i64_key hid) rfl rfl ?_); intro w5 m5 hg5; have M5 := Lib.hid m5; have HG5 := Lib.hid hg5; clear m5 hg5)
    rw [HFO.out] at M5
    have k5 := Kept.of_grown HG5.out
    obtain ⟨B, S2, V, hTr, hV⟩ := HT3.out.tree
    obtain ⟨cn, hcn⟩ := HT3.out.count
    have hpF := H0.out.pF
    have hmp : p ≠ mb := fun e => H0.out.apart (e ▸ hpF)
    have hFm : ∀ x ∈ F, x ∉ [mb] := fun x hx hm => H0.out.apart (List.mem_singleton.1 hm ▸ hx)
    have hXm : w.heap.size ≠ mb := by have := H0.out.map.lt; omega
    have HTr := Lib.hid (hTr.kept k5.drew HT3.out.lt hFm)
    have hx5 := (k5.drew.block _ (lt_of_block HX3.out) (by simpa using hXm)).trans HX3.out
    have dx5 := And.intro (cell_of hx5 0) (And.intro (cell_of hx5 2) (cell_of hx5 3))
    simp only [List.getElem?_toArray, List.getElem?_cons_zero, List.getElem?_cons_succ] at dx5
    have HF5 := Lib.hid (show ∀ x ∈ F, x < w5.drew.heap.size from fun x hx => Nat.lt_of_lt_of_le (HT3.out.lt x hx) k5.drew.size)
    have HC5 := Lib.hid (show ∃ nn : Int, w5.drew.cell? ⟨p, 4, none⟩ = some (.int .i64 nn) from ⟨cn, k5.drew.cell hcn (by simpa using hmp)⟩)
    have HV := Lib.hid hV
    clear hTr hcn k5 hV hx5
    go_upto_region 7 with (fail)
    go_still_tail 6, (by kernel_rfl)
    change wpList _ _ _ _ _ w5.drew
    generalize hw6 : w5.drew = w6 at *
    have HW6 := Lib.hid hw6
    clear hw6
    go_wp2_with (fail)
    have hpth : pth r.addr n = r.path := by unfold Rl.path; rw [HN.out]; rfl
    have hln := HV.out.len r.path
    have hp := drop_perm H0.out.ids HRL.out
    rw [HRID.out] at hp
    have HP := Lib.hid hp
    have hc := tdrop_calls HTr.out HF5.out r.addr n hr1 (by have := HN.out; omega) (by have := HRT.out; unfold Rl.dst at this; rwa [HN.out] at this) r.id (HV.out _).2 (by
      rw [hpth]
      exact List.contains_iff_mem.2 (HV.out.mem.2 ⟨r, HRL.out, rfl, rfl⟩)) (by rw [hpth]; omega) HC5.out
    rw [hpth, show ((n : Nat) : Int) = r.bits from HN.out.symm, HRID.out] at hc
    refine hc.mono ?_
    rintro e w7 ⟨he, hout⟩
    subst he
    have HOUT := Lib.hid hout
    clear hc hout hpth hp
    go_wp2_with (fail)
    refine bodyPost_ret (v := .int .i64 0) (by simp [results, Tryz.results139, go_sem]) rfl ⟨by rw [HADD.out], ?_⟩
    rw [HADD.out]
    have hup : del (findR L) id = findR (L.filter fun r => decide (r.id ≠ id)) := del_find L id
    have hlen : L.length - 1 = (L.filter fun r => decide (r.id ≠ id)).length := by rw [HP.out.length_eq]; rfl
    have m5 := M5.out
    rw [hup, show (if (some r).isSome = true then L.length - 1 else L.length) = (L.filter fun r => decide (r.id ≠ id)).length from hlen] at m5
    have hv5 := HV.out.drop r (HRID.out ▸ HP.out)
    rw [HRID.out] at hv5
    refine TabAt.post1 H0.out HK3.out (by rw [← HW6.out]; exact m5) (by rw [← HW6.out]; exact (Kept.of_grown HG5.out).drew) HOUT.out hv5 ?_ ?_
    · exact (H0.out.ids).sublist ((List.filter_sublist).map _)
    · intro x hx
      exact H0.out.ok x (List.mem_filter.1 hx).1

end Go.Proofs.YtjoblahedgpgbaaGreat
