/- The law's Made: the table of changes and the document's rules. -/
import Derived.Test.YtiedhjmnjpkcoaaPlay
import Derived.Test.YtiedhjmnjpkcoaaArgsO
namespace Go.Proofs.Ytiedhjmnjpkcoaa
set_option linter.unusedVariables false
set_option linter.unusedSimpArgs false
open Go.RowKit

/-- Changes that a law was handed. -/
structure OpsIn (W : World) (v : Value) (l : List Op) : Prop where
  wf : ∀ o ∈ l, o.rule.Wf
  val : ∃ ao cap, v = .slice ao l.length cap ∧ ∀ i, i < l.length → ∃ b off, ao = some ⟨b, off, none⟩ ∧ OpsAt W b off l ∧ b < W.heap.size

theorem ops_in {W : World} {v : Value} (h : ArgOps W v) : ∃ l, OpsIn W v l := by
  obtain ⟨l, h1, ⟨rfl, ao, cap, rfl⟩ | ⟨b, off, n, cap, h2, rfl, rfl, h3, h4, h5⟩⟩ := h
  · exact ⟨[], h1, ao, cap, rfl, fun i hi => by simp at hi⟩
  · exact ⟨l, h1, _, cap, rfl, fun i hi => ⟨b, off, rfl, h4, h5⟩⟩

/-- The cells of the change at a place. -/
theorem OpsAt.cells {W w : World} {b off : Nat} {l : List Op} (h : OpsAt W b off l) (hb : b < W.heap.size) (k : Below W.heap.size W w) (i : Nat) (hi : i < l.length) :
    w.cell? ⟨b, off + i * 7, none⟩ = some (.bool l[i].del) ∧ w.cell? ⟨b, off + i * 7 + 1, none⟩ = some (.int .i64 l[i].rule.id) ∧ w.cell? ⟨b, off + i * 7 + 2, none⟩ = some (.int .i64 l[i].rule.dev) ∧ w.cell? ⟨b, off + i * 7 + 3, none⟩ = some (.int .u32 (l[i].rule.addr : Int)) ∧
    w.cell? ⟨b, off + i * 7 + 4, none⟩ = some (.int .i64 l[i].rule.bits) ∧ w.cell? ⟨b, off + i * 7 + 5, none⟩ = some (.int .i64 l[i].rule.prio) ∧ w.cell? ⟨b, off + i * 7 + 6, none⟩ = some (.int .i64 l[i].rule.out) := by
  have hc : ∀ j u, l[i].cells[j]? = some u → w.cell? ⟨b, off + i * 7 + j, none⟩ = some u := by
    intro j u hu
    have := h i l[i] (List.getElem?_eq_getElem hi) j u hu
    rw [show off + (i * 7 + j) = off + i * 7 + j by omega] at this
    rw [World.cell?_of_block (k.block b hb)]
    exact this
  exact ⟨hc 0 _ rfl, hc 1 _ rfl, hc 2 _ rfl, hc 3 _ rfl, hc 4 _ rfl, hc 5 _ rfl, hc 6 _ rfl⟩

set_option maxRecDepth 100000 in
set_option maxHeartbeats 4000000 in
theorem made_calls {W : World} {v0 : Value} {ops : List Op} (h : OpsIn W v0 ops) (hn : ops.length ≤ 60) :
    Calls Try.prog 18 #[v0] W fun e w' => ∃ p mb v F L l, e = .returned (.tuple #[.pointer (some ⟨p, 0, none⟩), v]) ∧ PlayAt w' W.heap.size p mb v F L l ∧ Pair L l ∧ L.length ≤ ops.length ∧ Below W.heap.size W w' := by
  obtain ⟨hwf, ao, cap, rfl, hop⟩ := h
  have HWF := Lib.hid hwf
  have HOP := Lib.hid hop
  clear hwf hop
  go_enter Try.func18, Try.ntmps18
  go_wp2_with (fail)
  refine (tnew_calls W).mono ?_
  rintro e w1 ⟨p, mb, he, hT, hp, hm, hk⟩
  subst he
  have HPL : Hid (PlayAt w1 W.heap.size p mb (.slice none 0 0) [p] [] []) := Lib.hid (PlayAt.mk hT (World.ownsRow_nil _ _ _ _) (fun g hg => by simp [Value.ownBlock] at hg) ⟨hm, by simpa using hp⟩ hk.size)
  have HK := Lib.hid hk
  clear hT hk
  go_wp2_with (fail)
  go_loopg [5, 11] ops.length (fun gk vm vi wr => ∃ (i : Nat) (F : List Nat) (L l : List Rl), i + gk = ops.length ∧ vi = .int .i64 (i : Int) ∧ PlayAt wr W.heap.size p mb vm F L l ∧ Pair L l ∧ L.length ≤ i ∧ Below W.heap.size W wr)
  case atStart => exact ⟨0, [p], [], [], by omega, rfl, HPL.out, Pair.nil, by simp, HK.out⟩
  case round =>
    obtain ⟨i, F, L, l, hgk, rfl, hP, hpr, hL, hk⟩ := hrel
    have HP := Lib.hid hP
    have HPR := Lib.hid hpr
    have HK2 := Lib.hid hk
    clear hP hpr
    by_cases hlt : i < ops.length
    · obtain ⟨b, off, rfl, hat, hb⟩ := HOP.out i hlt
      have hc := hat.cells hb hk i hlt
      have hw := HWF.out _ (List.getElem_mem hlt)
      generalize ops[i] = o at *
      obtain ⟨del, r⟩ := o
      simp only at hc hw
      have HWR := Lib.hid hw
      clear hat hw hk
      have hLl : l.length = L.length := HPR.out.perm.length_eq
      cases del with
      | true =>
        have hX := heap_alloc_new wr (.cells #[.bool true, .int .i64 r.id, .int .i64 r.dev, .int .u32 (r.addr : Int), .int .i64 r.bits, .int .i64 r.prio, .int .i64 r.out] 47)
        have HX := Lib.hid hX
        have HKA := Lib.hid ((Below.refl wr.heap.size wr).alloc (Nat.le_refl _) (.cells #[.bool true, .int .i64 r.id, .int .i64 r.dev, .int .u32 (r.addr : Int), .int .i64 r.bits, .int .i64 r.prio, .int .i64 r.out] 47))
        clear hX
        go_wp2_with (fail)
        generalize wr.alloc (.cells #[.bool true, .int .i64 r.id, .int .i64 r.dev, .int .u32 (r.addr : Int), .int .i64 r.bits, .int .i64 r.prio, .int .i64 r.out] 47) = wa at *
        have hpa := HP.out.below HKA.out
        refine (tabdrop_calls hpa.tab (by omega) r.id HWR.out.2.1).mono ?_
        rintro e w2 ⟨he, hpost⟩
        subst he
        obtain ⟨F2, hP2, hb2, hx2⟩ := hpa.tab_step hpost
        have hX2 := (hx2 wr.heap.size (lt_of_block HX.out) (by have := HP.out.tab.map.lt; omega) (fun hm => by have := HP.out.tab.lt _ hm; omega)).trans HX.out
        have d1 := cell_of hX2 1
        simp only [List.getElem?_toArray, List.getElem?_cons_zero, List.getElem?_cons_succ] at d1
        have HP2 := Lib.hid hP2
        have HK3 := Lib.hid (HK2.out.trans ((HKA.out.mono HK2.out.size).trans hb2))
        clear hpa hpost hP2 hb2 hx2 hX2
        go_wp2_with (fail)
        refine (rdrop_calls HP2.out.row (by omega) HPR.out.ids r.id).mono ?_
        rintro e w3 ⟨v', he, hro, hb3⟩
        subst he
        have HP3 := Lib.hid (HP2.out.row_step hro hb3)
        have HK4 := Lib.hid (HK3.out.trans (hb3.mono HK3.out.size))
        clear hro hb3
        go_wp2_with (fail)
        go_roundg (gk - 1)
        case measure => omega
        case rel => exact ⟨i + 1, F2, _, _, by omega, by go_num, HP3.out, (HPR.out.drop r.id).1, by have := drop_len L r.id; omega, HK4.out⟩
      | false =>
        have hX := heap_alloc_new wr (.cells #[.bool false, .int .i64 r.id, .int .i64 r.dev, .int .u32 (r.addr : Int), .int .i64 r.bits, .int .i64 r.prio, .int .i64 r.out] 47)
        have HX := Lib.hid hX
        have HKA := Lib.hid ((Below.refl wr.heap.size wr).alloc (Nat.le_refl _) (.cells #[.bool false, .int .i64 r.id, .int .i64 r.dev, .int .u32 (r.addr : Int), .int .i64 r.bits, .int .i64 r.prio, .int .i64 r.out] 47))
        clear hX
        go_wp2_with (fail)
        generalize wr.alloc (.cells #[.bool false, .int .i64 r.id, .int .i64 r.dev, .int .u32 (r.addr : Int), .int .i64 r.bits, .int .i64 r.prio, .int .i64 r.out] 47) = wa at *
        have hpa := HP.out.below HKA.out
        refine (tabadd_calls hpa.tab (by omega) r HWR.out.1 HWR.out.2.1).mono ?_
        rintro e w2 ⟨he, hpost⟩
        subst he
        obtain ⟨F2, hP2, hb2, hx2⟩ := hpa.tab_step hpost
        have hX2 := (hx2 wr.heap.size (lt_of_block HX.out) (by have := HP.out.tab.map.lt; omega) (fun hm => by have := HP.out.tab.lt _ hm; omega)).trans HX.out
        have dx := And.intro (cell_of hX2 1) (And.intro (cell_of hX2 2) (And.intro (cell_of hX2 3) (And.intro (cell_of hX2 4) (And.intro (cell_of hX2 5) (cell_of hX2 6)))))
        simp only [List.getElem?_toArray, List.getElem?_cons_zero, List.getElem?_cons_succ] at dx
        have HP2 := Lib.hid hP2
        have HK3 := Lib.hid (HK2.out.trans ((HKA.out.mono HK2.out.size).trans hb2))
        clear hpa hpost hP2 hb2 hx2 hX2
        go_wp2_with (fail)
        refine (radd_calls HP2.out.row (by omega) r HWR.out.1).mono ?_
        rintro e w3 ⟨v', fo, he, hadd, hro, hb3⟩
        subst he
        have HP3 := Lib.hid (HP2.out.row_step hro hb3)
        have HK4 := Lib.hid (HK3.out.trans (hb3.mono HK3.out.size))
        have HAD := Lib.hid (HPR.out.add hadd)
        clear hro hb3 hadd
        go_wp2_with (fail)
        go_roundg (gk - 1)
        case measure => omega
        case rel => exact ⟨i + 1, F2, _, _, by omega, by go_num, HP3.out, HAD.out.1, by have := add_len L r; omega, HK4.out⟩
    · obtain rfl : i = ops.length := by omega
      go_wp2_with (fail)
      exact bodyPost_ret (v := .tuple #[_, u5]) (by simp [results, Try.results18, go_sem]) rfl ⟨p, mb, _, F, L, l, rfl, HP.out, HPR.out, hL, HK2.out⟩
end Go.Proofs.Ytiedhjmnjpkcoaa
