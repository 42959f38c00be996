/- The walk of BddSets. -/
import Derived.Test.YtakgghhmecphmaaHeld
import Derived.Test.YtakgghhmecphmaaHasF
import Derived.Test.YtakgghhmecphmaaArgsH
import Derived.Test.YtakgghhmecphmaaAwake
import Derived.Test.YtakgghhmecphmaaIn
import Derived.Test.YtakgghhmecphmaaRefIn
import Derived.Deep.CutRange
import Derived.Deep.RegionHeld3
namespace Go.Proofs.Ytakgghhmecphmaa
set_option linter.unusedVariables false
set_option linter.unusedSimpArgs false
open Go.RowKit Go.Maps

theorem sets_pair {A : Arn} (hg : Good 184322 A) {f g : Nat} (hf : f < A.nodes.length) (hgl : g < A.nodes.length) :
    ∃ x A', joinA A 2 f g = (some x, A') ∧ A'.OK ∧ upTo A' A.nodes.length = A ∧ A.nodes.length ≤ A'.nodes.length ∧ (((x : Int) == 0) = ((f : Int) == (g : Int))) := by
  obtain ⟨x, A', e, G', E, H⟩ := good_join hg (by omega) (k := 2) (by omega) ⟨hf, fun b => rfl⟩ ⟨hgl, fun b => rfl⟩
  obtain ⟨hx, hb⟩ := H
  refine ⟨x, A', e, G'.ok, ?_, E.len, ?_⟩
  · obtain ⟨hm, r, hr⟩ := E
    unfold upTo
    rw [hr]
    cases A
    cases A'
    simp at hm ⊢
    exact hm
  · have hiff : x = 0 ↔ f = g := by
      constructor
      · rintro rfl
        refine canon' hg.ok hf hgl fun b => ?_
        have := hb b
        rw [inA_zero] at this
        simp [opF] at this
        exact this
      · rintro rfl
        exact canon' G'.ok hx (by have := G'.ok.two; omega) fun b => by rw [hb, inA_zero]; simp [opF]
    by_cases h : f = g
    · have := hiff.2 h
      subst h this
      simp
    · have h2 : ¬ x = 0 := fun e => h (hiff.1 e)
      rw [beq_eq_false_iff_ne.2 (by omega), beq_eq_false_iff_ne.2 (by omega)]

set_option maxRecDepth 100000 in
theorem sets_dark {W : World} {v : Value} {l : List Ex} (h : ArgL W.heap.size W v l) (u : Value) (hu : ∃ ao n cap, u = .slice ao n cap) (hl : ¬ LightP l) :
    Calls Try.prog 9 #[v, u] W fun e w' => e = .returned (.bool true) ∧ Below W.heap.size W w' := by
  have HL := Lib.hid (light_no h hl)
  obtain ⟨ao, cap, rfl, hlen⟩ := h.slice
  obtain ⟨ao2, n2, cap2, rfl⟩ := hu
  clear h hl
  go_enter Try.func9, Try.ntmps9
  go_wp2_with (fail)
  refine HL.out.mono ?_
  rintro e w1 ⟨he, k1⟩
  subst he
  have k1 := Lib.hid k1
  go_wp2_with (go_at_call 29; refine (awake06_calls _).mono ?_; rintro e w' ⟨rfl, k8⟩; have k8 := Lib.hid k8)
  go_ret
  exact ⟨rfl, k1.out.trans (k8.out.mono k1.out.size)⟩

set_option maxRecDepth 100000 in
theorem sets_many {W : World} {v : Value} {l : List Ex} (h : ArgL W.heap.size W v l) (ao2 : Option Addr) (n2 cap2 : Nat) (h2 : 40 < n2) (hl : LightP l) :
    Calls Try.prog 9 #[v, .slice ao2 n2 cap2] W fun e w' => e = .returned (.bool true) ∧ Below W.heap.size W w' := by
  have HL := Lib.hid (light_yes h hl)
  obtain ⟨ao, cap, rfl, hlen⟩ := h.slice
  have t1 : decide (40 < (n2 : Int)) = true := decide_eq_true (by omega)
  clear h hl
  go_enter Try.func9, Try.ntmps9
  go_wp2_with (fail)
  refine HL.out.mono ?_
  rintro e w1 ⟨he, k1⟩
  subst he
  have k1 := Lib.hid k1
  go_wp2_with (go_at_call 29; refine (awake06_calls _).mono ?_; rintro e w' ⟨rfl, k8⟩; have k8 := Lib.hid k8)
  go_ret
  exact ⟨rfl, k1.out.trans (k8.out.mono k1.out.size)⟩

/-- The document's In of an argument. -/
theorem refIn_nil (w : World) (ao : Option Addr) (cap : Nat) (hd : Hd) (hW : hd.Wf) (b : Nat → Bool) : Calls Try.prog 40 #[.slice ao 0 cap, hd.val] w (InPost w [] b) := by
  have HBT := Lib.hid (fun w' => bits_calls w' hd hW)
  have h0 : decide ((0 : Int) < 0) = false := rfl
  go_enter Try.func40, Try.ntmps40
  unfold Hd.val at *
  go_wp2_with (fail)
  refine (HBT.out _).mono ?_
  rintro e w1 ⟨vb, he, hob, kb⟩
  subst he
  have HB := Lib.hid (((Below.refl w.heap.size w).alloc (Nat.le_refl _) _).trans (kb.mono (by simp)))
  clear kb hob
  go_wp2_with (refine wp_loop_rounds 1 ?_)
  rw [rounds_succ]
  go_wp2
  go_ret
  exact ⟨_, rfl, World.ownsRow_nil _ _ _ _, HB.out⟩

theorem row_any2 {w : World} {base n : Nat} {vo : Value} {xs : List Value} (h : w.ownsRow base 3 1 vo n xs) : ∃ ao cap, vo = .slice ao n cap := by
  rcases h.2 with ⟨h0, h1⟩ | ⟨g, cap, cur, rfl, _⟩
  · subst h1
    exact ⟨none, 0, h0⟩
  · exact ⟨_, cap, rfl⟩
/-- The made row. -/
def RowAt (w : World) (s0 : Nat) (out : List Nat) : Prop := ∀ i, i < out.length → w.cell? ⟨s0, i, none⟩ = some (.int .i64 ((out.getD i 0 : Nat) : Int))
theorem RowAt.kept {S : List Nat} {w w' : World} {s0 : Nat} {out : List Nat} (h : RowAt w s0 out) (k : Kept S w w') (hs : s0 ∉ S) : RowAt w' s0 out := fun i hi => k.cell (h i hi) hs
/-- The law's own arena and row. -/
def SetsAt (W w : World) (p g mb : Nat) (A : Arn) (s0 : Nat) (out : List Nat) : Prop := AR W w p g mb A ∧ (0 < out.length → RowAt w s0 out ∧ s0 < w.heap.size ∧ s0 ≠ p ∧ s0 ≠ g ∧ s0 ≠ mb)
theorem SetsAt.below {W w w' : World} {p g mb : Nat} {A : Arn} {s0 : Nat} {out : List Nat} (h : SetsAt W w p g mb A s0 out) (k : Below w.heap.size w w') : SetsAt W w' p g mb A s0 out :=
  ⟨h.1.below k, fun h0 => ⟨(h.2 h0).1.kept (Kept.of_below (S := []) k) (by simp), Nat.lt_of_lt_of_le (h.2 h0).2.1 k.size, (h.2 h0).2.2⟩⟩
theorem SetsAt.kept0 {W w w' : World} {p g mb : Nat} {A : Arn} {s0 : Nat} {out : List Nat} (h : SetsAt W w p g mb A s0 out) (k : Kept [] w w') : SetsAt W w' p g mb A s0 out :=
  ⟨h.1.kept k (by simp) (by simp) (by simp) (by simp), fun h0 => ⟨(h.2 h0).1.kept k (by simp), Nat.lt_of_lt_of_le (h.2 h0).2.1 k.size, (h.2 h0).2.2⟩⟩
theorem SetsAt.post {W w w' : World} {p g g' mb : Nat} {A A' : Arn} {s0 : Nat} {out : List Nat} (h : SetsAt W w p g mb A s0 out) (hg : g' = g ∨ w.heap.size ≤ g') (ha : AR W w' p g' mb A') (k : Kept [p, g, mb] w w') : SetsAt W w' p g' mb A' s0 out :=
  ⟨ha, fun h0 => by
    obtain ⟨a, b, c, d, e⟩ := h.2 h0
    refine ⟨a.kept k (by simp; omega), Nat.lt_of_lt_of_le b k.size, c, ?_, e⟩
    rcases hg with r | r <;> omega⟩

theorem refIn_arg {N : Nat} {w : World} {ao : Option Addr} {n cap : Nat} {l : List Ex} (h : ArgL N w (.slice ao n cap) l) (hn : l.length = n) (hcap : n ≤ cap) (hcm : cap ≤ maxLen) (h60 : n ≤ 60) (hR : ∀ i x, l[i]? = some x → ¬ BadE x i) (hd : Hd) (hW : hd.Wf) :
    Calls Try.prog 40 #[.slice ao n cap, hd.val] w (InPost w l hd.bit) := by
  obtain ⟨_, ⟨rfl, ao', cap', e⟩ | ⟨b, off, n', cap', h0, e, h1, h2, h3, h4⟩⟩ := h
  · cases e
    exact refIn_nil w _ _ hd hW _
  · cases e
    exact refIn_calls 60 w b off cap n l hd hn h60 (Nat.le_refl _) hcap hcm h0 h3 hR hW

def HBox (w : World) (b : Nat) (h : Hd) : Prop := w.heap[b]? = some (.cells #[.int .u32 (h.dst : Int), .int .u32 (h.src : Int), .int .u8 (h.proto : Int), .int .u16 (h.sport : Int), .int .u16 (h.dport : Int)] 25 (0, 0))
theorem HBox.cells {w : World} {b : Nat} {h : Hd} (k : HBox w b h) : w.cell? ⟨b, 0, none⟩ = some (.int .u32 (h.dst : Int)) ∧ w.cell? ⟨b, 1, none⟩ = some (.int .u32 (h.src : Int)) ∧
    w.cell? ⟨b, 2, none⟩ = some (.int .u8 (h.proto : Int)) ∧ w.cell? ⟨b, 3, none⟩ = some (.int .u16 (h.sport : Int)) ∧ w.cell? ⟨b, 4, none⟩ = some (.int .u16 (h.dport : Int)) := by
  unfold HBox at k
  exact ⟨cell_of k 0, cell_of k 1, cell_of k 2, cell_of k 3, cell_of k 4⟩
theorem HBox.below {w w' : World} {b : Nat} {h : Hd} (k : HBox w b h) (hb : Below w.heap.size w w') : HBox w' b h := (hb.block _ (lt_of_block k)).trans k

set_option maxRecDepth 100000 in
set_option maxHeartbeats 4000000 in
theorem sets_main {W : World} {ao : Option Addr} {n cap : Nat} {l : List Ex} (h : ArgL W.heap.size W (.slice ao n cap) l) (hnl : l.length = n) (hcap : n ≤ cap) (hcm : cap ≤ maxLen) (hl : LightP l)
    (ao2 : Option Addr) (n2 cap2 : Nat) (hs : List Hd) (hhw : ∀ h ∈ hs, h.Wf) (hhl : hs.length = n2) (h40 : n2 ≤ 40) (hh : 0 < n2 → ∃ b off, ao2 = some ⟨b, off, none⟩ ∧ HdsAt W b off hs ∧ b < W.heap.size) :
    Calls Try.prog 9 #[.slice ao n cap, .slice ao2 n2 cap2] W fun e w' => e = .returned (.bool true) ∧ Below W.heap.size W w' := by
  have HL := Lib.hid (light_yes h hl)
  have HV := Lib.hid h
  have hG := light_good hl
  have h60 := hl.1
  have t40 : decide (40 < (n2 : Int)) = false := decide_eq_false (by omega)
  obtain ⟨m1, _, _, m4, _, _, m7, m8, _⟩ := light_room hl rfl
  generalize hR : makeGo (newF 262144) [] l = R at *
  obtain ⟨out, ok, A⟩ := R
  simp only at m1 m4 m7 m8 hG
  subst m1
  have o0 := hG.ok
  have h2 := o0.two
  have HG := Lib.hid hG
  have HRR := Lib.hid hR
  have HM4 := Lib.hid m4
  have HM7 := Lib.hid m7
  have HM8 := Lib.hid m8
  have HLP := Lib.hid hl
  have HNL := Lib.hid hnl
  have HHW := Lib.hid hhw
  have HHL := Lib.hid hhl
  have HHH := Lib.hid hh
  have h60n : n ≤ 60 := by omega
  have hl60 : l.length ≤ 60 := h60
  have INC := Lib.hid (fun (w' : World) (k : Below W.heap.size W w') (hd : Hd) (hW : hd.Wf) => refIn_arg (h.below k (Nat.le_refl _)) hnl hcap hcm h60n hl.2.2.1 hd hW)
  clear h hR m4 m7 m8 hl hG hnl hhw hhl hh h60
  go_enter Try.func9, Try.ntmps9
  go_wp2_with (fail)
  refine HL.out.mono ?_
  rintro e w1 ⟨he, k1⟩
  subst he
  have k1 := Lib.hid k1
  go_wp2_with (fail)
  refine (AR.new k1.out 262144 (by omega) (by omega)).mono ?_
  rintro e w2 ⟨p, g, mb, he, H2⟩
  subst he
  have H2 := Lib.hid H2
  go_wp2_with (fail)
  refine (make_arg H2.out HV.out hl60 HLP.out.2.2.1).mono ?_
  rw [HRR.out]
  simp only [if_true]
  rintro e w3 ⟨vo, he, how, g3, hg3, H3, K3⟩
  subst he
  rw [HM4.out, HNL.out] at how
  obtain ⟨aos, caps, rfl⟩ := row_any2 how
  have hst : ∃ s0, SetsAt W w3 p g3 mb A s0 out ∧ (0 < n → aos = some ⟨s0, 0, none⟩) := by
    rcases Nat.eq_zero_or_pos n with h0 | h0
    · exact ⟨0, ⟨H3, fun h1 => by have := HM4.out; have := HNL.out; omega⟩, fun h1 => by omega⟩
    · obtain ⟨s0, cap2, e⟩ := row_slice how h0
      injection e with e1 e2 e3
      subst e1
      have hlt := how.lt s0 rfl
      have hl2 := H2.out.2.2.2.1.lt
      refine ⟨s0, ⟨H3, fun _ => ⟨fun i hi => out_cell how (i := i) (by have := HM4.out; have := HNL.out; omega), hlt.2, by omega, ?_, by omega⟩⟩, fun _ => rfl⟩
      rcases how.2 with ⟨h1, _⟩ | ⟨sg, capx, cur, e4, hb, hh4, _⟩
      · cases h1
      · injection e4 with e5
        injection e5 with e5
        injection e5 with e5
        subst e5
        obtain ⟨_, _, b1, b2, b3⟩ := H3.2.2.2.1
        rcases b2.2 with ⟨h1, _⟩ | ⟨sg, capx, cur2, e4, hb, hh5, _⟩
        · cases h1
        · injection e4 with e5
          injection e5 with e5
          injection e5 with e5
          subst e5
          exact block_ne hh4 hh5 (by simp)
  obtain ⟨s0, hST, hao⟩ := hst
  have HST := Lib.hid hST
  have HAO := Lib.hid hao
  clear how K3 hg3 H2 H3 hST hao
  have t3 : ((n : Int) != (n : Int)) = false := by simp
  go_wp2_with (fail)
  go_loopg [54] n2 (fun gk vi wr => ∃ k : Nat, k + gk = n2 ∧ vi = .int .i64 (k : Int) ∧ SetsAt W wr p g3 mb A s0 out)
  case atStart => exact ⟨0, by omega, rfl, HST.out⟩
  case round =>
    obtain ⟨k, hkg, rfl, hS⟩ := hrel
    have HS := Lib.hid hS
    clear hS
    by_cases hlt : k < n2
    · obtain ⟨b, off, rfl, hds, hbz⟩ := HHH.out (by omega)
      have hx : hs[k]? = some (hs[k]'(by have := HHL.out; omega)) := List.getElem?_eq_getElem _
      generalize hs[k]'(by have := HHL.out; omega) = hd at hx
      have hW := HHW.out hd (List.mem_of_getElem? hx)
      have kW := HS.out.1.2.2.2.2.2
      have hc := fun j u hu => (World.cell?_of_block (kW.block b hbz)).trans (hds k hd hx j u hu)
      have c0 : wr.cell? ⟨b, off + k * 5, none⟩ = some (.int .u32 (hd.dst : Int)) := hc 0 _ rfl
      have c1 : wr.cell? ⟨b, off + k * 5 + 1, none⟩ = some (.int .u32 (hd.src : Int)) := hc 1 _ rfl
      have c2 : wr.cell? ⟨b, off + k * 5 + 2, none⟩ = some (.int .u8 (hd.proto : Int)) := hc 2 _ rfl
      have c3 : wr.cell? ⟨b, off + k * 5 + 3, none⟩ = some (.int .u16 (hd.sport : Int)) := hc 3 _ rfl
      have c4 : wr.cell? ⟨b, off + k * 5 + 4, none⟩ = some (.int .u16 (hd.dport : Int)) := hc 4 _ rfl
      clear hc hx hds
      have HWF := Lib.hid hW
      clear hW kW
      go_wp2_with (fail)
      have kx := (Below.refl wr.heap.size wr).alloc (Nat.le_refl _) (.cells #[.int .u32 (hd.dst : Int), .int .u32 (hd.src : Int), .int .u8 (hd.proto : Int), .int .u16 (hd.sport : Int), .int .u16 (hd.dport : Int)] 25)
      have hX : HBox (wr.alloc (.cells #[.int .u32 (hd.dst : Int), .int .u32 (hd.src : Int), .int .u8 (hd.proto : Int), .int .u16 (hd.sport : Int), .int .u16 (hd.dport : Int)] 25)) wr.heap.size hd := heap_alloc_new wr _
      generalize wr.alloc (.cells #[.int .u32 (hd.dst : Int), .int .u32 (hd.src : Int), .int .u8 (hd.proto : Int), .int .u16 (hd.sport : Int), .int .u16 (hd.dport : Int)] 25) = wa at *
      have HSA := Lib.hid (HS.out.below kx)
      clear kx
      generalize wr.heap.size = bx at *
      refine (INC.out wa HSA.out.1.2.2.2.2.2 hd HWF.out).mono ?_
      rintro e w4 ⟨vi, he, hoi, ki⟩
      subst he
      have HS4 := Lib.hid (HSA.out.below ki)
      have HX4 := Lib.hid (hX.below ki)
      have HOI := Lib.hid (by rw [HNL.out] at hoi; exact hoi)
      clear hX hoi ki HSA c0 c1 c2 c3 c4 HS
      go_wp2_with (fail)
      go_loopg [63] n (fun gk vt wq => ∃ t : Nat, t + gk = n ∧ vt = .int .i64 (t : Int) ∧ Kept [] w4 wq)
      case atStart => exact ⟨0, by omega, rfl, Kept.refl _ _⟩
      case round =>
        obtain ⟨t, htg, rfl, hK⟩ := hrel
        have HK := Lib.hid hK
        clear hK
        by_cases htn : t < n
        · have haos := HAO.out (by omega)
          subst haos
          obtain ⟨gi, capi, rfl, hbi, _, hgiz⟩ := own_bools HOI.out (show 0 < n by omega)
          have HBI := Lib.hid hbi
          clear hbi
          have hf : out.getD t 0 < A.nodes.length := getD_lt HM7.out (by omega) _
          have hy : inA A hd.bit (out.getD t 0) = (inL l hd.bit).getD t false := by rw [HM8.out.2 t hd.bit, inL_at]
          have SK : ∀ w', Hid (Kept [] w4 w') → (w'.cell? ⟨s0, t, none⟩ = some (.int .i64 ((out.getD t 0 : Nat) : Int)) ∧ w'.cell? ⟨gi, t, none⟩ = some (.bool ((inL l hd.bit).getD t false))) ∧
              (w'.cell? ⟨bx, 0, none⟩ = some (.int .u32 (hd.dst : Int)) ∧ w'.cell? ⟨bx, 1, none⟩ = some (.int .u32 (hd.src : Int)) ∧ w'.cell? ⟨bx, 2, none⟩ = some (.int .u8 (hd.proto : Int)) ∧ w'.cell? ⟨bx, 3, none⟩ = some (.int .u16 (hd.sport : Int)) ∧ w'.cell? ⟨bx, 4, none⟩ = some (.int .u16 (hd.dport : Int))) := fun w' R => by
            refine ⟨⟨((HS4.out.2 (by rw [HM4.out, HNL.out]; omega)).1.kept R.out (by simp)) t (by rw [HM4.out, HNL.out]; exact htn), ?_⟩, ?_⟩
            · have := (HBI.out.kept R.out (by simp)) t (by rw [inL_length, HNL.out]; exact htn)
              rwa [Nat.zero_add] at this
            · have hb : HBox w' bx hd := (R.out.block _ (lt_of_block HX4.out) (by simp)).trans HX4.out
              exact hb.cells
          have CI : ∀ w', Hid (Kept [] w4 w') → Calls Try.prog 20 #[.pointer (some ⟨p, 0, none⟩), .int .i64 ((out.getD t 0 : Nat) : Int), hd.val] w' fun e w'' => e = .returned (.bool ((inL l hd.bit).getD t false)) ∧ Hid (Kept [] w4 w'') := fun w' R =>
            (In_calls (HS4.out.1.2.2.2.1.kept R.out (by simp) (by simp) (by simp)) o0 (out.getD t 0) hf hd).mono fun e w'' ⟨he, k⟩ => ⟨by rw [he, hy], Lib.hid (R.out.trans (Kept.of_below (S := []) k) (by simp))⟩
          unfold Hd.val at CI
          generalize (inL l hd.bit).getD t false = y at *
          generalize out.getD t 0 = f at *
          have HSK := Lib.hid SK
          have HCI := Lib.hid CI
          have HSD := Lib.hid (HK.out.trans ((Kept.refl [] wr).drew) (by simp))
          clear SK CI hy hf
          go_upto_region 16 with (fail)
          go_cut [77] from 66 to 77 (fun v wx => v = .bool false ∧ Hid (Kept [] w4 wx))
          case first =>
            as_aux_lemma =>
              go_region_held3 (fun w' => (w'.cell? ⟨s0, t, none⟩ = some (.int .i64 (f : Int)) ∧ w'.cell? ⟨gi, t, none⟩ = some (.bool y)) ∧
                  (w'.cell? ⟨bx, 0, none⟩ = some (.int .u32 (hd.dst : Int)) ∧ w'.cell? ⟨bx, 1, none⟩ = some (.int .u32 (hd.src : Int)) ∧ w'.cell? ⟨bx, 2, none⟩ = some (.int .u8 (hd.proto : Int)) ∧ w'.cell? ⟨bx, 3, none⟩ = some (.int .u16 (hd.sport : Int)) ∧ w'.cell? ⟨bx, 4, none⟩ = some (.int .u16 (hd.dport : Int)))) (first | exact HSK.out _ (by assumption))
                (first | (go_at_call 20; refine Calls.mono (HCI.out _ (by assumption)) ?_; rintro e wk ⟨he, HSK5⟩; subst he))
              all_goals
                go_wp2_with (fail)
                go_meet
                case rel => exact ⟨by simp, by assumption⟩
          case rest =>
            obtain ⟨rfl, HKX⟩ := hcut
            go_wp2_with (fail)
            go_roundg (gk - 1)
            case measure => omega
            case rel => exact ⟨t + 1, by omega, by go_num, HKX.out⟩
        · obtain rfl : t = n := by omega
          go_wp2_with (fail)
          go_roundg (n2 - (k + 1))
          case measure => omega
          case rel => exact ⟨k + 1, by omega, by go_num, HS4.out.kept0 HK.out⟩
    · obtain rfl : k = n2 := by omega
      go_wp2_with (fail)
      refine (len_calls HS.out.1.2.2.2.1).mono ?_
      rintro e w5 ⟨he, hw5⟩
      subst he hw5
      go_wp2_with (fail)
      go_loopg [84] n (fun gk vi wq => ∃ (i g' : Nat), i + gk = n ∧ vi = .int .i64 (i : Int) ∧ SetsAt W wq p g' mb A s0 out)
      case atStart => exact ⟨0, g3, by omega, rfl, HS.out⟩
      case round =>
        obtain ⟨i, g', hig, rfl, hS⟩ := hrel
        have HSI := Lib.hid hS
        clear hS HS
        by_cases hin : i < n
        · have haos := HAO.out (by omega)
          subst haos
          go_wp2_with (fail)
          go_loopg [88] i (fun gk vk wq => ∃ (k g' : Nat), k + gk = i ∧ vk = .int .i64 (k : Int) ∧ SetsAt W wq p g' mb A s0 out)
          case atStart => exact ⟨0, g', by omega, rfl, HSI.out⟩
          case round =>
            obtain ⟨k, g4, hkg2, rfl, hS⟩ := hrel
            have HSK := Lib.hid hS
            clear hS HSI
            by_cases hki : k < i
            · have hkn : k < n := by omega
              have hfi : out.getD i 0 < A.nodes.length := getD_lt HM7.out (by omega) _
              have hqi : out.getD k 0 < A.nodes.length := getD_lt HM7.out (by omega) _
              have hro := (HSK.out.2 (by rw [HM4.out, HNL.out]; omega)).1
              have ci := hro i (by rw [HM4.out, HNL.out]; exact hin)
              have ck := hro k (by rw [HM4.out, HNL.out]; omega)
              obtain ⟨x, A', ej, oA', hup, hle, hx0⟩ := sets_pair HG.out hfi hqi
              have HUP := Lib.hid hup
              have HEJ := Lib.hid ej
              have hlen' := Nat.le_trans oA'.len oA'.most
              have CJ : ∀ w', Hid (SetsAt W w' p g4 mb A s0 out) → Calls Try.prog 33 #[.pointer (some ⟨p, 0, none⟩), .int .i64 2, .int .i64 ((out.getD i 0 : Nat) : Int), .int .i64 ((out.getD k 0 : Nat) : Int)] w' fun e w'' => e = .returned (.tuple #[.int .i64 (x : Int), .int .i64 0]) ∧ Hid (∃ g5, SetsAt W w'' p g5 mb A' s0 out) := fun w' R => by
                have hc := Join_calls R.out.1.2.2.2.1 o0 2 2 (out.getD i 0) (out.getD k 0) rfl (by omega) hfi hqi
                rw [HEJ.out] at hc
                refine (R.out.1.post oA' hc).mono ?_
                rintro e w'' ⟨he, g5, hg5, H5, K5⟩
                exact ⟨he, Lib.hid ⟨g5, R.out.post hg5 H5 K5⟩⟩
              have SK : ∀ w', Hid (SetsAt W w' p g4 mb A s0 out) → (w'.cell? ⟨s0, i, none⟩ = some (.int .i64 ((out.getD i 0 : Nat) : Int)) ∧ w'.cell? ⟨s0, k, none⟩ = some (.int .i64 ((out.getD k 0 : Nat) : Int))) := fun w' R => by
                have hro := (R.out.2 (by rw [HM4.out, HNL.out]; omega)).1
                exact ⟨hro i (by rw [HM4.out, HNL.out]; exact hin), hro k (by rw [HM4.out, HNL.out]; omega)⟩
              have SK5 : ∀ w', Hid (∃ g5, SetsAt W w' p g5 mb A' s0 out) → (w'.cell? ⟨s0, i, none⟩ = some (.int .i64 ((out.getD i 0 : Nat) : Int)) ∧ w'.cell? ⟨s0, k, none⟩ = some (.int .i64 ((out.getD k 0 : Nat) : Int))) := fun w' R => by
                obtain ⟨g5, R⟩ := R.out
                have hro := (R.2 (by rw [HM4.out, HNL.out]; omega)).1
                exact ⟨hro i (by rw [HM4.out, HNL.out]; exact hin), hro k (by rw [HM4.out, HNL.out]; omega)⟩
              generalize hfe : out.getD i 0 = f at *
              generalize hqe : out.getD k 0 = q at *
              have HF := Lib.hid hfe
              have HQ := Lib.hid hqe
              clear hfe hqe
              have HCJ := Lib.hid CJ
              have HSK1 := Lib.hid SK
              have HSK5 := Lib.hid SK5
              have HX0 := Lib.hid hx0
              have HSD := Lib.hid (HSK.out.kept0 ((Kept.refl [] wr).drew))
              clear CJ SK SK5 hro ci ck hup ej hx0
              go_upto_region 27 with (fail)
              go_cut [16, 17] from 91 to 103 (fun vx ve wx => vx = .int .i64 (x : Int) ∧ ve = .int .i64 0 ∧ Hid (∃ g5, SetsAt W wx p g5 mb A' s0 out))
              case first =>
                as_aux_lemma =>
                  go_region_held3 (fun w' => w'.cell? ⟨s0, i, none⟩ = some (.int .i64 (f : Int)) ∧ w'.cell? ⟨s0, k, none⟩ = some (.int .i64 (q : Int))) (first | exact HSK1.out _ (by assumption) | exact HSK5.out _ (by assumption))
                    (first | (go_at_call 33; refine Calls.mono (HCJ.out _ (by assumption)) ?_; rintro e wk ⟨he, HSQ5⟩; subst he))
                  all_goals
                    go_wp2_with (fail)
                    go_meet
                    case rel => exact ⟨rfl, rfl, by assumption⟩
              case rest =>
                obtain ⟨rfl, rfl, H5⟩ := hcut
                obtain ⟨g5, H5⟩ := H5.out
                have H5 := Lib.hid H5
                go_wp2_with (fail)
                refine (cut_calls H5.out.1.2.2.2.1 oA' (A.nodes.length : Int) A.nodes.length (by have := o0.two; omega)).mono ?_
                rintro e w6 ⟨he, h6, k6⟩
                subst he
                rw [HUP.out] at h6
                have hl5 := H5.out.1
                have H6 := Lib.hid (H5.out.post (g' := g5) (Or.inl rfl) ⟨hl5.1, hl5.2.1, hl5.2.2.1, h6, o0, hl5.2.2.2.2.2.trans (k6.below hl5.2.2.2.2.2.size (by have := hl5.1; have := hl5.2.1; have := hl5.2.2.1; simp; omega))⟩ k6)
                have H6d := Lib.hid (H6.out.kept0 ((Kept.refl [] w6).drew))
                have hro := (H6.out.2 (by rw [HM4.out, HNL.out]; omega)).1
                have ci := hro i (by rw [HM4.out, HNL.out]; exact hin)
                have ck := hro k (by rw [HM4.out, HNL.out]; omega)
                rw [HF.out] at ci
                rw [HQ.out] at ck
                clear h6 k6 hl5 hro H5
                have hnz := World.block_lt_of_cell? _ _ ci
                go_wp2_with (fail)
                by_cases hfq : f = q
                · have t5 : ((f : Int) == (q : Int)) = true := by rw [hfq]; simp
                  have t6 : ((x : Int) == 0) = true := by rw [HX0.out]; exact t5
                  have HFQ := Lib.hid hfq
                  clear hfq
                  go_quiet (fail)
                  go_wp2_with (fail)
                  go_roundg (gk - 1)
                  case measure => omega
                  case rel => exact ⟨k + 1, g5, by omega, by go_num, H6.out.kept0 (Kept.of_drewN _ _)⟩
                · have t5 : ((f : Int) == (q : Int)) = false := beq_eq_false_iff_ne.2 (by omega)
                  have t6 : ((x : Int) == 0) = false := by rw [HX0.out]; exact t5
                  go_quiet (fail)
                  go_wp2_with (fail)
                  go_roundg (gk - 1)
                  case measure => omega
                  case rel => exact ⟨k + 1, g5, by omega, by go_num, H6.out.kept0 (Kept.of_drewN _ _)⟩
            · obtain rfl : k = i := by omega
              go_wp2_with (fail)
              go_roundg (n - (k + 1))
              case measure => omega
              case rel => exact ⟨k + 1, g4, by omega, by go_num, HSK.out⟩
        · obtain rfl : i = n := by omega
          go_wp2_with (fail)
          refine (awake06_calls _).mono ?_
          rintro e w9 ⟨he, k9⟩
          subst he
          have H10 := Lib.hid (HSI.out.below k9)
          clear k9
          go_wp2_with (fail)
          go_ret
          exact ⟨rfl, H10.out.1.2.2.2.2.2⟩

theorem sets_row (u v : Value) {W : World} (hu : ArgExC W u) (hv : ArgHds W v) :
    Calls Try.prog 9 #[u, v] W fun e w' => e = .returned (.bool true) ∧ Below W.heap.size W w' := by
  obtain ⟨hu, hc⟩ := hu
  obtain ⟨l, hl⟩ := hu.list
  obtain ⟨hs, hw, hh⟩ := hv
  obtain ⟨ao2, n2, cap2, rfl, hn2, hh2⟩ : ∃ ao2 n2 cap2, v = .slice ao2 n2 cap2 ∧ hs.length = n2 ∧ (0 < n2 → ∃ b off, ao2 = some ⟨b, off, none⟩ ∧ HdsAt W b off hs ∧ b < W.heap.size) := by
    rcases hh with ⟨rfl, ao, cap, rfl⟩ | ⟨b, off, n, cap, h0, rfl, h1, h2, h3, h4⟩
    · exact ⟨ao, 0, cap, rfl, rfl, fun h => by omega⟩
    · exact ⟨_, n, cap, rfl, h1, fun _ => ⟨b, off, rfl, h3, h4⟩⟩
  by_cases hp : LightP l
  · rcases Nat.lt_or_ge 40 n2 with h | h
    · exact sets_many hl _ _ _ h hp
    · obtain ⟨ao, cap, rfl, _⟩ := hl.slice
      obtain ⟨c1, c2⟩ := hc _ _ _ rfl
      exact sets_main hl rfl c1 c2 hp ao2 n2 cap2 hs hw hn2 h hh2
  · exact sets_dark hl _ ⟨_, _, _, rfl⟩ hp

end Go.Proofs.Ytakgghhmecphmaa
