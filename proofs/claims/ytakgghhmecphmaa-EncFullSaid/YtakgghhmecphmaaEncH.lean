/- The walk of EncHeaders. -/
import Derived.Test.YtakgghhmecphmaaEnc
import Derived.Test.YtakgghhmecphmaaIn
import Derived.Test.YtakgghhmecphmaaHeld
import Derived.Test.YtakgghhmecphmaaArgsH
import Derived.Deep.RegionHeld3
namespace Go.Proofs.Ytakgghhmecphmaa
set_option linter.unusedVariables false
set_option linter.unusedSimpArgs false
open Go.RowKit Go.Maps

set_option maxRecDepth 100000 in
theorem cube_none {w : World} {p g mb : Nat} {A : Arn} (h : ArenaAt w p g mb A) (ao : Option Addr) (cap : Nat) :
    Calls Try.prog 22 #[.pointer (some ⟨p, 0, none⟩), .slice ao 0 cap] w fun e w' => e = .returned (.tuple #[.int .i64 1, .int .i64 0]) ∧ w = w' := by
  have HA := Lib.hid h
  go_enter Try.func22, Try.ntmps22
  go_wp2_with (refine wp_loop_rounds 1 ?_)
  rw [rounds_succ]
  go_wp2_with (fail)
  refine (len_calls HA.out).mono ?_
  rintro e w1 ⟨he, hw⟩
  subst he hw
  go_wp2_with (refine wp_loop_rounds 1 ?_)
  rw [rounds_succ]
  go_wp2_with (fail)
  go_ret2
  exact ⟨rfl, rfl⟩

set_option maxRecDepth 100000 in
theorem mask_zero (w : World) : Calls Try.prog 94 #[.int .i64 0] w fun e w' => e = .returned (.int .u32 0) ∧ w' = w := by
  go_enter Try.func94, Try.ntmps94
  go_wp2_with (fail)
  go_ret
  exact ⟨rfl, rfl⟩
set_option maxRecDepth 100000 in
theorem right_zero (w : World) : Calls Try.prog 83 #[.agg #[.int .u32 0, .int .i64 0]] w fun e w' => e = .returned (.bool true) ∧ Below w.heap.size w w' := by
  go_enter Try.func83, Try.ntmps83
  go_wp2_with (fail)
  have hb : decide ((0 : Int) ≤ 0) = true := rfl
  have hc : decide ((0 : Int) ≤ 32) = true := rfl
  go_quiet ((go_at_call 94; exact Calls.quiet_of_same (mask_zero _)))
  go_wp2
  go_ret
  exact ⟨rfl, Kept.below (((Kept.refl [] w).alloc _).drewN _) (Nat.le_refl _) (by simp)⟩
set_option maxRecDepth 100000 in
theorem lits_zero (w : World) : Calls Try.prog 69 #[.int .i64 0, .int .u32 0, .int .i64 32, .int .i64 0] w fun e w' => e = .returned (.slice none 0 0) ∧ Below w.heap.size w w' := by
  go_enter Try.func69, Try.ntmps69
  go_wp2_with (refine wp_loop_rounds 1 ?_)
  rw [rounds_succ]
  go_wp2_with (fail)
  go_ret
  exact ⟨rfl, Below.refl _ _⟩

set_option maxRecDepth 100000 in
theorem prefix_zero {w : World} {p g mb : Nat} {A : Arn} (h : ArenaAt w p g mb A) :
    Calls Try.prog 54 #[.pointer (some ⟨p, 0, none⟩), .int .i64 0, .agg #[.int .u32 0, .int .i64 0]] w fun e w' => e = .returned (.tuple #[.int .i64 1, .int .i64 0]) ∧ Below w.heap.size w w' := by
  have HA := Lib.hid h
  go_enter Try.func54, Try.ntmps54
  go_wp2_with (fail)
  refine (right_zero _).mono ?_
  rintro e w1 ⟨he, k1⟩
  subst he
  have m0 := (Kept.of_below (S := []) k1).cell (cell_of (heap_alloc_new w (.cells #[.int .u32 0, .int .i64 0] 73)) 0) (by simp)
  have m1 := (Kept.of_below (S := []) k1).cell (cell_of (heap_alloc_new w (.cells #[.int .u32 0, .int .i64 0] 73)) 1) (by simp)
  simp at m0 m1
  have k1 := Lib.hid (((Below.refl w.heap.size w).alloc (Nat.le_refl _) (.cells #[.int .u32 0, .int .i64 0] 73)).trans (k1.mono (by simp)))
  go_wp2_with (fail)
  refine (lits_zero _).mono ?_
  rintro e w2 ⟨he, k2⟩
  subst he
  have k2 := Lib.hid (k1.out.trans (k2.mono k1.out.size))
  go_wp2_with (fail)
  refine (cube_none (HA.out.below k2.out) none 0).mono ?_
  rintro e w3 ⟨he, hw⟩
  subst he hw
  go_wp2_with (fail)
  go_ret2
  exact ⟨rfl, k2.out⟩

set_option maxRecDepth 100000 in
theorem awake07_calls (w : World) : Calls Try.prog 19 #[] w fun e w' => e = .returned (.bool true) ∧ Below w.heap.size w w' := by
  go_enter Try.func19, Try.ntmps19
  go_wp2_with (fail)
  refine (AR.new (Below.refl _ _) 10 (by omega) (by omega)).mono ?_
  rintro e w2 ⟨p, g, mb, he, H2⟩
  subst he
  have H2 := Lib.hid H2
  go_wp2_with (fail)
  refine (prefix_zero H2.out.2.2.2.1).mono ?_
  rintro e w3 ⟨he, k3⟩
  subst he
  have H3 := Lib.hid (H2.out.below k3)
  clear k3
  go_wp2_with (fail)
  go_ret
  exact ⟨rfl, H3.out.2.2.2.2.2⟩


/-- A header in a block of its own. -/
def HdBox (w : World) (b : Nat) (h : Hd) : Prop := w.heap[b]? = some (.cells #[.int .u32 (h.dst : Int), .int .u32 (h.src : Int), .int .u8 (h.proto : Int), .int .u16 (h.sport : Int), .int .u16 (h.dport : Int)] 25 (0, 0))
theorem HdBox.cells {w w' : World} {b : Nat} {h : Hd} (hb : HdBox w b h) (k : Below w.heap.size w w') : w'.cell? ⟨b, 0, none⟩ = some (.int .u32 (h.dst : Int)) ∧ w'.cell? ⟨b, 1, none⟩ = some (.int .u32 (h.src : Int)) ∧
    w'.cell? ⟨b, 2, none⟩ = some (.int .u8 (h.proto : Int)) ∧ w'.cell? ⟨b, 3, none⟩ = some (.int .u16 (h.sport : Int)) ∧ w'.cell? ⟨b, 4, none⟩ = some (.int .u16 (h.dport : Int)) := by
  have h1 : HdBox w' b h := (k.block b (lt_of_block hb)).trans hb
  unfold HdBox at h1
  exact ⟨cell_of h1 0, cell_of h1 1, cell_of h1 2, cell_of h1 3, cell_of h1 4⟩

theorem nat_bne {a b : Nat} (h : a ≠ b) : ((a : Int) == (b : Int)) = false := by
  simp
  omega
/-- What In answers of a header's value. -/
def InV (A : Arn) (x : Nat) (v : Value) (b : Bool) : Prop := ∃ hd : Hd, v = hd.val ∧ b = inA A hd.bit x

set_option maxRecDepth 100000 in
set_option maxHeartbeats 4000000 in
theorem headers_main (W : World) (h g : Hd) (hw : h.Wf) (gw : g.Wf) :
    Calls Try.prog 3 #[h.val, g.val] W fun e w' => e = .returned (.bool true) ∧ Below W.heap.size W w' := by
  have hO := newF_ok (most := 1024) (by omega) (by omega)
  obtain ⟨x, A1, y, A2, e1, e2, o1, o2, hx, hy, i1, i2, hxy⟩ := enc_plain hO (show (newF 1024).nodes.length + 208 ≤ (newF 1024).most by decide) hw gw
  have E1 := Lib.hid e1
  have E2 := Lib.hid e2
  have I1 := Lib.hid i1
  have I2 := Lib.hid i2
  have HXY := Lib.hid hxy
  clear e1 e2 i1 i2 hxy
  obtain ⟨hdst, hsrc, hproto, hsport, hdport⟩ := h
  obtain ⟨gdst, gsrc, gproto, gsport, gdport⟩ := g
  have u1 : (Hd.mk hdst hsrc hproto hsport hdport).val = .agg #[.int .u32 (hdst : Int), .int .u32 (hsrc : Int), .int .u8 (hproto : Int), .int .u16 (hsport : Int), .int .u16 (hdport : Int)] := rfl
  have u2 : (Hd.mk gdst gsrc gproto gsport gdport).val = .agg #[.int .u32 (gdst : Int), .int .u32 (gsrc : Int), .int .u8 (gproto : Int), .int .u16 (gsport : Int), .int .u16 (gdport : Int)] := rfl
  rw [u1, u2]
  clear u1 u2
  go_enter Try.func3, Try.ntmps3
  go_wp2_with (fail)
  generalize hW1 : (W.alloc (.cells #[.int .u32 (hdst : Int), .int .u32 (hsrc : Int), .int .u8 (hproto : Int), .int .u16 (hsport : Int), .int .u16 (hdport : Int)] 25)).alloc (.cells #[.int .u32 (gdst : Int), .int .u32 (gsrc : Int), .int .u8 (gproto : Int), .int .u16 (gsport : Int), .int .u16 (gdport : Int)] 25) = W1
  have hB1 : Below W.heap.size W W1 := by rw [← hW1]; exact ((Below.refl _ _).alloc (Nat.le_refl _) _).alloc (by simp) _
  have hX1 : HdBox W1 W.heap.size ⟨hdst, hsrc, hproto, hsport, hdport⟩ := by rw [← hW1]; exact blk_alloc (heap_alloc_new W _) _
  have hX2 : HdBox W1 (W.heap.size + 1) ⟨gdst, gsrc, gproto, gsport, gdport⟩ := by
    rw [← hW1]
    have := heap_alloc_new (W.alloc (.cells #[.int .u32 (hdst : Int), .int .u32 (hsrc : Int), .int .u8 (hproto : Int), .int .u16 (hsport : Int), .int .u16 (hdport : Int)] 25)) (.cells #[.int .u32 (gdst : Int), .int .u32 (gsrc : Int), .int .u8 (gproto : Int), .int .u16 (gsport : Int), .int .u16 (gdport : Int)] 25)
    rw [show (W.alloc (.cells #[.int .u32 (hdst : Int), .int .u32 (hsrc : Int), .int .u8 (hproto : Int), .int .u16 (hsport : Int), .int .u16 (hdport : Int)] 25)).heap.size = W.heap.size + 1 by simp] at this
    exact this
  have HB1 := Lib.hid hB1
  have HX1 := Lib.hid hX1
  have HX2 := Lib.hid hX2
  clear hW1 hB1 hX1 hX2
  refine (AR.new (Below.refl _ W1) 1024 (by omega) (by omega)).mono ?_
  rintro e w2 ⟨p, q, mb, he, H2⟩
  subst he
  have H2 := Lib.hid H2
  obtain ⟨d0, d1, d2, d3, d4⟩ := HX1.out.cells H2.out.2.2.2.2.2
  simp only at d0 d1 d2 d3 d4
  go_wp2_with (fail)
  clear d0 d1 d2 d3 d4
  refine (H2.out.post o1 (by have := header_calls H2.out.2.2.2.1 H2.out.2.2.2.2.1 ⟨hdst, hsrc, hproto, hsport, hdport⟩; rw [E1.out] at this; exact this)).mono ?_
  rintro e w3 ⟨he, g3, hg3, H3, K3⟩
  subst he
  have H3 := Lib.hid H3
  clear hg3 K3
  simp only [resV, Option.getD_some, Option.isSome_some, if_true]
  obtain ⟨d0, d1, d2, d3, d4⟩ := HX2.out.cells H3.out.2.2.2.2.2
  simp only at d0 d1 d2 d3 d4
  go_wp2_with (fail)
  clear d0 d1 d2 d3 d4
  refine (H3.out.post o2 (by have := header_calls H3.out.2.2.2.1 o1 ⟨gdst, gsrc, gproto, gsport, gdport⟩; rw [E2.out] at this; exact this)).mono ?_
  rintro e w4 ⟨he, g4, hg4, H4, K4⟩
  subst he
  have H4 := Lib.hid H4
  clear hg4 K4
  simp only [resV, Option.getD_some, Option.isSome_some, if_true]
  go_wp2_with (fail)
  have SK : ∀ w', Hid (AR W1 w' p g4 mb A2) → ((w'.cell? ⟨W.heap.size, 0, none⟩ = some (.int .u32 (hdst : Int)) ∧ w'.cell? ⟨W.heap.size, 1, none⟩ = some (.int .u32 (hsrc : Int)) ∧ w'.cell? ⟨W.heap.size, 2, none⟩ = some (.int .u8 (hproto : Int)) ∧ w'.cell? ⟨W.heap.size, 3, none⟩ = some (.int .u16 (hsport : Int)) ∧ w'.cell? ⟨W.heap.size, 4, none⟩ = some (.int .u16 (hdport : Int))) ∧
      (w'.cell? ⟨W.heap.size + 1, 0, none⟩ = some (.int .u32 (gdst : Int)) ∧ w'.cell? ⟨W.heap.size + 1, 1, none⟩ = some (.int .u32 (gsrc : Int)) ∧ w'.cell? ⟨W.heap.size + 1, 2, none⟩ = some (.int .u8 (gproto : Int)) ∧ w'.cell? ⟨W.heap.size + 1, 3, none⟩ = some (.int .u16 (gsport : Int)) ∧ w'.cell? ⟨W.heap.size + 1, 4, none⟩ = some (.int .u16 (gdport : Int)))) :=
    fun w' R => ⟨HX1.out.cells R.out.2.2.2.2.2, HX2.out.cells R.out.2.2.2.2.2⟩
  have HSK := Lib.hid SK
  have AW : ∀ w', Hid (AR W1 w' p g4 mb A2) → Calls Try.prog 19 #[] w' fun e w'' => e = .returned (.bool true) ∧ Hid (AR W1 w'' p g4 mb A2) :=
    fun w' R => (awake07_calls w').mono fun e w'' ⟨he, k⟩ => ⟨he, Lib.hid (R.out.below k)⟩
  have IN : ∀ w' v b, InV A2 x v b → Hid (AR W1 w' p g4 mb A2) → Calls Try.prog 20 #[.pointer (some ⟨p, 0, none⟩), .int .i64 (x : Int), v] w' fun e w'' => e = .returned (.bool b) ∧ Hid (AR W1 w'' p g4 mb A2) := by
    rintro w' v b ⟨hd, rfl, rfl⟩ R
    exact (In_calls R.out.2.2.2.1 o2 x hx hd).mono fun e w'' ⟨he, k⟩ => ⟨he, Lib.hid (R.out.below k)⟩
  have V1 : InV A2 x (.agg #[.int .u32 (hdst : Int), .int .u32 (hsrc : Int), .int .u8 (hproto : Int), .int .u16 (hsport : Int), .int .u16 (hdport : Int)]) true := ⟨⟨hdst, hsrc, hproto, hsport, hdport⟩, rfl, I1.out.symm⟩
  have V2 : InV A2 x (.agg #[.int .u32 (gdst : Int), .int .u32 (gsrc : Int), .int .u8 (gproto : Int), .int .u16 (gsport : Int), .int .u16 (gdport : Int)]) (decide (Hd.mk hdst hsrc hproto hsport hdport = Hd.mk gdst gsrc gproto gsport gdport)) := ⟨⟨gdst, gsrc, gproto, gsport, gdport⟩, rfl, I2.out.symm⟩
  have HAW := Lib.hid AW
  have HIN := Lib.hid IN
  have HV1 := Lib.hid V1
  have HV2 := Lib.hid V2
  have H4d := Lib.hid (H4.out.below (((Kept.refl [] w4).drew).below (Nat.le_refl _) (by simp)))
  clear SK AW IN V1 V2
  by_cases heq : Hd.mk hdst hsrc hproto hsport hdport = Hd.mk gdst gsrc gproto gsport gdport
  · cases heq
    obtain rfl : x = y := HXY.out.2 rfl
    clear HV2
    go_region_held3 (fun w' => (w'.cell? ⟨W.heap.size, 0, none⟩ = some (.int .u32 (hdst : Int)) ∧ w'.cell? ⟨W.heap.size, 1, none⟩ = some (.int .u32 (hsrc : Int)) ∧ w'.cell? ⟨W.heap.size, 2, none⟩ = some (.int .u8 (hproto : Int)) ∧ w'.cell? ⟨W.heap.size, 3, none⟩ = some (.int .u16 (hsport : Int)) ∧ w'.cell? ⟨W.heap.size, 4, none⟩ = some (.int .u16 (hdport : Int))) ∧ (w'.cell? ⟨W.heap.size + 1, 0, none⟩ = some (.int .u32 (hdst : Int)) ∧ w'.cell? ⟨W.heap.size + 1, 1, none⟩ = some (.int .u32 (hsrc : Int)) ∧ w'.cell? ⟨W.heap.size + 1, 2, none⟩ = some (.int .u8 (hproto : Int)) ∧ w'.cell? ⟨W.heap.size + 1, 3, none⟩ = some (.int .u16 (hsport : Int)) ∧ w'.cell? ⟨W.heap.size + 1, 4, none⟩ = some (.int .u16 (hdport : Int)))) (first | exact HSK.out _ (by assumption))
      (first | (go_at_call 19; refine Calls.mono (HAW.out _ (by assumption)) ?_; rintro e w5 ⟨he, H5⟩; subst he) | (go_at_call 20; refine Calls.mono (HIN.out _ _ _ (by first | exact HV1.out | exact HV2.out) (by assumption)) ?_; rintro e w5 ⟨he, H5⟩; subst he))
    go_wp2
    go_ret
    exact ⟨rfl, HB1.out.trans (H5.out.2.2.2.2.2.mono HB1.out.size)⟩
  have hne : x ≠ y := fun e => heq (HXY.out.1 e)
  have t1 : ((x : Int) == (y : Int)) = false := nat_bne hne
  rw [decide_eq_false heq] at HV2
  have hcase : hdst ≠ gdst ∨ (hdst = gdst ∧ hsrc ≠ gsrc) ∨ (hdst = gdst ∧ hsrc = gsrc ∧ hproto ≠ gproto) ∨ (hdst = gdst ∧ hsrc = gsrc ∧ hproto = gproto ∧ hsport ≠ gsport) ∨ (hdst = gdst ∧ hsrc = gsrc ∧ hproto = gproto ∧ hsport = gsport ∧ hdport ≠ gdport) := by
    by_cases c0 : hdst = gdst
    · by_cases c1 : hsrc = gsrc
      · by_cases c2 : hproto = gproto
        · by_cases c3 : hsport = gsport
          · by_cases c4 : hdport = gdport
            · subst c0 c1 c2 c3 c4; exact absurd rfl heq
            · exact Or.inr (Or.inr (Or.inr (Or.inr ⟨c0, c1, c2, c3, c4⟩)))
          · exact Or.inr (Or.inr (Or.inr (Or.inl ⟨c0, c1, c2, c3⟩)))
        · exact Or.inr (Or.inr (Or.inl ⟨c0, c1, c2⟩))
      · exact Or.inr (Or.inl ⟨c0, c1⟩)
    · exact Or.inl c0
  clear heq hne HXY
  rcases hcase with hc | ⟨rfl, hc⟩ | ⟨rfl, rfl, hc⟩ | ⟨rfl, rfl, rfl, hc⟩ | ⟨rfl, rfl, rfl, rfl, hc⟩
  · have t2 : ((hdst : Int) == (gdst : Int)) = false := nat_bne hc
    clear hc
    go_region_held3 (fun w' => (w'.cell? ⟨W.heap.size, 0, none⟩ = some (.int .u32 (hdst : Int)) ∧ w'.cell? ⟨W.heap.size, 1, none⟩ = some (.int .u32 (hsrc : Int)) ∧ w'.cell? ⟨W.heap.size, 2, none⟩ = some (.int .u8 (hproto : Int)) ∧ w'.cell? ⟨W.heap.size, 3, none⟩ = some (.int .u16 (hsport : Int)) ∧ w'.cell? ⟨W.heap.size, 4, none⟩ = some (.int .u16 (hdport : Int))) ∧ (w'.cell? ⟨W.heap.size + 1, 0, none⟩ = some (.int .u32 (gdst : Int)) ∧ w'.cell? ⟨W.heap.size + 1, 1, none⟩ = some (.int .u32 (gsrc : Int)) ∧ w'.cell? ⟨W.heap.size + 1, 2, none⟩ = some (.int .u8 (gproto : Int)) ∧ w'.cell? ⟨W.heap.size + 1, 3, none⟩ = some (.int .u16 (gsport : Int)) ∧ w'.cell? ⟨W.heap.size + 1, 4, none⟩ = some (.int .u16 (gdport : Int)))) (first | exact HSK.out _ (by assumption))
      (first | (go_at_call 19; refine Calls.mono (HAW.out _ (by assumption)) ?_; rintro e w5 ⟨he, H5⟩; subst he) | (go_at_call 20; refine Calls.mono (HIN.out _ _ _ (by first | exact HV1.out | exact HV2.out) (by assumption)) ?_; rintro e w5 ⟨he, H5⟩; subst he))
    go_wp2
    go_ret
    exact ⟨rfl, HB1.out.trans (H5.out.2.2.2.2.2.mono HB1.out.size)⟩
  · have t2 : ((hsrc : Int) == (gsrc : Int)) = false := nat_bne hc
    clear hc
    go_region_held3 (fun w' => (w'.cell? ⟨W.heap.size, 0, none⟩ = some (.int .u32 (hdst : Int)) ∧ w'.cell? ⟨W.heap.size, 1, none⟩ = some (.int .u32 (hsrc : Int)) ∧ w'.cell? ⟨W.heap.size, 2, none⟩ = some (.int .u8 (hproto : Int)) ∧ w'.cell? ⟨W.heap.size, 3, none⟩ = some (.int .u16 (hsport : Int)) ∧ w'.cell? ⟨W.heap.size, 4, none⟩ = some (.int .u16 (hdport : Int))) ∧ (w'.cell? ⟨W.heap.size + 1, 0, none⟩ = some (.int .u32 (hdst : Int)) ∧ w'.cell? ⟨W.heap.size + 1, 1, none⟩ = some (.int .u32 (gsrc : Int)) ∧ w'.cell? ⟨W.heap.size + 1, 2, none⟩ = some (.int .u8 (gproto : Int)) ∧ w'.cell? ⟨W.heap.size + 1, 3, none⟩ = some (.int .u16 (gsport : Int)) ∧ w'.cell? ⟨W.heap.size + 1, 4, none⟩ = some (.int .u16 (gdport : Int)))) (first | exact HSK.out _ (by assumption))
      (first | (go_at_call 19; refine Calls.mono (HAW.out _ (by assumption)) ?_; rintro e w5 ⟨he, H5⟩; subst he) | (go_at_call 20; refine Calls.mono (HIN.out _ _ _ (by first | exact HV1.out | exact HV2.out) (by assumption)) ?_; rintro e w5 ⟨he, H5⟩; subst he))
    go_wp2
    go_ret
    exact ⟨rfl, HB1.out.trans (H5.out.2.2.2.2.2.mono HB1.out.size)⟩
  · have t2 : ((hproto : Int) == (gproto : Int)) = false := nat_bne hc
    clear hc
    go_region_held3 (fun w' => (w'.cell? ⟨W.heap.size, 0, none⟩ = some (.int .u32 (hdst : Int)) ∧ w'.cell? ⟨W.heap.size, 1, none⟩ = some (.int .u32 (hsrc : Int)) ∧ w'.cell? ⟨W.heap.size, 2, none⟩ = some (.int .u8 (hproto : Int)) ∧ w'.cell? ⟨W.heap.size, 3, none⟩ = some (.int .u16 (hsport : Int)) ∧ w'.cell? ⟨W.heap.size, 4, none⟩ = some (.int .u16 (hdport : Int))) ∧ (w'.cell? ⟨W.heap.size + 1, 0, none⟩ = some (.int .u32 (hdst : Int)) ∧ w'.cell? ⟨W.heap.size + 1, 1, none⟩ = some (.int .u32 (hsrc : Int)) ∧ w'.cell? ⟨W.heap.size + 1, 2, none⟩ = some (.int .u8 (gproto : Int)) ∧ w'.cell? ⟨W.heap.size + 1, 3, none⟩ = some (.int .u16 (gsport : Int)) ∧ w'.cell? ⟨W.heap.size + 1, 4, none⟩ = some (.int .u16 (gdport : Int)))) (first | exact HSK.out _ (by assumption))
      (first | (go_at_call 19; refine Calls.mono (HAW.out _ (by assumption)) ?_; rintro e w5 ⟨he, H5⟩; subst he) | (go_at_call 20; refine Calls.mono (HIN.out _ _ _ (by first | exact HV1.out | exact HV2.out) (by assumption)) ?_; rintro e w5 ⟨he, H5⟩; subst he))
    go_wp2
    go_ret
    exact ⟨rfl, HB1.out.trans (H5.out.2.2.2.2.2.mono HB1.out.size)⟩
  · have t2 : ((hsport : Int) == (gsport : Int)) = false := nat_bne hc
    clear hc
    go_region_held3 (fun w' => (w'.cell? ⟨W.heap.size, 0, none⟩ = some (.int .u32 (hdst : Int)) ∧ w'.cell? ⟨W.heap.size, 1, none⟩ = some (.int .u32 (hsrc : Int)) ∧ w'.cell? ⟨W.heap.size, 2, none⟩ = some (.int .u8 (hproto : Int)) ∧ w'.cell? ⟨W.heap.size, 3, none⟩ = some (.int .u16 (hsport : Int)) ∧ w'.cell? ⟨W.heap.size, 4, none⟩ = some (.int .u16 (hdport : Int))) ∧ (w'.cell? ⟨W.heap.size + 1, 0, none⟩ = some (.int .u32 (hdst : Int)) ∧ w'.cell? ⟨W.heap.size + 1, 1, none⟩ = some (.int .u32 (hsrc : Int)) ∧ w'.cell? ⟨W.heap.size + 1, 2, none⟩ = some (.int .u8 (hproto : Int)) ∧ w'.cell? ⟨W.heap.size + 1, 3, none⟩ = some (.int .u16 (gsport : Int)) ∧ w'.cell? ⟨W.heap.size + 1, 4, none⟩ = some (.int .u16 (gdport : Int)))) (first | exact HSK.out _ (by assumption))
      (first | (go_at_call 19; refine Calls.mono (HAW.out _ (by assumption)) ?_; rintro e w5 ⟨he, H5⟩; subst he) | (go_at_call 20; refine Calls.mono (HIN.out _ _ _ (by first | exact HV1.out | exact HV2.out) (by assumption)) ?_; rintro e w5 ⟨he, H5⟩; subst he))
    go_wp2
    go_ret
    exact ⟨rfl, HB1.out.trans (H5.out.2.2.2.2.2.mono HB1.out.size)⟩
  · have t2 : ((hdport : Int) == (gdport : Int)) = false := nat_bne hc
    clear hc
    go_region_held3 (fun w' => (w'.cell? ⟨W.heap.size, 0, none⟩ = some (.int .u32 (hdst : Int)) ∧ w'.cell? ⟨W.heap.size, 1, none⟩ = some (.int .u32 (hsrc : Int)) ∧ w'.cell? ⟨W.heap.size, 2, none⟩ = some (.int .u8 (hproto : Int)) ∧ w'.cell? ⟨W.heap.size, 3, none⟩ = some (.int .u16 (hsport : Int)) ∧ w'.cell? ⟨W.heap.size, 4, none⟩ = some (.int .u16 (hdport : Int))) ∧ (w'.cell? ⟨W.heap.size + 1, 0, none⟩ = some (.int .u32 (hdst : Int)) ∧ w'.cell? ⟨W.heap.size + 1, 1, none⟩ = some (.int .u32 (hsrc : Int)) ∧ w'.cell? ⟨W.heap.size + 1, 2, none⟩ = some (.int .u8 (hproto : Int)) ∧ w'.cell? ⟨W.heap.size + 1, 3, none⟩ = some (.int .u16 (hsport : Int)) ∧ w'.cell? ⟨W.heap.size + 1, 4, none⟩ = some (.int .u16 (gdport : Int)))) (first | exact HSK.out _ (by assumption))
      (first | (go_at_call 19; refine Calls.mono (HAW.out _ (by assumption)) ?_; rintro e w5 ⟨he, H5⟩; subst he) | (go_at_call 20; refine Calls.mono (HIN.out _ _ _ (by first | exact HV1.out | exact HV2.out) (by assumption)) ?_; rintro e w5 ⟨he, H5⟩; subst he))
    go_wp2
    go_ret
    exact ⟨rfl, HB1.out.trans (H5.out.2.2.2.2.2.mono HB1.out.size)⟩

theorem headers_row (u v : Value) (hu : ArgHd u) (hv : ArgHd v) (W : World) :
    Calls Try.prog 3 #[u, v] W fun e w' => e = .returned (.bool true) ∧ Below W.heap.size W w' := by
  obtain ⟨h, hw, rfl⟩ := hu
  obtain ⟨g, gw, rfl⟩ := hv
  exact headers_main W h g hw gw

end Go.Proofs.Ytakgghhmecphmaa
