/- Filters: what may be, and what matches. · Filters: the walks of Match. -/
import Derived.Test.YtjoblahedgpgbaaGreatCid
import Derived.Deep.CutRange
import Derived.Deep.RegionHeld3
namespace Go.Proofs.YtjoblahedgpgbaaGreat
set_option linter.unusedVariables false
set_option linter.unusedSimpArgs false
open Go.RowKit

/-- A filter, as it lies flat. -/
structure Fl where
  da : Nat
  dn : Int
  sa : Nat
  sn : Int
  proto : Int
  s1 : Nat
  s2 : Nat
  d1 : Nat
  d2 : Nat
def Fl.cells (f : Fl) : List Value := [.int .u32 (f.da : Int), .int .i64 f.dn, .int .u32 (f.sa : Int), .int .i64 f.sn, .int .i64 f.proto, .int .u16 (f.s1 : Int), .int .u16 (f.s2 : Int), .int .u16 (f.d1 : Int), .int .u16 (f.d2 : Int)]
def Fl.val (f : Fl) : Value := .agg #[.int .u32 (f.da : Int), .int .i64 f.dn, .int .u32 (f.sa : Int), .int .i64 f.sn, .int .i64 f.proto, .int .u16 (f.s1 : Int), .int .u16 (f.s2 : Int), .int .u16 (f.d1 : Int), .int .u16 (f.d2 : Int)]
def Fl.obj (f : Fl) : Obj := .cells #[.int .u32 (f.da : Int), .int .i64 f.dn, .int .u32 (f.sa : Int), .int .i64 f.sn, .int .i64 f.proto, .int .u16 (f.s1 : Int), .int .u16 (f.s2 : Int), .int .u16 (f.d1 : Int), .int .u16 (f.d2 : Int)] 59
structure Fl.Wf (f : Fl) : Prop where
  da : f.da < 2 ^ 32
  sa : f.sa < 2 ^ 32
  s2 : f.s2 < 65536
  d2 : f.d2 < 65536
/-- What is wrong with a filter. -/
def checkF (f : Fl) : Int := if (rtB ⟨f.da, f.dn⟩ && rtB ⟨f.sa, f.sn⟩) = false then 13 else if f.proto < -1 ∨ 255 < f.proto then 5 else if f.s2 < f.s1 ∨ f.d2 < f.d1 then 14 else 0

/-- A box of a filter. -/
def FB (w : World) (k : Nat) (f : Fl) : Prop := w.heap[k]? = some f.obj
theorem FB.next {w w' : World} {k : Nat} {f : Fl} (h : FB w k f) (b : Below w.heap.size w w') : FB w' k f := (b.block _ (lt_of_block h)).trans h
theorem FB.cells {w : World} {k : Nat} {f : Fl} (h : FB w k f) : w.cell? ⟨k, 0, none⟩ = some (.int .u32 (f.da : Int)) ∧ w.cell? ⟨k, 1, none⟩ = some (.int .i64 f.dn) ∧ w.cell? ⟨k, 2, none⟩ = some (.int .u32 (f.sa : Int)) ∧ w.cell? ⟨k, 3, none⟩ = some (.int .i64 f.sn) ∧ w.cell? ⟨k, 4, none⟩ = some (.int .i64 f.proto) ∧
    w.cell? ⟨k, 5, none⟩ = some (.int .u16 (f.s1 : Int)) ∧ w.cell? ⟨k, 6, none⟩ = some (.int .u16 (f.s2 : Int)) ∧ w.cell? ⟨k, 7, none⟩ = some (.int .u16 (f.d1 : Int)) ∧ w.cell? ⟨k, 8, none⟩ = some (.int .u16 (f.d2 : Int)) :=
  ⟨cell_of h 0, cell_of h 1, cell_of h 2, cell_of h 3, cell_of h 4, cell_of h 5, cell_of h 6, cell_of h 7, cell_of h 8⟩

set_option maxRecDepth 100000 in
set_option maxHeartbeats 2000000 in
theorem fcheck_calls (w : World) {f : Fl} (hf : f.Wf) : Calls Tryz.prog 86 #[f.val] w fun e w' => e = .returned (.int .i64 (checkF f)) ∧ Below w.heap.size w w' := by
  have H1 := Lib.hid (fun W => cright_calls W ⟨f.da, f.dn⟩ hf.da)
  have H2 := Lib.hid (fun W => cright_calls W ⟨f.sa, f.sn⟩ hf.sa)
  have HX := Lib.hid (show FB (w.alloc f.obj) w.heap.size f from heap_alloc_new w f.obj)
  have HK := Lib.hid ((Below.refl w.heap.size w).alloc (Nat.le_refl _) f.obj)
  unfold Fl.val
  unfold Fl.obj at HX HK
  obtain ⟨r, hr⟩ : ∃ r, r = checkF f := ⟨_, rfl⟩
  rw [← hr]
  unfold checkF at hr
  cases hb1 : rtB ⟨f.da, f.dn⟩ with
  | false =>
    rw [hb1] at H1 hr
    obtain rfl : r = 13 := hr
    clear hb1
    go_enter Tryz.func86, Tryz.ntmps86
    go_upto_region 1 with (fail)
    generalize hw1 : w.alloc (.cells #[.int .u32 (f.da : Int), .int .i64 f.dn, .int .u32 (f.sa : Int), .int .i64 f.sn, .int .i64 f.proto, .int .u16 (f.s1 : Int), .int .u16 (f.s2 : Int), .int .u16 (f.d1 : Int), .int .u16 (f.d2 : Int)] 59) = w1 at *
    clear hw1
    have c := HX.out.cells
    go_wp2_with (fail)
    refine Calls.mono (H1.out _) ?_
    rintro e w2 ⟨he, k2⟩
    subst he
    have K2 := Lib.hid (HK.out.trans (k2.mono HK.out.size))
    clear k2
    go_wp2_with (fail)
    go_ret
    exact ⟨rfl, K2.out⟩
  | true =>
    rw [hb1, Bool.true_and] at hr
    rw [hb1] at H1
    clear hb1
    cases hb2 : rtB ⟨f.sa, f.sn⟩ with
    | false =>
      rw [hb2] at H2 hr
      obtain rfl : r = 13 := hr
      clear hb2
      go_enter Tryz.func86, Tryz.ntmps86
      go_upto_region 1 with (fail)
      generalize hw1 : w.alloc (.cells #[.int .u32 (f.da : Int), .int .i64 f.dn, .int .u32 (f.sa : Int), .int .i64 f.sn, .int .i64 f.proto, .int .u16 (f.s1 : Int), .int .u16 (f.s2 : Int), .int .u16 (f.d1 : Int), .int .u16 (f.d2 : Int)] 59) = w1 at *
      clear hw1
      have c := HX.out.cells
      go_wp2_with (fail)
      refine Calls.mono (H1.out _) ?_
      rintro e w2 ⟨he, k2⟩
      subst he
      have K2 := Lib.hid (HK.out.trans (k2.mono HK.out.size))
      have hx2 := HX.out.next k2
      clear k2 c
      have c := hx2.cells
      go_wp2_with (fail)
      refine Calls.mono (H2.out _) ?_
      rintro e w3 ⟨he, k3⟩
      subst he
      have K3 := Lib.hid (K2.out.trans (k3.mono K2.out.size))
      clear k3
      go_wp2_with (fail)
      go_ret
      exact ⟨rfl, K3.out⟩
    | true =>
      rw [hb2, if_neg (by simp)] at hr
      rw [hb2] at H2
      clear hb2
      go_enter Tryz.func86, Tryz.ntmps86
      go_upto_region 1 with (fail)
      generalize hw1 : w.alloc (.cells #[.int .u32 (f.da : Int), .int .i64 f.dn, .int .u32 (f.sa : Int), .int .i64 f.sn, .int .i64 f.proto, .int .u16 (f.s1 : Int), .int .u16 (f.s2 : Int), .int .u16 (f.d1 : Int), .int .u16 (f.d2 : Int)] 59) = w1 at *
      clear hw1
      have c := HX.out.cells
      go_wp2_with (fail)
      refine Calls.mono (H1.out _) ?_
      rintro e w2 ⟨he, k2⟩
      subst he
      have K2 := Lib.hid (HK.out.trans (k2.mono HK.out.size))
      have hx2 := HX.out.next k2
      clear k2 c
      have c := hx2.cells
      go_wp2_with (fail)
      refine Calls.mono (H2.out _) ?_
      rintro e w3 ⟨he, k3⟩
      subst he
      have K3 := Lib.hid (K2.out.trans (k3.mono K2.out.size))
      have hx3 := hx2.next k3
      clear k3 c
      have c := hx3.cells
      by_cases hp : f.proto < -1 ∨ 255 < f.proto
      · rw [if_pos hp] at hr
        subst hr
        rcases Int.lt_or_le f.proto (-1) with h1 | h1
        · go_wp2_with (fail)
          go_ret
          exact ⟨rfl, K3.out⟩
        · have h2 : 255 < f.proto := by omega
          go_wp2_with (fail)
          go_ret
          exact ⟨rfl, K3.out⟩
      · rw [if_neg hp] at hr
        have h1 : ¬ f.proto < -1 := by omega
        have h2 : ¬ 255 < f.proto := by omega
        by_cases hs : f.s2 < f.s1 ∨ f.d2 < f.d1
        · rw [if_pos hs] at hr
          subst hr
          rcases Nat.lt_or_ge f.s2 f.s1 with h3 | h3
          · have h3 : (f.s2 : Int) < (f.s1 : Int) := by omega
            go_wp2_with (fail)
            go_ret
            exact ⟨rfl, K3.out⟩
          · have h4 : (f.d2 : Int) < (f.d1 : Int) := by omega
            have h3 : ¬ (f.s2 : Int) < (f.s1 : Int) := by omega
            go_wp2_with (fail)
            go_ret
            exact ⟨rfl, K3.out⟩
        · rw [if_neg hs] at hr
          subst hr
          have h3 : ¬ (f.s2 : Int) < (f.s1 : Int) := by omega
          have h4 : ¬ (f.d2 : Int) < (f.d1 : Int) := by omega
          go_wp2_with (fail)
          go_ret
          exact ⟨rfl, K3.out⟩
set_option maxRecDepth 100000 in
set_option maxHeartbeats 2000000 in
theorem rfcheck_calls (w : World) {f : Fl} (hf : f.Wf) : Calls Tryz.prog 87 #[f.val] w fun e w' => e = .returned (.int .i64 (checkF f)) ∧ Below w.heap.size w w' := by
  have H1 := Lib.hid (fun W => rright_calls W ⟨f.da, f.dn⟩ hf.da)
  have H2 := Lib.hid (fun W => rright_calls W ⟨f.sa, f.sn⟩ hf.sa)
  have HX := Lib.hid (show FB (w.alloc f.obj) w.heap.size f from heap_alloc_new w f.obj)
  have HK := Lib.hid ((Below.refl w.heap.size w).alloc (Nat.le_refl _) f.obj)
  unfold Fl.val
  unfold Fl.obj at HX HK
  obtain ⟨r, hr⟩ : ∃ r, r = checkF f := ⟨_, rfl⟩
  rw [← hr]
  unfold checkF at hr
  cases hb1 : rtB ⟨f.da, f.dn⟩ with
  | false =>
    rw [hb1] at H1 hr
    obtain rfl : r = 13 := hr
    clear hb1
    go_enter Tryz.func87, Tryz.ntmps87
    go_upto_region 1 with (fail)
    generalize hw1 : w.alloc (.cells #[.int .u32 (f.da : Int), .int .i64 f.dn, .int .u32 (f.sa : Int), .int .i64 f.sn, .int .i64 f.proto, .int .u16 (f.s1 : Int), .int .u16 (f.s2 : Int), .int .u16 (f.d1 : Int), .int .u16 (f.d2 : Int)] 59) = w1 at *
    clear hw1
    have c := HX.out.cells
    go_wp2_with (fail)
    refine Calls.mono (H1.out _) ?_
    rintro e w2 ⟨he, k2⟩
    subst he
    have K2 := Lib.hid (HK.out.trans (k2.mono HK.out.size))
    clear k2
    go_wp2_with (fail)
    go_ret
    exact ⟨rfl, K2.out⟩
  | true =>
    rw [hb1, Bool.true_and] at hr
    rw [hb1] at H1
    clear hb1
    cases hb2 : rtB ⟨f.sa, f.sn⟩ with
    | false =>
      rw [hb2] at H2 hr
      obtain rfl : r = 13 := hr
      clear hb2
      go_enter Tryz.func87, Tryz.ntmps87
      go_upto_region 1 with (fail)
      generalize hw1 : w.alloc (.cells #[.int .u32 (f.da : Int), .int .i64 f.dn, .int .u32 (f.sa : Int), .int .i64 f.sn, .int .i64 f.proto, .int .u16 (f.s1 : Int), .int .u16 (f.s2 : Int), .int .u16 (f.d1 : Int), .int .u16 (f.d2 : Int)] 59) = w1 at *
      clear hw1
      have c := HX.out.cells
      go_wp2_with (fail)
      refine Calls.mono (H1.out _) ?_
      rintro e w2 ⟨he, k2⟩
      subst he
      have K2 := Lib.hid (HK.out.trans (k2.mono HK.out.size))
      have hx2 := HX.out.next k2
      clear k2 c
      have c := hx2.cells
      go_wp2_with (fail)
      refine Calls.mono (H2.out _) ?_
      rintro e w3 ⟨he, k3⟩
      subst he
      have K3 := Lib.hid (K2.out.trans (k3.mono K2.out.size))
      clear k3
      go_wp2_with (fail)
      go_ret
      exact ⟨rfl, K3.out⟩
    | true =>
      rw [hb2, if_neg (by simp)] at hr
      rw [hb2] at H2
      clear hb2
      go_enter Tryz.func87, Tryz.ntmps87
      go_upto_region 1 with (fail)
      generalize hw1 : w.alloc (.cells #[.int .u32 (f.da : Int), .int .i64 f.dn, .int .u32 (f.sa : Int), .int .i64 f.sn, .int .i64 f.proto, .int .u16 (f.s1 : Int), .int .u16 (f.s2 : Int), .int .u16 (f.d1 : Int), .int .u16 (f.d2 : Int)] 59) = w1 at *
      clear hw1
      have c := HX.out.cells
      go_wp2_with (fail)
      refine Calls.mono (H1.out _) ?_
      rintro e w2 ⟨he, k2⟩
      subst he
      have K2 := Lib.hid (HK.out.trans (k2.mono HK.out.size))
      have hx2 := HX.out.next k2
      clear k2 c
      have c := hx2.cells
      go_wp2_with (fail)
      refine Calls.mono (H2.out _) ?_
      rintro e w3 ⟨he, k3⟩
      subst he
      have K3 := Lib.hid (K2.out.trans (k3.mono K2.out.size))
      have hx3 := hx2.next k3
      clear k3 c
      have c := hx3.cells
      by_cases hp : f.proto < -1 ∨ 255 < f.proto
      · rw [if_pos hp] at hr
        subst hr
        rcases Int.lt_or_le f.proto (-1) with h1 | h1
        · go_wp2_with (fail)
          go_ret
          exact ⟨rfl, K3.out⟩
        · have h2 : 255 < f.proto := by omega
          go_wp2_with (fail)
          go_ret
          exact ⟨rfl, K3.out⟩
      · rw [if_neg hp] at hr
        have h1 : ¬ f.proto < -1 := by omega
        have h2 : ¬ 255 < f.proto := by omega
        by_cases hs : f.s2 < f.s1 ∨ f.d2 < f.d1
        · rw [if_pos hs] at hr
          subst hr
          rcases Nat.lt_or_ge f.s2 f.s1 with h3 | h3
          · have h3 : (f.s2 : Int) < (f.s1 : Int) := by omega
            go_wp2_with (fail)
            go_ret
            exact ⟨rfl, K3.out⟩
          · have h4 : (f.d2 : Int) < (f.d1 : Int) := by omega
            have h3 : ¬ (f.s2 : Int) < (f.s1 : Int) := by omega
            go_wp2_with (fail)
            go_ret
            exact ⟨rfl, K3.out⟩
        · rw [if_neg hs] at hr
          subst hr
          have h3 : ¬ (f.s2 : Int) < (f.s1 : Int) := by omega
          have h4 : ¬ (f.d2 : Int) < (f.d1 : Int) := by omega
          go_wp2_with (fail)
          go_ret
          exact ⟨rfl, K3.out⟩

/-- A header, as it lies flat. -/
structure Hv where
  dst : Nat
  src : Nat
  proto : Nat
  sport : Nat
  dport : Nat
def Hv.val (h : Hv) : Value := .agg #[.int .u32 (h.dst : Int), .int .u32 (h.src : Int), .int .u8 (h.proto : Int), .int .u16 (h.sport : Int), .int .u16 (h.dport : Int)]
structure Hv.Wf (h : Hv) : Prop where
  dst : h.dst < 2 ^ 32
  src : h.src < 2 ^ 32
  proto : h.proto < 256
def HB (w : World) (k : Nat) (h : Hv) : Prop := w.heap[k]? = some (.cells #[.int .u32 (h.dst : Int), .int .u32 (h.src : Int), .int .u8 (h.proto : Int), .int .u16 (h.sport : Int), .int .u16 (h.dport : Int)] 31 (0, 0))
theorem HB.next {w w' : World} {k : Nat} {h : Hv} (x : HB w k h) (b : Below w.heap.size w w') : HB w' k h := (b.block _ (lt_of_block x)).trans x
theorem HB.cells {w : World} {k : Nat} {h : Hv} (x : HB w k h) : w.cell? ⟨k, 0, none⟩ = some (.int .u32 (h.dst : Int)) ∧ w.cell? ⟨k, 1, none⟩ = some (.int .u32 (h.src : Int)) ∧ w.cell? ⟨k, 2, none⟩ = some (.int .u8 (h.proto : Int)) ∧ w.cell? ⟨k, 3, none⟩ = some (.int .u16 (h.sport : Int)) ∧ w.cell? ⟨k, 4, none⟩ = some (.int .u16 (h.dport : Int)) :=
  ⟨cell_of x 0, cell_of x 1, cell_of x 2, cell_of x 3, cell_of x 4⟩

def inR (lo hi x : Nat) : Bool := decide (lo ≤ x) && decide (x ≤ hi)
set_option maxRecDepth 100000 in
theorem cin_calls (w : World) (lo hi x : Nat) : Calls Tryz.prog 291 #[.agg #[.int .u16 (lo : Int), .int .u16 (hi : Int)], .int .u16 (x : Int)] w fun e w' => e = .returned (.bool (inR lo hi x)) ∧ Below w.heap.size w w' := by
  have HK := Lib.hid ((Below.refl w.heap.size w).alloc (Nat.le_refl _) (.cells #[.int .u16 (lo : Int), .int .u16 (hi : Int)] 57))
  obtain ⟨r, hr⟩ : ∃ r, r = inR lo hi x := ⟨_, rfl⟩
  rw [← hr]
  unfold inR at hr
  go_enter Tryz.func291, Tryz.ntmps291
  by_cases h1 : lo ≤ x
  · rw [decide_eq_true h1, Bool.true_and] at hr
    have h1' : (lo : Int) ≤ (x : Int) := by omega
    by_cases h2 : x ≤ hi
    · rw [decide_eq_true h2] at hr
      have h2' : (x : Int) ≤ (hi : Int) := by omega
      subst hr
      go_wp2_with (fail)
      go_ret
      exact ⟨rfl, HK.out⟩
    · rw [decide_eq_false h2] at hr
      have h2' : ¬ (x : Int) ≤ (hi : Int) := by omega
      subst hr
      go_wp2_with (fail)
      go_ret
      exact ⟨rfl, HK.out⟩
  · rw [decide_eq_false h1, Bool.false_and] at hr
    have h1' : ¬ (lo : Int) ≤ (x : Int) := by omega
    subst hr
    go_wp2_with (fail)
    go_ret
    exact ⟨rfl, HK.out⟩

def protoF (f : Fl) (h : Hv) : Bool := decide (f.proto = -1 ∨ f.proto = (h.proto : Int))
/-- Does a header match? -/
def matchF (f : Fl) (h : Hv) : Bool := hasN f.da f.dn.toNat h.dst && (hasN f.sa f.sn.toNat h.src && (protoF f h && (inR f.s1 f.s2 h.sport && inR f.d1 f.d2 h.dport)))

/-- Both boxes. -/
structure MB (w0 w : World) (f : Fl) (h : Hv) : Prop where
  fb : FB w w0.heap.size f
  hb : HB w (w0.heap.size + 1) h
  kept : Below w0.heap.size w0 w
theorem MB.next {w0 w w' : World} {f : Fl} {h : Hv} (x : MB w0 w f h) (k : Below w.heap.size w w') : MB w0 w' f h := ⟨x.fb.next k, x.hb.next k, x.kept.trans (k.mono x.kept.size)⟩

end Go.Proofs.YtjoblahedgpgbaaGreat

namespace Go.Proofs.YtjoblahedgpgbaaGreat
open Go.RowKit

theorem mb_start (w : World) (f : Fl) (h : Hv) : MB w ((w.alloc (.cells #[.int .u32 (f.da : Int), .int .i64 f.dn, .int .u32 (f.sa : Int), .int .i64 f.sn, .int .i64 f.proto, .int .u16 (f.s1 : Int), .int .u16 (f.s2 : Int), .int .u16 (f.d1 : Int), .int .u16 (f.d2 : Int)] 59)).alloc (.cells #[.int .u32 (h.dst : Int), .int .u32 (h.src : Int), .int .u8 (h.proto : Int), .int .u16 (h.sport : Int), .int .u16 (h.dport : Int)] 31)) f h := by
  have e1 : (w.alloc (.cells #[.int .u32 (f.da : Int), .int .i64 f.dn, .int .u32 (f.sa : Int), .int .i64 f.sn, .int .i64 f.proto, .int .u16 (f.s1 : Int), .int .u16 (f.s2 : Int), .int .u16 (f.d1 : Int), .int .u16 (f.d2 : Int)] 59)).heap.size = w.heap.size + 1 := by simp
  refine ⟨?_, ?_, ((Below.refl _ _).alloc (Nat.le_refl _) _).alloc (by simp) _⟩
  · exact blk_alloc (heap_alloc_new w _) _
  · have := heap_alloc_new (w.alloc (.cells #[.int .u32 (f.da : Int), .int .i64 f.dn, .int .u32 (f.sa : Int), .int .i64 f.sn, .int .i64 f.proto, .int .u16 (f.s1 : Int), .int .u16 (f.s2 : Int), .int .u16 (f.d1 : Int), .int .u16 (f.d2 : Int)] 59)) (.cells #[.int .u32 (h.dst : Int), .int .u32 (h.src : Int), .int .u8 (h.proto : Int), .int .u16 (h.sport : Int), .int .u16 (h.dport : Int)] 31)
    rw [e1] at this
    exact this

theorem okF {f : Fl} (hc : checkF f = 0) : ∃ n m : Nat, f.dn = n ∧ f.sn = m ∧ n ≤ 32 ∧ m ≤ 32 := by
  unfold checkF at hc
  cases h : (rtB ⟨f.da, f.dn⟩ && rtB ⟨f.sa, f.sn⟩) with
  | false =>
    rw [if_pos h] at hc
    cases hc
  | true =>
    rw [Bool.and_eq_true] at h
    obtain ⟨a0, a1, _⟩ := (rtB_iff _).1 h.1
    obtain ⟨b0, b1, _⟩ := (rtB_iff _).1 h.2
    exact ⟨f.dn.toNat, f.sn.toNat, by simp only at a0; omega, by simp only at b0; omega, by simp only at a1; omega, by simp only at b1; omega⟩

set_option maxRecDepth 100000 in
set_option maxHeartbeats 4000000 in
theorem fmatch_calls (w : World) {f : Fl} {h : Hv} (hf : f.Wf) (hh : h.Wf) (hc : checkF f = 0) : Calls Tryz.prog 275 #[f.val, h.val] w fun e w' => e = .returned (.bool (matchF f h)) ∧ Below w.heap.size w w' := by
  obtain ⟨n, m, hn, hm, hn32, hm32⟩ := okF hc
  have hfa := hf.da
  have hfb := hf.sa
  have hha := hh.dst
  have hhb := hh.src
  have hMB := mb_start w f h
  obtain ⟨r, hr⟩ : ∃ r, r = matchF f h := ⟨_, rfl⟩
  rw [← hr]
  unfold matchF at hr
  rw [hn, hm] at hr
  simp only [Int.toNat_natCast] at hr
  have H1 := Lib.hid (fun W => chas_calls W f.da n h.dst hfa hha hn32)
  have H2 := Lib.hid (fun W => chas_calls W f.sa m h.src hfb hhb hm32)
  have H3 := Lib.hid (fun W => cin_calls W f.s1 f.s2 h.sport)
  have H4 := Lib.hid (fun W => cin_calls W f.d1 f.d2 h.dport)
  rw [← hn] at H1
  rw [← hm] at H2
  have HM := Lib.hid hMB
  unfold Fl.val Hv.val
  clear hc hn hm hfa hfb hha hhb hMB hf
  generalize hasN f.da n h.dst = b1 at *
  generalize hasN f.sa m h.src = b2 at *
  unfold protoF at hr
  have hpw := hh.proto
  clear hh
  obtain ⟨da, dn, sa, sn, pr, s1, s2, d1, d2⟩ := f
  obtain ⟨hd, hs, hpr, sp, dp⟩ := h
  simp only at *
  generalize inR s1 s2 sp = b3 at *
  generalize inR d1 d2 dp = b4 at *
  go_enter Tryz.func275, Tryz.ntmps275
  go_upto_region 1 with (fail)
  generalize (w.alloc (.cells #[.int .u32 (da : Int), .int .i64 dn, .int .u32 (sa : Int), .int .i64 sn, .int .i64 pr, .int .u16 (s1 : Int), .int .u16 (s2 : Int), .int .u16 (d1 : Int), .int .u16 (d2 : Int)] 59)).alloc (.cells #[.int .u32 (hd : Int), .int .u32 (hs : Int), .int .u8 (hpr : Int), .int .u16 (sp : Int), .int .u16 (dp : Int)] 31) = w1 at *
  have c := HM.out.fb.cells
  have d := HM.out.hb.cells
  simp only at c d
  go_wp2_with (fail)
  refine Calls.mono (H1.out _) ?_
  rintro e w2 ⟨he, k2⟩
  subst he
  have HM := Lib.hid (HM.out.next k2)
  clear k2 c d
  have c := HM.out.fb.cells
  have d := HM.out.hb.cells
  simp only at c d
  cases b1 with
  | false =>
    rw [Bool.false_and] at hr
    subst hr
    go_wp2_with (fail)
    go_ret
    exact ⟨rfl, HM.out.kept⟩
  | true =>
    rw [Bool.true_and] at hr
    go_wp2_with (fail)
    refine Calls.mono (H2.out _) ?_
    rintro e w2 ⟨he, k2⟩
    subst he
    have HM := Lib.hid (HM.out.next k2)
    clear k2 c d
    have c := HM.out.fb.cells
    have d := HM.out.hb.cells
    simp only at c d
    cases b2 with
    | false =>
      rw [Bool.false_and] at hr
      subst hr
      go_wp2_with (fail)
      go_ret
      exact ⟨rfl, HM.out.kept⟩
    | true =>
      rw [Bool.true_and] at hr
      by_cases hp : pr = -1
      · rw [decide_eq_true (Or.inl hp), Bool.true_and] at hr
        subst hp
        go_wp2_with (fail)
        refine Calls.mono (H3.out _) ?_
        rintro e w2 ⟨he, k2⟩
        subst he
        have HM := Lib.hid (HM.out.next k2)
        clear k2 c d
        have c := HM.out.fb.cells
        have d := HM.out.hb.cells
        simp only at c d
        cases b3 with
        | false =>
          rw [Bool.false_and] at hr
          subst hr
          go_wp2_with (fail)
          go_ret
          exact ⟨rfl, HM.out.kept⟩
        | true =>
          rw [Bool.true_and] at hr
          subst hr
          go_wp2_with (fail)
          refine Calls.mono (H4.out _) ?_
          rintro e w2 ⟨he, k2⟩
          subst he
          have HM := Lib.hid (HM.out.next k2)
          clear k2 c d
          have c := HM.out.fb.cells
          have d := HM.out.hb.cells
          simp only at c d
          cases r with
          | false =>
            go_wp2_with (fail)
            go_ret
            exact ⟨rfl, HM.out.kept⟩
          | true =>
            go_wp2_with (fail)
            go_ret
            exact ⟨rfl, HM.out.kept⟩
      · by_cases hp2 : pr = (hpr : Int)
        · rw [decide_eq_true (Or.inr hp2), Bool.true_and] at hr
          subst hp2
          go_wp2_with (fail)
          refine Calls.mono (H3.out _) ?_
          rintro e w2 ⟨he, k2⟩
          subst he
          have HM := Lib.hid (HM.out.next k2)
          clear k2 c d
          have c := HM.out.fb.cells
          have d := HM.out.hb.cells
          simp only at c d
          cases b3 with
          | false =>
            rw [Bool.false_and] at hr
            subst hr
            go_wp2_with (fail)
            go_ret
            exact ⟨rfl, HM.out.kept⟩
          | true =>
            rw [Bool.true_and] at hr
            subst hr
            go_wp2_with (fail)
            refine Calls.mono (H4.out _) ?_
            rintro e w2 ⟨he, k2⟩
            subst he
            have HM := Lib.hid (HM.out.next k2)
            clear k2 c d
            have c := HM.out.fb.cells
            have d := HM.out.hb.cells
            simp only at c d
            cases r with
            | false =>
              go_wp2_with (fail)
              go_ret
              exact ⟨rfl, HM.out.kept⟩
            | true =>
              go_wp2_with (fail)
              go_ret
              exact ⟨rfl, HM.out.kept⟩
        · rw [decide_eq_false (by rintro (h1 | h1); exact hp h1; exact hp2 h1), Bool.false_and] at hr
          have hq1 : (pr != -1) = true := bne_iff_ne.2 hp
          have hq2 : (pr != (hpr : Int)) = true := bne_iff_ne.2 hp2
          subst hr
          go_wp2_with (fail)
          go_ret
          exact ⟨rfl, HM.out.kept⟩

set_option maxRecDepth 100000 in
set_option maxHeartbeats 4000000 in
theorem rfmatch_calls (w : World) {f : Fl} {h : Hv} (hf : f.Wf) (hh : h.Wf) (hc : checkF f = 0) : Calls Tryz.prog 214 #[f.val, h.val] w fun e w' => e = .returned (.bool (matchF f h)) ∧ Below w.heap.size w w' := by
  obtain ⟨n, m, hn, hm, hn32, hm32⟩ := okF hc
  have hfa := hf.da
  have hfb := hf.sa
  have hha := hh.dst
  have hhb := hh.src
  have hMB := mb_start w f h
  obtain ⟨r, hr⟩ : ∃ r, r = matchF f h := ⟨_, rfl⟩
  rw [← hr]
  unfold matchF at hr
  rw [hn, hm] at hr
  simp only [Int.toNat_natCast] at hr
  have H1 := Lib.hid (fun W => rhas_calls W f.da n h.dst hfa hha hn32)
  have H2 := Lib.hid (fun W => rhas_calls W f.sa m h.src hfb hhb hm32)
  have H3 := Lib.hid (fun W => cin_calls W f.s1 f.s2 h.sport)
  have H4 := Lib.hid (fun W => cin_calls W f.d1 f.d2 h.dport)
  rw [← hn] at H1
  rw [← hm] at H2
  have HM := Lib.hid hMB
  unfold Fl.val Hv.val
  clear hc hn hm hfa hfb hha hhb hMB hf
  generalize hasN f.da n h.dst = b1 at *
  generalize hasN f.sa m h.src = b2 at *
  unfold protoF at hr
  have hpw := hh.proto
  clear hh
  obtain ⟨da, dn, sa, sn, pr, s1, s2, d1, d2⟩ := f
  obtain ⟨hd, hs, hpr, sp, dp⟩ := h
  simp only at *
  obtain ⟨x, hx⟩ : ∃ x, x = (inR s1 s2 sp && inR d1 d2 dp) := ⟨_, rfl⟩
  rw [← hx] at hr
  unfold inR at hx
  clear H3 H4
  go_enter Tryz.func214, Tryz.ntmps214
  go_upto_region 1 with (fail)
  generalize (w.alloc (.cells #[.int .u32 (da : Int), .int .i64 dn, .int .u32 (sa : Int), .int .i64 sn, .int .i64 pr, .int .u16 (s1 : Int), .int .u16 (s2 : Int), .int .u16 (d1 : Int), .int .u16 (d2 : Int)] 59)).alloc (.cells #[.int .u32 (hd : Int), .int .u32 (hs : Int), .int .u8 (hpr : Int), .int .u16 (sp : Int), .int .u16 (dp : Int)] 31) = w1 at *
  have c := HM.out.fb.cells
  have d := HM.out.hb.cells
  simp only at c d
  by_cases hp : pr = -1
  · rw [decide_eq_true (Or.inl hp), Bool.true_and] at hr
    subst hp
    by_cases p1 : s1 ≤ sp
    · have p1' : ¬ (sp : Int) < (s1 : Int) := by omega
      by_cases p2 : sp ≤ s2
      · have p2' : ¬ (s2 : Int) < (sp : Int) := by omega
        by_cases p3 : d1 ≤ dp
        · have p3' : ¬ (dp : Int) < (d1 : Int) := by omega
          by_cases p4 : dp ≤ d2
          · have p4' : ¬ (d2 : Int) < (dp : Int) := by omega
            obtain rfl : x = true := by rw [hx]; simp [p1, p2, p3, p4]
            rw [Bool.and_true] at hr
            clear p1 p2 p3 p4 hx
            go_wp2_with (fail)
            refine Calls.mono (H1.out _) ?_
            rintro e w2 ⟨he, k2⟩
            subst he
            have HM := Lib.hid (HM.out.next k2)
            clear k2 c d
            have c := HM.out.fb.cells
            have d := HM.out.hb.cells
            simp only at c d
            cases b1 with
            | false =>
              rw [Bool.false_and] at hr
              subst hr
              go_wp2_with (fail)
              go_ret
              exact ⟨rfl, HM.out.kept⟩
            | true =>
              rw [Bool.true_and] at hr
              go_wp2_with (fail)
              refine Calls.mono (H2.out _) ?_
              rintro e w2 ⟨he, k2⟩
              subst he
              have HM := Lib.hid (HM.out.next k2)
              clear k2 c d
              have c := HM.out.fb.cells
              have d := HM.out.hb.cells
              simp only at c d
              subst hr
              cases r with
              | false =>
                go_wp2_with (fail)
                go_ret
                exact ⟨rfl, HM.out.kept⟩
              | true =>
                go_wp2_with (fail)
                go_ret
                exact ⟨rfl, HM.out.kept⟩
          · have p4' : (d2 : Int) < (dp : Int) := by omega
            obtain rfl : x = false := by rw [hx]; simp [p4]
            obtain rfl : r = false := by rw [hr]; simp
            clear hr
            clear p1 p2 p3 p4 hx
            go_wp2_with (fail)
            go_ret
            exact ⟨rfl, HM.out.kept⟩
        · have p3' : (dp : Int) < (d1 : Int) := by omega
          obtain rfl : x = false := by rw [hx]; simp [p3]
          obtain rfl : r = false := by rw [hr]; simp
          clear hr
          clear p1 p2 p3 hx
          go_wp2_with (fail)
          go_ret
          exact ⟨rfl, HM.out.kept⟩
      · have p2' : (s2 : Int) < (sp : Int) := by omega
        obtain rfl : x = false := by rw [hx]; simp [p2]
        obtain rfl : r = false := by rw [hr]; simp
        clear hr
        clear p1 p2 hx
        go_wp2_with (fail)
        go_ret
        exact ⟨rfl, HM.out.kept⟩
    · have p1' : (sp : Int) < (s1 : Int) := by omega
      obtain rfl : x = false := by rw [hx]; simp [p1]
      obtain rfl : r = false := by rw [hr]; simp
      clear hr
      clear p1 hx
      go_wp2_with (fail)
      go_ret
      exact ⟨rfl, HM.out.kept⟩
  · by_cases hp2 : pr = (hpr : Int)
    · rw [decide_eq_true (Or.inr hp2), Bool.true_and] at hr
      subst hp2
      by_cases p1 : s1 ≤ sp
      · have p1' : ¬ (sp : Int) < (s1 : Int) := by omega
        by_cases p2 : sp ≤ s2
        · have p2' : ¬ (s2 : Int) < (sp : Int) := by omega
          by_cases p3 : d1 ≤ dp
          · have p3' : ¬ (dp : Int) < (d1 : Int) := by omega
            by_cases p4 : dp ≤ d2
            · have p4' : ¬ (d2 : Int) < (dp : Int) := by omega
              obtain rfl : x = true := by rw [hx]; simp [p1, p2, p3, p4]
              rw [Bool.and_true] at hr
              clear p1 p2 p3 p4 hx
              go_wp2_with (fail)
              refine Calls.mono (H1.out _) ?_
              rintro e w2 ⟨he, k2⟩
              subst he
              have HM := Lib.hid (HM.out.next k2)
              clear k2 c d
              have c := HM.out.fb.cells
              have d := HM.out.hb.cells
              simp only at c d
              cases b1 with
              | false =>
                rw [Bool.false_and] at hr
                subst hr
                go_wp2_with (fail)
                go_ret
                exact ⟨rfl, HM.out.kept⟩
              | true =>
                rw [Bool.true_and] at hr
                go_wp2_with (fail)
                refine Calls.mono (H2.out _) ?_
                rintro e w2 ⟨he, k2⟩
                subst he
                have HM := Lib.hid (HM.out.next k2)
                clear k2 c d
                have c := HM.out.fb.cells
                have d := HM.out.hb.cells
                simp only at c d
                subst hr
                cases r with
                | false =>
                  go_wp2_with (fail)
                  go_ret
                  exact ⟨rfl, HM.out.kept⟩
                | true =>
                  go_wp2_with (fail)
                  go_ret
                  exact ⟨rfl, HM.out.kept⟩
            · have p4' : (d2 : Int) < (dp : Int) := by omega
              obtain rfl : x = false := by rw [hx]; simp [p4]
              obtain rfl : r = false := by rw [hr]; simp
              clear hr
              clear p1 p2 p3 p4 hx
              go_wp2_with (fail)
              go_ret
              exact ⟨rfl, HM.out.kept⟩
          · have p3' : (dp : Int) < (d1 : Int) := by omega
            obtain rfl : x = false := by rw [hx]; simp [p3]
            obtain rfl : r = false := by rw [hr]; simp
            clear hr
            clear p1 p2 p3 hx
            go_wp2_with (fail)
            go_ret
            exact ⟨rfl, HM.out.kept⟩
        · have p2' : (s2 : Int) < (sp : Int) := by omega
          obtain rfl : x = false := by rw [hx]; simp [p2]
          obtain rfl : r = false := by rw [hr]; simp
          clear hr
          clear p1 p2 hx
          go_wp2_with (fail)
          go_ret
          exact ⟨rfl, HM.out.kept⟩
      · have p1' : (sp : Int) < (s1 : Int) := by omega
        obtain rfl : x = false := by rw [hx]; simp [p1]
        obtain rfl : r = false := by rw [hr]; simp
        clear hr
        clear p1 hx
        go_wp2_with (fail)
        go_ret
        exact ⟨rfl, HM.out.kept⟩
    · rw [decide_eq_false (by rintro (h1 | h1); exact hp h1; exact hp2 h1), Bool.false_and] at hr
      have hq1 : (pr != -1) = true := bne_iff_ne.2 hp
      have hq2 : (pr != (hpr : Int)) = true := bne_iff_ne.2 hp2
      obtain rfl : r = false := by rw [hr]; simp
      clear hr
      go_wp2_with (fail)
      go_ret
      exact ⟨rfl, HM.out.kept⟩
end Go.Proofs.YtjoblahedgpgbaaGreat
