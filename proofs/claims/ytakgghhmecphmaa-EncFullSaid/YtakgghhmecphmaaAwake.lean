/- An arena of the law's own; the document's example of layer 6. -/
import Derived.Test.YtakgghhmecphmaaLimit
import Derived.Test.YtakgghhmecphmaaBdd
namespace Go.Proofs.Ytakgghhmecphmaa
set_option linter.unusedVariables false
set_option linter.unusedSimpArgs false
open Go.RowKit Go.Maps

/-- An arena that was made behind w0, from block B on; nothing that was there in w0 has turned. -/
def Ar (B : Nat) (w0 w : World) (p mb : Nat) (A : Arn) : Prop := ∃ g, B ≤ p ∧ B ≤ g ∧ B ≤ mb ∧ B ≤ w0.heap.size ∧ ArenaAt w p g mb A ∧ Below B w0 w ∧ A.OK

theorem Ar.below {B : Nat} {w0 w w' : World} {p mb : Nat} {A : Arn} (h : Ar B w0 w p mb A) (k : Below w.heap.size w w') : Ar B w0 w' p mb A := by
  obtain ⟨g, a, b, c, d, e, f, o⟩ := h
  exact ⟨g, a, b, c, d, e.below k, f.trans (k.mono (Nat.le_trans d f.size)), o⟩
theorem Ar.post {B : Nat} {w0 w : World} {p mb : Nat} {A A' : Arn} {r : Option Nat} {f : FuncId} {args : Array Value} (h : Ar B w0 w p mb A) (hO : A'.OK)
    (hc : ∀ g, ArenaAt w p g mb A → Calls Try.prog f args w (ArenaPost w p g mb r A')) : Calls Try.prog f args w fun e w' => e = .returned (resV r) ∧ Ar B w0 w' p mb A' := by
  obtain ⟨g, a, b, c, d, e, k, o⟩ := h
  refine (hc g e).mono ?_
  rintro e' w' ⟨rfl, g', hg', hA', hK⟩
  have := k.size
  refine ⟨rfl, g', a, by rcases hg' with h | h <;> omega, c, d, hA', k.trans (hK.below (by omega) (by simp; omega)), hO⟩
theorem Ar.len {B : Nat} {w0 w : World} {p mb : Nat} {A : Arn} (h : Ar B w0 w p mb A) : Calls Try.prog 30 #[.pointer (some ⟨p, 0, none⟩)] w fun e w' => e = .returned (.int .i64 (A.nodes.length : Int)) ∧ w = w' := by
  obtain ⟨g, a, b, c, d, e, k, o⟩ := h
  exact len_calls e
theorem Ar.has {B : Nat} {w0 w : World} {p mb : Nat} {A : Arn} (h : Ar B w0 w p mb A) (f : Int) : Calls Try.prog 39 #[.pointer (some ⟨p, 0, none⟩), .int .i64 f] w fun e w' => e = .returned (.bool (decide (0 ≤ f ∧ f < A.nodes.length))) ∧ w = w' := by
  obtain ⟨g, a, b, c, d, e, k, o⟩ := h
  exact has_calls e f
theorem Ar.new (w : World) (most : Nat) (h2 : 2 ≤ most) (hm : most ≤ 262144) : Calls Try.prog 17 #[.int .i64 (most : Int)] w fun e w' => ∃ p mb, e = .returned (.tuple #[.pointer (some ⟨p, 0, none⟩), .int .i64 0]) ∧ Ar w.heap.size w w' p mb (newF most) := by
  refine (new_calls w most h2 hm).mono ?_
  rintro e w' ⟨p, g, mb, rfl, a, b, c, d, k⟩
  exact ⟨p, mb, rfl, g, a, b, c, Nat.le_refl _, d, k, newF_ok h2 hm⟩
theorem Ar.below0 {B : Nat} {w0 w : World} {p mb : Nat} {A : Arn} (h : Ar B w0 w p mb A) : Below B w0 w := by
  obtain ⟨g, a, b, c, d, e, k, o⟩ := h
  exact k
theorem Ar.ok {B : Nat} {w0 w : World} {p mb : Nat} {A : Arn} (h : Ar B w0 w p mb A) : A.OK := by
  obtain ⟨g, a, b, c, d, e, k, o⟩ := h
  exact o
theorem Ar.mono {B : Nat} {w0 w w1 : World} {p mb : Nat} {A : Arn} (h : Ar B w1 w p mb A) (k : Below w0.heap.size w0 w1) (hB : w0.heap.size ≤ B) : Ar w0.heap.size w0 w p mb A := by
  obtain ⟨g, a, b, c, d, e, f, o⟩ := h
  exact ⟨g, by omega, by omega, by omega, Nat.le_refl _, e, k.trans (f.mono hB), o⟩

deriving instance DecidableEq for Arn

theorem awake_1 : cubeF (newF 10) [(0, true)] = (some 2, ⟨[⟨104, 0, 0⟩, ⟨104, 0, 0⟩, ⟨0, 0, 1⟩], 10⟩) := by decide +kernel
theorem awake_2 : joinA ⟨[⟨104, 0, 0⟩, ⟨104, 0, 0⟩, ⟨0, 0, 1⟩], 10⟩ 3 1 2 = (some 3, ⟨[⟨104, 0, 0⟩, ⟨104, 0, 0⟩, ⟨0, 0, 1⟩, ⟨0, 1, 0⟩], 10⟩) := by decide +kernel
theorem awake_3 : joinA ⟨[⟨104, 0, 0⟩, ⟨104, 0, 0⟩, ⟨0, 0, 1⟩, ⟨0, 1, 0⟩], 10⟩ 0 2 3 = (some 0, ⟨[⟨104, 0, 0⟩, ⟨104, 0, 0⟩, ⟨0, 0, 1⟩, ⟨0, 1, 0⟩], 10⟩) := by decide +kernel

set_option maxRecDepth 100000 in
theorem awake06_calls (w : World) : Calls Try.prog 29 #[] w fun e w' => e = .returned (.bool true) ∧ Below w.heap.size w w' := by
  go_enter Try.func29, Try.ntmps29
  go_wp2_with (fail)
  refine (Ar.new _ 10 (by omega) (by omega)).mono ?_
  rintro e w1 ⟨p, mb, he, H1⟩
  subst he
  have H1 := Lib.hid H1
  go_wp2_with (fail)
  have V := H1.out.post (cubeF_ok H1.out.ok (rise_one (v := 0) (by omega) true)).1 fun g h => var_calls h H1.out.ok 0 (by omega)
  rw [awake_1] at V
  refine V.mono ?_
  rintro e w2 ⟨he, H2⟩
  subst he
  have o2 := H2.ok
  have H2 := Lib.hid H2
  simp only [resV, Option.getD_some, Option.isSome_some, if_true]
  go_wp2_with (fail)
  have V := H2.out.post (joinA_ok H2.out.ok (k := 3) (f := 1) (g := 2) (by omega) (by decide) (by decide)).1 fun g h => Not_calls h o2 2 (by decide)
  rw [awake_2] at V
  refine V.mono ?_
  rintro e w3 ⟨he, H3⟩
  subst he
  have o3 := H3.ok
  have H3 := Lib.hid H3
  simp only [resV, Option.getD_some, Option.isSome_some, if_true]
  go_wp2_with (fail)
  have V := H3.out.post (joinA_ok H3.out.ok (k := 0) (f := 2) (g := 3) (by omega) (by decide) (by decide)).1 fun g h => Join_calls h o3 0 0 2 3 rfl (by omega) (by decide) (by decide)
  rw [awake_3] at V
  refine V.mono ?_
  rintro e w4 ⟨he, H4⟩
  subst he
  have H4 := Lib.hid H4
  simp only [resV, Option.getD_some, Option.isSome_some, if_true]
  go_wp2_with (fail)
  refine H4.out.len.mono ?_
  rintro e w5 ⟨he, hw⟩
  subst he hw
  go_wp2_with (fail)
  go_ret
  exact ⟨rfl, H4.out.below0⟩

end Go.Proofs.Ytakgghhmecphmaa
