/- The walk of BddWrong. -/
import Derived.Test.YtakgghhmecphmaaAwake
import Derived.Test.YtakgghhmecphmaaIte
namespace Go.Proofs.Ytakgghhmecphmaa
open Go.RowKit Go.Maps

theorem In_nil (w : World) (f : Int) (h : Array Value) : Calls Try.prog 20 #[.pointer none, .int .i64 f, .agg h] w fun e w' => e = .returned (.bool false) ∧ Below w.heap.size w w' := by
  go_enter Try.func20, Try.ntmps20
  go_wp2_with (first | (go_at_call 39; refine (has_nil_calls _ _).mono ?_; rintro e w' ⟨rfl, rfl⟩))
  go_ret
  exact ⟨rfl, (Below.refl _ _).alloc (Nat.le_refl _) _⟩

theorem joinA_none {A : Arn} (hA : A.OK) {k f g : Nat} (h3 : k ≤ 3) (hf : f < A.nodes.length) (hg : g < A.nodes.length) : A.nodes.length ≤ (joinA A k f g).2.nodes.length := (joinA_ok hA h3 hf hg).2.1.len

/-- Whatever is asked of Join: refused just if it may not be. -/
theorem Join_any {B : Nat} {w0 w : World} {p mb : Nat} {A : Arn} (h : Ar B w0 w p mb A) (kind f q : Int) :
    Calls Try.prog 33 #[.pointer (some ⟨p, 0, none⟩), .int .i64 kind, .int .i64 f, .int .i64 q] w fun e w' => ∃ (x er : Int) (A' : Arn),
      e = .returned (.tuple #[.int .i64 x, .int .i64 er]) ∧ Ar B w0 w' p mb A' ∧ ((er == 1) = decide ((f < 0 ∨ (A.nodes.length : Int) ≤ f ∨ q < 0 ∨ (A.nodes.length : Int) ≤ q) ∨ kind < 0 ∨ 3 < kind)) ∧
      (A' = A ∨ (f < A.nodes.length ∧ A.nodes.length ≤ A'.nodes.length)) := by
  by_cases hb : ¬ (0 ≤ f ∧ f < A.nodes.length) ∨ ¬ (0 ≤ q ∧ q < A.nodes.length) ∨ kind < 0 ∨ 3 < kind
  · obtain ⟨g, a, b, c, d, e, k, o⟩ := h
    refine (Join_bad e kind f q hb).mono ?_
    rintro e' w' ⟨rfl, rfl⟩
    exact ⟨0, 1, A, rfl, ⟨g, a, b, c, d, e, k, o⟩, by rw [decide_eq_true (by omega)]; rfl, Or.inl rfl⟩
  · have h0 : 0 ≤ f ∧ f < A.nodes.length := by omega
    have h1 : 0 ≤ q ∧ q < A.nodes.length := by omega
    have h2 : 0 ≤ kind ∧ kind ≤ 3 := by omega
    obtain ⟨f, rfl⟩ := Int.eq_ofNat_of_zero_le h0.1
    obtain ⟨q, rfl⟩ := Int.eq_ofNat_of_zero_le h1.1
    obtain ⟨k, rfl⟩ := Int.eq_ofNat_of_zero_le h2.1
    have J := joinA_ok h.ok (k := k) (f := f) (g := q) (by omega) (by omega) (by omega)
    refine (h.post J.1 fun g hA => Join_calls hA h.ok k k f q rfl (by omega) (by omega) (by omega)).mono ?_
    rintro e' w' ⟨rfl, h'⟩
    refine ⟨_, _, _, rfl, h', ?_, Or.inr ⟨by omega, J.2.1.len⟩⟩
    rw [decide_eq_false (by omega)]; split <;> rfl

theorem Restrict_any {B : Nat} {w0 w : World} {p mb : Nat} {A : Arn} (h : Ar B w0 w p mb A) (f i : Int) (on : Bool) :
    Calls Try.prog 36 #[.pointer (some ⟨p, 0, none⟩), .int .i64 f, .int .i64 i, .bool on] w fun e w' => ∃ (x er : Int) (A' : Arn),
      e = .returned (.tuple #[.int .i64 x, .int .i64 er]) ∧ Ar B w0 w' p mb A' ∧ ((er == 1) = decide (f < 0 ∨ (A.nodes.length : Int) ≤ f ∨ i < 0 ∨ 104 ≤ i)) := by
  by_cases hb : ¬ (0 ≤ f ∧ f < A.nodes.length) ∨ i < 0 ∨ 104 ≤ i
  · obtain ⟨g, a, b, c, d, e, k, o⟩ := h
    refine (Restrict_bad e f i on hb).mono ?_
    rintro e' w' ⟨rfl, rfl⟩
    exact ⟨0, 1, A, rfl, ⟨g, a, b, c, d, e, k, o⟩, by rw [decide_eq_true (by omega)]; rfl⟩
  · have h0 : 0 ≤ f ∧ f < A.nodes.length := by omega
    have h2 : 0 ≤ i ∧ i < 104 := by omega
    obtain ⟨f, rfl⟩ := Int.eq_ofNat_of_zero_le h0.1
    obtain ⟨i, rfl⟩ := Int.eq_ofNat_of_zero_le h2.1
    have J := restrictA_ok h.ok (f := f) (i := i) (on := on) (by omega) (by omega)
    refine (h.post J.1 fun g hA => Restrict_calls hA h.ok f i on (by omega) (by omega)).mono ?_
    rintro e' w' ⟨rfl, h'⟩
    refine ⟨_, _, _, rfl, h', ?_⟩
    rw [decide_eq_false (by omega)]; split <;> rfl

theorem Var_any {B : Nat} {w0 w : World} {p mb : Nat} {A : Arn} (h : Ar B w0 w p mb A) (i : Int) :
    Calls Try.prog 37 #[.pointer (some ⟨p, 0, none⟩), .int .i64 i] w fun e w' => ∃ (x er : Int) (A' : Arn),
      e = .returned (.tuple #[.int .i64 x, .int .i64 er]) ∧ Ar B w0 w' p mb A' ∧ ((er == 1) = decide (i < 0 ∨ 104 ≤ i)) := by
  by_cases hb : i < 0 ∨ 104 ≤ i
  · refine (var_bad i hb).mono ?_
    rintro e' w' ⟨rfl, k⟩
    exact ⟨0, 1, A, rfl, h.below k, by rw [decide_eq_true (by omega)]; rfl⟩
  · have h2 : 0 ≤ i ∧ i < 104 := by omega
    obtain ⟨i, rfl⟩ := Int.eq_ofNat_of_zero_le h2.1
    have J := cubeF_ok h.ok (rise_one (v := i) (by omega) true)
    refine (h.post J.1 fun g hA => var_calls hA h.ok i (by omega)).mono ?_
    rintro e' w' ⟨rfl, h'⟩
    refine ⟨_, _, _, rfl, h', ?_⟩
    rw [decide_eq_false (by omega)]; split <;> rfl

theorem Ite_any {B : Nat} {w0 w : World} {p mb : Nat} {A : Arn} (h : Ar B w0 w p mb A) (f q : Int) :
    Calls Try.prog 35 #[.pointer (some ⟨p, 0, none⟩), .int .i64 f, .int .i64 q, .int .i64 (-1)] w fun e w' => 
      e = .returned (.tuple #[.int .i64 0, .int .i64 1]) ∧ w = w' := by
  obtain ⟨g, a, b, c, d, e, k, o⟩ := h
  exact Ite_bad e f q (-1) (by omega)

theorem wrong_5 : cubeF (newF 100) [(5, true)] = (some 2, ⟨[⟨104, 0, 0⟩, ⟨104, 0, 0⟩, ⟨5, 0, 1⟩], 100⟩) := by decide +kernel

set_option maxRecDepth 100000 in
theorem lits_33 {w : World} : LitsAt (w.alloc (.cells #[.int .i64 3, .bool false, .int .i64 3, .bool false] 38)) w.heap.size 0 [(3, false), (3, false)] :=
  lits_new [(3, false), (3, false)] (blk_new rfl)

theorem cube_33 {w : World} {p : Nat} : Calls Try.prog 22 #[.pointer (some ⟨p, 0, none⟩), .slice (some ⟨w.heap.size, 0, none⟩) 2 2]
    (w.alloc (.cells #[.int .i64 3, .bool false, .int .i64 3, .bool false] 38)) fun e w' => e = .returned (.tuple #[.int .i64 0, .int .i64 1]) ∧ Below w.heap.size w w' := by
  refine (cube_bad (w := w.alloc (.cells #[.int .i64 3, .bool false, .int .i64 3, .bool false] 38)) (p := p) w.heap.size 0 2 2 [(3, false), (3, false)] (by omega) lits_33 1 (by omega)
    (by intro i hi; obtain rfl : i = 0 := by omega
        exact ⟨(3, false), rfl, by decide, by decide, by omega⟩) ⟨(3, false), rfl, Or.inr (Or.inr ⟨by omega, (3, false), rfl, by decide⟩)⟩).mono ?_
  rintro e w' ⟨rfl, k⟩
  refine ⟨rfl, ?_⟩
  exact ((Below.refl _ _).alloc (Nat.le_refl _) _).trans (k.mono (by simp))

end Go.Proofs.Ytakgghhmecphmaa
