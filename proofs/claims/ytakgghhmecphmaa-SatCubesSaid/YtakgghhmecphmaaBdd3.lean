/- Sets of headers as graphs, in plain lists and numbers: whole calls; a bit held. -/
import Derived.Test.YtakgghhmecphmaaBdd2
namespace Go.Proofs.Ytakgghhmecphmaa
set_option linter.unusedVariables false
set_option linter.unusedSimpArgs false

/-- Join: the set, or no room and nothing new. -/
def joinA (A : Arn) (k f g : Nat) : Option Nat × Arn :=
  match joinF 106 k A (fun _ => none) f g with
  | (none, _, _) => (none, A)
  | (some x, A', _) => (some x, A')

theorem joinA_ok {A : Arn} (hA : A.OK) {k f g : Nat} (h3 : k ≤ 3) (hf : f < A.nodes.length) (hg : g < A.nodes.length) :
    (joinA A k f g).2.OK ∧ Ext A (joinA A k f g).2 ∧ ∀ x, (joinA A k f g).1 = some x → x < (joinA A k f g).2.nodes.length := by
  have h := joinF_ok 106 k A (fun _ => none) f g h3 hA (SV.none A) hf hg
  unfold joinA
  rcases e : joinF 106 k A (fun _ => none) f g with ⟨r, A', S'⟩
  rw [e] at h
  obtain ⟨a, b, _, d⟩ := h
  cases r with
  | none => exact ⟨hA, Ext.refl A, fun x h => by cases h⟩
  | some y => exact ⟨a, b, fun x h => by cases h; exact (d y rfl).1⟩

/-- Ite: three joins, or no room and nothing new. -/
def iteA (A : Arn) (f g h : Nat) : Option Nat × Arn :=
  match joinA A 0 f g with
  | (none, _) => (none, A)
  | (some x, A1) =>
    match joinA A1 3 h f with
    | (none, _) => (none, A)
    | (some y, A2) =>
      match joinA A2 1 x y with
      | (none, _) => (none, A)
      | (some z, A3) => (some z, A3)

theorem iteA_ok {A : Arn} (hA : A.OK) {f g h : Nat} (hf : f < A.nodes.length) (hg : g < A.nodes.length) (hh : h < A.nodes.length) :
    (iteA A f g h).2.OK ∧ Ext A (iteA A f g h).2 ∧ ∀ x, (iteA A f g h).1 = some x → x < (iteA A f g h).2.nodes.length := by
  unfold iteA
  have j1 := joinA_ok hA (k := 0) (by omega) hf hg
  rcases e1 : joinA A 0 f g with ⟨r, A1⟩
  rw [e1] at j1
  obtain ⟨a1, b1, c1⟩ := j1
  cases r with
  | none => exact ⟨hA, Ext.refl A, fun x h => by cases h⟩
  | some x =>
    simp only at a1 b1 c1 ⊢
    have l1 := b1.len
    have j2 := joinA_ok a1 (k := 3) (f := h) (g := f) (by omega) (by omega) (by omega)
    rcases e2 : joinA A1 3 h f with ⟨r, A2⟩
    rw [e2] at j2
    obtain ⟨a2, b2, c2⟩ := j2
    cases r with
    | none => exact ⟨hA, Ext.refl A, fun x h => by cases h⟩
    | some y =>
      simp only at a2 b2 c2 ⊢
      have l2 := b2.len
      have hx := c1 x rfl
      have j3 := joinA_ok a2 (k := 1) (f := x) (g := y) (by omega) (by omega) (c2 y rfl)
      rcases e3 : joinA A2 1 x y with ⟨r, A3⟩
      rw [e3] at j3
      obtain ⟨a3, b3, c3⟩ := j3
      cases r with
      | none => exact ⟨hA, Ext.refl A, fun x h => by cases h⟩
      | some z => exact ⟨a3, (b1.trans b2).trans b3, c3⟩

abbrev SeenL := Nat → Option Nat
def seeL (S : SeenL) (f x : Nat) : SeenL := fun y => if y = f then some x else S y
def SVL (A : Arn) (S : SeenL) : Prop := ∀ f x, S f = some x → f < A.nodes.length ∧ x < A.nodes.length ∧ A.lv f ≤ A.lv x
theorem SVL.ext {A B : Arn} {S : SeenL} (h : SVL A S) (e : Ext A B) : SVL B S := fun f x hx => by
  obtain ⟨a, b, c⟩ := h f x hx
  have := e.len
  rw [e.lv a, e.lv b]
  exact ⟨by omega, by omega, c⟩
theorem SVL.none (A : Arn) : SVL A (fun _ => none) := fun _ _ h => by cases h

/-- A set with a bit held, in d rounds at most. -/
def limitF : Nat → Arn → SeenL → Nat → Nat → Bool → Option Nat × Arn × SeenL
  | 0, A, S, _, _, _ => (none, A, S)
  | d + 1, A, S, f, i, on =>
    if i < (A.nd f).level then (some f, A, S) else
    if (A.nd f).level = i then (some (if on then (A.nd f).high else (A.nd f).low), A, S) else
    match S f with
    | some x => (some x, A, S)
    | none =>
      match limitF d A S (A.nd f).low i on with
      | (none, A1, S1) => (none, A1, S1)
      | (some lo, A1, S1) =>
        match limitF d A1 S1 (A.nd f).high i on with
        | (none, A2, S2) => (none, A2, S2)
        | (some hi, A2, S2) =>
          match mkF A2 (A.nd f).level lo hi with
          | (none, A3) => (none, A3, S2)
          | (some x, A3) => (some x, A3, seeL S2 f x)

theorem two_of_lv {A : Arn} (hA : A.OK) {f : Nat} (h : A.lv f < 104) : 2 ≤ f := by
  rcases Nat.lt_or_ge f 2 with h' | h'
  · obtain rfl | rfl : f = 0 ∨ f = 1 := by omega
    · rw [hA.lv_zero] at h; omega
    · rw [hA.lv_one] at h; omega
  · exact h'

theorem limitF_ok (d : Nat) : ∀ (A : Arn) (S : SeenL) (f i : Nat) (on : Bool), A.OK → SVL A S → f < A.nodes.length → i < 104 →
    (limitF d A S f i on).2.1.OK ∧ Ext A (limitF d A S f i on).2.1 ∧ SVL (limitF d A S f i on).2.1 (limitF d A S f i on).2.2 ∧
    ∀ x, (limitF d A S f i on).1 = some x → x < (limitF d A S f i on).2.1.nodes.length ∧ A.lv f ≤ (limitF d A S f i on).2.1.lv x := by
  induction d with
  | zero =>
    intro A S f i on hA hS _ _
    exact ⟨hA, Ext.refl A, hS, fun x h => by cases h⟩
  | succ d ih =>
    intro A S f i on hA hS hf hi
    unfold limitF
    have hlvdef : (A.nd f).level = A.lv f := rfl
    rw [hlvdef]
    by_cases h1 : i < A.lv f
    · rw [if_pos h1]
      exact ⟨hA, Ext.refl A, hS, fun x h => by cases h; exact ⟨hf, Nat.le_refl _⟩⟩
    · rw [if_neg h1]
      have h2 := two_of_lv hA (f := f) (by omega)
      obtain ⟨a, b, c, e, g1, g2⟩ := hA.at_ hf h2
      by_cases h3 : A.lv f = i
      · rw [if_pos h3]
        refine ⟨hA, Ext.refl A, hS, fun x h => ?_⟩
        cases h
        cases on
        · exact ⟨by simp; omega, by simp; omega⟩
        · exact ⟨by simp; omega, by simp; omega⟩
      · rw [if_neg h3]
        cases hx : S f with
        | some x =>
          obtain ⟨p, q, r⟩ := hS f x hx
          exact ⟨hA, Ext.refl A, hS, fun y h => by cases h; exact ⟨q, r⟩⟩
        | none =>
          simp only
          have i1 := ih A S (A.nd f).low i on hA hS (by omega) hi
          rcases e1 : limitF d A S (A.nd f).low i on with ⟨r, A1, S1⟩
          rw [e1] at i1
          obtain ⟨o1, x1, s1, v1⟩ := i1
          cases r with
          | none => exact ⟨o1, x1, s1, fun x h => by cases h⟩
          | some lo =>
            simp only at o1 x1 s1 v1 ⊢
            obtain ⟨hlo, vlo⟩ := v1 lo rfl
            have hl1 := x1.len
            have i2 := ih A1 S1 (A.nd f).high i on o1 s1 (by omega) hi
            rcases e2 : limitF d A1 S1 (A.nd f).high i on with ⟨r, A2, S2⟩
            rw [e2] at i2
            obtain ⟨o2, x2, s2, v2⟩ := i2
            cases r with
            | none => exact ⟨o2, x1.trans x2, s2, fun x h => by cases h⟩
            | some hi' =>
              simp only at o2 x2 s2 v2 ⊢
              obtain ⟨hhi, vhi⟩ := v2 hi' rfl
              rw [x1.lv (show (A.nd f).high < A.nodes.length by omega)] at vhi
              have hlo2 : A.lv f < A2.lv lo := by rw [x2.lv hlo]; omega
              have hl2 := x2.len
              have m1 := mkF_ok o2 a (show lo < A2.nodes.length by omega) hhi hlo2 (by omega)
              have m2 := mkF_ext A2 (A.lv f) lo hi'
              have m3 := fun x h => mkF_some (A := A2) (level := A.lv f) (low := lo) (high := hi') (x := x) h (by omega) hlo2
              rcases e3 : mkF A2 (A.lv f) lo hi' with ⟨r, A3⟩
              rw [e3] at m1 m2 m3
              cases r with
              | none => exact ⟨m1, (x1.trans x2).trans m2, s2.ext m2, fun x h => by cases h⟩
              | some x =>
                simp only at m1 m2 m3 ⊢
                obtain ⟨hx1, hx2⟩ := m3 x rfl
                have hall := (x1.trans x2).trans m2
                refine ⟨m1, hall, ?_, fun y h => by cases h; exact ⟨hx1, hx2⟩⟩
                intro f' x' h'
                unfold seeL at h'
                split at h'
                · rename_i e
                  subst e
                  cases h'
                  have := hall.len
                  rw [hall.lv hf]
                  exact ⟨by omega, hx1, hx2⟩
                · exact (s2.ext m2) f' x' h'

/-- Restrict: the set, or no room and nothing new. -/
def restrictA (A : Arn) (f i : Nat) (on : Bool) : Option Nat × Arn :=
  match limitF 106 A (fun _ => none) f i on with
  | (none, _, _) => (none, A)
  | (some x, A', _) => (some x, A')

theorem restrictA_ok {A : Arn} (hA : A.OK) {f i : Nat} {on : Bool} (hf : f < A.nodes.length) (hi : i < 104) :
    (restrictA A f i on).2.OK ∧ Ext A (restrictA A f i on).2 ∧ ∀ x, (restrictA A f i on).1 = some x → x < (restrictA A f i on).2.nodes.length := by
  have h := limitF_ok 106 A (fun _ => none) f i on hA (SVL.none A) hf hi
  unfold restrictA
  rcases e : limitF 106 A (fun _ => none) f i on with ⟨r, A', S'⟩
  rw [e] at h
  obtain ⟨a, b, _, d⟩ := h
  cases r with
  | none => exact ⟨hA, Ext.refl A, fun x h => by cases h⟩
  | some y => exact ⟨a, b, fun x h => by cases h; exact (d y rfl).1⟩

end Go.Proofs.Ytakgghhmecphmaa
