/- Sets told by what they have: joins of them, and that two that have the same are one number. No program in sight. -/
import Derived.Test.YtakgghhmecphmaaHeldP
namespace Go.Proofs.Ytakgghhmecphmaa
set_option linter.unusedVariables false
set_option linter.unusedSimpArgs false

/-- A great arena of few bits, with at most n nodes. -/
structure Good (n : Nat) (A : Arn) : Prop where
  ok : A.OK
  bits : ∃ D : List Nat, D.length ≤ 10 ∧ InD D A
  most : A.most = 262144
  len : A.nodes.length ≤ n
/-- f is a set of A, and has just what F says. -/
def Has (A : Arn) (f : Nat) (F : Fn) : Prop := f < A.nodes.length ∧ ∀ b, inA A b f = F b

theorem Has.ext {A B : Arn} {f : Nat} {F : Fn} (h : Has A f F) (hA : A.OK) (hB : B.OK) (e : Ext A B) : Has B f F :=
  ⟨Nat.lt_of_lt_of_le h.1 e.len, fun b => by rw [inA_ext hA hB e b f h.1]; exact h.2 b⟩
theorem Has.same {A : Arn} (hA : A.OK) {f g : Nat} {F G : Fn} (h : Has A f F) (k : Has A g G) (e : ∀ b, F b = G b) : f = g :=
  canon' hA h.1 k.1 fun b => by rw [h.2, k.2, e]
theorem Has.zero {A : Arn} (hA : A.OK) : Has A 0 (fun _ => false) := ⟨by have := hA.two; omega, fun b => inA_zero A b⟩
theorem Has.one {A : Arn} (hA : A.OK) : Has A 1 (fun _ => true) := ⟨by have := hA.two; omega, fun b => inA_one A b⟩

theorem good_join {n : Nat} {A : Arn} (h : Good n A) (hn : n + 1024 ≤ 262144) {k f g : Nat} (h3 : k ≤ 3) {F G : Fn} (hf : Has A f F) (hg : Has A g G) :
    ∃ x A', joinA A k f g = (some x, A') ∧ Good (n + 1024) A' ∧ Ext A A' ∧ Has A' x (fun b => opF k (F b) (G b)) := by
  obtain ⟨D, hD, hI⟩ := h.bits
  have hpow : 2 ^ D.length ≤ 1024 := Nat.pow_le_pow_right (n := 2) (by omega) hD
  have hm := h.most
  have hl := h.len
  obtain ⟨x, r, d, l⟩ := joinA_room h.ok hI h3 hf.1 hg.1 (by omega)
  obtain ⟨o, e, z⟩ := joinA_ok h.ok h3 hf.1 hg.1
  have s := fun b => joinA_sem h.ok h3 hf.1 hg.1 r b
  rcases hj : joinA A k f g with ⟨y, A'⟩
  rw [hj] at r d l o e z s
  simp only at r d l o e z s
  subst r
  exact ⟨x, A', rfl, ⟨o, ⟨D, hD, d⟩, e.most.trans hm, by omega⟩, e, z x rfl, fun b => by rw [s, hf.2, hg.2]⟩

theorem good_ite {n : Nat} {A : Arn} (h : Good n A) (hn : n + 3072 ≤ 262144) {f g q : Nat} {F G Q : Fn} (hf : Has A f F) (hg : Has A g G) (hq : Has A q Q) :
    ∃ x A', iteA A f g q = (some x, A') ∧ Good (n + 3072) A' ∧ Ext A A' ∧ Has A' x (fun b => if F b then G b else Q b) := by
  obtain ⟨D, hD, hI⟩ := h.bits
  have hpow : 2 ^ D.length ≤ 1024 := Nat.pow_le_pow_right (n := 2) (by omega) hD
  have hm := h.most
  have hl := h.len
  obtain ⟨x, r, d, l⟩ := iteA_room h.ok hI hf.1 hg.1 hq.1 (by omega)
  obtain ⟨o, e, z⟩ := iteA_ok h.ok hf.1 hg.1 hq.1
  rcases hj : iteA A f g q with ⟨y, A'⟩
  rw [hj] at r d l o e z
  simp only at r d l o e z
  subst r
  obtain ⟨s, _⟩ := ite_sem h.ok hf.1 hg.1 hq.1 hj
  exact ⟨x, A', rfl, ⟨o, ⟨D, hD, d⟩, e.most.trans hm, by omega⟩, e, z x rfl, fun b => by rw [s, hf.2, hg.2, hq.2]⟩

theorem light_good {l : List Ex} (hl : LightP l) : Good 184322 (makeGo (newF 262144) [] l).2.2 := by
  obtain ⟨_, b, c, _, o, m, _, _, hD⟩ := light_room hl rfl
  exact ⟨o, ⟨_, hD, b⟩, m, c⟩

end Go.Proofs.Ytakgghhmecphmaa
