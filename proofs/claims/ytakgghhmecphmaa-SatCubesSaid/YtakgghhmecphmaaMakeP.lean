/- What Make makes of expressions, in plain lists and numbers. -/
import Derived.Test.YtakgghhmecphmaaEx
namespace Go.Proofs.Ytakgghhmecphmaa
set_option linter.unusedVariables false
set_option linter.unusedSimpArgs false

/-- One expression's set, of ones that are there. -/
def stepE (A : Arn) (out : List Nat) (x : Ex) : Option Nat × Arn :=
  if x.kind = 0 then (some 0, A)
  else if x.kind = 1 then (some 1, A)
  else if x.kind = 2 then cubeF A [(x.var.toNat, x.on)]
  else if x.kind = 7 then joinA A 3 1 (out.getD x.a.toNat 0)
  else if x.kind = 8 then restrictA A (out.getD x.a.toNat 0) x.var.toNat x.on
  else if x.kind = 9 then iteA A (out.getD x.a.toNat 0) (out.getD x.b.toNat 0) (out.getD x.c.toNat 0)
  else joinA A (x.kind.toNat - 3) (out.getD x.a.toNat 0) (out.getD x.b.toNat 0)

theorem stepE_2 (A : Arn) (out : List Nat) (a b c v : Int) (o : Bool) : stepE A out ⟨2, a, b, c, v, o⟩ = cubeF A [(v.toNat, o)] := by simp [stepE]
theorem stepE_3 (A : Arn) (out : List Nat) (a b c v : Int) (o : Bool) : stepE A out ⟨3, a, b, c, v, o⟩ = joinA A 0 (out.getD a.toNat 0) (out.getD b.toNat 0) := by simp [stepE]
theorem stepE_4 (A : Arn) (out : List Nat) (a b c v : Int) (o : Bool) : stepE A out ⟨4, a, b, c, v, o⟩ = joinA A 1 (out.getD a.toNat 0) (out.getD b.toNat 0) := by simp [stepE]
theorem stepE_5 (A : Arn) (out : List Nat) (a b c v : Int) (o : Bool) : stepE A out ⟨5, a, b, c, v, o⟩ = joinA A 2 (out.getD a.toNat 0) (out.getD b.toNat 0) := by simp [stepE]
theorem stepE_6 (A : Arn) (out : List Nat) (a b c v : Int) (o : Bool) : stepE A out ⟨6, a, b, c, v, o⟩ = joinA A 3 (out.getD a.toNat 0) (out.getD b.toNat 0) := by simp [stepE]
theorem stepE_7 (A : Arn) (out : List Nat) (a b c v : Int) (o : Bool) : stepE A out ⟨7, a, b, c, v, o⟩ = joinA A 3 1 (out.getD a.toNat 0) := by simp [stepE]
theorem stepE_8 (A : Arn) (out : List Nat) (a b c v : Int) (o : Bool) : stepE A out ⟨8, a, b, c, v, o⟩ = restrictA A (out.getD a.toNat 0) v.toNat o := by simp [stepE]
theorem stepE_9 (A : Arn) (out : List Nat) (a b c v : Int) (o : Bool) : stepE A out ⟨9, a, b, c, v, o⟩ = iteA A (out.getD a.toNat 0) (out.getD b.toNat 0) (out.getD c.toNat 0) := by simp [stepE]

/-- The sets of expressions, one behind the other; whether there was room for all. -/
def makeGo : Arn → List Nat → List Ex → List Nat × Bool × Arn
  | A, out, [] => (out, true, A)
  | A, out, x :: r =>
    match stepE A out x with
    | (none, A') => (out, false, A')
    | (some f, A') => makeGo A' (out ++ [f]) r

theorem cubeF_ok {A : Arn} (hA : A.OK) {l : List (Nat × Bool)} (hR : Rise l) :
    (cubeF A l).2.OK ∧ Ext A (cubeF A l).2 ∧ (∀ x, (cubeF A l).1 = some x → x < (cubeF A l).2.nodes.length) ∧ ((cubeF A l).1 = none → (cubeF A l).2 = A) := by
  have h := cubeGo_ok l.reverse A 1 hA (by have := hA.two; omega) (fun x hx => hR.lt x (by simpa using hx)) (List.pairwise_reverse.2 hR.up) (fun x hx => by rw [hA.lv_one]; exact hR.lt x (by simpa using hx))
  unfold cubeF
  rcases e : cubeGo A 1 l.reverse with ⟨r, A'⟩
  rw [e] at h
  obtain ⟨a, b, c⟩ := h
  cases r with
  | none => exact ⟨hA, Ext.refl A, fun x h => (by cases h), fun _ => rfl⟩
  | some f => exact ⟨a, b, c, fun h => (by cases h)⟩

theorem rise_one {v : Nat} (h : v < 104) (on : Bool) : Rise [(v, on)] := ⟨by simpa using h, by simp⟩

theorem getD_lt {out : List Nat} {n : Nat} (h : ∀ f ∈ out, f < n) (hn : 0 < n) (i : Nat) : out.getD i 0 < n := by
  rw [List.getD_eq_getElem?_getD]
  cases e : out[i]? with
  | none => simpa using hn
  | some f => simpa using h f (List.mem_of_getElem? e)

theorem stepE_ok {A : Arn} (hA : A.OK) {out : List Nat} (ho : ∀ f ∈ out, f < A.nodes.length) {x : Ex} {i : Nat} (hx : ¬ BadE x i) :
    (stepE A out x).2.OK ∧ Ext A (stepE A out x).2 ∧ ∀ f, (stepE A out x).1 = some f → f < (stepE A out x).2.nodes.length := by
  have h2 := hA.two
  have hg := getD_lt ho (by omega)
  unfold BadE at hx
  unfold stepE
  split
  · exact ⟨hA, Ext.refl A, fun f h => by cases h; simp only; omega⟩
  split
  · exact ⟨hA, Ext.refl A, fun f h => by cases h; simp only; omega⟩
  split
  · obtain ⟨a, b, c, _⟩ := cubeF_ok hA (rise_one (v := x.var.toNat) (by omega) x.on)
    exact ⟨a, b, c⟩
  split
  · exact joinA_ok hA (by omega) (by omega) (hg _)
  split
  · exact restrictA_ok hA (hg _) (by omega)
  split
  · exact iteA_ok hA (hg _) (hg _) (hg _)
  · exact joinA_ok hA (by omega) (hg _) (hg _)

theorem makeGo_ok : ∀ (l : List Ex) (A : Arn) (out : List Nat) (k : Nat), A.OK → (∀ f ∈ out, f < A.nodes.length) → (∀ i x, l[i]? = some x → ¬ BadE x (k + i)) →
    (makeGo A out l).2.2.OK ∧ Ext A (makeGo A out l).2.2 ∧ (∀ f ∈ (makeGo A out l).1, f < (makeGo A out l).2.2.nodes.length) ∧ (makeGo A out l).1.length ≤ out.length + l.length ∧ ((makeGo A out l).2.1 = true → (makeGo A out l).1.length = out.length + l.length)
  | [], A, out, k, hA, ho, _ => ⟨hA, Ext.refl A, ho, by simp [makeGo], by simp [makeGo]⟩
  | x :: r, A, out, k, hA, ho, hb => by
    obtain ⟨a, b, c⟩ := stepE_ok hA ho (hb 0 x rfl)
    unfold makeGo
    rcases e : stepE A out x with ⟨q, A'⟩
    rw [e] at a b c
    cases q with
    | none => exact ⟨a, b, fun f hf => Nat.lt_of_lt_of_le (ho f hf) b.len, by simp, by simp⟩
    | some f =>
      simp only at a b c ⊢
      obtain ⟨p1, p2, p3, p4, p5⟩ := makeGo_ok r A' (out ++ [f]) (k + 1) a (fun g hg => by
        rcases List.mem_append.1 hg with h | h
        · exact Nat.lt_of_lt_of_le (ho g h) b.len
        · obtain rfl : g = f := by simpa using h
          exact c g rfl) (fun i y hy => by have := hb (i + 1) y (by simpa using hy); rw [show k + 1 + i = k + (i + 1) by omega]; exact this)
      refine ⟨p1, b.trans p2, p3, ?_, ?_⟩
      · simp at p4 ⊢; omega
      · intro h
        have := p5 h
        simp at this ⊢
        omega

end Go.Proofs.Ytakgghhmecphmaa
