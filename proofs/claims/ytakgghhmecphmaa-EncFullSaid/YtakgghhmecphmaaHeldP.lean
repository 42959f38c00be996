/- What BddHeld asks, in plain lists and numbers: with a bit held a set doesn't ask it any more; held both ways it is made up again. -/
import Derived.Test.YtakgghhmecphmaaSem
import Derived.Test.YtakgghhmecphmaaCube
namespace Go.Proofs.Ytakgghhmecphmaa
set_option linter.unusedVariables false
set_option linter.unusedSimpArgs false

theorem InD.mono {D E : List Nat} {A : Arn} (h : InD D A) (hs : ∀ x ∈ D, x ∈ E) : InD E A := fun f h2 hf => hs _ (h f h2 hf)

/-- All of Light expressions are made in a great arena. -/
theorem light_room {l : List Ex} (hl : LightP l) {R : List Nat × Bool × Arn} (e : makeGo (newF 262144) [] l = R) :
    R.2.1 = true ∧ InD (bitsD l) R.2.2 ∧ R.2.2.nodes.length ≤ 184322 ∧ R.1.length = l.length ∧ R.2.2.OK ∧ R.2.2.most = 262144 ∧ (∀ f ∈ R.1, f < R.2.2.nodes.length) ∧ SemL R.2.2 R.1 (fnsGo [] l) ∧ (bitsD l).length ≤ 10 := by
  have hO : (newF 262144).OK := newF_ok (by omega) (by omega)
  have hR : ∀ i x, l[i]? = some x → ¬ BadE x (0 + i) := fun i x hx => by rw [Nat.zero_add]; exact hl.2.2.1 i x hx
  have hlen : (bitsD l).length ≤ 10 := by unfold bitsD; rw [List.length_map]; exact hl.2.1
  have hpow : 2 ^ (bitsD l).length ≤ 1024 := Nat.pow_le_pow_right (n := 2) (by omega) hlen
  have hmul : l.length * (3 * 2 ^ (bitsD l).length) ≤ 60 * (3 * 1024) := Nat.mul_le_mul hl.1 (by omega)
  have hn : (newF 262144).nodes.length = 2 := rfl
  have hm : (newF 262144).most = 262144 := rfl
  obtain ⟨a, b, c⟩ := makeGo_room (D := bitsD l) l (newF 262144) [] 0 hO (inD_two rfl) (by simp) hR (fun x hx h2 => bits_mem hx h2) (by rw [hn, hm]; omega)
  obtain ⟨p1, p2, p3, p4, p5⟩ := makeGo_ok l (newF 262144) [] 0 hO (by simp) hR
  obtain ⟨q1, _⟩ := makeGo_sem l (newF 262144) [] [] 0 hO (by simp) hR ⟨rfl, fun i b => by simp [inA_zero]⟩ a
  rw [e] at *
  rw [hn] at c
  exact ⟨a, b, by omega, by simpa using p5 a, p1, p2.most.trans hm, p3, q1, hlen⟩

theorem updB_updB (b : Nat → Bool) (i : Nat) (x y : Bool) : updB (updB b i x) i y = updB b i y := by
  funext v
  unfold updB
  split <;> rfl
theorem updB_self (b : Nat → Bool) (i : Nat) (x : Bool) (h : b i = x) : updB b i x = b := by
  funext v
  unfold updB
  split
  · rename_i e; rw [e, h]
  · rfl

theorem held_plain {A : Arn} (hA : A.OK) {D : List Nat} (hD : InD D A) (hDl : D.length ≤ 10) (hlen : A.nodes.length ≤ 184322) (hm : A.most = 262144) {f k : Nat} (hf : f < A.nodes.length) (hk : k < 104) :
    ∃ low high v A1 A2 A3 A4, restrictA A f k false = (some low, A1) ∧ restrictA A1 f k true = (some high, A2) ∧ cubeF A2 [(k, true)] = (some v, A3) ∧ iteA A3 v high low = (some f, A4) ∧ restrictA A4 low k true = (some low, A4) ∧
      (low ≠ high ∨ low = f) ∧ A1.OK ∧ A2.OK ∧ A3.OK ∧ A4.OK ∧ f < A1.nodes.length ∧ low < A4.nodes.length ∧ v < A3.nodes.length ∧ high < A3.nodes.length ∧ low < A3.nodes.length := by
  have hE : InD (k :: D) A := hD.mono (fun x hx => by simp [hx])
  have hpow : 2 ^ (k :: D).length ≤ 2048 := Nat.pow_le_pow_right (n := 2) (j := 11) (by omega) (by rw [List.length_cons]; omega)
  -- low
  obtain ⟨low, r1, d1, n1⟩ := restrictA_room hA hE (on := false) hf hk (by omega)
  have o1 := restrictA_ok hA (f := f) (i := k) (on := false) hf hk
  have s1 := fun b => restrictA_sem hA (on := false) hf hk r1 b
  rcases e1 : restrictA A f k false with ⟨x, A1⟩
  rw [e1] at r1 d1 n1 o1 s1
  simp only at r1 d1 n1 o1 s1
  subst r1
  obtain ⟨a1, x1, l1⟩ := o1
  have g1 := l1 low rfl
  have m1 := x1.most
  have hf1 : f < A1.nodes.length := Nat.lt_of_lt_of_le hf x1.len
  -- high
  obtain ⟨high, r2, d2, n2⟩ := restrictA_room a1 d1 (on := true) hf1 hk (by omega)
  have o2 := restrictA_ok a1 (f := f) (i := k) (on := true) hf1 hk
  have s2 := fun b => restrictA_sem a1 (on := true) hf1 hk r2 b
  rcases e2 : restrictA A1 f k true with ⟨x, A2⟩
  rw [e2] at r2 d2 n2 o2 s2
  simp only at r2 d2 n2 o2 s2
  subst r2
  obtain ⟨a2, x2, l2⟩ := o2
  have g2 := l2 high rfl
  have m2 := x2.most
  have le2 := x2.len
  -- v
  obtain ⟨v, r3, d3, n3⟩ := cube1_room d2 (v := k) (on := true) (by simp) (by omega)
  have o3 := cubeF_ok a2 (rise_one hk true)
  rcases e3 : cubeF A2 [(k, true)] with ⟨x, A3⟩
  have s3 := fun f h b => cube1_sem a2 hk (f := f) (A' := A3) (on := true) h b
  rw [e3] at r3 d3 n3 o3 s3
  simp only at r3 d3 n3 o3
  subst r3
  obtain ⟨a3, x3, l3, _⟩ := o3
  have g3 := l3 v rfl
  have m3 := x3.most
  have le3 := x3.len
  have s3 := s3 v rfl
  -- back
  obtain ⟨back, r4, d4, n4⟩ := iteA_room a3 d3 (f := v) (g := high) (h := low) g3 (by omega) (by omega) (by omega)
  have o4 := iteA_ok a3 (f := v) (g := high) (h := low) g3 (by omega) (by omega)
  rcases e4 : iteA A3 v high low with ⟨x, A4⟩
  rw [e4] at r4 o4
  simp only at r4 o4
  subst r4
  obtain ⟨s4, _⟩ := ite_sem a3 g3 (show high < A3.nodes.length by omega) (show low < A3.nodes.length by omega) e4
  obtain ⟨a4, x4, l4⟩ := o4
  have g4 := l4 back rfl
  have le4 := x4.len
  have x13 := (x2.trans x3)
  have lo1 : ∀ b, inA A1 b low = inA A1 (updB b k false) f := fun b => by rw [s1, inA_ext hA a1 x1 _ f hf]
  have key : ∀ b, inA A4 b back = inA A1 b f := fun b => by
    rw [s4, s3, inA_ext a2 a3 x3 b high g2, s2, inA_ext a1 a3 x13 b low g1, lo1]
    cases hb : b k
    · simp only [Bool.false_beq, Bool.not_true, Bool.false_eq_true, if_false]
      rw [updB_self b k false hb]
    · simp only [beq_self_eq_true, if_true]
      rw [updB_self b k true hb]
  have hbf : back = f := canon' a4 g4 (by omega) (fun b => by rw [key, inA_ext a1 a4 (x13.trans x4) b f hf1])
  subst hbf
  refine ⟨low, high, v, A1, A2, A3, A4, rfl, e2, e3, e4, ?_, ?_, a1, a2, a3, a4, hf1, by omega, g3, by omega, by omega⟩
  · refine restrictA_again a4 (by omega) hk (by omega) fun b => ?_
    rw [inA_ext a1 a4 (x13.trans x4) b low g1, inA_ext a1 a4 (x13.trans x4) _ low g1, lo1, lo1, updB_updB]
  · by_cases he : low = high
    · refine Or.inr (canon' a1 g1 hf1 fun b => ?_)
      cases hb : b k
      · rw [lo1, updB_self b k false hb]
      · have := s2 b
        rw [← he, inA_ext a1 a2 x2 b low g1, updB_self b k true hb] at this
        exact this
    · exact Or.inl he

end Go.Proofs.Ytakgghhmecphmaa
