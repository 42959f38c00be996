/- What EncHeaders asks, in plain lists: the cube of all bits of a header has it alone. -/
import Derived.Test.YtakgghhmecphmaaSem
import Derived.Test.YtakgghhmecphmaaBit
namespace Go.Proofs.Ytakgghhmecphmaa
set_option linter.unusedVariables false
set_option linter.unusedSimpArgs false

theorem bits_eq {n x y : Nat} (hx : x < 2 ^ n) (hy : y < 2 ^ n) (h : ∀ i, i < n → x.testBit i = y.testBit i) : x = y := by
  refine Nat.eq_of_testBit_eq fun i => ?_
  by_cases hi : i < n
  · exact h i hi
  · have hp : 2 ^ n ≤ 2 ^ i := Nat.pow_le_pow_right (by omega) (by omega)
    rw [Nat.testBit_lt_two_pow (by omega), Nat.testBit_lt_two_pow (by omega)]

theorem Hd.eq_of {h g : Hd} (hw : h.Wf) (gw : g.Wf) (e : ∀ i, i < 104 → h.bit i = g.bit i) : h = g := by
  have f0 : h.dst = g.dst := bits_eq hw.dst gw.dst fun i hi => by
    have := e (31 - i) (by omega)
    unfold Hd.bit at this
    rw [if_pos (by omega), if_pos (by omega), show 31 - (31 - i) = i by omega] at this
    exact this
  have f1 : h.src = g.src := bits_eq hw.src gw.src fun i hi => by
    have := e (63 - i) (by omega)
    unfold Hd.bit at this
    rw [if_neg (by omega), if_pos (by omega), if_neg (by omega), if_pos (by omega), show 63 - (63 - i) = i by omega] at this
    exact this
  have f2 : h.proto = g.proto := bits_eq hw.proto gw.proto fun i hi => by
    have := e (71 - i) (by omega)
    unfold Hd.bit at this
    rw [if_neg (by omega), if_neg (by omega), if_pos (by omega), if_neg (by omega), if_neg (by omega), if_pos (by omega), show 71 - (71 - i) = i by omega] at this
    exact this
  have f3 : h.sport = g.sport := bits_eq hw.sport gw.sport fun i hi => by
    have := e (87 - i) (by omega)
    unfold Hd.bit at this
    rw [if_neg (by omega), if_neg (by omega), if_neg (by omega), if_pos (by omega), if_neg (by omega), if_neg (by omega), if_neg (by omega), if_pos (by omega), show 87 - (87 - i) = i by omega] at this
    exact this
  have f4 : h.dport = g.dport := bits_eq hw.dport gw.dport fun i hi => by
    have := e (103 - i) (by omega)
    unfold Hd.bit at this
    rw [if_neg (by omega), if_neg (by omega), if_neg (by omega), if_neg (by omega), if_pos (by omega), if_neg (by omega), if_neg (by omega), if_neg (by omega), if_neg (by omega), if_pos (by omega), show 103 - (103 - i) = i by omega] at this
    exact this
  cases h; cases g
  simp only at f0 f1 f2 f3 f4
  subst f0 f1 f2 f3 f4
  rfl

/-- The first k bits of a header. -/
def headN (hd : Hd) (k : Nat) : List (Nat × Bool) := (List.range k).map fun i => (i, hd.bit i)
theorem headN_succ (hd : Hd) (k : Nat) : headN hd (k + 1) = headN hd k ++ [(k, hd.bit k)] := by simp [headN, List.range_succ]
theorem headN_length (hd : Hd) (k : Nat) : (headN hd k).length = k := by simp [headN]
theorem headN_rise (hd : Hd) {k : Nat} (hk : k ≤ 104) : Rise (headN hd k) := by
  refine ⟨fun x hx => ?_, ?_⟩
  · obtain ⟨i, hi, rfl⟩ := List.mem_map.1 hx
    have := List.mem_range.1 hi
    simp only
    omega
  · unfold headN
    rw [List.pairwise_map]
    exact List.pairwise_lt_range
theorem headN_agree (h g : Hd) (hw : h.Wf) (gw : g.Wf) : agree g.bit (headN h 104) = decide (h = g) := by
  unfold agree headN
  rw [Bool.eq_iff_iff]
  simp only [List.all_map, List.all_eq_true, List.mem_range, Function.comp, beq_iff_eq, decide_eq_true_eq]
  exact ⟨fun e => Hd.eq_of hw gw fun i hi => (e i hi).symm, fun e i _ => by rw [e]⟩

/-- Two headers' sets. -/
theorem enc_plain {A : Arn} (hA : A.OK) (hr : A.nodes.length + 208 ≤ A.most) {h g : Hd} (hw : h.Wf) (gw : g.Wf) :
    ∃ x A1 y A2, cubeF A (headN h 104) = (some x, A1) ∧ cubeF A1 (headN g 104) = (some y, A2) ∧ A1.OK ∧ A2.OK ∧ x < A2.nodes.length ∧ y < A2.nodes.length ∧
      inA A2 h.bit x = true ∧ inA A2 g.bit x = decide (h = g) ∧ (x = y ↔ h = g) := by
  obtain ⟨x, A1, e1, n1⟩ := cubeF_room (A := A) (l := headN h 104) (by rw [headN_length]; omega)
  obtain ⟨a1, b1, c1, _⟩ := cubeF_ok hA (headN_rise h (Nat.le_refl 104))
  rw [e1] at a1 b1 c1
  simp only at a1 b1 c1
  have m1 := b1.most
  rw [headN_length] at n1
  obtain ⟨y, A2, e2, n2⟩ := cubeF_room (A := A1) (l := headN g 104) (by rw [headN_length]; omega)
  obtain ⟨a2, b2, c2, _⟩ := cubeF_ok a1 (headN_rise g (Nat.le_refl 104))
  rw [e2] at a2 b2 c2
  simp only at a2 b2 c2
  have s1 := fun b => cubeF_sem hA (headN_rise h (Nat.le_refl 104)) e1 b
  have s2 := fun b => cubeF_sem a1 (headN_rise g (Nat.le_refl 104)) e2 b
  have hx1 := c1 x rfl
  have hx2 : x < A2.nodes.length := Nat.lt_of_lt_of_le hx1 b2.len
  have s3 : ∀ b, inA A2 b x = agree b (headN h 104) := fun b => by rw [inA_ext a1 a2 b2 b x hx1, s1]
  have hy := c2 y rfl
  refine ⟨x, A1, y, A2, e1, e2, a1, a2, hx2, hy, ?_, ?_, ?_, ?_⟩
  · rw [s3, headN_agree h h hw hw]; simp
  · rw [s3, headN_agree h g hw gw]
  · intro e
    have h1 := s2 h.bit
    rw [← e, s3, headN_agree h h hw hw, headN_agree g h gw hw] at h1
    simp at h1
    exact h1.symm
  · intro e
    subst e
    exact canon' a2 hx2 hy fun b => by rw [s3, s2]

end Go.Proofs.Ytakgghhmecphmaa
