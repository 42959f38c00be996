/- Joins: what is there is found again, and nothing made; how many nodes they make. No program in sight. -/
import Derived.Test.YtakgghhmecphmaaSem2
namespace Go.Proofs.Ytakgghhmecphmaa
set_option linter.unusedVariables false
set_option linter.unusedSimpArgs false

theorem op_swap (k : Nat) (c : Bool) (x y x' y' : Bool) : opF k (if c then x else y) (if c then x' else y') = if c then opF k x x' else opF k y y' := by cases c <;> rfl

/-- Is the joined set there, it is found, and nothing is made. -/
theorem join_again {A : Arn} (hA : A.OK) {k : Nat} (h3 : k ≤ 3) (d : Nat) : ∀ (S : Seen) (f g x : Nat), SV A S → SM A k S → f < A.nodes.length → g < A.nodes.length → x < A.nodes.length →
    105 ≤ d + min (A.lv f) (A.lv g) → (∀ b, inA A b x = opF k (inA A b f) (inA A b g)) →
    ∃ S', joinF d k A S f g = (some x, A, S') := by
  induction d with
  | zero =>
    intro S f g x _ _ _ _ _ hd _
    have := hA.lv_le f
    omega
  | succ d ih =>
    intro S f g x hS hM hf hg hx hd h
    unfold joinF
    cases hs : shortF k f g with
    | some y =>
      refine ⟨S, ?_⟩
      rw [canon' hA hx (short_lt hs hf hg hA.two) (fun b => by rw [h, short_sem hs b])]
    | none =>
      cases hy : S (f, g) with
      | some y =>
        refine ⟨S, ?_⟩
        rw [canon' hA hx (hS f g y hy).2.2.1 (fun b => by rw [h, hM f g y hy b])]
      | none =>
        have hlv := min_lv hA hf hg (short_none h3 hs)
        obtain ⟨f0, f1, lf0, lf1⟩ := parts_ok hA (lv := min (A.lv f) (A.lv g)) hf hlv (Nat.min_le_left _ _)
        obtain ⟨g0, g1, lg0, lg1⟩ := parts_ok hA (lv := min (A.lv f) (A.lv g)) hg hlv (Nat.min_le_right _ _)
        have sf := fun b => part_sem hA b (lv := min (A.lv f) (A.lv g)) hf hlv
        have sg := fun b => part_sem hA b (lv := min (A.lv f) (A.lv g)) hg hlv
        generalize hL : min (A.lv f) (A.lv g) = L at *
        generalize hF : partsF A f L = F at *
        generalize hG : partsF A g L = G at *
        -- x's bit isn't ahead of L
        have hup : ∀ (on : Bool) (b : Nat → Bool), inA A (updB b L on) x = opF k (inA A b (if on then F.2 else F.1)) (inA A b (if on then G.2 else G.1)) := fun on b => by
          rw [h, sf, sg, updB_same]
          cases on
          · simp only [Bool.false_eq_true, if_false]
            rw [inA_upd hA b _ f0 lf0, inA_upd hA b _ g0 lg0]
          · simp only [if_true]
            rw [inA_upd hA b _ f1 lf1, inA_upd hA b _ g1 lg1]
        have hge : L ≤ A.lv x := by
          rcases Nat.lt_or_ge (A.lv x) L with hl | hl
          · exfalso
            have h2 := two_of_lv hA (f := x) (by omega)
            obtain ⟨a, c1, c2, c3, c4, c5⟩ := hA.at_ hx h2
            refine c3 (canon' hA (by omega) (by omega) fun b => ?_)
            have p0 := inA_part hA b false hx h2
            have p1 := inA_part hA b true hx h2
            simp only [Bool.false_eq_true, if_false, if_true] at p0 p1
            have q : ∀ on : Bool, opF k (inA A (updB b (A.lv x) on) f) (inA A (updB b (A.lv x) on) g) = opF k (inA A b f) (inA A b g) := fun on => by
              rw [inA_upd hA b _ hf (by omega), inA_upd hA b _ hg (by omega)]
            rw [← p0, ← p1, h, h, q, q]
          · exact hl
        obtain ⟨x0, x1, lx0, lx1⟩ := parts_ok hA (lv := L) hx hlv hge
        have hxp : ∀ (on : Bool) (b : Nat → Bool), inA A b (if on then (partsF A x L).2 else (partsF A x L).1) = opF k (inA A b (if on then F.2 else F.1)) (inA A b (if on then G.2 else G.1)) := fun on b => by
          rw [← hup, part_sem hA (updB b L on) hx hlv, updB_same]
          cases on
          · exact (inA_upd hA b _ x0 lx0).symm
          · exact (inA_upd hA b _ x1 lx1).symm
        obtain ⟨S1, r1⟩ := ih S F.1 G.1 (partsF A x L).1 hS hM f0 g0 x0 (by omega) (hxp false)
        rw [r1]
        simp only
        have j1 := joinF_ok d k A S F.1 G.1 h3 hA hS f0 g0
        have m1 := (join_sem d k A S F.1 G.1 h3 hA hS hM f0 g0).1
        rw [r1] at j1 m1
        obtain ⟨S2, r2⟩ := ih S1 F.2 G.2 (partsF A x L).2 j1.2.2.1 m1 f1 g1 x1 (by omega) (hxp true)
        rw [r2]
        simp only
        rw [mk_again hA hlv x0 x1 lx0 lx1 hx (fun b => by rw [part_sem hA b hx hlv]; split <;> rfl)]
        exact ⟨_, rfl⟩

theorem joinA_again {A : Arn} (hA : A.OK) {k f g x : Nat} (h3 : k ≤ 3) (hf : f < A.nodes.length) (hg : g < A.nodes.length) (hx : x < A.nodes.length)
    (h : ∀ b, inA A b x = opF k (inA A b f) (inA A b g)) : joinA A k f g = (some x, A) := by
  obtain ⟨S', e⟩ := join_again hA h3 106 (fun _ => none) f g x (SV.none A) (SM.none A k) hf hg hx (by omega) h
  unfold joinA
  rw [e]

/-- All bits of an arena are of some few. -/
def InD (D : List Nat) (A : Arn) : Prop := ∀ f, 2 ≤ f → f < A.nodes.length → A.lv f ∈ D
def cntD (D : List Nat) (v : Nat) : Nat := (D.filter (fun x => decide (v ≤ x))).length
theorem cnt_le (D : List Nat) (v : Nat) : cntD D v ≤ D.length := List.length_filter_le _ _
theorem cnt_mono (D : List Nat) {v u : Nat} (h : v ≤ u) : cntD D u ≤ cntD D v := by
  unfold cntD
  induction D with
  | nil => simp
  | cons a D ih =>
    simp only [List.filter_cons]
    by_cases h1 : u ≤ a
    · rw [if_pos (by simpa using h1), if_pos (by simp; omega)]; simp; exact ih
    · rw [if_neg (by simpa using h1)]
      split
      · simp; omega
      · exact ih
theorem cnt_mem {D : List Nat} {v : Nat} (h : v ∈ D) : cntD D (v + 1) + 1 ≤ cntD D v := by
  unfold cntD
  induction D with
  | nil => cases h
  | cons a D ih =>
    simp only [List.filter_cons]
    rcases List.mem_cons.1 h with h | h
    · subst h
      rw [if_neg (by simp), if_pos (by simp)]
      have := cnt_mono D (v := v) (u := v + 1) (by omega)
      unfold cntD at this
      simp
      omega
    · have := ih h
      split <;> split <;> simp_all <;> omega

theorem mk_inD {D : List Nat} {A : Arn} (hD : InD D A) {L : Nat} (lo hi : Nat) (hL : L ∈ D) : InD D (mkF A L lo hi).2 := by
  unfold mkF
  split
  · exact hD
  · split
    · exact hD
    · split
      · exact hD
      · intro f h2 hf
        simp only [List.length_append, List.length_singleton] at hf
        unfold Arn.lv Arn.nd
        simp only
        rcases Nat.lt_or_ge f A.nodes.length with h | h
        · have := hD f h2 h
          unfold Arn.lv Arn.nd at this
          rw [List.getD_eq_getElem?_getD, List.getElem?_append_left h, ← List.getD_eq_getElem?_getD]
          exact this
        · obtain rfl : f = A.nodes.length := by omega
          simp [List.getD_eq_getElem?_getD, hL]

theorem mk_len (A : Arn) (L lo hi : Nat) : (mkF A L lo hi).2.nodes.length ≤ A.nodes.length + 1 := by
  unfold mkF
  split
  · simp
  · split
    · simp
    · split <;> simp

theorem mkF_full {A : Arn} {L lo hi : Nat} (h : (mkF A L lo hi).1 = none) : A.most ≤ A.nodes.length ∧ (mkF A L lo hi).2 = A := by
  unfold mkF at h ⊢
  split at h
  · cases h
  · rename_i e
    rw [if_neg e]
    split at h
    · cases h
    · split at h
      · rename_i hf hm
        rw [if_pos hm]
        exact ⟨hm, rfl⟩
      · cases h

theorem two_pow {a b : Nat} (h : a + 1 ≤ b) : 2 ^ a + 2 ^ a ≤ 2 ^ b := by
  have := Nat.pow_le_pow_right (n := 2) (by omega) h
  rw [Nat.pow_succ] at this
  omega

theorem join_count {D : List Nat} (d : Nat) : ∀ (k : Nat) (A : Arn) (S : Seen) (f g : Nat), k ≤ 3 → A.OK → InD D A → SV A S → f < A.nodes.length → g < A.nodes.length →
    InD D (joinF d k A S f g).2.1 ∧ (joinF d k A S f g).2.1.nodes.length + 1 ≤ A.nodes.length + 2 ^ cntD D (min (A.lv f) (A.lv g)) ∧
    (105 ≤ d + min (A.lv f) (A.lv g) → (joinF d k A S f g).1 = none → A.most ≤ (joinF d k A S f g).2.1.nodes.length) := by
  induction d with
  | zero =>
    intro k A S f g _ hA hD _ _ _
    refine ⟨hD, by simp only [joinF]; have := Nat.one_le_two_pow (n := cntD D (min (A.lv f) (A.lv g))); omega, fun h => ?_⟩
    have := hA.lv_le f
    omega
  | succ d ih =>
    intro k A S f g h3 hA hD hS hf hg
    have hp := Nat.one_le_two_pow (n := cntD D (min (A.lv f) (A.lv g)))
    unfold joinF
    cases hs : shortF k f g with
    | some x => exact ⟨hD, by simp only; omega, fun _ h => by cases h⟩
    | none =>
      cases hx : S (f, g) with
      | some x => exact ⟨hD, by simp only; omega, fun _ h => by cases h⟩
      | none =>
        have hlv := min_lv hA hf hg (short_none h3 hs)
        have hLD : min (A.lv f) (A.lv g) ∈ D := by
          rcases Nat.le_total (A.lv f) (A.lv g) with hle | hle
          · rw [Nat.min_eq_left hle] at hlv ⊢; exact hD f (two_of_lv hA hlv) hf
          · rw [Nat.min_eq_right hle] at hlv ⊢; exact hD g (two_of_lv hA hlv) hg
        obtain ⟨f0, f1, lf0, lf1⟩ := parts_ok hA (lv := min (A.lv f) (A.lv g)) hf hlv (Nat.min_le_left _ _)
        obtain ⟨g0, g1, lg0, lg1⟩ := parts_ok hA (lv := min (A.lv f) (A.lv g)) hg hlv (Nat.min_le_right _ _)
        generalize hL : min (A.lv f) (A.lv g) = L at *
        generalize hF : partsF A f L = F at *
        generalize hG : partsF A g L = G at *
        have hcm := cnt_mem hLD
        have hP := two_pow hcm
        have hP1 : 2 ^ cntD D (min (A.lv F.1) (A.lv G.1)) ≤ 2 ^ cntD D (L + 1) := Nat.pow_le_pow_right (by omega) (cnt_mono D (by omega))
        have hP2 : 2 ^ cntD D (min (A.lv F.2) (A.lv G.2)) ≤ 2 ^ cntD D (L + 1) := Nat.pow_le_pow_right (by omega) (cnt_mono D (by omega))
        simp only
        have i1 := joinF_ok d k A S F.1 G.1 h3 hA hS f0 g0
        have j1 := ih k A S F.1 G.1 h3 hA hD hS f0 g0
        rcases h1 : joinF d k A S F.1 G.1 with ⟨r, A1, S1⟩
        rw [h1] at i1 j1
        obtain ⟨o1, e1, s1, v1⟩ := i1
        obtain ⟨d1, n1, w1⟩ := j1
        cases r with
        | none => exact ⟨d1, by simp only at n1 ⊢; omega, fun hd _ => w1 (by omega) rfl⟩
        | some lo =>
          simp only at o1 e1 s1 v1 d1 n1 w1 ⊢
          obtain ⟨hlo, vlo⟩ := v1 lo rfl
          have hl1 := e1.len
          have i2 := joinF_ok d k A1 S1 F.2 G.2 h3 o1 s1 (by omega) (by omega)
          have j2 := ih k A1 S1 F.2 G.2 h3 o1 d1 s1 (by omega) (by omega)
          rw [e1.lv f1, e1.lv g1] at j2
          rcases h2 : joinF d k A1 S1 F.2 G.2 with ⟨r, A2, S2⟩
          rw [h2] at i2 j2
          obtain ⟨o2, e2, s2, v2⟩ := i2
          obtain ⟨d2, n2, w2⟩ := j2
          cases r with
          | none => exact ⟨d2, by simp only at n2 ⊢; omega, fun hd _ => by rw [← e1.most]; exact w2 (by omega) rfl⟩
          | some hi =>
            simp only at o2 e2 s2 v2 d2 n2 w2 ⊢
            have q1 := mk_inD d2 lo hi hLD
            have q2 := mk_len A2 L lo hi
            have q3 := fun h => mkF_full (A := A2) (L := L) (lo := lo) (hi := hi) h
            rcases h4 : mkF A2 L lo hi with ⟨r, A3⟩
            rw [h4] at q1 q2 q3
            have hl2 := e2.len
            cases r with
            | none =>
              obtain ⟨z1, z2⟩ := q3 rfl
              simp only at z1 z2 q1 q2 ⊢
              subst z2
              exact ⟨q1, by omega, fun _ _ => by rw [← e1.most, ← e2.most]; exact z1⟩
            | some x => exact ⟨q1, by simp only at q2 ⊢; omega, fun _ h => by cases h⟩

/-- Where there is room for all parts a join is made, and takes no more. -/
theorem joinA_room {D : List Nat} {A : Arn} (hA : A.OK) (hD : InD D A) {k f g : Nat} (h3 : k ≤ 3) (hf : f < A.nodes.length) (hg : g < A.nodes.length) (hr : A.nodes.length + 2 ^ D.length ≤ A.most) :
    ∃ x, (joinA A k f g).1 = some x ∧ InD D (joinA A k f g).2 ∧ (joinA A k f g).2.nodes.length + 1 ≤ A.nodes.length + 2 ^ D.length := by
  obtain ⟨p, q, r⟩ := join_count (D := D) 106 k A (fun _ => none) f g h3 hA hD (SV.none A) hf hg
  have hpow : 2 ^ cntD D (min (A.lv f) (A.lv g)) ≤ 2 ^ D.length := Nat.pow_le_pow_right (by omega) (cnt_le D _)
  unfold joinA
  rcases e : joinF 106 k A (fun _ => none) f g with ⟨y, A', S'⟩
  rw [e] at p q r
  cases y with
  | none =>
    have := r (by omega) rfl
    simp only at this q
    omega
  | some y => exact ⟨y, rfl, p, by simp only at q ⊢; omega⟩

end Go.Proofs.Ytakgghhmecphmaa
