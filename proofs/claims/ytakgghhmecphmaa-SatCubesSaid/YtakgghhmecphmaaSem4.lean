/- A bit held: what it has; that what is there is found again; how many nodes it makes. No program in sight. -/
import Derived.Test.YtakgghhmecphmaaSem3
namespace Go.Proofs.Ytakgghhmecphmaa
set_option linter.unusedVariables false
set_option linter.unusedSimpArgs false

def SML (A : Arn) (i : Nat) (on : Bool) (S : SeenL) : Prop := ∀ f x, S f = some x → ∀ b, inA A b x = inA A (updB b i on) f
theorem SML.ext {A B : Arn} {i : Nat} {on : Bool} {S : SeenL} (h : SML A i on S) (hv : SVL A S) (hA : A.OK) (hB : B.OK) (e : Ext A B) : SML B i on S := fun f x hx b => by
  obtain ⟨p, q, _⟩ := hv f x hx
  rw [inA_ext hA hB e _ f p, inA_ext hA hB e b x q]
  exact h f x hx b
theorem SML.none (A : Arn) (i : Nat) (on : Bool) : SML A i on (fun _ => none) := fun _ _ h => by cases h

theorem limit_sem (d : Nat) : ∀ (A : Arn) (S : SeenL) (f i : Nat) (on : Bool), A.OK → SVL A S → SML A i on S → f < A.nodes.length → i < 104 →
    SML (limitF d A S f i on).2.1 i on (limitF d A S f i on).2.2 ∧ ∀ x, (limitF d A S f i on).1 = some x → ∀ b, inA (limitF d A S f i on).2.1 b x = inA A (updB b i on) f := by
  induction d with
  | zero =>
    intro A S f i on hA hS hM _ _
    exact ⟨hM, fun x h => by cases h⟩
  | succ d ih =>
    intro A S f i on hA hS hM hf hi
    unfold limitF
    have hlvdef : (A.nd f).level = A.lv f := rfl
    rw [hlvdef]
    by_cases h1 : i < A.lv f
    · rw [if_pos h1]
      exact ⟨hM, fun x h b => by cases h; exact (inA_upd hA b on hf h1).symm⟩
    · rw [if_neg h1]
      have h2 := two_of_lv hA (f := f) (by omega)
      obtain ⟨a, b, c, e, g1, g2⟩ := hA.at_ hf h2
      by_cases h3 : A.lv f = i
      · rw [if_pos h3]
        refine ⟨hM, fun x h b => ?_⟩
        cases h
        rw [← h3]
        exact (inA_part hA b on hf h2).symm
      · rw [if_neg h3]
        cases hx : S f with
        | some x => exact ⟨hM, fun y h b => by cases h; exact hM f x hx b⟩
        | none =>
          simp only
          have i1 := limitF_ok d A S (A.nd f).low i on hA hS (by omega) hi
          have j1 := ih A S (A.nd f).low i on hA hS hM (by omega) hi
          rcases e1 : limitF d A S (A.nd f).low i on with ⟨r, A1, S1⟩
          rw [e1] at i1 j1
          obtain ⟨o1, x1, s1, v1⟩ := i1
          obtain ⟨m1, w1⟩ := j1
          cases r with
          | none => exact ⟨m1, fun x h => by cases h⟩
          | some lo =>
            simp only at o1 x1 s1 v1 m1 w1 ⊢
            obtain ⟨hlo, vlo⟩ := v1 lo rfl
            have wlo := w1 lo rfl
            have hl1 := x1.len
            have i2 := limitF_ok d A1 S1 (A.nd f).high i on o1 s1 (by omega) hi
            have j2 := ih A1 S1 (A.nd f).high i on o1 s1 m1 (by omega) hi
            rcases e2 : limitF d A1 S1 (A.nd f).high i on with ⟨r, A2, S2⟩
            rw [e2] at i2 j2
            obtain ⟨o2, x2, s2, v2⟩ := i2
            obtain ⟨m2, w2⟩ := j2
            cases r with
            | none => exact ⟨m2, fun x h => by cases h⟩
            | some hi' =>
              simp only at o2 x2 s2 v2 m2 w2 ⊢
              obtain ⟨hhi, vhi⟩ := v2 hi' rfl
              have whi := w2 hi' rfl
              rw [x1.lv (show (A.nd f).high < A.nodes.length by omega)] at vhi
              have hlo2 : A.lv f < A2.lv lo := by rw [x2.lv hlo]; omega
              have hl2 := x2.len
              have n1 := mkF_ok o2 a (show lo < A2.nodes.length by omega) hhi hlo2 (by omega)
              have n2 := mkF_ext A2 (A.lv f) lo hi'
              have n3 := fun x h => mk_sem o2 a (show lo < A2.nodes.length by omega) hhi hlo2 (by omega) (x := x) h
              rcases e3 : mkF A2 (A.lv f) lo hi' with ⟨r, A3⟩
              rw [e3] at n1 n2 n3
              cases r with
              | none => exact ⟨m2.ext s2 o2 n1 n2, fun x h => by cases h⟩
              | some x =>
                simp only at n1 n2 n3 ⊢
                have res : ∀ b, inA A3 b x = inA A (updB b i on) f := fun b => by
                  rw [n3 x rfl b, whi, inA_ext o1 o2 x2 b lo hlo, wlo, inA_ext hA o1 x1 _ _ (by omega), inA_node hA (updB b i on) hf h2, updB_other b on h3]
                  split <;> rfl
                have hall := (x1.trans x2).trans n2
                refine ⟨?_, fun y h => by cases h; exact res⟩
                intro f' x' h' b2
                unfold seeL at h'
                split at h'
                · rename_i e
                  subst e
                  cases h'
                  rw [inA_ext hA n1 hall _ f' hf]
                  exact res b2
                · exact (m2.ext s2 o2 n1 n2) f' x' h' b2

theorem restrictA_sem {A : Arn} (hA : A.OK) {f i x : Nat} {on : Bool} (hf : f < A.nodes.length) (hi : i < 104) (h : (restrictA A f i on).1 = some x) (b : Nat → Bool) :
    inA (restrictA A f i on).2 b x = inA A (updB b i on) f := by
  have j := (limit_sem 106 A (fun _ => none) f i on hA (SVL.none A) (SML.none A i on) hf hi).2
  unfold restrictA at h ⊢
  rcases e : limitF 106 A (fun _ => none) f i on with ⟨r, A', S'⟩
  rw [e] at j h
  cases r with
  | none => cases h
  | some y => cases h; exact j x rfl b

theorem limit_again {A : Arn} (hA : A.OK) {i : Nat} {on : Bool} (hi : i < 104) (d : Nat) : ∀ (S : SeenL) (f x : Nat), SVL A S → SML A i on S → f < A.nodes.length → x < A.nodes.length →
    105 ≤ d + A.lv f → (∀ b, inA A b x = inA A (updB b i on) f) → ∃ S', limitF d A S f i on = (some x, A, S') := by
  induction d with
  | zero =>
    intro S f x _ _ _ _ hd _
    have := hA.lv_le f
    omega
  | succ d ih =>
    intro S f x hS hM hf hx hd h
    unfold limitF
    have hlvdef : (A.nd f).level = A.lv f := rfl
    rw [hlvdef]
    by_cases h1 : i < A.lv f
    · rw [if_pos h1, canon' hA hx hf (fun b => by rw [h, inA_upd hA b on hf h1])]
      exact ⟨_, rfl⟩
    · rw [if_neg h1]
      have h2 := two_of_lv hA (f := f) (by omega)
      obtain ⟨a, b, c, e, g1, g2⟩ := hA.at_ hf h2
      by_cases h3 : A.lv f = i
      · rw [if_pos h3, canon' hA hx (g := if on then (A.nd f).high else (A.nd f).low) (by split <;> omega) (fun b => by rw [h, ← h3, inA_part hA b on hf h2])]
        exact ⟨_, rfl⟩
      · rw [if_neg h3]
        cases hy : S f with
        | some y =>
          rw [canon' hA hx (hS f y hy).2.1 (fun b => by rw [h, hM f y hy b])]
          exact ⟨_, rfl⟩
        | none =>
          simp only
          have hf2 : ∀ b, inA A b f = inA A b (if b (A.lv f) then (A.nd f).high else (A.nd f).low) := fun b => inA_node hA b hf h2
          generalize hlo : (A.nd f).low = lo at *
          generalize hhi : (A.nd f).high = hi' at *
          generalize hL : A.lv f = L at *
          have hup : ∀ (o : Bool) (b : Nat → Bool), inA A (updB b L o) x = inA A (updB b i on) (if o then hi' else lo) := fun o b => by
            rw [h, hf2, updB_other _ _ h3, updB_same]
            have e2 : updB (updB b L o) i on = updB (updB b i on) L o := by
              funext v
              unfold updB
              by_cases p : v = i <;> by_cases q : v = L <;> simp_all
            rw [e2]
            cases o
            · exact inA_upd hA _ _ (by simp; omega) (by simpa using g1)
            · exact inA_upd hA _ _ (by simp; omega) (by simpa using g2)
          have hge : L ≤ A.lv x := by
            rcases Nat.lt_or_ge (A.lv x) L with hl | hl
            · exfalso
              have hx2 := two_of_lv hA (f := x) (by omega)
              obtain ⟨_, c1, c2, c3, c4, c5⟩ := hA.at_ hx hx2
              refine c3 (canon' hA (by omega) (by omega) fun b => ?_)
              have p0 := inA_part hA b false hx hx2
              have p1 := inA_part hA b true hx hx2
              simp only [Bool.false_eq_true, if_false, if_true] at p0 p1
              have q : ∀ o : Bool, inA A (updB (updB b (A.lv x) o) i on) f = inA A (updB b i on) f := fun o => by
                have e2 : updB (updB b (A.lv x) o) i on = updB (updB b i on) (A.lv x) o := by
                  funext v
                  unfold updB
                  by_cases p : v = i <;> by_cases q : v = A.lv x <;> simp_all
                  omega
                rw [e2]
                exact inA_upd hA _ _ hf (by omega)
              rw [← p0, ← p1, h, h, q, q]
            · exact hl
          obtain ⟨x0, x1, lx0, lx1⟩ := parts_ok hA (lv := L) hx a hge
          have hxp : ∀ (o : Bool) (b : Nat → Bool), inA A b (if o then (partsF A x L).2 else (partsF A x L).1) = inA A (updB b i on) (if o then hi' else lo) := fun o b => by
            rw [← hup, part_sem hA (updB b L o) hx a, updB_same]
            cases o
            · exact (inA_upd hA b _ x0 lx0).symm
            · exact (inA_upd hA b _ x1 lx1).symm
          obtain ⟨S1, r1⟩ := ih S lo (partsF A x L).1 hS hM (by omega) x0 (by omega) (hxp false)
          rw [r1]
          simp only
          have j1 := limitF_ok d A S lo i on hA hS (by omega) hi
          have m1 := (limit_sem d A S lo i on hA hS hM (by omega) hi).1
          rw [r1] at j1 m1
          obtain ⟨S2, r2⟩ := ih S1 hi' (partsF A x L).2 j1.2.2.1 m1 (by omega) x1 (by omega) (hxp true)
          rw [r2]
          simp only
          rw [mk_again hA a x0 x1 lx0 lx1 hx (fun b => by rw [part_sem hA b hx a]; split <;> rfl)]
          exact ⟨_, rfl⟩

theorem restrictA_again {A : Arn} (hA : A.OK) {f i x : Nat} {on : Bool} (hf : f < A.nodes.length) (hi : i < 104) (hx : x < A.nodes.length)
    (h : ∀ b, inA A b x = inA A (updB b i on) f) : restrictA A f i on = (some x, A) := by
  obtain ⟨S', e⟩ := limit_again hA hi 106 (fun _ => none) f x (SVL.none A) (SML.none A i on) hf hx (by omega) h
  unfold restrictA
  rw [e]

theorem limit_count {D : List Nat} (d : Nat) : ∀ (A : Arn) (S : SeenL) (f i : Nat) (on : Bool), A.OK → InD D A → SVL A S → f < A.nodes.length → i < 104 →
    InD D (limitF d A S f i on).2.1 ∧ (limitF d A S f i on).2.1.nodes.length + 1 ≤ A.nodes.length + 2 ^ cntD D (A.lv f) ∧
    (105 ≤ d + A.lv f → (limitF d A S f i on).1 = none → A.most ≤ (limitF d A S f i on).2.1.nodes.length) := by
  induction d with
  | zero =>
    intro A S f i on hA hD _ _ _
    refine ⟨hD, by simp only [limitF]; have := Nat.one_le_two_pow (n := cntD D (A.lv f)); omega, fun h => ?_⟩
    have := hA.lv_le f
    omega
  | succ d ih =>
    intro A S f i on hA hD hS hf hi
    have hp := Nat.one_le_two_pow (n := cntD D (A.lv f))
    unfold limitF
    have hlvdef : (A.nd f).level = A.lv f := rfl
    rw [hlvdef]
    by_cases h1 : i < A.lv f
    · rw [if_pos h1]
      exact ⟨hD, by simp only; omega, fun _ h => by cases h⟩
    · rw [if_neg h1]
      have h2 := two_of_lv hA (f := f) (by omega)
      obtain ⟨a, b, c, e, g1, g2⟩ := hA.at_ hf h2
      by_cases h3 : A.lv f = i
      · rw [if_pos h3]
        exact ⟨hD, by simp only; omega, fun _ h => by cases h⟩
      · rw [if_neg h3]
        cases hx : S f with
        | some x => exact ⟨hD, by simp only; omega, fun _ h => by cases h⟩
        | none =>
          simp only
          have hLD := hD f h2 hf
          have hcm := cnt_mem hLD
          have hP := two_pow hcm
          have hP1 : 2 ^ cntD D (A.lv (A.nd f).low) ≤ 2 ^ cntD D (A.lv f + 1) := Nat.pow_le_pow_right (by omega) (cnt_mono D (by omega))
          have hP2 : 2 ^ cntD D (A.lv (A.nd f).high) ≤ 2 ^ cntD D (A.lv f + 1) := Nat.pow_le_pow_right (by omega) (cnt_mono D (by omega))
          have i1 := limitF_ok d A S (A.nd f).low i on hA hS (by omega) hi
          have j1 := ih A S (A.nd f).low i on hA hD hS (by omega) hi
          rcases e1 : limitF d A S (A.nd f).low i on with ⟨r, A1, S1⟩
          rw [e1] at i1 j1
          obtain ⟨o1, x1, s1, v1⟩ := i1
          obtain ⟨d1, n1, w1⟩ := j1
          cases r with
          | none => exact ⟨d1, by simp only at n1 ⊢; omega, fun hd _ => w1 (by omega) rfl⟩
          | some lo =>
            simp only at o1 x1 s1 v1 d1 n1 w1 ⊢
            obtain ⟨hlo, vlo⟩ := v1 lo rfl
            have hl1 := x1.len
            have i2 := limitF_ok d A1 S1 (A.nd f).high i on o1 s1 (by omega) hi
            have j2 := ih A1 S1 (A.nd f).high i on o1 d1 s1 (by omega) hi
            rw [x1.lv (show (A.nd f).high < A.nodes.length by omega)] at j2
            rcases e2 : limitF d A1 S1 (A.nd f).high i on with ⟨r, A2, S2⟩
            rw [e2] at i2 j2
            obtain ⟨o2, x2, s2, v2⟩ := i2
            obtain ⟨d2, n2, w2⟩ := j2
            cases r with
            | none => exact ⟨d2, by simp only at n2 ⊢; omega, fun hd _ => by rw [← x1.most]; exact w2 (by omega) rfl⟩
            | some hi' =>
              simp only at o2 x2 s2 v2 d2 n2 w2 ⊢
              have q1 := mk_inD d2 lo hi' hLD
              have q2 := mk_len A2 (A.lv f) lo hi'
              have q3 := fun h => mkF_full (A := A2) (L := A.lv f) (lo := lo) (hi := hi') h
              have hl2 := x2.len
              rcases e3 : mkF A2 (A.lv f) lo hi' with ⟨r, A3⟩
              rw [e3] at q1 q2 q3
              cases r with
              | none =>
                obtain ⟨z1, z2⟩ := q3 rfl
                simp only at z1 z2 q1 q2 ⊢
                subst z2
                exact ⟨q1, by omega, fun _ _ => by rw [← x1.most, ← x2.most]; exact z1⟩
              | some x => exact ⟨q1, by simp only at q2 ⊢; omega, fun _ h => by cases h⟩

theorem restrictA_room {D : List Nat} {A : Arn} (hA : A.OK) (hD : InD D A) {f i : Nat} {on : Bool} (hf : f < A.nodes.length) (hi : i < 104) (hr : A.nodes.length + 2 ^ D.length ≤ A.most) :
    ∃ x, (restrictA A f i on).1 = some x ∧ InD D (restrictA A f i on).2 ∧ (restrictA A f i on).2.nodes.length + 1 ≤ A.nodes.length + 2 ^ D.length := by
  obtain ⟨p, q, r⟩ := limit_count (D := D) 106 A (fun _ => none) f i on hA hD (SVL.none A) hf hi
  have hpow : 2 ^ cntD D (A.lv f) ≤ 2 ^ D.length := Nat.pow_le_pow_right (by omega) (cnt_le D _)
  unfold restrictA
  rcases e : limitF 106 A (fun _ => none) f i on with ⟨y, A', S'⟩
  rw [e] at p q r
  cases y with
  | none =>
    have := r (by omega) rfl
    simp only at this q
    omega
  | some y => exact ⟨y, rfl, p, by simp only at q ⊢; omega⟩

end Go.Proofs.Ytakgghhmecphmaa
