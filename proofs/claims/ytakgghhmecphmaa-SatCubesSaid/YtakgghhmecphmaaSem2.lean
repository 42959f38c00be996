/- Joins: what they have; that what is there is found again; how many nodes they make. No program in sight. -/
import Derived.Test.YtakgghhmecphmaaSem
namespace Go.Proofs.Ytakgghhmecphmaa
set_option linter.unusedVariables false
set_option linter.unusedSimpArgs false

theorem part_sem {A : Arn} (hA : A.OK) (b : Nat → Bool) {f lv : Nat} (hf : f < A.nodes.length) (hlv : lv < 104) :
    inA A b f = inA A b (if b lv then (partsF A f lv).2 else (partsF A f lv).1) := by
  unfold partsF
  by_cases e : (A.nd f).level = lv
  · rw [if_pos e]
    have hl : A.lv f = lv := e
    have := inA_node hA b hf (two_of_lv hA (by omega))
    rw [hl] at this
    exact this
  · rw [if_neg e]
    split <;> rfl

theorem mk_sem {A : Arn} (hA : A.OK) {L lo hi x : Nat} (hL : L < 104) (h0 : lo < A.nodes.length) (h1 : hi < A.nodes.length) (hlo : L < A.lv lo) (hhi : L < A.lv hi)
    (h : (mkF A L lo hi).1 = some x) (b : Nat → Bool) : inA (mkF A L lo hi).2 b x = if b L then inA A b hi else inA A b lo := by
  have hO := mkF_ok hA hL h0 h1 hlo hhi
  have hE := mkF_ext A L lo hi
  have hS := mkF_some h h0 hlo
  by_cases e : lo = hi
  · have hk : mkF A L lo hi = (some lo, A) := by simp [mkF, e]
    rw [hk] at h ⊢
    cases h
    subst e
    simp
  · have key : ∀ B : Arn, B.OK → Ext A B → x < B.nodes.length → 2 ≤ x → B.nd x = ⟨L, lo, hi⟩ → inA B b x = if b L then inA A b hi else inA A b lo := by
      intro B hB hE hx h2 hn
      rw [inA_node hB b hx h2]
      have : B.lv x = L := by unfold Arn.lv; rw [hn]
      rw [this, hn]
      split
      · exact inA_ext hA hB hE b hi h1
      · exact inA_ext hA hB hE b lo h0
    refine key _ hO hE hS.1 ?_ ?_
    · cases hf : findF A.nodes ⟨L, lo, hi⟩ with
      | some i =>
        have hk : mkF A L lo hi = (some i, A) := by simp [mkF, e, hf]
        rw [hk] at h
        cases h
        exact (findF_some hf).1
      | none =>
        by_cases hm : A.most ≤ A.nodes.length
        · have hk : mkF A L lo hi = (none, A) := by simp [mkF, e, hf, hm]
          rw [hk] at h
          cases h
        · have hk : mkF A L lo hi = (some A.nodes.length, { A with nodes := A.nodes ++ [⟨L, lo, hi⟩] }) := by simp [mkF, e, hf, hm]
          rw [hk] at h
          cases h
          exact hA.two
    · cases hf : findF A.nodes ⟨L, lo, hi⟩ with
      | some i =>
        have hk : mkF A L lo hi = (some i, A) := by simp [mkF, e, hf]
        rw [hk] at h ⊢
        cases h
        unfold Arn.nd
        rw [List.getD_eq_getElem?_getD, (findF_some hf).2]
        rfl
      | none =>
        by_cases hm : A.most ≤ A.nodes.length
        · have hk : mkF A L lo hi = (none, A) := by simp [mkF, e, hf, hm]
          rw [hk] at h
          cases h
        · have hk : mkF A L lo hi = (some A.nodes.length, { A with nodes := A.nodes ++ [⟨L, lo, hi⟩] }) := by simp [mkF, e, hf, hm]
          rw [hk] at h ⊢
          cases h
          unfold Arn.nd
          simp [List.getD_eq_getElem?_getD]

/-- A node that is there is found again. -/
theorem mk_again {A : Arn} (hA : A.OK) {L lo hi x : Nat} (hL : L < 104) (h0 : lo < A.nodes.length) (h1 : hi < A.nodes.length) (hlo : L < A.lv lo) (hhi : L < A.lv hi)
    (hx : x < A.nodes.length) (h : ∀ b, inA A b x = if b L then inA A b hi else inA A b lo) : mkF A L lo hi = (some x, A) := by
  by_cases e : lo = hi
  · have hk : mkF A L lo hi = (some lo, A) := by simp [mkF, e]
    rw [hk, canon' hA hx h0 (fun b => by rw [h, e]; split <;> rfl)]
  · have hp : ∀ (on : Bool) (b : Nat → Bool), inA A (updB b L on) x = inA A b (if on then hi else lo) := by
      intro on b
      rw [h, updB_same, inA_upd hA b on h1 hhi, inA_upd hA b on h0 hlo]
      cases on <;> rfl
    have hl : A.lv x = L := by
      rcases Nat.lt_trichotomy (A.lv x) L with hl | hl | hl
      · exfalso
        have h2 := two_of_lv hA (f := x) (by omega)
        obtain ⟨a, c1, c2, c3, c4, c5⟩ := hA.at_ hx h2
        refine c3 (canon' hA (by omega) (by omega) fun b => ?_)
        have p0 := inA_part hA b false hx h2
        have p1 := inA_part hA b true hx h2
        simp only [Bool.false_eq_true, if_false, if_true] at p0 p1
        rw [← p0, ← p1, h, h, updB_other b _ (by omega), updB_other b _ (by omega), inA_upd hA b _ h1 (by omega), inA_upd hA b _ h0 (by omega), inA_upd hA b _ h1 (by omega), inA_upd hA b _ h0 (by omega)]
      · exact hl
      · exfalso
        refine e (canon' hA h0 h1 fun b => ?_)
        have p0 := hp false b
        have p1 := hp true b
        simp only [Bool.false_eq_true, if_false, if_true] at p0 p1
        rw [← p0, ← p1, inA_upd hA b _ hx hl, inA_upd hA b _ hx hl]
    have h2 := two_of_lv hA (f := x) (by omega)
    obtain ⟨a, c1, c2, c3, c4, c5⟩ := hA.at_ hx h2
    have q : ∀ (on : Bool) (b : Nat → Bool), inA A b (if on then (A.nd x).high else (A.nd x).low) = inA A b (if on then hi else lo) := fun on b => by
      rw [← inA_part hA b on hx h2, hl, hp]
    have e1 : (A.nd x).low = lo := canon' hA (by omega) h0 (q false)
    have e2 : (A.nd x).high = hi := canon' hA (by omega) h1 (q true)
    have e3 : A.nd x = ⟨L, lo, hi⟩ := by
      have hl' : (A.nd x).level = L := hl
      cases hn : A.nd x
      simp [hn] at e1 e2 hl'
      simp [e1, e2, hl']
    have hf := findF_of hA.nodup h2 (nd_get hx)
    rw [e3] at hf
    simp [mkF, e, hf]

/-- What is seen has what it should. -/
def SM (A : Arn) (k : Nat) (S : Seen) : Prop := ∀ f g x, S (f, g) = some x → ∀ b, inA A b x = opF k (inA A b f) (inA A b g)
theorem SM.ext {A B : Arn} {k : Nat} {S : Seen} (h : SM A k S) (hv : SV A S) (hA : A.OK) (hB : B.OK) (e : Ext A B) : SM B k S := fun f g x hx b => by
  obtain ⟨p, q, r, _⟩ := hv f g x hx
  rw [inA_ext hA hB e b f p, inA_ext hA hB e b g q, inA_ext hA hB e b x r]
  exact h f g x hx b
theorem SM.none (A : Arn) (k : Nat) : SM A k (fun _ => none) := fun _ _ _ h => by cases h

theorem join_sem (d : Nat) : ∀ (k : Nat) (A : Arn) (S : Seen) (f g : Nat), k ≤ 3 → A.OK → SV A S → SM A k S → f < A.nodes.length → g < A.nodes.length →
    SM (joinF d k A S f g).2.1 k (joinF d k A S f g).2.2 ∧ ∀ x, (joinF d k A S f g).1 = some x → ∀ b, inA (joinF d k A S f g).2.1 b x = opF k (inA A b f) (inA A b g) := by
  induction d with
  | zero =>
    intro k A S f g _ hA hS hM _ _
    exact ⟨hM, fun x h => by cases h⟩
  | succ d ih =>
    intro k A S f g h3 hA hS hM hf hg
    unfold joinF
    cases hs : shortF k f g with
    | some x => exact ⟨hM, fun y h b => by cases h; exact short_sem hs b⟩
    | none =>
      cases hx : S (f, g) with
      | some x => exact ⟨hM, fun y h b => by cases h; exact hM f g x hx b⟩
      | none =>
        have hlv := min_lv hA hf hg (short_none h3 hs)
        obtain ⟨f0, f1, lf0, lf1⟩ := parts_ok hA (lv := min (A.lv f) (A.lv g)) hf hlv (Nat.min_le_left _ _)
        obtain ⟨g0, g1, lg0, lg1⟩ := parts_ok hA (lv := min (A.lv f) (A.lv g)) hg hlv (Nat.min_le_right _ _)
        have sf := fun b => part_sem hA b (lv := min (A.lv f) (A.lv g)) hf hlv
        have sg := fun b => part_sem hA b (lv := min (A.lv f) (A.lv g)) hg hlv
        generalize hL : min (A.lv f) (A.lv g) = L at *
        generalize hF : partsF A f L = F at *
        generalize hG : partsF A g L = G at *
        simp only
        have i1 := joinF_ok d k A S F.1 G.1 h3 hA hS f0 g0
        have j1 := ih k A S F.1 G.1 h3 hA hS hM f0 g0
        rcases h1 : joinF d k A S F.1 G.1 with ⟨r, A1, S1⟩
        rw [h1] at i1 j1
        obtain ⟨o1, e1, s1, v1⟩ := i1
        obtain ⟨m1, w1⟩ := j1
        cases r with
        | none => exact ⟨m1, fun x h => by cases h⟩
        | some lo =>
          simp only at o1 e1 s1 v1 m1 w1 ⊢
          obtain ⟨hlo, vlo⟩ := v1 lo rfl
          have wlo := w1 lo rfl
          have hl1 := e1.len
          have i2 := joinF_ok d k A1 S1 F.2 G.2 h3 o1 s1 (by omega) (by omega)
          have j2 := ih k A1 S1 F.2 G.2 h3 o1 s1 m1 (by omega) (by omega)
          rcases h2 : joinF d k A1 S1 F.2 G.2 with ⟨r, A2, S2⟩
          rw [h2] at i2 j2
          obtain ⟨o2, e2, s2, v2⟩ := i2
          obtain ⟨m2, w2⟩ := j2
          cases r with
          | none => exact ⟨m2, fun x h => by cases h⟩
          | some hi =>
            simp only at o2 e2 s2 v2 m2 w2 ⊢
            obtain ⟨hhi, vhi⟩ := v2 hi rfl
            have whi := w2 hi rfl
            rw [e1.lv f1, e1.lv g1] at vhi
            have hlo2 : L < A2.lv lo := by rw [e2.lv hlo]; omega
            have hhi2 : L < A2.lv hi := by omega
            have hl2 := e2.len
            have n1 := mkF_ok o2 hlv (show lo < A2.nodes.length by omega) hhi hlo2 hhi2
            have n2 := mkF_ext A2 L lo hi
            have n3 := fun x h => mk_sem o2 hlv (show lo < A2.nodes.length by omega) hhi hlo2 hhi2 (x := x) h
            rcases h4 : mkF A2 L lo hi with ⟨r, A3⟩
            rw [h4] at n1 n2 n3
            cases r with
            | none => exact ⟨m2.ext s2 o2 n1 n2, fun x h => by cases h⟩
            | some x =>
              simp only at n1 n2 n3 ⊢
              have res : ∀ b, inA A3 b x = opF k (inA A b f) (inA A b g) := fun b => by
                rw [n3 x rfl b, whi, inA_ext o1 o2 e2 b lo hlo, wlo, inA_ext hA o1 e1 b _ f1, inA_ext hA o1 e1 b _ g1, sf b, sg b]
                split <;> rfl
              have hall := (e1.trans e2).trans n2
              refine ⟨?_, fun y h => by cases h; exact res⟩
              intro f' g' x' h' b
              unfold seeJ at h'
              split at h'
              · rename_i e
                cases e
                cases h'
                rw [inA_ext hA n1 hall b f hf, inA_ext hA n1 hall b g hg]
                exact res b
              · exact (m2.ext s2 o2 n1 n2) f' g' x' h' b

theorem joinA_sem {A : Arn} (hA : A.OK) {k f g x : Nat} (h3 : k ≤ 3) (hf : f < A.nodes.length) (hg : g < A.nodes.length) (h : (joinA A k f g).1 = some x) (b : Nat → Bool) :
    inA (joinA A k f g).2 b x = opF k (inA A b f) (inA A b g) := by
  have j := (join_sem 106 k A (fun _ => none) f g h3 hA (SV.none A) (SM.none A k) hf hg).2
  unfold joinA at h ⊢
  rcases e : joinF 106 k A (fun _ => none) f g with ⟨r, A', S'⟩
  rw [e] at j h
  cases r with
  | none => cases h
  | some y => cases h; exact j x rfl b

end Go.Proofs.Ytakgghhmecphmaa
