/- What a set has, told of its graph; that two sets that have the same are one; what joins come to. No program in sight. · Joins: what they have; that what is there is found again; how many nodes they make. No program in sight. · Joins: what is there is found again, and nothing made; how many nodes they make. No program in sight. · A bit held: what it has; that what is there is found again; how many nodes it makes. No program in sight. · Expressions' sets: what they have; made again they are the same; where there is room for all. No program in sight. · Whether all of a set is another one's: pair by pair, in plain lists. No program in sight. · A set's nodes, itself and those within, in plain lists. No program in sight. · What a cube of bits has, in plain lists. No program in sight. · How many headers a set has: ways to hold its bits, in plain numbers. No program in sight. · A cube of some bits: how many nodes it has. No program in sight. · A set without one header: how many nodes that may take. No program in sight. -/
import Derived.Test.YtakgghhmecphmaaBdd
namespace Go.Proofs.Ytakgghhmecphmaa
set_option linter.unusedVariables false
set_option linter.unusedSimpArgs false

/-- Whether a set has the header of these bits, in d steps. -/
def ev (A : Arn) (b : Nat → Bool) : Nat → Nat → Bool
  | 0, f => f == 1
  | d + 1, f => if f ≤ 1 then f == 1 else ev A b d (if b (A.nd f).level then (A.nd f).high else (A.nd f).low)
def inA (A : Arn) (b : Nat → Bool) (f : Nat) : Bool := ev A b f f

theorem ev_enough {A : Arn} (hA : A.OK) (b : Nat → Bool) : ∀ (d f : Nat), f < A.nodes.length → f ≤ d → ev A b d f = ev A b f f := by
  intro d
  induction d using Nat.strongRecOn with
  | _ d ih =>
    intro f hf hd
    by_cases h1 : f ≤ 1
    · match d, f with
      | 0, f => obtain rfl : f = 0 := by omega
                rfl
      | d + 1, 0 => simp [ev]
      | d + 1, 1 => simp [ev]
      | d + 1, f + 2 => omega
    · obtain ⟨a, h2, h3, _⟩ := hA.at_ hf (by omega)
      match d, f with
      | 0, f => omega
      | d + 1, 0 => omega
      | d + 1, f + 1 =>
        unfold ev
        rw [if_neg h1, if_neg h1]
        have hc : (if b (A.nd (f + 1)).level then (A.nd (f + 1)).high else (A.nd (f + 1)).low) < f + 1 := by split <;> omega
        generalize (if b (A.nd (f + 1)).level then (A.nd (f + 1)).high else (A.nd (f + 1)).low) = c at hc
        rw [ih d (by omega) c (by omega) (by omega)]
        by_cases hfd : f = d
        · subst hfd
          rw [ih f (by omega) c (by omega) (by omega)]
        · rw [ih f (by omega) c (by omega) (by omega)]

theorem inA_zero (A : Arn) (b : Nat → Bool) : inA A b 0 = false := rfl
theorem inA_one (A : Arn) (b : Nat → Bool) : inA A b 1 = true := rfl
theorem inA_node {A : Arn} (hA : A.OK) (b : Nat → Bool) {f : Nat} (hf : f < A.nodes.length) (h2 : 2 ≤ f) : inA A b f = inA A b (if b (A.lv f) then (A.nd f).high else (A.nd f).low) := by
  obtain ⟨a, h2', h3, _⟩ := hA.at_ hf h2
  obtain ⟨g, rfl⟩ : ∃ g, f = g + 1 := ⟨f - 1, by omega⟩
  unfold inA
  rw [show ev A b (g + 1) (g + 1) = ev A b g (if b (A.lv (g + 1)) then (A.nd (g + 1)).high else (A.nd (g + 1)).low) from by
    conv => lhs; unfold ev
    rw [if_neg (by omega)]
    rfl]
  refine ev_enough hA b _ _ ?_ ?_ <;> split <;> omega

theorem inA_ext {A B : Arn} (hA : A.OK) (hB : B.OK) (e : Ext A B) (b : Nat → Bool) : ∀ f, f < A.nodes.length → inA B b f = inA A b f := by
  intro f
  induction f using Nat.strongRecOn with
  | _ f ih =>
    intro hf
    rcases Nat.lt_or_ge f 2 with h | h
    · obtain rfl | rfl : f = 0 ∨ f = 1 := by omega
      · rfl
      · rfl
    · have := e.len
      obtain ⟨a, h2', h3, _⟩ := hA.at_ hf h
      rw [inA_node hA b hf h, inA_node hB b (by omega) h, e.lv hf, e.nd hf]
      refine ih _ ?_ ?_ <;> split <;> omega

theorem inA_indep {A : Arn} (hA : A.OK) {b b' : Nat → Bool} : ∀ f, f < A.nodes.length → (∀ v, A.lv f ≤ v → b v = b' v) → inA A b f = inA A b' f := by
  intro f
  induction f using Nat.strongRecOn with
  | _ f ih =>
    intro hf hb
    rcases Nat.lt_or_ge f 2 with h | h
    · obtain rfl | rfl : f = 0 ∨ f = 1 := by omega
      · rfl
      · rfl
    · obtain ⟨a, h2, h3, _, h4, h5⟩ := hA.at_ hf h
      rw [inA_node hA b hf h, inA_node hA b' hf h, hb _ (Nat.le_refl _)]
      split
      · exact ih _ h3 (by omega) (fun v hv => hb v (by omega))
      · exact ih _ h2 (by omega) (fun v hv => hb v (by omega))

def updB (b : Nat → Bool) (i : Nat) (on : Bool) : Nat → Bool := fun v => if v = i then on else b v
theorem updB_same (b : Nat → Bool) (i : Nat) (on : Bool) : updB b i on i = on := by simp [updB]
theorem updB_other (b : Nat → Bool) {i v : Nat} (on : Bool) (h : v ≠ i) : updB b i on v = b v := by simp [updB, h]
theorem inA_upd {A : Arn} (hA : A.OK) (b : Nat → Bool) {f i : Nat} (on : Bool) (hf : f < A.nodes.length) (hi : i < A.lv f) : inA A (updB b i on) f = inA A b f :=
  inA_indep hA f hf (fun v hv => updB_other b on (by omega))
theorem inA_part {A : Arn} (hA : A.OK) (b : Nat → Bool) {f : Nat} (on : Bool) (hf : f < A.nodes.length) (h2 : 2 ≤ f) : inA A (updB b (A.lv f) on) f = inA A b (if on then (A.nd f).high else (A.nd f).low) := by
  obtain ⟨a, h3, h4, _, h5, h6⟩ := hA.at_ hf h2
  rw [inA_node hA _ hf h2, updB_same]
  refine inA_upd hA b on ?_ ?_ <;> split <;> omega

/-- TWO SETS THAT HAVE THE SAME ARE ONE. -/
theorem canon {A : Arn} (hA : A.OK) : ∀ (n f g : Nat), f + g ≤ n → f < A.nodes.length → g < A.nodes.length → (∀ b, inA A b f = inA A b g) → f = g := by
  intro n
  induction n with
  | zero => intro f g h _ _ _; omega
  | succ n ih =>
    intro f g hn hf hg h
    -- a node whose parts have the same is none
    have key : ∀ f g, f + g ≤ n + 1 → f < A.nodes.length → g < A.nodes.length → (∀ b, inA A b f = inA A b g) → A.lv f < A.lv g → False := by
      intro f g hn hf hg h hl
      have := hA.lv_le g
      have h2 := two_of_lv hA (f := f) (by omega)
      obtain ⟨a, h3, h4, h5, h6, h7⟩ := hA.at_ hf h2
      have p : ∀ (on : Bool) (b : Nat → Bool), inA A b (if on then (A.nd f).high else (A.nd f).low) = inA A b g := fun on b => by
        rw [← inA_part hA b on hf h2, h, inA_upd hA b on hg hl]
      have e1 : (A.nd f).low = g := ih _ _ (by omega) (by omega) hg (p false)
      have e2 : (A.nd f).high = g := ih _ _ (by omega) (by omega) hg (p true)
      exact h5 (e1.trans e2.symm)
    rcases Nat.lt_trichotomy (A.lv f) (A.lv g) with hl | hl | hl
    · exact (key f g hn hf hg h hl).elim
    · rcases Nat.lt_or_ge (A.lv f) 104 with h1 | h1
      · have f2 := two_of_lv hA h1
        have g2 := two_of_lv hA (f := g) (by omega)
        obtain ⟨a, h3, h4, h5, h6, h7⟩ := hA.at_ hf f2
        obtain ⟨a', h3', h4', h5', h6', h7'⟩ := hA.at_ hg g2
        have p : ∀ (on : Bool) (b : Nat → Bool), inA A b (if on then (A.nd f).high else (A.nd f).low) = inA A b (if on then (A.nd g).high else (A.nd g).low) := fun on b => by
          rw [← inA_part hA b on hf f2, ← inA_part hA b on hg g2, h, hl]
        have e1 : (A.nd f).low = (A.nd g).low := ih _ _ (by omega) (by omega) (by omega) (p false)
        have e2 : (A.nd f).high = (A.nd g).high := ih _ _ (by omega) (by omega) (by omega) (p true)
        have e3 : A.nd f = A.nd g := by
          have hl' : (A.nd f).level = (A.nd g).level := hl
          cases hx : A.nd f
          cases hy : A.nd g
          simp [hx, hy] at e1 e2 hl'
          simp [e1, e2, hl']
        have q1 := findF_of hA.nodup f2 (nd_get hf)
        have q2 := findF_of hA.nodup g2 (nd_get hg)
        rw [e3, q2] at q1
        cases q1
        rfl
      · have f2 : f < 2 := by
          rcases Nat.lt_or_ge f 2 with h' | h'
          · exact h'
          · have := (hA.at_ hf h').1; omega
        have g2 : g < 2 := by
          rcases Nat.lt_or_ge g 2 with h' | h'
          · exact h'
          · have := (hA.at_ hg h').1; omega
        have h0 := h (fun _ => false)
        obtain rfl | rfl : f = 0 ∨ f = 1 := by omega
        · obtain rfl | rfl : g = 0 ∨ g = 1 := by omega
          · rfl
          · cases h0
        · obtain rfl | rfl : g = 0 ∨ g = 1 := by omega
          · cases h0
          · rfl
    · exact (key g f (by omega) hg hf (fun b => (h b).symm) hl).elim

theorem canon' {A : Arn} (hA : A.OK) {f g : Nat} (hf : f < A.nodes.length) (hg : g < A.nodes.length) (h : ∀ b, inA A b f = inA A b g) : f = g := canon hA _ f g (Nat.le_refl _) hf hg h

/-- What two sets joined have. -/
def opF (k : Nat) (x y : Bool) : Bool := if k = 0 then x && y else if k = 1 then x || y else if k = 2 then x != y else x && !y

theorem short_sem {A : Arn} {k f g x : Nat} (h : shortF k f g = some x) (b : Nat → Bool) : inA A b x = opF k (inA A b f) (inA A b g) := by
  have h0 := inA_zero A b
  have h1 := inA_one A b
  unfold shortF at h
  unfold opF
  repeat' split at h
  all_goals cases h
  all_goals simp_all
  all_goals rename_i hh
  all_goals first | (rcases hh with hh | hh | hh <;> subst hh <;> simp_all; done) | (rcases hh with hh | hh <;> subst hh <;> simp_all; done)


theorem part_sem {A : Arn} (hA : A.OK) (b : Nat → Bool) {f lv : Nat} (hf : f < A.nodes.length) (hlv : lv < 104) :
    inA A b f = inA A b (if b lv then (partsF A f lv).2 else (partsF A f lv).1) := by
  unfold partsF
  by_cases e : (A.nd f).level = lv
  · rw [if_pos e]
    have hl : A.lv f = lv := e
    have := inA_node hA b hf (two_of_lv hA (by omega))
    rw [hl] at this
    exact this
  · rw [if_neg e]
    split <;> rfl

theorem mk_sem {A : Arn} (hA : A.OK) {L lo hi x : Nat} (hL : L < 104) (h0 : lo < A.nodes.length) (h1 : hi < A.nodes.length) (hlo : L < A.lv lo) (hhi : L < A.lv hi)
    (h : (mkF A L lo hi).1 = some x) (b : Nat → Bool) : inA (mkF A L lo hi).2 b x = if b L then inA A b hi else inA A b lo := by
  have hO := mkF_ok hA hL h0 h1 hlo hhi
  have hE := mkF_ext A L lo hi
  have hS := mkF_some h h0 hlo
  by_cases e : lo = hi
  · have hk : mkF A L lo hi = (some lo, A) := by simp [mkF, e]
    rw [hk] at h ⊢
    cases h
    subst e
    simp
  · have key : ∀ B : Arn, B.OK → Ext A B → x < B.nodes.length → 2 ≤ x → B.nd x = ⟨L, lo, hi⟩ → inA B b x = if b L then inA A b hi else inA A b lo := by
      intro B hB hE hx h2 hn
      rw [inA_node hB b hx h2]
      have : B.lv x = L := by unfold Arn.lv; rw [hn]
      rw [this, hn]
      split
      · exact inA_ext hA hB hE b hi h1
      · exact inA_ext hA hB hE b lo h0
    refine key _ hO hE hS.1 ?_ ?_
    · cases hf : findF A.nodes ⟨L, lo, hi⟩ with
      | some i =>
        have hk : mkF A L lo hi = (some i, A) := by simp [mkF, e, hf]
        rw [hk] at h
        cases h
        exact (findF_some hf).1
      | none =>
        by_cases hm : A.most ≤ A.nodes.length
        · have hk : mkF A L lo hi = (none, A) := by simp [mkF, e, hf, hm]
          rw [hk] at h
          cases h
        · have hk : mkF A L lo hi = (some A.nodes.length, { A with nodes := A.nodes ++ [⟨L, lo, hi⟩] }) := by simp [mkF, e, hf, hm]
          rw [hk] at h
          cases h
          exact hA.two
    · cases hf : findF A.nodes ⟨L, lo, hi⟩ with
      | some i =>
        have hk : mkF A L lo hi = (some i, A) := by simp [mkF, e, hf]
        rw [hk] at h ⊢
        cases h
        unfold Arn.nd
        rw [List.getD_eq_getElem?_getD, (findF_some hf).2]
        rfl
      | none =>
        by_cases hm : A.most ≤ A.nodes.length
        · have hk : mkF A L lo hi = (none, A) := by simp [mkF, e, hf, hm]
          rw [hk] at h
          cases h
        · have hk : mkF A L lo hi = (some A.nodes.length, { A with nodes := A.nodes ++ [⟨L, lo, hi⟩] }) := by simp [mkF, e, hf, hm]
          rw [hk] at h ⊢
          cases h
          unfold Arn.nd
          simp [List.getD_eq_getElem?_getD]

/-- A node that is there is found again. -/
theorem mk_again {A : Arn} (hA : A.OK) {L lo hi x : Nat} (hL : L < 104) (h0 : lo < A.nodes.length) (h1 : hi < A.nodes.length) (hlo : L < A.lv lo) (hhi : L < A.lv hi)
    (hx : x < A.nodes.length) (h : ∀ b, inA A b x = if b L then inA A b hi else inA A b lo) : mkF A L lo hi = (some x, A) := by
  by_cases e : lo = hi
  · have hk : mkF A L lo hi = (some lo, A) := by simp [mkF, e]
    rw [hk, canon' hA hx h0 (fun b => by rw [h, e]; split <;> rfl)]
  · have hp : ∀ (on : Bool) (b : Nat → Bool), inA A (updB b L on) x = inA A b (if on then hi else lo) := by
      intro on b
      rw [h, updB_same, inA_upd hA b on h1 hhi, inA_upd hA b on h0 hlo]
      cases on <;> rfl
    have hl : A.lv x = L := by
      rcases Nat.lt_trichotomy (A.lv x) L with hl | hl | hl
      · exfalso
        have h2 := two_of_lv hA (f := x) (by omega)
        obtain ⟨a, c1, c2, c3, c4, c5⟩ := hA.at_ hx h2
        refine c3 (canon' hA (by omega) (by omega) fun b => ?_)
        have p0 := inA_part hA b false hx h2
        have p1 := inA_part hA b true hx h2
        simp only [Bool.false_eq_true, if_false, if_true] at p0 p1
        rw [← p0, ← p1, h, h, updB_other b _ (by omega), updB_other b _ (by omega), inA_upd hA b _ h1 (by omega), inA_upd hA b _ h0 (by omega), inA_upd hA b _ h1 (by omega), inA_upd hA b _ h0 (by omega)]
      · exact hl
      · exfalso
        refine e (canon' hA h0 h1 fun b => ?_)
        have p0 := hp false b
        have p1 := hp true b
        simp only [Bool.false_eq_true, if_false, if_true] at p0 p1
        rw [← p0, ← p1, inA_upd hA b _ hx hl, inA_upd hA b _ hx hl]
    have h2 := two_of_lv hA (f := x) (by omega)
    obtain ⟨a, c1, c2, c3, c4, c5⟩ := hA.at_ hx h2
    have q : ∀ (on : Bool) (b : Nat → Bool), inA A b (if on then (A.nd x).high else (A.nd x).low) = inA A b (if on then hi else lo) := fun on b => by
      rw [← inA_part hA b on hx h2, hl, hp]
    have e1 : (A.nd x).low = lo := canon' hA (by omega) h0 (q false)
    have e2 : (A.nd x).high = hi := canon' hA (by omega) h1 (q true)
    have e3 : A.nd x = ⟨L, lo, hi⟩ := by
      have hl' : (A.nd x).level = L := hl
      cases hn : A.nd x
      simp [hn] at e1 e2 hl'
      simp [e1, e2, hl']
    have hf := findF_of hA.nodup h2 (nd_get hx)
    rw [e3] at hf
    simp [mkF, e, hf]

/-- What is seen has what it should. -/
def SM (A : Arn) (k : Nat) (S : Seen) : Prop := ∀ f g x, S (f, g) = some x → ∀ b, inA A b x = opF k (inA A b f) (inA A b g)
theorem SM.ext {A B : Arn} {k : Nat} {S : Seen} (h : SM A k S) (hv : SV A S) (hA : A.OK) (hB : B.OK) (e : Ext A B) : SM B k S := fun f g x hx b => by
  obtain ⟨p, q, r, _⟩ := hv f g x hx
  rw [inA_ext hA hB e b f p, inA_ext hA hB e b g q, inA_ext hA hB e b x r]
  exact h f g x hx b
theorem SM.none (A : Arn) (k : Nat) : SM A k (fun _ => none) := fun _ _ _ h => by cases h

theorem join_sem (d : Nat) : ∀ (k : Nat) (A : Arn) (S : Seen) (f g : Nat), k ≤ 3 → A.OK → SV A S → SM A k S → f < A.nodes.length → g < A.nodes.length →
    SM (joinF d k A S f g).2.1 k (joinF d k A S f g).2.2 ∧ ∀ x, (joinF d k A S f g).1 = some x → ∀ b, inA (joinF d k A S f g).2.1 b x = opF k (inA A b f) (inA A b g) := by
  induction d with
  | zero =>
    intro k A S f g _ hA hS hM _ _
    exact ⟨hM, fun x h => by cases h⟩
  | succ d ih =>
    intro k A S f g h3 hA hS hM hf hg
    unfold joinF
    cases hs : shortF k f g with
    | some x => exact ⟨hM, fun y h b => by cases h; exact short_sem hs b⟩
    | none =>
      cases hx : S (f, g) with
      | some x => exact ⟨hM, fun y h b => by cases h; exact hM f g x hx b⟩
      | none =>
        have hlv := min_lv hA hf hg (short_none h3 hs)
        obtain ⟨f0, f1, lf0, lf1⟩ := parts_ok hA (lv := min (A.lv f) (A.lv g)) hf hlv (Nat.min_le_left _ _)
        obtain ⟨g0, g1, lg0, lg1⟩ := parts_ok hA (lv := min (A.lv f) (A.lv g)) hg hlv (Nat.min_le_right _ _)
        have sf := fun b => part_sem hA b (lv := min (A.lv f) (A.lv g)) hf hlv
        have sg := fun b => part_sem hA b (lv := min (A.lv f) (A.lv g)) hg hlv
        generalize hL : min (A.lv f) (A.lv g) = L at *
        generalize hF : partsF A f L = F at *
        generalize hG : partsF A g L = G at *
        simp only
        have i1 := joinF_ok d k A S F.1 G.1 h3 hA hS f0 g0
        have j1 := ih k A S F.1 G.1 h3 hA hS hM f0 g0
        rcases h1 : joinF d k A S F.1 G.1 with ⟨r, A1, S1⟩
        rw [h1] at i1 j1
        obtain ⟨o1, e1, s1, v1⟩ := i1
        obtain ⟨m1, w1⟩ := j1
        cases r with
        | none => exact ⟨m1, fun x h => by cases h⟩
        | some lo =>
          simp only at o1 e1 s1 v1 m1 w1 ⊢
          obtain ⟨hlo, vlo⟩ := v1 lo rfl
          have wlo := w1 lo rfl
          have hl1 := e1.len
          have i2 := joinF_ok d k A1 S1 F.2 G.2 h3 o1 s1 (by omega) (by omega)
          have j2 := ih k A1 S1 F.2 G.2 h3 o1 s1 m1 (by omega) (by omega)
          rcases h2 : joinF d k A1 S1 F.2 G.2 with ⟨r, A2, S2⟩
          rw [h2] at i2 j2
          obtain ⟨o2, e2, s2, v2⟩ := i2
          obtain ⟨m2, w2⟩ := j2
          cases r with
          | none => exact ⟨m2, fun x h => by cases h⟩
          | some hi =>
            simp only at o2 e2 s2 v2 m2 w2 ⊢
            obtain ⟨hhi, vhi⟩ := v2 hi rfl
            have whi := w2 hi rfl
            rw [e1.lv f1, e1.lv g1] at vhi
            have hlo2 : L < A2.lv lo := by rw [e2.lv hlo]; omega
            have hhi2 : L < A2.lv hi := by omega
            have hl2 := e2.len
            have n1 := mkF_ok o2 hlv (show lo < A2.nodes.length by omega) hhi hlo2 hhi2
            have n2 := mkF_ext A2 L lo hi
            have n3 := fun x h => mk_sem o2 hlv (show lo < A2.nodes.length by omega) hhi hlo2 hhi2 (x := x) h
            rcases h4 : mkF A2 L lo hi with ⟨r, A3⟩
            rw [h4] at n1 n2 n3
            cases r with
            | none => exact ⟨m2.ext s2 o2 n1 n2, fun x h => by cases h⟩
            | some x =>
              simp only at n1 n2 n3 ⊢
              have res : ∀ b, inA A3 b x = opF k (inA A b f) (inA A b g) := fun b => by
                rw [n3 x rfl b, whi, inA_ext o1 o2 e2 b lo hlo, wlo, inA_ext hA o1 e1 b _ f1, inA_ext hA o1 e1 b _ g1, sf b, sg b]
                split <;> rfl
              have hall := (e1.trans e2).trans n2
              refine ⟨?_, fun y h => by cases h; exact res⟩
              intro f' g' x' h' b
              unfold seeJ at h'
              split at h'
              · rename_i e
                cases e
                cases h'
                rw [inA_ext hA n1 hall b f hf, inA_ext hA n1 hall b g hg]
                exact res b
              · exact (m2.ext s2 o2 n1 n2) f' g' x' h' b

theorem joinA_sem {A : Arn} (hA : A.OK) {k f g x : Nat} (h3 : k ≤ 3) (hf : f < A.nodes.length) (hg : g < A.nodes.length) (h : (joinA A k f g).1 = some x) (b : Nat → Bool) :
    inA (joinA A k f g).2 b x = opF k (inA A b f) (inA A b g) := by
  have j := (join_sem 106 k A (fun _ => none) f g h3 hA (SV.none A) (SM.none A k) hf hg).2
  unfold joinA at h ⊢
  rcases e : joinF 106 k A (fun _ => none) f g with ⟨r, A', S'⟩
  rw [e] at j h
  cases r with
  | none => cases h
  | some y => cases h; exact j x rfl b


theorem op_swap (k : Nat) (c : Bool) (x y x' y' : Bool) : opF k (if c then x else y) (if c then x' else y') = if c then opF k x x' else opF k y y' := by cases c <;> rfl

/-- Is the joined set there, it is found, and nothing is made. -/
theorem join_again {A : Arn} (hA : A.OK) {k : Nat} (h3 : k ≤ 3) (d : Nat) : ∀ (S : Seen) (f g x : Nat), SV A S → SM A k S → f < A.nodes.length → g < A.nodes.length → x < A.nodes.length →
    105 ≤ d + min (A.lv f) (A.lv g) → (∀ b, inA A b x = opF k (inA A b f) (inA A b g)) →
    ∃ S', joinF d k A S f g = (some x, A, S') := by
  induction d with
  | zero =>
    intro S f g x _ _ _ _ _ hd _
    have := hA.lv_le f
    omega
  | succ d ih =>
    intro S f g x hS hM hf hg hx hd h
    unfold joinF
    cases hs : shortF k f g with
    | some y =>
      refine ⟨S, ?_⟩
      rw [canon' hA hx (short_lt hs hf hg hA.two) (fun b => by rw [h, short_sem hs b])]
    | none =>
      cases hy : S (f, g) with
      | some y =>
        refine ⟨S, ?_⟩
        rw [canon' hA hx (hS f g y hy).2.2.1 (fun b => by rw [h, hM f g y hy b])]
      | none =>
        have hlv := min_lv hA hf hg (short_none h3 hs)
        obtain ⟨f0, f1, lf0, lf1⟩ := parts_ok hA (lv := min (A.lv f) (A.lv g)) hf hlv (Nat.min_le_left _ _)
        obtain ⟨g0, g1, lg0, lg1⟩ := parts_ok hA (lv := min (A.lv f) (A.lv g)) hg hlv (Nat.min_le_right _ _)
        have sf := fun b => part_sem hA b (lv := min (A.lv f) (A.lv g)) hf hlv
        have sg := fun b => part_sem hA b (lv := min (A.lv f) (A.lv g)) hg hlv
        generalize hL : min (A.lv f) (A.lv g) = L at *
        generalize hF : partsF A f L = F at *
        generalize hG : partsF A g L = G at *
        -- x's bit isn't ahead of L
        have hup : ∀ (on : Bool) (b : Nat → Bool), inA A (updB b L on) x = opF k (inA A b (if on then F.2 else F.1)) (inA A b (if on then G.2 else G.1)) := fun on b => by
          rw [h, sf, sg, updB_same]
          cases on
          · simp only [Bool.false_eq_true, if_false]
            rw [inA_upd hA b _ f0 lf0, inA_upd hA b _ g0 lg0]
          · simp only [if_true]
            rw [inA_upd hA b _ f1 lf1, inA_upd hA b _ g1 lg1]
        have hge : L ≤ A.lv x := by
          rcases Nat.lt_or_ge (A.lv x) L with hl | hl
          · exfalso
            have h2 := two_of_lv hA (f := x) (by omega)
            obtain ⟨a, c1, c2, c3, c4, c5⟩ := hA.at_ hx h2
            refine c3 (canon' hA (by omega) (by omega) fun b => ?_)
            have p0 := inA_part hA b false hx h2
            have p1 := inA_part hA b true hx h2
            simp only [Bool.false_eq_true, if_false, if_true] at p0 p1
            have q : ∀ on : Bool, opF k (inA A (updB b (A.lv x) on) f) (inA A (updB b (A.lv x) on) g) = opF k (inA A b f) (inA A b g) := fun on => by
              rw [inA_upd hA b _ hf (by omega), inA_upd hA b _ hg (by omega)]
            rw [← p0, ← p1, h, h, q, q]
          · exact hl
        obtain ⟨x0, x1, lx0, lx1⟩ := parts_ok hA (lv := L) hx hlv hge
        have hxp : ∀ (on : Bool) (b : Nat → Bool), inA A b (if on then (partsF A x L).2 else (partsF A x L).1) = opF k (inA A b (if on then F.2 else F.1)) (inA A b (if on then G.2 else G.1)) := fun on b => by
          rw [← hup, part_sem hA (updB b L on) hx hlv, updB_same]
          cases on
          · exact (inA_upd hA b _ x0 lx0).symm
          · exact (inA_upd hA b _ x1 lx1).symm
        obtain ⟨S1, r1⟩ := ih S F.1 G.1 (partsF A x L).1 hS hM f0 g0 x0 (by omega) (hxp false)
        rw [r1]
        simp only
        have j1 := joinF_ok d k A S F.1 G.1 h3 hA hS f0 g0
        have m1 := (join_sem d k A S F.1 G.1 h3 hA hS hM f0 g0).1
        rw [r1] at j1 m1
        obtain ⟨S2, r2⟩ := ih S1 F.2 G.2 (partsF A x L).2 j1.2.2.1 m1 f1 g1 x1 (by omega) (hxp true)
        rw [r2]
        simp only
        rw [mk_again hA hlv x0 x1 lx0 lx1 hx (fun b => by rw [part_sem hA b hx hlv]; split <;> rfl)]
        exact ⟨_, rfl⟩

theorem joinA_again {A : Arn} (hA : A.OK) {k f g x : Nat} (h3 : k ≤ 3) (hf : f < A.nodes.length) (hg : g < A.nodes.length) (hx : x < A.nodes.length)
    (h : ∀ b, inA A b x = opF k (inA A b f) (inA A b g)) : joinA A k f g = (some x, A) := by
  obtain ⟨S', e⟩ := join_again hA h3 106 (fun _ => none) f g x (SV.none A) (SM.none A k) hf hg hx (by omega) h
  unfold joinA
  rw [e]

/-- All bits of an arena are of some few. -/
def InD (D : List Nat) (A : Arn) : Prop := ∀ f, 2 ≤ f → f < A.nodes.length → A.lv f ∈ D
def cntD (D : List Nat) (v : Nat) : Nat := (D.filter (fun x => decide (v ≤ x))).length
theorem cnt_le (D : List Nat) (v : Nat) : cntD D v ≤ D.length := List.length_filter_le _ _
theorem cnt_mono (D : List Nat) {v u : Nat} (h : v ≤ u) : cntD D u ≤ cntD D v := by
  unfold cntD
  induction D with
  | nil => simp
  | cons a D ih =>
    simp only [List.filter_cons]
    by_cases h1 : u ≤ a
    · rw [if_pos (by simpa using h1), if_pos (by simp; omega)]; simp; exact ih
    · rw [if_neg (by simpa using h1)]
      split
      · simp; omega
      · exact ih
theorem cnt_mem {D : List Nat} {v : Nat} (h : v ∈ D) : cntD D (v + 1) + 1 ≤ cntD D v := by
  unfold cntD
  induction D with
  | nil => cases h
  | cons a D ih =>
    simp only [List.filter_cons]
    rcases List.mem_cons.1 h with h | h
    · subst h
      rw [if_neg (by simp), if_pos (by simp)]
      have := cnt_mono D (v := v) (u := v + 1) (by omega)
      unfold cntD at this
      simp
      omega
    · have := ih h
      split <;> split <;> simp_all <;> omega

theorem mk_inD {D : List Nat} {A : Arn} (hD : InD D A) {L : Nat} (lo hi : Nat) (hL : L ∈ D) : InD D (mkF A L lo hi).2 := by
  unfold mkF
  split
  · exact hD
  · split
    · exact hD
    · split
      · exact hD
      · intro f h2 hf
        simp only [List.length_append, List.length_singleton] at hf
        unfold Arn.lv Arn.nd
        simp only
        rcases Nat.lt_or_ge f A.nodes.length with h | h
        · have := hD f h2 h
          unfold Arn.lv Arn.nd at this
          rw [List.getD_eq_getElem?_getD, List.getElem?_append_left h, ← List.getD_eq_getElem?_getD]
          exact this
        · obtain rfl : f = A.nodes.length := by omega
          simp [List.getD_eq_getElem?_getD, hL]

theorem mk_len (A : Arn) (L lo hi : Nat) : (mkF A L lo hi).2.nodes.length ≤ A.nodes.length + 1 := by
  unfold mkF
  split
  · simp
  · split
    · simp
    · split <;> simp

theorem mkF_full {A : Arn} {L lo hi : Nat} (h : (mkF A L lo hi).1 = none) : A.most ≤ A.nodes.length ∧ (mkF A L lo hi).2 = A := by
  unfold mkF at h ⊢
  split at h
  · cases h
  · rename_i e
    rw [if_neg e]
    split at h
    · cases h
    · split at h
      · rename_i hf hm
        rw [if_pos hm]
        exact ⟨hm, rfl⟩
      · cases h

theorem two_pow {a b : Nat} (h : a + 1 ≤ b) : 2 ^ a + 2 ^ a ≤ 2 ^ b := by
  have := Nat.pow_le_pow_right (n := 2) (by omega) h
  rw [Nat.pow_succ] at this
  omega

theorem join_count {D : List Nat} (d : Nat) : ∀ (k : Nat) (A : Arn) (S : Seen) (f g : Nat), k ≤ 3 → A.OK → InD D A → SV A S → f < A.nodes.length → g < A.nodes.length →
    InD D (joinF d k A S f g).2.1 ∧ (joinF d k A S f g).2.1.nodes.length + 1 ≤ A.nodes.length + 2 ^ cntD D (min (A.lv f) (A.lv g)) ∧
    (105 ≤ d + min (A.lv f) (A.lv g) → (joinF d k A S f g).1 = none → A.most ≤ (joinF d k A S f g).2.1.nodes.length) := by
  induction d with
  | zero =>
    intro k A S f g _ hA hD _ _ _
    refine ⟨hD, by simp only [joinF]; have := Nat.one_le_two_pow (n := cntD D (min (A.lv f) (A.lv g))); omega, fun h => ?_⟩
    have := hA.lv_le f
    omega
  | succ d ih =>
    intro k A S f g h3 hA hD hS hf hg
    have hp := Nat.one_le_two_pow (n := cntD D (min (A.lv f) (A.lv g)))
    unfold joinF
    cases hs : shortF k f g with
    | some x => exact ⟨hD, by simp only; omega, fun _ h => by cases h⟩
    | none =>
      cases hx : S (f, g) with
      | some x => exact ⟨hD, by simp only; omega, fun _ h => by cases h⟩
      | none =>
        have hlv := min_lv hA hf hg (short_none h3 hs)
        have hLD : min (A.lv f) (A.lv g) ∈ D := by
          rcases Nat.le_total (A.lv f) (A.lv g) with hle | hle
          · rw [Nat.min_eq_left hle] at hlv ⊢; exact hD f (two_of_lv hA hlv) hf
          · rw [Nat.min_eq_right hle] at hlv ⊢; exact hD g (two_of_lv hA hlv) hg
        obtain ⟨f0, f1, lf0, lf1⟩ := parts_ok hA (lv := min (A.lv f) (A.lv g)) hf hlv (Nat.min_le_left _ _)
        obtain ⟨g0, g1, lg0, lg1⟩ := parts_ok hA (lv := min (A.lv f) (A.lv g)) hg hlv (Nat.min_le_right _ _)
        generalize hL : min (A.lv f) (A.lv g) = L at *
        generalize hF : partsF A f L = F at *
        generalize hG : partsF A g L = G at *
        have hcm := cnt_mem hLD
        have hP := two_pow hcm
        have hP1 : 2 ^ cntD D (min (A.lv F.1) (A.lv G.1)) ≤ 2 ^ cntD D (L + 1) := Nat.pow_le_pow_right (by omega) (cnt_mono D (by omega))
        have hP2 : 2 ^ cntD D (min (A.lv F.2) (A.lv G.2)) ≤ 2 ^ cntD D (L + 1) := Nat.pow_le_pow_right (by omega) (cnt_mono D (by omega))
        simp only
        have i1 := joinF_ok d k A S F.1 G.1 h3 hA hS f0 g0
        have j1 := ih k A S F.1 G.1 h3 hA hD hS f0 g0
        rcases h1 : joinF d k A S F.1 G.1 with ⟨r, A1, S1⟩
        rw [h1] at i1 j1
        obtain ⟨o1, e1, s1, v1⟩ := i1
        obtain ⟨d1, n1, w1⟩ := j1
        cases r with
        | none => exact ⟨d1, by simp only at n1 ⊢; omega, fun hd _ => w1 (by omega) rfl⟩
        | some lo =>
          simp only at o1 e1 s1 v1 d1 n1 w1 ⊢
          obtain ⟨hlo, vlo⟩ := v1 lo rfl
          have hl1 := e1.len
          have i2 := joinF_ok d k A1 S1 F.2 G.2 h3 o1 s1 (by omega) (by omega)
          have j2 := ih k A1 S1 F.2 G.2 h3 o1 d1 s1 (by omega) (by omega)
          rw [e1.lv f1, e1.lv g1] at j2
          rcases h2 : joinF d k A1 S1 F.2 G.2 with ⟨r, A2, S2⟩
          rw [h2] at i2 j2
          obtain ⟨o2, e2, s2, v2⟩ := i2
          obtain ⟨d2, n2, w2⟩ := j2
          cases r with
          | none => exact ⟨d2, by simp only at n2 ⊢; omega, fun hd _ => by rw [← e1.most]; exact w2 (by omega) rfl⟩
          | some hi =>
            simp only at o2 e2 s2 v2 d2 n2 w2 ⊢
            have q1 := mk_inD d2 lo hi hLD
            have q2 := mk_len A2 L lo hi
            have q3 := fun h => mkF_full (A := A2) (L := L) (lo := lo) (hi := hi) h
            rcases h4 : mkF A2 L lo hi with ⟨r, A3⟩
            rw [h4] at q1 q2 q3
            have hl2 := e2.len
            cases r with
            | none =>
              obtain ⟨z1, z2⟩ := q3 rfl
              simp only at z1 z2 q1 q2 ⊢
              subst z2
              exact ⟨q1, by omega, fun _ _ => by rw [← e1.most, ← e2.most]; exact z1⟩
            | some x => exact ⟨q1, by simp only at q2 ⊢; omega, fun _ h => by cases h⟩

/-- Where there is room for all parts a join is made, and takes no more. -/
theorem joinA_room {D : List Nat} {A : Arn} (hA : A.OK) (hD : InD D A) {k f g : Nat} (h3 : k ≤ 3) (hf : f < A.nodes.length) (hg : g < A.nodes.length) (hr : A.nodes.length + 2 ^ D.length ≤ A.most) :
    ∃ x, (joinA A k f g).1 = some x ∧ InD D (joinA A k f g).2 ∧ (joinA A k f g).2.nodes.length + 1 ≤ A.nodes.length + 2 ^ D.length := by
  obtain ⟨p, q, r⟩ := join_count (D := D) 106 k A (fun _ => none) f g h3 hA hD (SV.none A) hf hg
  have hpow : 2 ^ cntD D (min (A.lv f) (A.lv g)) ≤ 2 ^ D.length := Nat.pow_le_pow_right (by omega) (cnt_le D _)
  unfold joinA
  rcases e : joinF 106 k A (fun _ => none) f g with ⟨y, A', S'⟩
  rw [e] at p q r
  cases y with
  | none =>
    have := r (by omega) rfl
    simp only at this q
    omega
  | some y => exact ⟨y, rfl, p, by simp only at q ⊢; omega⟩


def SML (A : Arn) (i : Nat) (on : Bool) (S : SeenL) : Prop := ∀ f x, S f = some x → ∀ b, inA A b x = inA A (updB b i on) f
theorem SML.ext {A B : Arn} {i : Nat} {on : Bool} {S : SeenL} (h : SML A i on S) (hv : SVL A S) (hA : A.OK) (hB : B.OK) (e : Ext A B) : SML B i on S := fun f x hx b => by
  obtain ⟨p, q, _⟩ := hv f x hx
  rw [inA_ext hA hB e _ f p, inA_ext hA hB e b x q]
  exact h f x hx b
theorem SML.none (A : Arn) (i : Nat) (on : Bool) : SML A i on (fun _ => none) := fun _ _ h => by cases h

theorem limit_sem (d : Nat) : ∀ (A : Arn) (S : SeenL) (f i : Nat) (on : Bool), A.OK → SVL A S → SML A i on S → f < A.nodes.length → i < 104 →
    SML (limitF d A S f i on).2.1 i on (limitF d A S f i on).2.2 ∧ ∀ x, (limitF d A S f i on).1 = some x → ∀ b, inA (limitF d A S f i on).2.1 b x = inA A (updB b i on) f := by
  induction d with
  | zero =>
    intro A S f i on hA hS hM _ _
    exact ⟨hM, fun x h => by cases h⟩
  | succ d ih =>
    intro A S f i on hA hS hM hf hi
    unfold limitF
    have hlvdef : (A.nd f).level = A.lv f := rfl
    rw [hlvdef]
    by_cases h1 : i < A.lv f
    · rw [if_pos h1]
      exact ⟨hM, fun x h b => by cases h; exact (inA_upd hA b on hf h1).symm⟩
    · rw [if_neg h1]
      have h2 := two_of_lv hA (f := f) (by omega)
      obtain ⟨a, b, c, e, g1, g2⟩ := hA.at_ hf h2
      by_cases h3 : A.lv f = i
      · rw [if_pos h3]
        refine ⟨hM, fun x h b => ?_⟩
        cases h
        rw [← h3]
        exact (inA_part hA b on hf h2).symm
      · rw [if_neg h3]
        cases hx : S f with
        | some x => exact ⟨hM, fun y h b => by cases h; exact hM f x hx b⟩
        | none =>
          simp only
          have i1 := limitF_ok d A S (A.nd f).low i on hA hS (by omega) hi
          have j1 := ih A S (A.nd f).low i on hA hS hM (by omega) hi
          rcases e1 : limitF d A S (A.nd f).low i on with ⟨r, A1, S1⟩
          rw [e1] at i1 j1
          obtain ⟨o1, x1, s1, v1⟩ := i1
          obtain ⟨m1, w1⟩ := j1
          cases r with
          | none => exact ⟨m1, fun x h => by cases h⟩
          | some lo =>
            simp only at o1 x1 s1 v1 m1 w1 ⊢
            obtain ⟨hlo, vlo⟩ := v1 lo rfl
            have wlo := w1 lo rfl
            have hl1 := x1.len
            have i2 := limitF_ok d A1 S1 (A.nd f).high i on o1 s1 (by omega) hi
            have j2 := ih A1 S1 (A.nd f).high i on o1 s1 m1 (by omega) hi
            rcases e2 : limitF d A1 S1 (A.nd f).high i on with ⟨r, A2, S2⟩
            rw [e2] at i2 j2
            obtain ⟨o2, x2, s2, v2⟩ := i2
            obtain ⟨m2, w2⟩ := j2
            cases r with
            | none => exact ⟨m2, fun x h => by cases h⟩
            | some hi' =>
              simp only at o2 x2 s2 v2 m2 w2 ⊢
              obtain ⟨hhi, vhi⟩ := v2 hi' rfl
              have whi := w2 hi' rfl
              rw [x1.lv (show (A.nd f).high < A.nodes.length by omega)] at vhi
              have hlo2 : A.lv f < A2.lv lo := by rw [x2.lv hlo]; omega
              have hl2 := x2.len
              have n1 := mkF_ok o2 a (show lo < A2.nodes.length by omega) hhi hlo2 (by omega)
              have n2 := mkF_ext A2 (A.lv f) lo hi'
              have n3 := fun x h => mk_sem o2 a (show lo < A2.nodes.length by omega) hhi hlo2 (by omega) (x := x) h
              rcases e3 : mkF A2 (A.lv f) lo hi' with ⟨r, A3⟩
              rw [e3] at n1 n2 n3
              cases r with
              | none => exact ⟨m2.ext s2 o2 n1 n2, fun x h => by cases h⟩
              | some x =>
                simp only at n1 n2 n3 ⊢
                have res : ∀ b, inA A3 b x = inA A (updB b i on) f := fun b => by
                  rw [n3 x rfl b, whi, inA_ext o1 o2 x2 b lo hlo, wlo, inA_ext hA o1 x1 _ _ (by omega), inA_node hA (updB b i on) hf h2, updB_other b on h3]
                  split <;> rfl
                have hall := (x1.trans x2).trans n2
                refine ⟨?_, fun y h => by cases h; exact res⟩
                intro f' x' h' b2
                unfold seeL at h'
                split at h'
                · rename_i e
                  subst e
                  cases h'
                  rw [inA_ext hA n1 hall _ f' hf]
                  exact res b2
                · exact (m2.ext s2 o2 n1 n2) f' x' h' b2

theorem restrictA_sem {A : Arn} (hA : A.OK) {f i x : Nat} {on : Bool} (hf : f < A.nodes.length) (hi : i < 104) (h : (restrictA A f i on).1 = some x) (b : Nat → Bool) :
    inA (restrictA A f i on).2 b x = inA A (updB b i on) f := by
  have j := (limit_sem 106 A (fun _ => none) f i on hA (SVL.none A) (SML.none A i on) hf hi).2
  unfold restrictA at h ⊢
  rcases e : limitF 106 A (fun _ => none) f i on with ⟨r, A', S'⟩
  rw [e] at j h
  cases r with
  | none => cases h
  | some y => cases h; exact j x rfl b

theorem limit_again {A : Arn} (hA : A.OK) {i : Nat} {on : Bool} (hi : i < 104) (d : Nat) : ∀ (S : SeenL) (f x : Nat), SVL A S → SML A i on S → f < A.nodes.length → x < A.nodes.length →
    105 ≤ d + A.lv f → (∀ b, inA A b x = inA A (updB b i on) f) → ∃ S', limitF d A S f i on = (some x, A, S') := by
  induction d with
  | zero =>
    intro S f x _ _ _ _ hd _
    have := hA.lv_le f
    omega
  | succ d ih =>
    intro S f x hS hM hf hx hd h
    unfold limitF
    have hlvdef : (A.nd f).level = A.lv f := rfl
    rw [hlvdef]
    by_cases h1 : i < A.lv f
    · rw [if_pos h1, canon' hA hx hf (fun b => by rw [h, inA_upd hA b on hf h1])]
      exact ⟨_, rfl⟩
    · rw [if_neg h1]
      have h2 := two_of_lv hA (f := f) (by omega)
      obtain ⟨a, b, c, e, g1, g2⟩ := hA.at_ hf h2
      by_cases h3 : A.lv f = i
      · rw [if_pos h3, canon' hA hx (g := if on then (A.nd f).high else (A.nd f).low) (by split <;> omega) (fun b => by rw [h, ← h3, inA_part hA b on hf h2])]
        exact ⟨_, rfl⟩
      · rw [if_neg h3]
        cases hy : S f with
        | some y =>
          rw [canon' hA hx (hS f y hy).2.1 (fun b => by rw [h, hM f y hy b])]
          exact ⟨_, rfl⟩
        | none =>
          simp only
          have hf2 : ∀ b, inA A b f = inA A b (if b (A.lv f) then (A.nd f).high else (A.nd f).low) := fun b => inA_node hA b hf h2
          generalize hlo : (A.nd f).low = lo at *
          generalize hhi : (A.nd f).high = hi' at *
          generalize hL : A.lv f = L at *
          have hup : ∀ (o : Bool) (b : Nat → Bool), inA A (updB b L o) x = inA A (updB b i on) (if o then hi' else lo) := fun o b => by
            rw [h, hf2, updB_other _ _ h3, updB_same]
            have e2 : updB (updB b L o) i on = updB (updB b i on) L o := by
              funext v
              unfold updB
              by_cases p : v = i <;> by_cases q : v = L <;> simp_all
            rw [e2]
            cases o
            · exact inA_upd hA _ _ (by simp; omega) (by simpa using g1)
            · exact inA_upd hA _ _ (by simp; omega) (by simpa using g2)
          have hge : L ≤ A.lv x := by
            rcases Nat.lt_or_ge (A.lv x) L with hl | hl
            · exfalso
              have hx2 := two_of_lv hA (f := x) (by omega)
              obtain ⟨_, c1, c2, c3, c4, c5⟩ := hA.at_ hx hx2
              refine c3 (canon' hA (by omega) (by omega) fun b => ?_)
              have p0 := inA_part hA b false hx hx2
              have p1 := inA_part hA b true hx hx2
              simp only [Bool.false_eq_true, if_false, if_true] at p0 p1
              have q : ∀ o : Bool, inA A (updB (updB b (A.lv x) o) i on) f = inA A (updB b i on) f := fun o => by
                have e2 : updB (updB b (A.lv x) o) i on = updB (updB b i on) (A.lv x) o := by
                  funext v
                  unfold updB
                  by_cases p : v = i <;> by_cases q : v = A.lv x <;> simp_all
                  omega
                rw [e2]
                exact inA_upd hA _ _ hf (by omega)
              rw [← p0, ← p1, h, h, q, q]
            · exact hl
          obtain ⟨x0, x1, lx0, lx1⟩ := parts_ok hA (lv := L) hx a hge
          have hxp : ∀ (o : Bool) (b : Nat → Bool), inA A b (if o then (partsF A x L).2 else (partsF A x L).1) = inA A (updB b i on) (if o then hi' else lo) := fun o b => by
            rw [← hup, part_sem hA (updB b L o) hx a, updB_same]
            cases o
            · exact (inA_upd hA b _ x0 lx0).symm
            · exact (inA_upd hA b _ x1 lx1).symm
          obtain ⟨S1, r1⟩ := ih S lo (partsF A x L).1 hS hM (by omega) x0 (by omega) (hxp false)
          rw [r1]
          simp only
          have j1 := limitF_ok d A S lo i on hA hS (by omega) hi
          have m1 := (limit_sem d A S lo i on hA hS hM (by omega) hi).1
          rw [r1] at j1 m1
          obtain ⟨S2, r2⟩ := ih S1 hi' (partsF A x L).2 j1.2.2.1 m1 (by omega) x1 (by omega) (hxp true)
          rw [r2]
          simp only
          rw [mk_again hA a x0 x1 lx0 lx1 hx (fun b => by rw [part_sem hA b hx a]; split <;> rfl)]
          exact ⟨_, rfl⟩

theorem restrictA_again {A : Arn} (hA : A.OK) {f i x : Nat} {on : Bool} (hf : f < A.nodes.length) (hi : i < 104) (hx : x < A.nodes.length)
    (h : ∀ b, inA A b x = inA A (updB b i on) f) : restrictA A f i on = (some x, A) := by
  obtain ⟨S', e⟩ := limit_again hA hi 106 (fun _ => none) f x (SVL.none A) (SML.none A i on) hf hx (by omega) h
  unfold restrictA
  rw [e]

theorem limit_count {D : List Nat} (d : Nat) : ∀ (A : Arn) (S : SeenL) (f i : Nat) (on : Bool), A.OK → InD D A → SVL A S → f < A.nodes.length → i < 104 →
    InD D (limitF d A S f i on).2.1 ∧ (limitF d A S f i on).2.1.nodes.length + 1 ≤ A.nodes.length + 2 ^ cntD D (A.lv f) ∧
    (105 ≤ d + A.lv f → (limitF d A S f i on).1 = none → A.most ≤ (limitF d A S f i on).2.1.nodes.length) := by
  induction d with
  | zero =>
    intro A S f i on hA hD _ _ _
    refine ⟨hD, by simp only [limitF]; have := Nat.one_le_two_pow (n := cntD D (A.lv f)); omega, fun h => ?_⟩
    have := hA.lv_le f
    omega
  | succ d ih =>
    intro A S f i on hA hD hS hf hi
    have hp := Nat.one_le_two_pow (n := cntD D (A.lv f))
    unfold limitF
    have hlvdef : (A.nd f).level = A.lv f := rfl
    rw [hlvdef]
    by_cases h1 : i < A.lv f
    · rw [if_pos h1]
      exact ⟨hD, by simp only; omega, fun _ h => by cases h⟩
    · rw [if_neg h1]
      have h2 := two_of_lv hA (f := f) (by omega)
      obtain ⟨a, b, c, e, g1, g2⟩ := hA.at_ hf h2
      by_cases h3 : A.lv f = i
      · rw [if_pos h3]
        exact ⟨hD, by simp only; omega, fun _ h => by cases h⟩
      · rw [if_neg h3]
        cases hx : S f with
        | some x => exact ⟨hD, by simp only; omega, fun _ h => by cases h⟩
        | none =>
          simp only
          have hLD := hD f h2 hf
          have hcm := cnt_mem hLD
          have hP := two_pow hcm
          have hP1 : 2 ^ cntD D (A.lv (A.nd f).low) ≤ 2 ^ cntD D (A.lv f + 1) := Nat.pow_le_pow_right (by omega) (cnt_mono D (by omega))
          have hP2 : 2 ^ cntD D (A.lv (A.nd f).high) ≤ 2 ^ cntD D (A.lv f + 1) := Nat.pow_le_pow_right (by omega) (cnt_mono D (by omega))
          have i1 := limitF_ok d A S (A.nd f).low i on hA hS (by omega) hi
          have j1 := ih A S (A.nd f).low i on hA hD hS (by omega) hi
          rcases e1 : limitF d A S (A.nd f).low i on with ⟨r, A1, S1⟩
          rw [e1] at i1 j1
          obtain ⟨o1, x1, s1, v1⟩ := i1
          obtain ⟨d1, n1, w1⟩ := j1
          cases r with
          | none => exact ⟨d1, by simp only at n1 ⊢; omega, fun hd _ => w1 (by omega) rfl⟩
          | some lo =>
            simp only at o1 x1 s1 v1 d1 n1 w1 ⊢
            obtain ⟨hlo, vlo⟩ := v1 lo rfl
            have hl1 := x1.len
            have i2 := limitF_ok d A1 S1 (A.nd f).high i on o1 s1 (by omega) hi
            have j2 := ih A1 S1 (A.nd f).high i on o1 d1 s1 (by omega) hi
            rw [x1.lv (show (A.nd f).high < A.nodes.length by omega)] at j2
            rcases e2 : limitF d A1 S1 (A.nd f).high i on with ⟨r, A2, S2⟩
            rw [e2] at i2 j2
            obtain ⟨o2, x2, s2, v2⟩ := i2
            obtain ⟨d2, n2, w2⟩ := j2
            cases r with
            | none => exact ⟨d2, by simp only at n2 ⊢; omega, fun hd _ => by rw [← x1.most]; exact w2 (by omega) rfl⟩
            | some hi' =>
              simp only at o2 x2 s2 v2 d2 n2 w2 ⊢
              have q1 := mk_inD d2 lo hi' hLD
              have q2 := mk_len A2 (A.lv f) lo hi'
              have q3 := fun h => mkF_full (A := A2) (L := A.lv f) (lo := lo) (hi := hi') h
              have hl2 := x2.len
              rcases e3 : mkF A2 (A.lv f) lo hi' with ⟨r, A3⟩
              rw [e3] at q1 q2 q3
              cases r with
              | none =>
                obtain ⟨z1, z2⟩ := q3 rfl
                simp only at z1 z2 q1 q2 ⊢
                subst z2
                exact ⟨q1, by omega, fun _ _ => by rw [← x1.most, ← x2.most]; exact z1⟩
              | some x => exact ⟨q1, by simp only at q2 ⊢; omega, fun _ h => by cases h⟩

theorem restrictA_room {D : List Nat} {A : Arn} (hA : A.OK) (hD : InD D A) {f i : Nat} {on : Bool} (hf : f < A.nodes.length) (hi : i < 104) (hr : A.nodes.length + 2 ^ D.length ≤ A.most) :
    ∃ x, (restrictA A f i on).1 = some x ∧ InD D (restrictA A f i on).2 ∧ (restrictA A f i on).2.nodes.length + 1 ≤ A.nodes.length + 2 ^ D.length := by
  obtain ⟨p, q, r⟩ := limit_count (D := D) 106 A (fun _ => none) f i on hA hD (SVL.none A) hf hi
  have hpow : 2 ^ cntD D (A.lv f) ≤ 2 ^ D.length := Nat.pow_le_pow_right (by omega) (cnt_le D _)
  unfold restrictA
  rcases e : limitF 106 A (fun _ => none) f i on with ⟨y, A', S'⟩
  rw [e] at p q r
  cases y with
  | none =>
    have := r (by omega) rfl
    simp only at this q
    omega
  | some y => exact ⟨y, rfl, p, by simp only at q ⊢; omega⟩


abbrev Fn := (Nat → Bool) → Bool
/-- What an expression's set has, told of what those ahead have. -/
def fnE (fs : List Fn) (x : Ex) : Fn := fun b =>
  if x.kind = 0 then false
  else if x.kind = 1 then true
  else if x.kind = 2 then b x.var.toNat == x.on
  else if x.kind = 7 then !(fs.getD x.a.toNat (fun _ => false) b)
  else if x.kind = 8 then fs.getD x.a.toNat (fun _ => false) (updB b x.var.toNat x.on)
  else if x.kind = 9 then (if fs.getD x.a.toNat (fun _ => false) b then fs.getD x.b.toNat (fun _ => false) b else fs.getD x.c.toNat (fun _ => false) b)
  else opF (x.kind.toNat - 3) (fs.getD x.a.toNat (fun _ => false) b) (fs.getD x.b.toNat (fun _ => false) b)
def fnsGo : List Fn → List Ex → List Fn
  | fs, [] => fs
  | fs, x :: r => fnsGo (fs ++ [fnE fs x]) r

/-- Sets have what they should. -/
def SemL (A : Arn) (out : List Nat) (fs : List Fn) : Prop := out.length = fs.length ∧ ∀ i b, inA A b (out.getD i 0) = fs.getD i (fun _ => false) b

theorem SemL.ext {A B : Arn} {out : List Nat} {fs : List Fn} (h : SemL A out fs) (hA : A.OK) (hB : B.OK) (e : Ext A B) (ho : ∀ f ∈ out, f < A.nodes.length) : SemL B out fs :=
  ⟨h.1, fun i b => by rw [inA_ext hA hB e b _ (getD_lt ho (by have := hA.two; omega) i)]; exact h.2 i b⟩
theorem SemL.snoc {A : Arn} {out : List Nat} {fs : List Fn} (h : SemL A out fs) {f : Nat} {F : Fn} (hf : ∀ b, inA A b f = F b) : SemL A (out ++ [f]) (fs ++ [F]) := by
  refine ⟨by simp [h.1], fun i b => ?_⟩
  rw [List.getD_eq_getElem?_getD, List.getD_eq_getElem?_getD]
  rcases Nat.lt_trichotomy i out.length with hi | hi | hi
  · rw [List.getElem?_append_left hi, List.getElem?_append_left (by rw [← h.1]; exact hi), ← List.getD_eq_getElem?_getD, ← List.getD_eq_getElem?_getD]
    exact h.2 i b
  · subst hi
    rw [List.getElem?_append_right (Nat.le_refl _), h.1, List.getElem?_append_right (Nat.le_refl _)]
    simpa using hf b
  · rw [List.getElem?_eq_none (by simp; omega), List.getElem?_eq_none (by simp; rw [← h.1]; omega)]
    rfl

theorem cube1 (A : Arn) (v : Nat) (on : Bool) : cubeF A [(v, on)] = match mkF A v (if on then 0 else 1) (if on then 1 else 0) with | (none, _) => (none, A) | (some f, A') => (some f, A') := by
  unfold cubeF
  simp only [List.reverse_cons, List.reverse_nil, List.nil_append, cubeGo]
  rcases mkF A v (if on then 0 else 1) (if on then 1 else 0) with ⟨r, A'⟩
  cases r <;> rfl

theorem lits_lt {A : Arn} (hA : A.OK) {v : Nat} (hv : v < 104) (on : Bool) : (if on then 0 else 1) < A.nodes.length ∧ (if on then 1 else 0) < A.nodes.length ∧ v < A.lv (if on then 0 else 1) ∧ v < A.lv (if on then 1 else 0) := by
  have h0 := hA.lv_zero
  have h1 := hA.lv_one
  have h2 := hA.two
  cases on
  · exact ⟨by simp; omega, by simp; omega, by simpa [h1] using hv, by simpa [h0] using hv⟩
  · exact ⟨by simp; omega, by simp; omega, by simpa [h0] using hv, by simpa [h1] using hv⟩

theorem cube1_sem {A A' : Arn} (hA : A.OK) {v f : Nat} {on : Bool} (hv : v < 104) (h : cubeF A [(v, on)] = (some f, A')) (b : Nat → Bool) : inA A' b f = (b v == on) := by
  rw [cube1] at h
  obtain ⟨h0, h1, h2, h3⟩ := lits_lt hA hv on
  have s := fun x h => mk_sem hA hv h0 h1 h2 h3 (x := x) h b
  rcases e : mkF A v (if on then 0 else 1) (if on then 1 else 0) with ⟨r, A1⟩
  rw [e] at h s
  cases r with
  | none => cases h
  | some y =>
    cases h
    rw [s _ rfl]
    cases on <;> cases b v <;> rfl

theorem cube1_again {A : Arn} (hA : A.OK) {v f : Nat} {on : Bool} (hv : v < 104) (hf : f < A.nodes.length) (h : ∀ b, inA A b f = (b v == on)) : cubeF A [(v, on)] = (some f, A) := by
  obtain ⟨h0, h1, h2, h3⟩ := lits_lt hA hv on
  rw [cube1, mk_again hA hv h0 h1 h2 h3 hf (fun b => by rw [h]; cases on <;> cases b v <;> rfl)]

theorem cube1_room {D : List Nat} {A : Arn} (hD : InD D A) {v : Nat} {on : Bool} (hv : v ∈ D) (hr : A.nodes.length < A.most) :
    ∃ x, (cubeF A [(v, on)]).1 = some x ∧ InD D (cubeF A [(v, on)]).2 ∧ (cubeF A [(v, on)]).2.nodes.length ≤ A.nodes.length + 1 := by
  rw [cube1]
  have q1 := mk_inD hD (if on then 0 else 1) (if on then 1 else 0) hv
  have q2 := mk_len A v (if on then 0 else 1) (if on then 1 else 0)
  have q3 := fun h => mkF_full (A := A) (L := v) (lo := if on then 0 else 1) (hi := if on then 1 else 0) h
  rcases e : mkF A v (if on then 0 else 1) (if on then 1 else 0) with ⟨r, A1⟩
  rw [e] at q1 q2 q3
  cases r with
  | none => have := (q3 rfl).1; omega
  | some y => exact ⟨y, rfl, q1, q2⟩

theorem ite_sem {A A' : Arn} (hA : A.OK) {f g h x : Nat} (hf : f < A.nodes.length) (hg : g < A.nodes.length) (hh : h < A.nodes.length) (he : iteA A f g h = (some x, A')) :
    (∀ b, inA A' b x = if inA A b f then inA A b g else inA A b h) ∧ ∀ B : Arn, B.OK → Ext A' B → iteA B f g h = (some x, B) := by
  unfold iteA at he
  have j1 := joinA_ok hA (k := 0) (by omega) hf hg
  have t1 := fun x h => joinA_sem hA (k := 0) (by omega) hf hg (x := x) h
  rcases e1 : joinA A 0 f g with ⟨r, A1⟩
  rw [e1] at j1 he t1
  obtain ⟨a1, b1, c1⟩ := j1
  cases r with
  | none => cases he
  | some y =>
    simp only at a1 b1 c1 he t1
    have u1 := t1 y rfl
    have l1 := b1.len
    have j2 := joinA_ok a1 (k := 3) (f := h) (g := f) (by omega) (by omega) (by omega)
    have t2 := fun x hx => joinA_sem a1 (k := 3) (f := h) (g := f) (by omega) (by omega) (by omega) (x := x) hx
    rcases e2 : joinA A1 3 h f with ⟨r, A2⟩
    rw [e2] at j2 he t2
    obtain ⟨a2, b2, c2⟩ := j2
    cases r with
    | none => cases he
    | some z =>
      simp only at a2 b2 c2 he t2
      have u2 := t2 z rfl
      have l2 := b2.len
      have hy := c1 y rfl
      have hz := c2 z rfl
      have j3 := joinA_ok a2 (k := 1) (f := y) (g := z) (by omega) (by omega) hz
      have t3 := fun x hx => joinA_sem a2 (k := 1) (f := y) (g := z) (by omega) (by omega) hz (x := x) hx
      rcases e3 : joinA A2 1 y z with ⟨r, A3⟩
      rw [e3] at j3 he t3
      obtain ⟨a3, b3, c3⟩ := j3
      cases r with
      | none => cases he
      | some v =>
        cases he
        simp only at a3 b3 c3 t3
        have u3 := t3 x rfl
        have l3 := b3.len
        have hx := c3 x rfl
        refine ⟨fun b => ?_, fun B hB hE => ?_⟩
        · rw [u3, inA_ext a1 a2 b2 b y hy, u1, u2, inA_ext hA a1 b1 b h hh, inA_ext hA a1 b1 b f hf]
          cases inA A b f <;> cases inA A b g <;> cases inA A b h <;> rfl
        · have lE := hE.len
          have s1 : ∀ b, inA B b y = opF 0 (inA B b f) (inA B b g) := fun b => by
            rw [inA_ext a3 hB hE b y (by omega), inA_ext a2 a3 b3 b y (by omega), inA_ext a1 a2 b2 b y hy, u1, inA_ext hA hB (((b1.trans b2).trans b3).trans hE) b f hf, inA_ext hA hB (((b1.trans b2).trans b3).trans hE) b g hg]
          have s2 : ∀ b, inA B b z = opF 3 (inA B b h) (inA B b f) := fun b => by
            rw [inA_ext a3 hB hE b z (by omega), inA_ext a2 a3 b3 b z hz, u2, inA_ext a1 hB ((b2.trans b3).trans hE) b h (by omega), inA_ext a1 hB ((b2.trans b3).trans hE) b f (by omega)]
          have s3 : ∀ b, inA B b x = opF 1 (inA B b y) (inA B b z) := fun b => by
            rw [inA_ext a3 hB hE b x hx, u3, inA_ext a2 hB (b3.trans hE) b y (by omega), inA_ext a2 hB (b3.trans hE) b z hz]
          unfold iteA
          rw [joinA_again hB (by omega) (by omega) (by omega) (by omega) s1]
          simp only
          rw [joinA_again hB (by omega) (by omega) (by omega) (by omega) s2]
          simp only
          rw [joinA_again hB (by omega) (by omega) (by omega) (by omega) s3]

theorem iteA_room {D : List Nat} {A : Arn} (hA : A.OK) (hD : InD D A) {f g h : Nat} (hf : f < A.nodes.length) (hg : g < A.nodes.length) (hh : h < A.nodes.length) (hr : A.nodes.length + 3 * 2 ^ D.length ≤ A.most) :
    ∃ x, (iteA A f g h).1 = some x ∧ InD D (iteA A f g h).2 ∧ (iteA A f g h).2.nodes.length ≤ A.nodes.length + 3 * 2 ^ D.length := by
  unfold iteA
  have j1 := joinA_ok hA (k := 0) (by omega) hf hg
  obtain ⟨y, y1, y2, y3⟩ := joinA_room hA hD (k := 0) (by omega) hf hg (by omega)
  rcases e1 : joinA A 0 f g with ⟨r, A1⟩
  rw [e1] at j1 y1 y2 y3
  obtain ⟨a1, b1, c1⟩ := j1
  simp only at y1 y2 y3 a1 b1 c1
  subst y1
  simp only
  have l1 := b1.len
  have m1 := b1.most
  have j2 := joinA_ok a1 (k := 3) (f := h) (g := f) (by omega) (by omega) (by omega)
  obtain ⟨z, z1, z2, z3⟩ := joinA_room a1 y2 (k := 3) (f := h) (g := f) (by omega) (by omega) (by omega) (by omega)
  rcases e2 : joinA A1 3 h f with ⟨r, A2⟩
  rw [e2] at j2 z1 z2 z3
  obtain ⟨a2, b2, c2⟩ := j2
  simp only at z1 z2 z3 a2 b2 c2
  subst z1
  simp only
  have l2 := b2.len
  have m2 := b2.most
  have hy := c1 y rfl
  obtain ⟨v, v1, v2, v3⟩ := joinA_room a2 z2 (k := 1) (f := y) (g := z) (by omega) (by omega) (c2 z rfl) (by omega)
  rcases e3 : joinA A2 1 y z with ⟨r, A3⟩
  rw [e3] at v1 v2 v3
  simp only at v1 v2 v3
  subst v1
  exact ⟨v, rfl, v2, by simp only; omega⟩

theorem step_sem {A A' : Arn} (hA : A.OK) {out : List Nat} (ho : ∀ f ∈ out, f < A.nodes.length) {x : Ex} {i f : Nat} (hx : ¬ BadE x i) (h : stepE A out x = (some f, A')) {fs : List Fn} (hs : SemL A out fs) :
    (∀ b, inA A' b f = fnE fs x b) ∧ ∀ B : Arn, B.OK → Ext A' B → stepE B out x = (some f, B) := by
  have h2 := hA.two
  have hg := getD_lt ho (by omega)
  have hok := stepE_ok hA ho hx
  rw [h] at hok
  obtain ⟨o1, x1, r1⟩ := hok
  have hfr := r1 f rfl
  simp only at o1 x1 hfr
  have again : ∀ B : Arn, B.OK → Ext A' B → ∀ g, g < A.nodes.length → g < B.nodes.length := fun B _ hE g hg => by have := x1.len; have := hE.len; omega
  unfold BadE at hx
  unfold stepE at h ⊢
  unfold fnE
  split at h
  · rename_i c
    cases h
    simp only [c, if_true]
    exact ⟨fun b => inA_zero A b, fun _ _ _ => trivial⟩
  rename_i c0
  simp only [c0, if_false]
  split at h
  · rename_i c
    cases h
    simp only [c, if_true]
    exact ⟨fun b => inA_one A b, fun _ _ _ => trivial⟩
  rename_i c1
  simp only [c1, if_false]
  split at h
  · rename_i c
    simp only [c, if_true]
    have sem := cube1_sem hA (v := x.var.toNat) (by omega) h
    refine ⟨sem, fun B hB hE => ?_⟩
    exact cube1_again hB (by omega) (Nat.lt_of_lt_of_le hfr hE.len) (fun b => by rw [inA_ext o1 hB hE b f hfr]; exact sem b)
  rename_i c2
  simp only [c2, if_false]
  split at h
  · rename_i c
    simp only [c, if_true]
    have t := fun b => joinA_sem hA (k := 3) (f := 1) (g := out.getD x.a.toNat 0) (x := f) (by omega) (by omega) (hg _) (by rw [h]) b
    rw [h] at t
    simp only at t
    refine ⟨fun b => by rw [t, hs.2, inA_one]; simp [opF], fun B hB hE => ?_⟩
    have hE2 := x1.trans hE
    have := hE2.len
    have := hg x.a.toNat
    refine joinA_again hB (by omega) (by omega) (by omega) (Nat.lt_of_lt_of_le hfr hE.len) fun b => ?_
    rw [inA_ext o1 hB hE b f hfr, t, inA_ext hA hB hE2 b 1 (by omega), inA_ext hA hB hE2 b _ (hg _)]
  rename_i c7
  simp only [c7, if_false]
  split at h
  · rename_i c
    simp only [c, if_true]
    have t := fun b => restrictA_sem hA (f := out.getD x.a.toNat 0) (i := x.var.toNat) (on := x.on) (x := f) (hg _) (by omega) (by rw [h]) b
    rw [h] at t
    simp only at t
    refine ⟨fun b => by rw [t, hs.2], fun B hB hE => ?_⟩
    have hE2 := x1.trans hE
    have := hE2.len
    have := hg x.a.toNat
    refine restrictA_again hB (by omega) (by omega) (Nat.lt_of_lt_of_le hfr hE.len) fun b => ?_
    rw [inA_ext o1 hB hE b f hfr, t, inA_ext hA hB hE2 _ _ (hg _)]
  rename_i c8
  simp only [c8, if_false]
  split at h
  · rename_i c
    simp only [c, if_true]
    obtain ⟨t1, t2⟩ := ite_sem hA (hg x.a.toNat) (hg x.b.toNat) (hg x.c.toNat) h
    exact ⟨fun b => by rw [t1, hs.2, hs.2, hs.2], t2⟩
  rename_i c9
  simp only [c9, if_false]
  have t := fun b => joinA_sem hA (k := x.kind.toNat - 3) (f := out.getD x.a.toNat 0) (g := out.getD x.b.toNat 0) (x := f) (by omega) (hg _) (hg _) (by rw [h]) b
  rw [h] at t
  simp only at t
  refine ⟨fun b => by rw [t, hs.2, hs.2], fun B hB hE => ?_⟩
  have hE2 := x1.trans hE
  have := hE2.len
  have := hg x.a.toNat
  have := hg x.b.toNat
  refine joinA_again hB (by omega) (by omega) (by omega) (Nat.lt_of_lt_of_le hfr hE.len) fun b => ?_
  rw [inA_ext o1 hB hE b f hfr, t, inA_ext hA hB hE2 b _ (hg _), inA_ext hA hB hE2 b _ (hg _)]

theorem step_room {D : List Nat} {A : Arn} (hA : A.OK) (hD : InD D A) {out : List Nat} (ho : ∀ f ∈ out, f < A.nodes.length) {x : Ex} {i : Nat} (hx : ¬ BadE x i) (hv : x.kind = 2 → x.var.toNat ∈ D) (hr : A.nodes.length + 3 * 2 ^ D.length ≤ A.most) :
    ∃ f, (stepE A out x).1 = some f ∧ InD D (stepE A out x).2 ∧ (stepE A out x).2.nodes.length ≤ A.nodes.length + 3 * 2 ^ D.length := by
  have h2 := hA.two
  have hp := Nat.one_le_two_pow (n := D.length)
  have hg := getD_lt ho (by omega)
  unfold BadE at hx
  unfold stepE
  split
  · exact ⟨0, rfl, hD, by simp only; omega⟩
  split
  · exact ⟨1, rfl, hD, by simp only; omega⟩
  split
  · rename_i c
    obtain ⟨f, a, b, c⟩ := cube1_room hD (on := x.on) (hv c) (by omega)
    exact ⟨f, a, b, by omega⟩
  split
  · obtain ⟨f, a, b, c⟩ := joinA_room hA hD (k := 3) (f := 1) (by omega) (by omega) (hg x.a.toNat) (by omega)
    exact ⟨f, a, b, by omega⟩
  split
  · obtain ⟨f, a, b, c⟩ := restrictA_room hA hD (on := x.on) (i := x.var.toNat) (hg x.a.toNat) (by omega) (by omega)
    exact ⟨f, a, b, by omega⟩
  split
  · exact iteA_room hA hD (hg _) (hg _) (hg _) hr
  · obtain ⟨f, a, b, c⟩ := joinA_room hA hD (k := x.kind.toNat - 3) (by omega) (hg x.a.toNat) (hg x.b.toNat) (by omega)
    exact ⟨f, a, b, by omega⟩

theorem makeGo_sem : ∀ (l : List Ex) (A : Arn) (out : List Nat) (fs : List Fn) (k : Nat), A.OK → (∀ f ∈ out, f < A.nodes.length) → (∀ i x, l[i]? = some x → ¬ BadE x (k + i)) → SemL A out fs →
    (makeGo A out l).2.1 = true → SemL (makeGo A out l).2.2 (makeGo A out l).1 (fnsGo fs l) ∧
      ∀ B : Arn, B.OK → Ext (makeGo A out l).2.2 B → makeGo B out l = ((makeGo A out l).1, true, B)
  | [], A, out, fs, k, _, _, _, hs, _ => ⟨hs, fun _ _ _ => rfl⟩
  | x :: r, A, out, fs, k, hA, ho, hb, hs, ht => by
    obtain ⟨a, b, c⟩ := stepE_ok hA ho (hb 0 x rfl)
    have key := fun f A' h => step_sem hA ho (hb 0 x rfl) (f := f) (A' := A') h hs
    unfold makeGo at ht ⊢
    rcases e : stepE A out x with ⟨q, A'⟩
    rw [e] at a b c ht
    cases q with
    | none => cases ht
    | some f =>
      simp only at a b c ht ⊢
      obtain ⟨k1, k2⟩ := key f A' e
      have ho' : ∀ g ∈ out ++ [f], g < A'.nodes.length := fun g hg => by
        rcases List.mem_append.1 hg with h | h
        · exact Nat.lt_of_lt_of_le (ho g h) b.len
        · obtain rfl : g = f := by simpa using h
          exact c g rfl
      have hb' : ∀ i y, r[i]? = some y → ¬ BadE y (k + 1 + i) := fun i y hy => by have := hb (i + 1) y (by simpa using hy); rw [show k + 1 + i = k + (i + 1) by omega]; exact this
      obtain ⟨p1, p2⟩ := makeGo_sem r A' (out ++ [f]) (fs ++ [fnE fs x]) (k + 1) a ho' hb' ((hs.ext hA a b ho).snoc k1) ht
      refine ⟨p1, fun B hB hE => ?_⟩
      have hx := (makeGo_ok r A' (out ++ [f]) (k + 1) a ho' hb').2.1
      rw [k2 B hB (hx.trans hE)]
      exact p2 B hB hE

theorem makeGo_room {D : List Nat} : ∀ (l : List Ex) (A : Arn) (out : List Nat) (k : Nat), A.OK → InD D A → (∀ f ∈ out, f < A.nodes.length) → (∀ i x, l[i]? = some x → ¬ BadE x (k + i)) → (∀ x ∈ l, x.kind = 2 → x.var.toNat ∈ D) →
    A.nodes.length + l.length * (3 * 2 ^ D.length) ≤ A.most →
    (makeGo A out l).2.1 = true ∧ InD D (makeGo A out l).2.2 ∧ (makeGo A out l).2.2.nodes.length ≤ A.nodes.length + l.length * (3 * 2 ^ D.length)
  | [], A, out, k, _, hD, _, _, _, _ => ⟨rfl, hD, by simp [makeGo]⟩
  | x :: r, A, out, k, hA, hD, ho, hb, hv, hr => by
    have hmul : (x :: r).length * (3 * 2 ^ D.length) = r.length * (3 * 2 ^ D.length) + 3 * 2 ^ D.length := by rw [List.length_cons, Nat.add_mul, Nat.one_mul]
    rw [hmul] at hr ⊢
    generalize hM : r.length * (3 * 2 ^ D.length) = M at *
    obtain ⟨a, b, c⟩ := stepE_ok hA ho (hb 0 x rfl)
    obtain ⟨f, s1, s2, s3⟩ := step_room hA hD ho (hb 0 x rfl) (hv x (by simp)) (by omega)
    unfold makeGo
    rcases e : stepE A out x with ⟨q, A'⟩
    rw [e] at a b c s1 s2 s3
    simp only at s1
    subst s1
    simp only at a b c s2 s3 ⊢
    have ho' : ∀ g ∈ out ++ [f], g < A'.nodes.length := fun g hg => by
      rcases List.mem_append.1 hg with h | h
      · exact Nat.lt_of_lt_of_le (ho g h) b.len
      · obtain rfl : g = f := by simpa using h
        exact c g rfl
    have hb' : ∀ i y, r[i]? = some y → ¬ BadE y (k + 1 + i) := fun i y hy => by have := hb (i + 1) y (by simpa using hy); rw [show k + 1 + i = k + (i + 1) by omega]; exact this
    have hm := b.most
    obtain ⟨p1, p2, p3⟩ := makeGo_room r A' (out ++ [f]) (k + 1) a s2 ho' hb' (fun y hy => hv y (by simp [hy])) (by rw [hM]; omega)
    exact ⟨p1, p2, by rw [hM] at p3; omega⟩

/-- The bits of expressions that may be, and are few. -/
def bitsD (l : List Ex) : List Nat := (dset (varsOf l)).map Int.toNat
theorem bits_mem {l : List Ex} {x : Ex} (hx : x ∈ l) (h : x.kind = 2) : x.var.toNat ∈ bitsD l := by
  unfold bitsD
  refine List.mem_map.2 ⟨x.var, ?_, rfl⟩
  rw [mem_dset]
  exact List.mem_map.2 ⟨x, List.mem_filter.2 ⟨hx, by simp [isVar, h]⟩, rfl⟩
theorem inD_two {D : List Nat} {A : Arn} (h : A.nodes.length = 2) : InD D A := fun f h2 hf => by omega


/-- All of a set is another one's. -/
def WI (A : Arn) (f g : Nat) : Prop := ∀ b, inA A b f = true → inA A b g = true
def Triv (q : Nat × Nat) : Prop := q.1 = 0 ∨ q.2 = 1 ∨ q.1 = q.2
/-- The parts of a pair, without and with its first bit. -/
def kid0 (A : Arn) (q : Nat × Nat) : Nat × Nat := (if A.lv q.2 < A.lv q.1 then q.1 else (A.nd q.1).low, if A.lv q.1 < A.lv q.2 then q.2 else (A.nd q.2).low)
def kid1 (A : Arn) (q : Nat × Nat) : Nat × Nat := (if A.lv q.2 < A.lv q.1 then q.1 else (A.nd q.1).high, if A.lv q.1 < A.lv q.2 then q.2 else (A.nd q.2).high)

theorem triv_wi (A : Arn) {q : Nat × Nat} (h : Triv q) : WI A q.1 q.2 := by
  intro b hb
  rcases h with h | h | h
  · rw [h, inA_zero] at hb; cases hb
  · rw [h]; exact inA_one A b
  · rw [← h]; exact hb

theorem half {A : Arn} (hA : A.OK) {f v : Nat} (hf : f < A.nodes.length) (h2 : 2 ≤ f) (hv : v ≤ A.lv f) (b : Nat → Bool) (on : Bool) :
    inA A (updB b v on) f = inA A b (if v < A.lv f then f else if on then (A.nd f).high else (A.nd f).low) := by
  split
  · exact inA_upd hA b on hf (by assumption)
  · obtain rfl : v = A.lv f := by omega
    exact inA_part hA b on hf h2

theorem kid_lt {A : Arn} (hA : A.OK) {q : Nat × Nat} (h1 : q.1 < A.nodes.length) (h2 : q.2 < A.nodes.length) (h3 : 2 ≤ q.1) (h4 : 2 ≤ q.2) :
    (kid0 A q).1 < A.nodes.length ∧ (kid0 A q).2 < A.nodes.length ∧ (kid1 A q).1 < A.nodes.length ∧ (kid1 A q).2 < A.nodes.length ∧ (kid0 A q).1 + (kid0 A q).2 < q.1 + q.2 ∧ (kid1 A q).1 + (kid1 A q).2 < q.1 + q.2 := by
  obtain ⟨_, a1, a2, _⟩ := hA.at_ h1 h3
  obtain ⟨_, b1, b2, _⟩ := hA.at_ h2 h4
  unfold kid0 kid1
  simp only
  refine ⟨?_, ?_, ?_, ?_, ?_, ?_⟩ <;> (repeat' split) <;> omega

theorem kid_wi {A : Arn} (hA : A.OK) {q : Nat × Nat} (h1 : q.1 < A.nodes.length) (h2 : q.2 < A.nodes.length) (h3 : 2 ≤ q.1) (h4 : 2 ≤ q.2) :
    WI A q.1 q.2 ↔ WI A (kid0 A q).1 (kid0 A q).2 ∧ WI A (kid1 A q).1 (kid1 A q).2 := by
  have e : ∀ b on, inA A (updB b (min (A.lv q.1) (A.lv q.2)) on) q.1 = inA A b (if on then (kid1 A q).1 else (kid0 A q).1) := fun b on => by
    rw [half hA h1 h3 (by omega) b on]
    unfold kid0 kid1
    congr 1
    by_cases h : A.lv q.2 < A.lv q.1
    · rw [if_pos (by omega), if_pos h, if_pos h]; cases on <;> rfl
    · rw [if_neg (by omega), if_neg h, if_neg h]
  have k : ∀ b on, inA A (updB b (min (A.lv q.1) (A.lv q.2)) on) q.2 = inA A b (if on then (kid1 A q).2 else (kid0 A q).2) := fun b on => by
    rw [half hA h2 h4 (by omega) b on]
    unfold kid0 kid1
    congr 1
    by_cases h : A.lv q.1 < A.lv q.2
    · rw [if_pos (by omega), if_pos h, if_pos h]; cases on <;> rfl
    · rw [if_neg (by omega), if_neg h, if_neg h]
  constructor
  · intro h
    refine ⟨fun b hb => ?_, fun b hb => ?_⟩
    · have := h (updB b (min (A.lv q.1) (A.lv q.2)) false)
      rw [e, k] at this
      exact this (by simpa using hb)
    · have := h (updB b (min (A.lv q.1) (A.lv q.2)) true)
      rw [e, k] at this
      exact this (by simpa using hb)
  · rintro ⟨h5, h6⟩ b hb
    have hs : updB b (min (A.lv q.1) (A.lv q.2)) (b (min (A.lv q.1) (A.lv q.2))) = b := by
      funext v; unfold updB; split
      · rename_i e; rw [e]
      · rfl
    have e' := e b (b (min (A.lv q.1) (A.lv q.2)))
    have k' := k b (b (min (A.lv q.1) (A.lv q.2)))
    rw [hs] at e' k'
    rw [e'] at hb
    rw [k']
    revert hb
    cases b (min (A.lv q.1) (A.lv q.2))
    · simpa using h5 b
    · simpa using h6 b

/-- What the walk keeps: which pairs are done, which are to do. -/
structure WInv (A : Arn) (f g : Nat) (L st : List (Nat × Nat)) : Prop where
  nodup : L.Nodup
  lt : ∀ q, q ∈ L ∨ q ∈ st → q.1 < A.nodes.length ∧ q.2 < A.nodes.length
  ups : WI A f g → ∀ q ∈ st, WI A q.1 q.2
  done : ∀ q ∈ L, 2 ≤ q.1 ∧ 2 ≤ q.2 ∧ (Triv (kid0 A q) ∨ kid0 A q ∈ L ∨ kid0 A q ∈ st) ∧ (Triv (kid1 A q) ∨ kid1 A q ∈ L ∨ kid1 A q ∈ st)
  first : Triv (f, g) ∨ (f, g) ∈ L ∨ (f, g) ∈ st

theorem WInv.start {A : Arn} {f g : Nat} (hf : f < A.nodes.length) (hg : g < A.nodes.length) : WInv A f g [] [(f, g)] :=
  ⟨List.nodup_nil, fun q h => by rcases h with h | h <;> simp at h; subst h; exact ⟨hf, hg⟩, fun h q hq => by simp at hq; subst hq; exact h, fun q h => by simp at h, Or.inr (Or.inr (by simp))⟩
theorem WInv.skip {A : Arn} {f g : Nat} {L st : List (Nat × Nat)} {q : Nat × Nat} (h : WInv A f g L (st ++ [q])) (hq : Triv q ∨ q ∈ L) : WInv A f g L st := by
  have key : ∀ c, (Triv c ∨ c ∈ L ∨ c ∈ st ++ [q]) → (Triv c ∨ c ∈ L ∨ c ∈ st) := by
    rintro c (h1 | h1 | h1)
    · exact Or.inl h1
    · exact Or.inr (Or.inl h1)
    · rcases List.mem_append.1 h1 with h2 | h2
      · exact Or.inr (Or.inr h2)
      · obtain rfl : c = q := by simpa using h2
        rcases hq with h3 | h3
        · exact Or.inl h3
        · exact Or.inr (Or.inl h3)
  exact ⟨h.nodup, fun c hc => h.lt c (hc.imp id (fun x => by simp [x])), fun w c hc => h.ups w c (by simp [hc]), fun c hc => by
    obtain ⟨a, b, d, e⟩ := h.done c hc
    exact ⟨a, b, key _ d, key _ e⟩, key _ h.first⟩
theorem WInv.step {A : Arn} (hA : A.OK) {f g : Nat} {L st : List (Nat × Nat)} {q : Nat × Nat} (h : WInv A f g L (st ++ [q])) (h1 : 2 ≤ q.1) (h2 : 2 ≤ q.2) (hn : q ∉ L) : WInv A f g (q :: L) (st ++ [kid0 A q, kid1 A q]) := by
  obtain ⟨l1, l2⟩ := h.lt q (Or.inr (by simp))
  obtain ⟨k1, k2, k3, k4, _, _⟩ := kid_lt hA l1 l2 h1 h2
  have key : ∀ c, (Triv c ∨ c ∈ L ∨ c ∈ st ++ [q]) → (Triv c ∨ c ∈ q :: L ∨ c ∈ st ++ [kid0 A q, kid1 A q]) := by
    rintro c (h1 | h1 | h1)
    · exact Or.inl h1
    · exact Or.inr (Or.inl (by simp [h1]))
    · rcases List.mem_append.1 h1 with h2 | h2
      · exact Or.inr (Or.inr (by simp [h2]))
      · obtain rfl : c = q := by simpa using h2
        exact Or.inr (Or.inl (by simp))
  refine ⟨List.nodup_cons.2 ⟨hn, h.nodup⟩, ?_, ?_, ?_, key _ h.first⟩
  · rintro c (hc | hc)
    · rcases List.mem_cons.1 hc with rfl | hc
      · exact ⟨l1, l2⟩
      · exact h.lt c (Or.inl hc)
    · rcases List.mem_append.1 hc with hc | hc
      · exact h.lt c (Or.inr (by simp [hc]))
      · simp at hc
        rcases hc with rfl | rfl
        · exact ⟨k1, k2⟩
        · exact ⟨k3, k4⟩
  · intro w c hc
    have hw := (kid_wi hA l1 l2 h1 h2).1 (h.ups w q (by simp))
    rcases List.mem_append.1 hc with hc | hc
    · exact h.ups w c (by simp [hc])
    · simp at hc
      rcases hc with rfl | rfl
      · exact hw.1
      · exact hw.2
  · intro c hc
    rcases List.mem_cons.1 hc with rfl | hc
    · exact ⟨h1, h2, Or.inr (Or.inr (by simp)), Or.inr (Or.inr (by simp))⟩
    · obtain ⟨a, b, d, e⟩ := h.done c hc
      exact ⟨a, b, key _ d, key _ e⟩
/-- Nothing is left to do: it is so. -/
theorem WInv.yes {A : Arn} (hA : A.OK) {f g : Nat} {L : List (Nat × Nat)} (h : WInv A f g L []) : WI A f g := by
  have key : ∀ (n : Nat) (q : Nat × Nat), q.1 + q.2 ≤ n → (Triv q ∨ q ∈ L) → WI A q.1 q.2 := by
    intro n
    induction n with
    | zero =>
      intro q hn hq
      refine triv_wi A (Or.inl (by omega))
    | succ n ih =>
      rintro q hn (hq | hq)
      · exact triv_wi A hq
      · obtain ⟨a, b, d, e⟩ := h.done q hq
        obtain ⟨l1, l2⟩ := h.lt q (Or.inl hq)
        obtain ⟨_, _, _, _, k5, k6⟩ := kid_lt hA l1 l2 a b
        exact (kid_wi hA l1 l2 a b).2 ⟨ih _ (by omega) (by simpa using d), ih _ (by omega) (by simpa using e)⟩
  exact key _ (f, g) (Nat.le_refl _) (by simpa using h.first)
/-- One pair that isn't tells that it isn't. -/
theorem WInv.no {A : Arn} (hA : A.OK) {f g : Nat} {L st : List (Nat × Nat)} {q : Nat × Nat} (h : WInv A f g L (st ++ [q])) (ht : ¬ Triv q) (hq : q.2 = 0 ∨ q.1 = 1) : ¬ WI A f g := by
  intro w
  have hw := h.ups w q (by simp)
  obtain ⟨l1, l2⟩ := h.lt q (Or.inr (by simp))
  unfold Triv at ht
  rcases hq with hq | hq
  · refine ht (Or.inl ?_)
    refine canon' hA l1 (by have := hA.two; omega) fun b => ?_
    rw [inA_zero]
    cases hb : inA A b q.1
    · rfl
    · have := hw b hb
      rw [hq, inA_zero] at this
      cases this
  · refine ht (Or.inr (Or.inl ?_))
    refine canon' hA l2 (by have := hA.two; omega) fun b => ?_
    have := hw b (by rw [hq]; exact inA_one A b)
    rw [this, inA_one]
theorem nodup_len : ∀ (n : Nat) (l : List Nat), l.Nodup → (∀ x ∈ l, x < n) → l.length ≤ n
  | 0, l, _, h => by
    cases l with
    | nil => simp
    | cons x r => have := h x (by simp); omega
  | n + 1, l, hd, h => by
    have h1 := nodup_len n (l.erase n) (hd.erase n) (fun x hx => by
      rw [hd.mem_erase_iff] at hx
      have := h x hx.2
      omega)
    rw [List.length_erase] at h1
    split at h1 <;> omega
theorem WInv.len {A : Arn} {f g : Nat} {L st : List (Nat × Nat)} (h : WInv A f g L st) : L.length ≤ A.nodes.length * A.nodes.length := by
  have hs : ∀ q ∈ L, q.1 * A.nodes.length + q.2 < A.nodes.length * A.nodes.length := fun q hq => by
    obtain ⟨l1, l2⟩ := h.lt q (Or.inl hq)
    have : (q.1 + 1) * A.nodes.length ≤ A.nodes.length * A.nodes.length := Nat.mul_le_mul_right _ l1
    rw [Nat.add_mul] at this
    omega
  have hd : (L.map fun q => q.1 * A.nodes.length + q.2).Nodup := by
    rw [List.Nodup, List.pairwise_map]
    refine h.nodup.imp_of_mem fun {a b} ha hb hne e => hne ?_
    obtain ⟨_, a2⟩ := h.lt a (Or.inl ha)
    obtain ⟨_, b2⟩ := h.lt b (Or.inl hb)
    have hpos : 0 < A.nodes.length := by omega
    have e1 : (a.1 * A.nodes.length + a.2) / A.nodes.length = a.1 := by rw [Nat.mul_comm, Nat.mul_add_div hpos, Nat.div_eq_of_lt a2, Nat.add_zero]
    have e2 : (b.1 * A.nodes.length + b.2) / A.nodes.length = b.1 := by rw [Nat.mul_comm, Nat.mul_add_div hpos, Nat.div_eq_of_lt b2, Nat.add_zero]
    have e3 : (a.1 * A.nodes.length + a.2) % A.nodes.length = a.2 := by rw [Nat.mul_comm, Nat.mul_add_mod, Nat.mod_eq_of_lt a2]
    have e4 : (b.1 * A.nodes.length + b.2) % A.nodes.length = b.2 := by rw [Nat.mul_comm, Nat.mul_add_mod, Nat.mod_eq_of_lt b2]
    rw [e] at e1 e3
    exact Prod.ext (e1.symm.trans e2) (e3.symm.trans e4)
  have := nodup_len _ _ hd (fun x hx => by
    obtain ⟨q, hq, rfl⟩ := List.mem_map.1 hx
    exact hs q hq)
  simpa using this


/-- What is reached from sets, the two without a bit not counted. -/
inductive Rch (A : Arn) (S : List Nat) : Nat → Prop
  | base {f : Nat} : f ∈ S → 2 ≤ f → Rch A S f
  | low {f : Nat} : Rch A S f → 2 ≤ (A.nd f).low → Rch A S (A.nd f).low
  | high {f : Nat} : Rch A S f → 2 ≤ (A.nd f).high → Rch A S (A.nd f).high
theorem Rch.two {A : Arn} {S : List Nat} {x : Nat} (h : Rch A S x) : 2 ≤ x := by
  cases h <;> assumption
theorem Rch.mono {A : Arn} {S T : List Nat} (hs : ∀ f ∈ S, 2 ≤ f → f ∈ T) {x : Nat} (h : Rch A S x) : Rch A T x := by
  induction h with
  | base h1 h2 => exact .base (hs _ h1 h2) h2
  | low _ h2 ih => exact .low ih h2
  | high _ h2 ih => exact .high ih h2
theorem Rch.part {A : Arn} {S T : List Nat} {x : Nat} (h : Rch A (S ++ T) x) : Rch A S x ∨ Rch A T x := by
  induction h with
  | base h1 h2 =>
    rcases List.mem_append.1 h1 with h | h
    · exact Or.inl (.base h h2)
    · exact Or.inr (.base h h2)
  | low _ h2 ih => exact ih.imp (fun h => .low h h2) (fun h => .low h h2)
  | high _ h2 ih => exact ih.imp (fun h => .high h h2) (fun h => .high h h2)

structure NInv (A : Arn) (S L st : List Nat) : Prop where
  nodup : L.Nodup
  lt : ∀ x, x ∈ L ∨ x ∈ st → x < A.nodes.length
  sound : ∀ x, x ∈ L ∨ x ∈ st → 2 ≤ x → Rch A S x
  done : ∀ x ∈ L, 2 ≤ x ∧ (2 ≤ (A.nd x).low → (A.nd x).low ∈ L ∨ (A.nd x).low ∈ st) ∧ (2 ≤ (A.nd x).high → (A.nd x).high ∈ L ∨ (A.nd x).high ∈ st)
  base : ∀ x ∈ S, 2 ≤ x → x ∈ L ∨ x ∈ st
theorem NInv.start {A : Arn} {S : List Nat} (h : ∀ x ∈ S, x < A.nodes.length) : NInv A S [] S :=
  ⟨List.nodup_nil, fun x hx => by rcases hx with hx | hx; simp at hx; exact h x hx, fun x hx h2 => by rcases hx with hx | hx; simp at hx; exact .base hx h2, fun x hx => by simp at hx, fun x hx _ => Or.inr hx⟩
theorem NInv.skip {A : Arn} {S L st : List Nat} {x : Nat} (h : NInv A S L (st ++ [x])) (hx : x < 2 ∨ x ∈ L) : NInv A S L st := by
  have key : ∀ c, 2 ≤ c → (c ∈ L ∨ c ∈ st ++ [x]) → (c ∈ L ∨ c ∈ st) := by
    rintro c hc (h1 | h1)
    · exact Or.inl h1
    · rcases List.mem_append.1 h1 with h2 | h2
      · exact Or.inr h2
      · obtain rfl : c = x := by simpa using h2
        rcases hx with h3 | h3
        · omega
        · exact Or.inl h3
  exact ⟨h.nodup, fun c hc => h.lt c (hc.imp id (fun y => by simp [y])), fun c hc => h.sound c (hc.imp id (fun y => by simp [y])),
    fun c hc => by obtain ⟨a, b, d⟩ := h.done c hc; exact ⟨a, fun e => key _ e (b e), fun e => key _ e (d e)⟩, fun c hc h2 => key c h2 (h.base c hc h2)⟩
theorem NInv.step {A : Arn} (hA : A.OK) {S L st : List Nat} {x : Nat} (h : NInv A S L (st ++ [x])) (h2 : 2 ≤ x) (hn : x ∉ L) : NInv A S (x :: L) (st ++ [(A.nd x).low, (A.nd x).high]) := by
  have hx := h.lt x (Or.inr (by simp))
  obtain ⟨_, a1, a2, _⟩ := hA.at_ hx h2
  have hr := h.sound x (Or.inr (by simp)) h2
  have key : ∀ c, (c ∈ L ∨ c ∈ st ++ [x]) → (c ∈ x :: L ∨ c ∈ st ++ [(A.nd x).low, (A.nd x).high]) := by
    rintro c (h1 | h1)
    · exact Or.inl (by simp [h1])
    · rcases List.mem_append.1 h1 with h3 | h3
      · exact Or.inr (by simp [h3])
      · obtain rfl : c = x := by simpa using h3
        exact Or.inl (by simp)
  have back : ∀ c, (c ∈ x :: L ∨ c ∈ st ++ [(A.nd x).low, (A.nd x).high]) → (c ∈ L ∨ c ∈ st ++ [x]) ∨ c = (A.nd x).low ∨ c = (A.nd x).high := by
    rintro c (h1 | h1)
    · rcases List.mem_cons.1 h1 with rfl | h1
      · exact Or.inl (Or.inr (by simp))
      · exact Or.inl (Or.inl h1)
    · rcases List.mem_append.1 h1 with h1 | h1
      · exact Or.inl (Or.inr (by simp [h1]))
      · exact Or.inr (by simpa using h1)
  refine ⟨List.nodup_cons.2 ⟨hn, h.nodup⟩, ?_, ?_, ?_, fun c hc h3 => key c (h.base c hc h3)⟩
  · intro c hc
    rcases back c hc with h1 | rfl | rfl
    · exact h.lt c h1
    · omega
    · omega
  · intro c hc h3
    rcases back c hc with h1 | rfl | rfl
    · exact h.sound c h1 h3
    · exact .low hr h3
    · exact .high hr h3
  · intro c hc
    rcases List.mem_cons.1 hc with rfl | hc
    · exact ⟨h2, fun _ => Or.inr (by simp), fun _ => Or.inr (by simp)⟩
    · obtain ⟨a, b, d⟩ := h.done c hc
      exact ⟨a, fun e => key _ (b e), fun e => key _ (d e)⟩
theorem NInv.ends {A : Arn} {S L : List Nat} (h : NInv A S L []) : ∀ x, x ∈ L ↔ Rch A S x := by
  intro x
  constructor
  · intro hx
    exact h.sound x (Or.inl hx) (h.done x hx).1
  · intro hx
    induction hx with
    | base h1 h2 => simpa using h.base _ h1 h2
    | low _ h2 ih => simpa using (h.done _ ih).2.1 h2
    | high _ h2 ih => simpa using (h.done _ ih).2.2 h2
theorem NInv.len {A : Arn} {S L st : List Nat} (h : NInv A S L st) : L.length ≤ A.nodes.length := nodup_len _ _ h.nodup fun x hx => h.lt x (Or.inl hx)

theorem nodup_sub : ∀ (l m : List Nat), l.Nodup → (∀ x ∈ l, x ∈ m) → l.length ≤ m.length
  | [], m, _, _ => by simp
  | x :: r, m, hd, h => by
    obtain ⟨h1, h2⟩ := List.nodup_cons.1 hd
    have hx := h x (by simp)
    have := nodup_sub r (m.erase x) h2 (fun y hy => (List.mem_erase_of_ne (show y ≠ x from fun e => h1 (by rw [← e]; exact hy))).2 (h y (by simp [hy])))
    rw [List.length_erase_of_mem hx] at this
    have := List.length_pos_of_mem hx
    rw [List.length_cons]
    omega
/-- The nodes of sets, each once. -/
def NodesOf (A : Arn) (S L : List Nat) : Prop := L.Nodup ∧ (∀ x, x ∈ L ↔ Rch A S x) ∧ ∀ x ∈ L, x < A.nodes.length

theorem nodesof_le {A : Arn} {S T L M : List Nat} (h : NodesOf A S L) (k : NodesOf A T M) (hs : ∀ f ∈ S, 2 ≤ f → f ∈ T) : L.length ≤ M.length :=
  nodup_sub _ _ h.1 fun x hx => (k.2.1 x).2 (((h.2.1 x).1 hx).mono hs)
theorem nodesof_sum {A : Arn} {S T L M B : List Nat} (h : NodesOf A S L) (k : NodesOf A T M) (b : NodesOf A (S ++ T) B) : B.length ≤ L.length + M.length := by
  rw [← List.length_append]
  refine nodup_sub _ _ b.1 fun x hx => ?_
  rcases ((b.2.1 x).1 hx).part with h1 | h1
  · exact List.mem_append.2 (Or.inl ((h.2.1 x).2 h1))
  · exact List.mem_append.2 (Or.inr ((k.2.1 x).2 h1))
theorem nodesof_two {A : Arn} {S L : List Nat} (h : NodesOf A S L) : L.length ≤ A.nodes.length - 2 := by
  have hd : (L.map fun x => x - 2).Nodup := by
    rw [List.Nodup, List.pairwise_map]
    refine h.1.imp_of_mem fun {a b} ha hb hne e => hne ?_
    have h1 := ((h.2.1 a).1 ha).two
    have h2 := ((h.2.1 b).1 hb).two
    omega
  have := nodup_len (A.nodes.length - 2) _ hd (fun x hx => by
    obtain ⟨y, hy, rfl⟩ := List.mem_map.1 hx
    have h1 := ((h.2.1 y).1 hy).two
    have h2 := h.2.2 y hy
    omega)
  simpa using this
theorem nodesof_zero {A : Arn} {x : Nat} {L : List Nat} (h : NodesOf A [x] L) : L.length = 0 ↔ x ≤ 1 := by
  constructor
  · intro h0
    by_cases hx : x ≤ 1
    · exact hx
    · have := (h.2.1 x).2 (.base (by simp) (by omega))
      rw [List.eq_nil_of_length_eq_zero h0] at this
      simp at this
  · intro hx
    rcases L with _ | ⟨y, r⟩
    · rfl
    · exfalso
      have hr := (h.2.1 y).1 (by simp)
      have key : ∀ z, Rch A [x] z → False := fun z hz => by
        induction hz with
        | base h1 h2 => simp at h1; omega
        | low _ _ ih => exact ih
        | high _ _ ih => exact ih
      exact key _ hr


/-- All bits of a list are so. -/
def agree (b : Nat → Bool) (l : List (Nat × Bool)) : Bool := l.all fun x => b x.1 == x.2
theorem agree_rev (b : Nat → Bool) (l : List (Nat × Bool)) : agree b l.reverse = agree b l := by
  unfold agree
  rw [Bool.eq_iff_iff]
  simp

theorem cubeGo_sem : ∀ (l : List (Nat × Bool)) (A : Arn) (f : Nat), A.OK → f < A.nodes.length → (∀ x ∈ l, x.1 < 104) → l.Pairwise (fun a b => b.1 < a.1) → (∀ x ∈ l, x.1 < A.lv f) →
    ∀ x A', cubeGo A f l = (some x, A') → ∀ b, inA A' b x = (agree b l && inA A b f)
  | [], A, f, _, _, _, _, _, x, A', h, b => by
    cases h
    simp [agree]
  | (v, on) :: r, A, f, hA, hf, hlt, hp, hl, x, A', h, b => by
    have hv := hlt (v, on) (by simp)
    have hlv := hl (v, on) (by simp)
    have h2 := hA.two
    have h0 := hA.lv_zero
    obtain ⟨m1, m2, m3⟩ := mkF_step (on := on) hA hf hv hlv
    have c0 : (if on then 0 else f) < A.nodes.length := by split <;> omega
    have c1 : (if on then f else 0) < A.nodes.length := by split <;> omega
    have c2 : v < A.lv (if on then 0 else f) := by split <;> simp_all
    have c3 : v < A.lv (if on then f else 0) := by split <;> simp_all
    have s := fun x h => mk_sem hA hv c0 c1 c2 c3 (x := x) h b
    unfold cubeGo at h
    rcases hm : mkF A v (if on then 0 else f) (if on then f else 0) with ⟨q, A1⟩
    rw [hm] at m1 m2 m3 h s
    cases q with
    | none => cases h
    | some f' =>
      simp only at m1 m2 m3 h s
      obtain ⟨h1, h3⟩ := m3 f' rfl
      obtain ⟨p1, p2⟩ := List.pairwise_cons.1 hp
      rw [cubeGo_sem r A1 f' m1 h1 (fun y hy => hlt y (by simp [hy])) p2 (fun y hy => by have := p1 y hy; simp only at this; omega) x A' h b, s f' rfl]
      have ez := inA_zero A b
      unfold agree
      simp only [List.all_cons]
      cases on <;> cases b v <;> simp [ez]

theorem cubeF_sem {A A' : Arn} (hA : A.OK) {l : List (Nat × Bool)} (hR : Rise l) {x : Nat} (h : cubeF A l = (some x, A')) (b : Nat → Bool) : inA A' b x = agree b l := by
  unfold cubeF at h
  rcases e : cubeGo A 1 l.reverse with ⟨q, A1⟩
  rw [e] at h
  cases q with
  | none => cases h
  | some f =>
    cases h
    rw [cubeGo_sem l.reverse A 1 hA (by have := hA.two; omega) (fun x hx => hR.lt x (by simpa using hx)) (List.pairwise_reverse.2 hR.up) (fun x hx => by rw [hA.lv_one]; exact hR.lt x (by simpa using hx)) x A' e b, agree_rev, inA_one, Bool.and_true]

theorem cubeGo_room : ∀ (l : List (Nat × Bool)) (A : Arn) (f : Nat), A.nodes.length + l.length ≤ A.most → (∃ x, (cubeGo A f l).1 = some x) ∧ (cubeGo A f l).2.nodes.length ≤ A.nodes.length + l.length
  | [], A, f, _ => ⟨⟨f, rfl⟩, Nat.le_refl _⟩
  | (v, on) :: r, A, f, h => by
    rw [List.length_cons] at h
    have q2 := mk_len A v (if on then 0 else f) (if on then f else 0)
    have q3 := fun h => mkF_full (A := A) (L := v) (lo := if on then 0 else f) (hi := if on then f else 0) h
    have q4 := (mkF_ext A v (if on then 0 else f) (if on then f else 0)).most
    unfold cubeGo
    rcases e : mkF A v (if on then 0 else f) (if on then f else 0) with ⟨q, A1⟩
    rw [e] at q2 q3 q4
    simp only at q2 q3 q4
    cases q with
    | none => have := (q3 rfl).1; omega
    | some f' =>
      obtain ⟨a, b⟩ := cubeGo_room r A1 f' (by omega)
      exact ⟨a, by rw [List.length_cons]; simp only; omega⟩

theorem cubeF_room {A : Arn} {l : List (Nat × Bool)} (h : A.nodes.length + l.length ≤ A.most) : ∃ x A', cubeF A l = (some x, A') ∧ A'.nodes.length ≤ A.nodes.length + l.length := by
  obtain ⟨⟨x, a⟩, b⟩ := cubeGo_room l.reverse A 1 (by simpa using h)
  unfold cubeF
  rcases e : cubeGo A 1 l.reverse with ⟨q, A1⟩
  rw [e] at a b
  simp only at a
  subst a
  exact ⟨x, A1, rfl, by simpa using b⟩


/-- In how many ways the last d of 104 bits may be held so that F says yes. -/
def ways : Nat → Fn → Nat
  | 0, F => (F (fun _ => false)).toNat
  | d + 1, F => ways d (fun b => F (updB b (103 - d) false)) + ways d (fun b => F (updB b (103 - d) true))

theorem ways_succ (d : Nat) (F : Fn) : ways (d + 1) F = ways d (fun b => F (updB b (103 - d) false)) + ways d (fun b => F (updB b (103 - d) true)) := rfl
theorem ways_congr : ∀ (d : Nat) {F G : Fn}, (∀ b, F b = G b) → ways d F = ways d G
  | 0, F, G, h => by unfold ways; rw [h]
  | d + 1, F, G, h => by
    unfold ways
    rw [ways_congr d (F := fun b => F (updB b (103 - d) false)) (G := fun b => G (updB b (103 - d) false)) (fun b => h _),
      ways_congr d (F := fun b => F (updB b (103 - d) true)) (G := fun b => G (updB b (103 - d) true)) (fun b => h _)]

theorem ways_le : ∀ (d : Nat) (F : Fn), ways d F ≤ 2 ^ d
  | 0, F => by simp only [ways]; generalize F (fun _ => false) = x; revert x; decide
  | d + 1, F => by
    unfold ways
    have a := ways_le d (fun b => F (updB b (103 - d) false))
    have c := ways_le d (fun b => F (updB b (103 - d) true))
    rw [Nat.pow_succ]
    omega

theorem ways_false : ∀ (d : Nat), ways d (fun _ => false) = 0
  | 0 => rfl
  | d + 1 => by unfold ways; rw [ways_false d]
theorem ways_true : ∀ (d : Nat), ways d (fun _ => true) = 2 ^ d
  | 0 => rfl
  | d + 1 => by unfold ways; rw [ways_true d, Nat.pow_succ]; omega

/-- What both have, and what one of them has. -/
theorem ways_sum : ∀ (d : Nat) (F G : Fn), ways d (fun b => F b && G b) + ways d (fun b => F b || G b) = ways d F + ways d G
  | 0, F, G => by simp only [ways]; generalize F (fun _ => false) = x; generalize G (fun _ => false) = y; revert x y; decide
  | d + 1, F, G => by
    simp only [ways]
    have a := ways_sum d (fun b => F (updB b (103 - d) false)) (fun b => G (updB b (103 - d) false))
    have c := ways_sum d (fun b => F (updB b (103 - d) true)) (fun b => G (updB b (103 - d) true))
    omega
theorem ways_not : ∀ (d : Nat) (F : Fn), ways d F + ways d (fun b => !F b) = 2 ^ d
  | 0, F => by simp only [ways]; generalize F (fun _ => false) = x; revert x; decide
  | d + 1, F => by
    simp only [ways]
    have a := ways_not d (fun b => F (updB b (103 - d) false))
    have c := ways_not d (fun b => F (updB b (103 - d) true))
    rw [Nat.pow_succ]
    omega
/-- A set falls into what another one has of it and what it hasn't. -/
theorem ways_cut : ∀ (d : Nat) (F G : Fn), ways d (fun b => F b && G b) + ways d (fun b => F b && !G b) = ways d F
  | 0, F, G => by simp only [ways]; generalize F (fun _ => false) = x; generalize G (fun _ => false) = y; revert x y; decide
  | d + 1, F, G => by
    simp only [ways]
    have a := ways_cut d (fun b => F (updB b (103 - d) false)) (fun b => G (updB b (103 - d) false))
    have c := ways_cut d (fun b => F (updB b (103 - d) true)) (fun b => G (updB b (103 - d) true))
    omega

/-- A bit that isn't asked doubles. -/
theorem ways_skip (d : Nat) {F : Fn} (h : ∀ b x, F (updB b (103 - d) x) = F b) : ways (d + 1) F = 2 * ways d F := by
  rw [ways_succ]
  rw [ways_congr d (F := fun b => F (updB b (103 - d) false)) (G := F) (fun b => h b false), ways_congr d (F := fun b => F (updB b (103 - d) true)) (G := F) (fun b => h b true)]
  omega
theorem ways_skips {F : Fn} (d : Nat) : ∀ (k : Nat), (∀ j, j < k → ∀ b x, F (updB b (103 - (d + j)) x) = F b) → ways (d + k) F = 2 ^ k * ways d F
  | 0, _ => by simp
  | k + 1, h => by
    rw [← Nat.add_assoc, ways_skip (d + k) (h k (by omega)), ways_skips d k (fun j hj => h j (by omega)), Nat.pow_succ]
    rw [Nat.mul_comm (2 ^ k) 2, Nat.mul_assoc]

/-- The ways of a set's own bits. -/
def waysA (A : Arn) (f : Nat) : Nat := ways (104 - A.lv f) (fun b => inA A b f)
theorem waysA_up {A : Arn} (hA : A.OK) {f v : Nat} (hf : f < A.nodes.length) (hv : v ≤ A.lv f) : ways (104 - v) (fun b => inA A b f) = 2 ^ (A.lv f - v) * waysA A f := by
  have hl := hA.lv_le f
  have := ways_skips (F := fun b => inA A b f) (104 - A.lv f) (A.lv f - v) (fun j hj b x => inA_upd hA b x hf (by omega))
  rw [show 104 - A.lv f + (A.lv f - v) = 104 - v by omega] at this
  exact this
theorem waysA_zero {A : Arn} (hA : A.OK) : waysA A 0 = 0 := by
  unfold waysA
  rw [ways_congr _ (G := fun _ => false) (fun b => inA_zero A b), ways_false]
theorem waysA_one {A : Arn} (hA : A.OK) : waysA A 1 = 1 := by
  unfold waysA
  rw [ways_congr _ (G := fun _ => true) (fun b => inA_one A b), ways_true, hA.lv_one]
theorem waysA_node {A : Arn} (hA : A.OK) {f : Nat} (hf : f < A.nodes.length) (h2 : 2 ≤ f) :
    waysA A f = 2 ^ (A.lv (A.nd f).low - A.lv f - 1) * waysA A (A.nd f).low + 2 ^ (A.lv (A.nd f).high - A.lv f - 1) * waysA A (A.nd f).high := by
  obtain ⟨a, b, c, d, e1, e2⟩ := hA.at_ hf h2
  have u0 := waysA_up hA (f := (A.nd f).low) (v := A.lv f + 1) (by omega) (by omega)
  have u1 := waysA_up hA (f := (A.nd f).high) (v := A.lv f + 1) (by omega) (by omega)
  rw [show A.lv (A.nd f).low - (A.lv f + 1) = A.lv (A.nd f).low - A.lv f - 1 by omega] at u0
  rw [show A.lv (A.nd f).high - (A.lv f + 1) = A.lv (A.nd f).high - A.lv f - 1 by omega] at u1
  rw [← u0, ← u1]
  have hs : 104 - A.lv f = (104 - (A.lv f + 1)) + 1 := by omega
  have hq : 103 - (104 - (A.lv f + 1)) = A.lv f := by omega
  unfold waysA
  rw [hs, ways_succ, hq]
  rw [ways_congr _ (F := fun b => inA A (updB b (A.lv f) false) f) (G := fun b => inA A b (A.nd f).low) (fun b => by have := inA_part hA b false hf h2; simpa using this),
    ways_congr _ (F := fun b => inA A (updB b (A.lv f) true) f) (G := fun b => inA A b (A.nd f).high) (fun b => by have := inA_part hA b true hf h2; simpa using this)]

/-- How many headers a set has. -/
def cntA (A : Arn) (f : Nat) : Nat := ways 104 (fun b => inA A b f)
theorem cntA_eq {A : Arn} (hA : A.OK) {f : Nat} (hf : f < A.nodes.length) : cntA A f = 2 ^ A.lv f * waysA A f := waysA_up hA (v := 0) hf (Nat.zero_le _)
theorem cntA_le (A : Arn) (f : Nat) : cntA A f ≤ 2 ^ 104 := ways_le _ _

/-- A cube's ways. -/
theorem ways_agree : ∀ (d : Nat) (l : List (Nat × Bool)), d ≤ 104 → l.Pairwise (fun a b => a.1 < b.1) → (∀ x ∈ l, 104 - d ≤ x.1 ∧ x.1 < 104) → l.length ≤ d ∧ ways d (fun b => agree b l) = 2 ^ (d - l.length)
  | 0, l, _, _, h => by
    cases l with
    | nil => simp [ways, agree]
    | cons x r => have := h x (by simp); omega
  | d + 1, [], _, _, _ => by
    refine ⟨by simp, ?_⟩
    exact (ways_congr (d + 1) (F := fun b => agree b []) (G := fun _ => true) (fun b => rfl)).trans (ways_true (d + 1))
  | d + 1, x :: r, hd, hp, h => by
    obtain ⟨p1, p2⟩ := List.pairwise_cons.1 hp
    have hx := h x (by simp)
    by_cases e : x.1 = 103 - d
    · have hr : ∀ y ∈ r, 104 - d ≤ y.1 ∧ y.1 < 104 := fun y hy => ⟨by have := p1 y hy; omega, (h y (by simp [hy])).2⟩
      obtain ⟨q1, q2⟩ := ways_agree d r (by omega) p2 hr
      have hag : ∀ b on, agree (updB b (103 - d) on) (x :: r) = ((on == x.2) && agree b r) := fun b on => by
        unfold agree
        rw [List.all_cons, e, updB_same]
        congr 1
        rw [Bool.eq_iff_iff]
        simp only [List.all_eq_true]
        exact ⟨fun k y hy => by have := k y hy; rwa [updB_other b on (by have := (hr y hy).1; omega)] at this, fun k y hy => by rw [updB_other b on (by have := (hr y hy).1; omega)]; exact k y hy⟩
      refine ⟨by simp; omega, ?_⟩
      rw [ways_succ]
      rw [ways_congr d (fun b => hag b false), ways_congr d (fun b => hag b true), List.length_cons, show d + 1 - (r.length + 1) = d - r.length by omega]
      cases x.2
      · rw [ways_congr d (F := fun b => ((false == false) && agree b r)) (G := fun b => agree b r) (fun b => by simp), ways_congr d (F := fun b => ((true == false) && agree b r)) (G := fun _ => false) (fun b => by simp), ways_false, q2]
        omega
      · rw [ways_congr d (F := fun b => ((true == true) && agree b r)) (G := fun b => agree b r) (fun b => by simp), ways_congr d (F := fun b => ((false == true) && agree b r)) (G := fun _ => false) (fun b => by simp), ways_false, q2]
        omega
    · have hr : ∀ y ∈ x :: r, 104 - d ≤ y.1 ∧ y.1 < 104 := fun y hy => by
        refine ⟨?_, (h y hy).2⟩
        rcases List.mem_cons.1 hy with rfl | hy
        · omega
        · have := p1 y hy; omega
      obtain ⟨q1, q2⟩ := ways_agree d (x :: r) (by omega) hp hr
      refine ⟨by omega, ?_⟩
      rw [ways_skip d (fun b on => ?_), q2, show d + 1 - (x :: r).length = (d - (x :: r).length) + 1 by omega, Nat.pow_succ]
      · omega
      · unfold agree
        rw [Bool.eq_iff_iff]
        simp only [List.all_eq_true]
        exact ⟨fun k y hy => by have := k y hy; rwa [updB_other b on (by have := (hr y hy).1; omega)] at this, fun k y hy => by rw [updB_other b on (by have := (hr y hy).1; omega)]; exact k y hy⟩


theorem agree_upd {r : List (Nat × Bool)} {v : Nat} (h : ∀ x ∈ r, x.1 ≠ v) (b : Nat → Bool) (on : Bool) : agree (updB b v on) r = agree b r := by
  unfold agree
  rw [Bool.eq_iff_iff]
  simp only [List.all_eq_true]
  exact ⟨fun k y hy => by have := k y hy; rwa [updB_other b on (h y hy)] at this, fun k y hy => by rw [updB_other b on (h y hy)]; exact k y hy⟩
theorem agree_cons (b : Nat → Bool) (v : Nat) (on : Bool) (r : List (Nat × Bool)) : agree b ((v, on) :: r) = ((b v == on) && agree b r) := rfl
theorem agree_sat : ∀ (l : List (Nat × Bool)), l.Pairwise (fun a b => a.1 < b.1) → ∃ b, agree b l = true
  | [], _ => ⟨fun _ => false, rfl⟩
  | (v, on) :: r, hp => by
    obtain ⟨p1, p2⟩ := List.pairwise_cons.1 hp
    obtain ⟨b, hb⟩ := agree_sat r p2
    refine ⟨updB b v on, ?_⟩
    rw [agree_cons, updB_same, agree_upd (fun x hx => by have := p1 x hx; simp only at this; omega), hb]
    simp

theorem rch_le {A : Arn} (hA : A.OK) {s : Nat} (hs : s < A.nodes.length) {x : Nat} (h : Rch A [s] x) : x ≤ s := by
  induction h with
  | base h1 _ => simp at h1; omega
  | low h1 _ ih => have := (hA.at_ (Nat.lt_of_le_of_lt ih hs) h1.two).2.1; omega
  | high h1 _ ih => have := (hA.at_ (Nat.lt_of_le_of_lt ih hs) h1.two).2.2.1; omega

theorem cube_node {A : Arn} (hA : A.OK) {f v : Nat} {on : Bool} {r : List (Nat × Bool)} (hf : f < A.nodes.length) (hv : v < 104) (hp : ∀ x ∈ r, v < x.1) (hr : r.Pairwise (fun a b => a.1 < b.1)) (h : ∀ b, inA A b f = ((b v == on) && agree b r)) :
    2 ≤ f ∧ A.lv f = v ∧ (∀ b, inA A b (if on then (A.nd f).high else (A.nd f).low) = agree b r) ∧ (if on then (A.nd f).low else (A.nd f).high) = 0 := by
  have hne : ∀ x ∈ r, x.1 ≠ v := fun x hx => by have := hp x hx; omega
  obtain ⟨b0, hb0⟩ := agree_sat r hr
  have h1 : inA A (updB b0 v on) f = true := by rw [h, updB_same, agree_upd hne, hb0]; simp
  have h2 : inA A (updB b0 v (!on)) f = false := by rw [h, updB_same]; cases on <;> rfl
  have hlv : A.lv f = v := by
    rcases Nat.lt_trichotomy (A.lv f) v with hl | hl | hl
    · exfalso
      have hf2 : 2 ≤ f := two_of_lv hA (by omega)
      obtain ⟨_, a1, a2, a3, _, _⟩ := hA.at_ hf hf2
      refine a3 (canon' hA (by omega) (by omega) fun b => ?_)
      have e0 := inA_part hA b false hf hf2
      have e1 := inA_part hA b true hf hf2
      simp only [Bool.false_eq_true, if_false, if_true] at e0 e1
      rw [← e0, ← e1, h, h, updB_other _ _ (by omega), updB_other _ _ (by omega), agree_upd (fun x hx => by have := hp x hx; omega), agree_upd (fun x hx => by have := hp x hx; omega)]
    · exact hl
    · exfalso
      rw [inA_upd hA b0 on hf hl] at h1
      rw [inA_upd hA b0 (!on) hf hl, h1] at h2
      cases h2
  have hf2 : 2 ≤ f := two_of_lv hA (by omega)
  obtain ⟨_, a1, a2, a3, _, _⟩ := hA.at_ hf hf2
  refine ⟨hf2, hlv, fun b => ?_, ?_⟩
  · have e := inA_part hA b on hf hf2
    rw [← e, hlv, h, updB_same, agree_upd hne]
    simp
  · have hlt : (if on then (A.nd f).low else (A.nd f).high) < A.nodes.length := by split <;> omega
    refine canon' hA hlt (by have := hA.two; omega) fun b => ?_
    have e := inA_part hA b (!on) hf hf2
    rw [inA_zero]
    have e2 : (if (!on) = true then (A.nd f).high else (A.nd f).low) = if on = true then (A.nd f).low else (A.nd f).high := by cases on <;> rfl
    rw [e2] at e
    rw [← e, hlv, h, updB_same]
    cases on <;> rfl

theorem cube_nodes {A : Arn} (hA : A.OK) : ∀ (l : List (Nat × Bool)) (f : Nat), f < A.nodes.length → (∀ x ∈ l, x.1 < 104) → l.Pairwise (fun a b => a.1 < b.1) → (∀ b, inA A b f = agree b l) →
    ∃ L, NodesOf A [f] L ∧ L.length = l.length
  | [], f, hf, _, _, h => by
    have e : f = 1 := canon' hA hf (by have := hA.two; omega) fun b => by rw [h, inA_one]; rfl
    refine ⟨[], ⟨List.nodup_nil, fun x => ⟨fun hx => by simp at hx, fun hx => ?_⟩, fun x hx => by simp at hx⟩, rfl⟩
    have h1 := rch_le hA hf hx
    have h2 := hx.two
    omega
  | (v, on) :: r, f, hf, hlt, hp, h => by
    obtain ⟨p1, p2⟩ := List.pairwise_cons.1 hp
    obtain ⟨c1, c2, c3, c4⟩ := cube_node hA hf (hlt (v, on) (by simp)) (fun x hx => p1 x hx) p2 h
    obtain ⟨_, a1, a2, _⟩ := hA.at_ hf c1
    have hcl : (if on then (A.nd f).high else (A.nd f).low) < f := by split <;> omega
    generalize hc : (if on then (A.nd f).high else (A.nd f).low) = c at *
    obtain ⟨L, hL, hn⟩ := cube_nodes hA r c (by omega) (fun x hx => hlt x (by simp [hx])) p2 c3
    refine ⟨f :: L, ⟨List.nodup_cons.2 ⟨fun hm => ?_, hL.1⟩, fun x => ⟨fun hx => ?_, fun hx => ?_⟩, fun x hx => ?_⟩, by simp [hn]⟩
    · have := rch_le hA (show c < A.nodes.length by omega) ((hL.2.1 f).1 hm)
      omega
    · rcases List.mem_cons.1 hx with rfl | hx
      · exact .base (by simp) c1
      · have hr := (hL.2.1 x).1 hx
        have hroot : Rch A [f] f := .base (by simp) c1
        have key : ∀ z, Rch A [c] z → Rch A [f] z := fun z hz => by
          induction hz with
          | @base f0 h1 h2 =>
            have e : f0 = c := by simpa using h1
            rw [e, ← hc] at h2 ⊢
            cases on
            · exact .low hroot h2
            · exact .high hroot h2
          | low _ h2 ih => exact .low ih h2
          | high _ h2 ih => exact .high ih h2
        exact key x hr
    · have key : ∀ z, Rch A [f] z → z = f ∨ Rch A [c] z := fun z hz => by
        induction hz with
        | base h1 _ => exact Or.inl (by simpa using h1)
        | low _ h2 ih =>
          rcases ih with rfl | ih
          · cases on
            · simp only [Bool.false_eq_true, if_false] at hc
              rw [hc] at h2 ⊢
              exact Or.inr (.base (by simp) h2)
            · simp only [if_true] at c4
              omega
          · exact Or.inr (.low ih h2)
        | high _ h2 ih =>
          rcases ih with rfl | ih
          · cases on
            · simp only [Bool.false_eq_true, if_false] at c4
              omega
            · simp only [if_true] at hc
              rw [hc] at h2 ⊢
              exact Or.inr (.base (by simp) h2)
          · exact Or.inr (.high ih h2)
      rcases key x hx with rfl | h1
      · simp
      · exact List.mem_cons_of_mem _ ((hL.2.1 x).2 h1)
    · rcases List.mem_cons.1 hx with rfl | hx
      · exact hf
      · exact hL.2.2 x hx


/-- All bits from one on, each once, in their order. -/
def SufL : List (Nat × Bool) → Prop
  | [] => True
  | x :: r => x.1 + r.length = 103 ∧ SufL r
theorem SufL.lt : ∀ {l : List (Nat × Bool)}, SufL l → ∀ y ∈ l, y.1 < 104 ∧ 104 ≤ y.1 + l.length
  | [], _, y, hy => by simp at hy
  | x :: r, h, y, hy => by
    rw [List.length_cons]
    rcases List.mem_cons.1 hy with rfl | hy
    · have := h.1; omega
    · have := h.2.lt y hy; omega
theorem SufL.up : ∀ {l : List (Nat × Bool)}, SufL l → l.Pairwise (fun a b => a.1 < b.1)
  | [], _ => List.Pairwise.nil
  | x :: r, h => List.pairwise_cons.2 ⟨fun y hy => by have := h.2.lt y hy; have := h.1; omega, h.2.up⟩

theorem join_zero (d : Nat) (A : Arn) (S : Seen) (x : Nat) : ∃ y, joinF (d + 1) 3 A S x 0 = (some y, A, S) := by
  unfold joinF
  have : ∃ y, shortF 3 x 0 = some y := by
    unfold shortF
    simp only [show ¬ (3 = 0) by omega, show ¬ (3 = 1) by omega, show ¬ (3 = 2) by omega, if_false]
    split
    · exact ⟨0, rfl⟩
    · exact ⟨x, rfl⟩
  obtain ⟨y, hy⟩ := this
  rw [hy]
  exact ⟨y, rfl⟩

theorem diff_count (d : Nat) : ∀ (l : List (Nat × Bool)) (A : Arn) (S : Seen) (f g : Nat), A.OK → SV A S → f < A.nodes.length → g < A.nodes.length → SufL l → (∀ b, inA A b g = agree b l) → 104 ≤ A.lv f + l.length →
    (joinF d 3 A S f g).2.1.nodes.length ≤ A.nodes.length + l.length ∧ (1 + l.length ≤ d → (joinF d 3 A S f g).1 = none → A.most ≤ (joinF d 3 A S f g).2.1.nodes.length) := by
  induction d with
  | zero =>
    intro l A S f g _ _ _ _ _ _ _
    exact ⟨by simp only [joinF]; omega, fun h => by omega⟩
  | succ d ih =>
    intro l A S f g hA hS hf hg hl hin hlv
    unfold joinF
    cases hs : shortF 3 f g with
    | some x => exact ⟨by simp only; omega, fun _ h => by cases h⟩
    | none =>
      cases hx : S (f, g) with
      | some x => exact ⟨by simp only; omega, fun _ h => by cases h⟩
      | none =>
        cases l with
        | nil =>
          exfalso
          have e : g = 1 := canon' hA hg (by have := hA.two; omega) fun b => by rw [hin, inA_one]; rfl
          rw [e] at hs
          simp [shortF] at hs
        | cons y r =>
          obtain ⟨v, on⟩ := y
          have hv := hl.1
          simp only at hv
          rw [List.length_cons] at hlv ⊢
          obtain ⟨c1, c2, c3, c4⟩ := cube_node hA hg (show v < 104 by omega) (fun x hx => by have := hl.2.lt x hx; omega) hl.2.up hin
          have hmin : min (A.lv f) (A.lv g) = v := by omega
          have hpg : partsF A g v = ((A.nd g).low, (A.nd g).high) := by unfold partsF; rw [if_pos (show (A.nd g).level = v from c2)]
          have pf := parts_ok hA (lv := v) hf (by omega) (by omega)
          obtain ⟨_, b1, b2, _⟩ := hA.at_ hg c1
          rw [hmin, hpg]
          generalize partsF A f v = F at *
          obtain ⟨f0, f1, lf0, lf1⟩ := pf
          generalize (A.nd g).low = glo at *
          generalize (A.nd g).high = ghi at *
          simp only
          have tail : ∀ (A2 : Arn) (S2 : Seen) (lo hi : Nat), A2.nodes.length ≤ A.nodes.length + r.length → A2.most = A.most →
              (match mkF A2 v lo hi with | (none, A3) => ((none : Option Nat), A3, S2) | (some x, A3) => (some x, A3, seeJ S2 f g x)).2.1.nodes.length ≤ A.nodes.length + (r.length + 1) ∧
              (1 + (r.length + 1) ≤ d + 1 → (match mkF A2 v lo hi with | (none, A3) => ((none : Option Nat), A3, S2) | (some x, A3) => (some x, A3, seeJ S2 f g x)).1 = none → A.most ≤ (match mkF A2 v lo hi with | (none, A3) => ((none : Option Nat), A3, S2) | (some x, A3) => (some x, A3, seeJ S2 f g x)).2.1.nodes.length) := by
            intro A2 S2 lo hi hn hm
            have q2 := mk_len A2 v lo hi
            have q3 := fun h => mkF_full (A := A2) (L := v) (lo := lo) (hi := hi) h
            rcases h4 : mkF A2 v lo hi with ⟨q, A3⟩
            rw [h4] at q2 q3
            simp only at q2 q3
            cases q with
            | none =>
              obtain ⟨z1, z2⟩ := q3 rfl
              subst z2
              exact ⟨by simp only; omega, fun _ _ => by simp only; omega⟩
            | some x => exact ⟨by simp only; omega, fun _ h => by cases h⟩
          cases d with
          | zero =>
            simp only [joinF]
            exact ⟨by omega, fun h => by omega⟩
          | succ d =>
            cases on
            · -- the part without the bit goes on
              simp only [Bool.false_eq_true, if_false] at c3 c4
              subst c4
              have i1 := joinF_ok (d + 1) 3 A S F.1 glo (by omega) hA hS f0 (by omega)
              have j1 := ih r A S F.1 glo hA hS f0 (by omega) hl.2 c3 (by omega)
              rcases h1 : joinF (d + 1) 3 A S F.1 glo with ⟨q, A1, S1⟩
              rw [h1] at i1 j1
              obtain ⟨o1, e1, s1, v1⟩ := i1
              obtain ⟨n1, w1⟩ := j1
              cases q with
              | none => exact ⟨by simp only at n1 ⊢; omega, fun hd _ => w1 (by omega) rfl⟩
              | some lo =>
                simp only at n1 e1 ⊢
                obtain ⟨y2, h2⟩ := join_zero d A1 S1 F.2
                rw [h2]
                exact tail A1 S1 lo y2 n1 e1.most
            · simp only [if_true] at c3 c4
              subst c4
              obtain ⟨y1, h1⟩ := join_zero d A S F.1
              rw [h1]
              simp only
              have i2 := joinF_ok (d + 1) 3 A S F.2 ghi (by omega) hA hS f1 (by omega)
              have j2 := ih r A S F.2 ghi hA hS f1 (by omega) hl.2 c3 (by omega)
              rcases h2 : joinF (d + 1) 3 A S F.2 ghi with ⟨q, A2, S2⟩
              rw [h2] at i2 j2
              obtain ⟨o2, e2, s2, v2⟩ := i2
              obtain ⟨n2, w2⟩ := j2
              cases q with
              | none => exact ⟨by simp only at n2 ⊢; omega, fun hd _ => w2 (by omega) rfl⟩
              | some hi =>
                simp only at n2 e2 ⊢
                exact tail A2 S2 y1 hi n2 e2.most

/-- A set without a header: there is room, where 104 nodes more may be. -/
theorem diff_room {A : Arn} (hA : A.OK) {l : List (Nat × Bool)} {f g : Nat} (hf : f < A.nodes.length) (hg : g < A.nodes.length) (hl : SufL l) (h104 : l.length = 104) (hin : ∀ b, inA A b g = agree b l) (hr : A.nodes.length + 104 < A.most) :
    ∃ x A', joinA A 3 f g = (some x, A') ∧ A'.nodes.length ≤ A.nodes.length + 104 := by
  obtain ⟨p, q⟩ := diff_count 106 l A (fun _ => none) f g hA (SV.none A) hf hg hl hin (by omega)
  unfold joinA
  rcases h : joinF 106 3 A (fun _ => none) f g with ⟨x, A', S'⟩
  rw [h] at p q
  simp only at p q
  cases x with
  | none => have := q (by omega) rfl; omega
  | some x => exact ⟨x, A', rfl, by omega⟩

end Go.Proofs.Ytakgghhmecphmaa
