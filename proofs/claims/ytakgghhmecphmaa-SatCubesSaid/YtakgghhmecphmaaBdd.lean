/- Sets of headers as graphs, in plain lists and numbers: what the arena's functions come to. No program in sight. -/
namespace Go.Proofs.Ytakgghhmecphmaa
set_option linter.unusedVariables false
set_option linter.unusedSimpArgs false

structure Nd where
  level : Nat
  low : Nat
  high : Nat
deriving DecidableEq

/-- An arena: its nodes, False and True ahead, and how many it may have. -/
structure Arn where
  nodes : List Nd
  most : Nat

/-- Where a node stands, behind the first two. -/
def findF (ns : List Nd) (x : Nd) : Option Nat := ((ns.drop 2).findIdx? (· == x)).map (· + 2)

/-- The node of a bit and two parts. -/
def mkF (A : Arn) (level low high : Nat) : Option Nat × Arn :=
  if low = high then (some low, A) else
  match findF A.nodes ⟨level, low, high⟩ with
  | some i => (some i, A)
  | none => if A.most ≤ A.nodes.length then (none, A) else (some A.nodes.length, { A with nodes := A.nodes ++ [⟨level, low, high⟩] })

/-- What an arena's nodes are like. -/
structure Arn.OK (A : Arn) : Prop where
  two : 2 ≤ A.nodes.length
  len : A.nodes.length ≤ A.most
  most : A.most ≤ 262144
  zero : A.nodes[0]? = some ⟨104, 0, 0⟩
  one : A.nodes[1]? = some ⟨104, 0, 0⟩
  nodup : (A.nodes.drop 2).Nodup
  node : ∀ i n, 2 ≤ i → A.nodes[i]? = some n → n.level < 104 ∧ n.low < i ∧ n.high < i ∧ n.low ≠ n.high ∧
    (∀ m, A.nodes[n.low]? = some m → n.level < m.level) ∧ (∀ m, A.nodes[n.high]? = some m → n.level < m.level)

def Arn.nd (A : Arn) (f : Nat) : Nd := A.nodes.getD f ⟨104, 0, 0⟩
def Arn.lv (A : Arn) (f : Nat) : Nat := (A.nd f).level

theorem Arn.OK.lv_le {A : Arn} (h : A.OK) (f : Nat) : A.lv f ≤ 104 := by
  unfold Arn.lv Arn.nd
  rcases Nat.lt_or_ge f A.nodes.length with hf | hf
  · rw [List.getD_eq_getElem?_getD, List.getElem?_eq_getElem hf]
    match f, hf with
    | 0, hf => have := h.zero; rw [List.getElem?_eq_getElem hf] at this; simp at this; simp [this]
    | 1, hf => have := h.one; rw [List.getElem?_eq_getElem hf] at this; simp at this; simp [this]
    | f + 2, hf =>
      have := (h.node (f + 2) _ (by omega) (List.getElem?_eq_getElem hf)).1
      simp
      omega
  · simp [List.getD_eq_getElem?_getD, List.getElem?_eq_none hf]

theorem findF_some {ns : List Nd} {x : Nd} {i : Nat} (h : findF ns x = some i) : 2 ≤ i ∧ ns[i]? = some x := by
  unfold findF at h
  obtain ⟨j, hj, rfl⟩ := Option.map_eq_some_iff.1 h
  have := List.findIdx?_eq_some_iff_getElem.1 hj
  obtain ⟨hl, h1, _⟩ := this
  simp only [beq_iff_eq, List.getElem_drop] at h1
  refine ⟨by omega, ?_⟩
  simp at hl
  rw [List.getElem?_eq_getElem (by omega)]
  rw [← h1]
  congr 2
  omega

theorem findF_none {ns : List Nd} {x : Nd} (h : findF ns x = none) : x ∉ ns.drop 2 := by
  unfold findF at h
  simp only [Option.map_eq_none_iff, List.findIdx?_eq_none_iff] at h
  intro hm
  have := h x hm
  simp at this

theorem findF_of {ns : List Nd} {x : Nd} {i : Nat} (hn : (ns.drop 2).Nodup) (hi : 2 ≤ i) (h : ns[i]? = some x) : findF ns x = some i := by
  cases hf : findF ns x with
  | none =>
    refine absurd ?_ (findF_none hf)
    refine List.mem_of_getElem? (i := i - 2) ?_
    rw [List.getElem?_drop]
    rw [show 2 + (i - 2) = i by omega]
    exact h
  | some j =>
    obtain ⟨hj, h2⟩ := findF_some hf
    have e : (ns.drop 2)[i - 2]? = (ns.drop 2)[j - 2]? := by
      rw [List.getElem?_drop, List.getElem?_drop, show 2 + (i - 2) = i by omega, show 2 + (j - 2) = j by omega, h, h2]
    have hl : i - 2 < (ns.drop 2).length := by
      have := (List.getElem?_eq_some_iff.1 h).1
      simp
      omega
    have := (List.getElem?_inj hl hn).1 e
    congr 1
    omega

theorem findF_append {ns : List Nd} {x : Nd} (h2 : 2 ≤ ns.length) (hn : x ∉ ns.drop 2) (y : Nd) : findF (ns ++ [x]) y = if y = x then some ns.length else findF ns y := by
  unfold findF
  rw [List.drop_append_of_le_length h2, List.findIdx?_append]
  by_cases e : y = x
  · subst e
    rw [if_pos rfl]
    have : (ns.drop 2).findIdx? (· == y) = none := by
      rw [List.findIdx?_eq_none_iff]
      intro z hz
      simp only [beq_eq_false_iff_ne]
      rintro rfl
      exact hn hz
    rw [this]
    simp [List.findIdx?_cons]
    omega
  · rw [if_neg e]
    have : [x].findIdx? (· == y) = none := by
      rw [List.findIdx?_eq_none_iff]
      intro z hz
      simp only [beq_eq_false_iff_ne]
      rintro rfl
      simp at hz
      exact e hz
    rw [this]
    simp

theorem mkF_ok {A : Arn} (h : A.OK) {level low high : Nat} (hl : level < 104) (h0 : low < A.nodes.length) (h1 : high < A.nodes.length) (hlo : level < A.lv low) (hhi : level < A.lv high) : (mkF A level low high).2.OK := by
  unfold mkF
  split
  · exact h
  · rename_i hne
    split
    · exact h
    · rename_i hf
      split
      · exact h
      · rename_i hm
        have hx := findF_none hf
        have key : ∀ f, f < A.nodes.length → (A.nodes ++ [⟨level, low, high⟩])[f]? = A.nodes[f]? := fun f hf => by rw [List.getElem?_append_left hf]
        refine ⟨by simp; have := h.two; omega, by simp; omega, h.most, ?_, ?_, ?_, ?_⟩
        · rw [key 0 (by have := h.two; omega)]; exact h.zero
        · rw [key 1 (by have := h.two; omega)]; exact h.one
        · simp only
          rw [List.drop_append_of_le_length h.two]
          refine List.nodup_append.2 ⟨h.nodup, by simp, ?_⟩
          intro a ha b hb
          simp at hb
          subst hb
          rintro rfl
          exact hx ha
        · intro i n hi hn
          simp only at hn ⊢
          rcases Nat.lt_or_ge i A.nodes.length with hil | hil
          · rw [key i hil] at hn
            obtain ⟨a1, a2, a3, a4, a5, a6⟩ := h.node i n hi hn
            refine ⟨a1, a2, a3, a4, fun m hm => a5 m ?_, fun m hm => a6 m ?_⟩
            · rw [key _ (by omega)] at hm; exact hm
            · rw [key _ (by omega)] at hm; exact hm
          · have : i = A.nodes.length := by
              have := (List.getElem?_eq_some_iff.1 hn).1
              simp at this
              omega
            subst this
            simp at hn
            subst hn
            refine ⟨hl, h0, h1, hne, fun m hm => ?_, fun m hm => ?_⟩
            · rw [key _ h0] at hm
              unfold Arn.lv Arn.nd at hlo
              rw [List.getD_eq_getElem?_getD, hm] at hlo
              exact hlo
            · rw [key _ h1] at hm
              unfold Arn.lv Arn.nd at hhi
              rw [List.getD_eq_getElem?_getD, hm] at hhi
              exact hhi

/-- What two sets joined are, if that can be told at once (kinds: 0 and, 1 or, 2 one alone, 3 the first alone). -/
def shortF (k f g : Nat) : Option Nat :=
  if k = 0 then (if f = 0 ∨ g = 0 then some 0 else if f = 1 ∨ f = g then some g else if g = 1 then some f else none)
  else if k = 1 then (if f = 1 ∨ g = 1 then some 1 else if f = 0 ∨ f = g then some g else if g = 0 then some f else none)
  else if k = 2 then (if f = g then some 0 else if f = 0 then some g else if g = 0 then some f else none)
  else (if f = 0 ∨ g = 1 ∨ f = g then some 0 else if g = 0 then some f else none)

/-- Both parts of a set at a bit. -/
def partsF (A : Arn) (f level : Nat) : Nat × Nat := if (A.nd f).level = level then ((A.nd f).low, (A.nd f).high) else (f, f)

abbrev Seen := Nat × Nat → Option Nat
def seeJ (S : Seen) (f g x : Nat) : Seen := fun y => if y = (f, g) then some x else S y

/-- Two sets joined, part by part, in d rounds at most. -/
def joinF : Nat → Nat → Arn → Seen → Nat → Nat → Option Nat × Arn × Seen
  | 0, _, A, S, _, _ => (none, A, S)
  | d + 1, k, A, S, f, g =>
    match shortF k f g with
    | some x => (some x, A, S)
    | none =>
      match S (f, g) with
      | some x => (some x, A, S)
      | none =>
        match joinF d k A S (partsF A f (min (A.lv f) (A.lv g))).1 (partsF A g (min (A.lv f) (A.lv g))).1 with
        | (none, A1, S1) => (none, A1, S1)
        | (some lo, A1, S1) =>
          match joinF d k A1 S1 (partsF A f (min (A.lv f) (A.lv g))).2 (partsF A g (min (A.lv f) (A.lv g))).2 with
          | (none, A2, S2) => (none, A2, S2)
          | (some hi, A2, S2) =>
            match mkF A2 (min (A.lv f) (A.lv g)) lo hi with
            | (none, A3) => (none, A3, S2)
            | (some x, A3) => (some x, A3, seeJ S2 f g x)

/-- A' is A, nodes added behind. -/
structure Ext (A A' : Arn) : Prop where
  most : A'.most = A.most
  more : ∃ l, A'.nodes = A.nodes ++ l

theorem Ext.refl (A : Arn) : Ext A A := ⟨rfl, [], by simp⟩
theorem Ext.trans {A B C : Arn} (h : Ext A B) (k : Ext B C) : Ext A C := by
  obtain ⟨h1, l, h2⟩ := h
  obtain ⟨k1, m, k2⟩ := k
  exact ⟨k1.trans h1, l ++ m, by rw [k2, h2, List.append_assoc]⟩
theorem Ext.len {A B : Arn} (h : Ext A B) : A.nodes.length ≤ B.nodes.length := by
  obtain ⟨_, l, h2⟩ := h
  rw [h2]
  simp
theorem Ext.get {A B : Arn} (h : Ext A B) {f : Nat} (hf : f < A.nodes.length) : B.nodes[f]? = A.nodes[f]? := by
  obtain ⟨_, l, h2⟩ := h
  rw [h2, List.getElem?_append_left hf]
theorem Ext.nd {A B : Arn} (h : Ext A B) {f : Nat} (hf : f < A.nodes.length) : B.nd f = A.nd f := by
  unfold Arn.nd
  rw [List.getD_eq_getElem?_getD, List.getD_eq_getElem?_getD, h.get hf]
theorem Ext.lv {A B : Arn} (h : Ext A B) {f : Nat} (hf : f < A.nodes.length) : B.lv f = A.lv f := by
  unfold Arn.lv
  rw [h.nd hf]

theorem Arn.OK.lv_zero {A : Arn} (h : A.OK) : A.lv 0 = 104 := by
  unfold Arn.lv Arn.nd
  rw [List.getD_eq_getElem?_getD, h.zero]
  rfl
theorem Arn.OK.lv_one {A : Arn} (h : A.OK) : A.lv 1 = 104 := by
  unfold Arn.lv Arn.nd
  rw [List.getD_eq_getElem?_getD, h.one]
  rfl
theorem nd_get {A : Arn} {f : Nat} (hf : f < A.nodes.length) : A.nodes[f]? = some (A.nd f) := by
  simp [Arn.nd, List.getD_eq_getElem?_getD, List.getElem?_eq_getElem hf]
/-- What a node behind the first two is like. -/
theorem Arn.OK.at_ {A : Arn} (h : A.OK) {f : Nat} (hf : f < A.nodes.length) (h2 : 2 ≤ f) : A.lv f < 104 ∧ (A.nd f).low < f ∧ (A.nd f).high < f ∧ (A.nd f).low ≠ (A.nd f).high ∧ A.lv f < A.lv (A.nd f).low ∧ A.lv f < A.lv (A.nd f).high := by
  obtain ⟨a, b, c, d, e1, e2⟩ := h.node f _ h2 (nd_get hf)
  exact ⟨a, b, c, d, e1 _ (nd_get (by omega)), e2 _ (nd_get (by omega))⟩

theorem mkF_ext (A : Arn) (level low high : Nat) : Ext A (mkF A level low high).2 := by
  unfold mkF
  split
  · exact Ext.refl A
  · split
    · exact Ext.refl A
    · split
      · exact Ext.refl A
      · exact ⟨rfl, _, rfl⟩

/-- What mk answers is there, at its bit or behind it. -/
theorem mkF_some {A : Arn} {level low high x : Nat} (h : (mkF A level low high).1 = some x) (h0 : low < A.nodes.length) (hlo : level < A.lv low) : x < (mkF A level low high).2.nodes.length ∧ level ≤ (mkF A level low high).2.lv x := by
  by_cases e : low = high
  · have hk : mkF A level low high = (some low, A) := by simp [mkF, e]
    rw [hk] at h ⊢
    cases h
    exact ⟨h0, by simp only; omega⟩
  · cases hf : findF A.nodes ⟨level, low, high⟩ with
    | some i =>
      have hk : mkF A level low high = (some i, A) := by simp [mkF, e, hf]
      rw [hk] at h ⊢
      cases h
      obtain ⟨h2, hx⟩ := findF_some hf
      refine ⟨(List.getElem?_eq_some_iff.1 hx).1, ?_⟩
      unfold Arn.lv Arn.nd
      simp only
      rw [List.getD_eq_getElem?_getD, hx]
      simp
    | none =>
      by_cases hm : A.most ≤ A.nodes.length
      · have hk : mkF A level low high = (none, A) := by simp [mkF, e, hf, hm]
        rw [hk] at h
        cases h
      · have hk : mkF A level low high = (some A.nodes.length, { A with nodes := A.nodes ++ [⟨level, low, high⟩] }) := by simp [mkF, e, hf, hm]
        rw [hk] at h ⊢
        cases h
        refine ⟨by simp, ?_⟩
        unfold Arn.lv Arn.nd
        simp [List.getD_eq_getElem?_getD]

/-- What is seen is there, and its bit isn't ahead of the two's. -/
def SV (A : Arn) (S : Seen) : Prop := ∀ f g x, S (f, g) = some x → f < A.nodes.length ∧ g < A.nodes.length ∧ x < A.nodes.length ∧ min (A.lv f) (A.lv g) ≤ A.lv x
theorem SV.ext {A B : Arn} {S : Seen} (h : SV A S) (e : Ext A B) : SV B S := fun f g x hx => by
  obtain ⟨a, b, c, d⟩ := h f g x hx
  have := e.len
  rw [e.lv a, e.lv b, e.lv c]
  exact ⟨by omega, by omega, by omega, d⟩
theorem SV.none (A : Arn) : SV A (fun _ => none) := fun _ _ _ h => by cases h

theorem parts_ok {A : Arn} (h : A.OK) {f lv : Nat} (hf : f < A.nodes.length) (hlv : lv < 104) (hle : lv ≤ A.lv f) :
    (partsF A f lv).1 < A.nodes.length ∧ (partsF A f lv).2 < A.nodes.length ∧ lv < A.lv (partsF A f lv).1 ∧ lv < A.lv (partsF A f lv).2 := by
  unfold partsF
  split
  · rename_i e
    have h2 : 2 ≤ f := by
      rcases Nat.lt_or_ge f 2 with h' | h'
      · have hl : A.lv f = lv := e
        obtain rfl | rfl : f = 0 ∨ f = 1 := by omega
        · rw [h.lv_zero] at hl; omega
        · rw [h.lv_one] at hl; omega
      · exact h'
    obtain ⟨a, b, c, d, e1, e2⟩ := h.at_ hf h2
    have hl : A.lv f = lv := e
    rw [hl] at e1 e2
    exact ⟨by simp only; omega, by simp only; omega, e1, e2⟩
  · rename_i e
    have : A.lv f ≠ lv := e
    exact ⟨hf, hf, by simp only; omega, by simp only; omega⟩

theorem short_lt {k f g x n : Nat} (h : shortF k f g = some x) (hf : f < n) (hg : g < n) (hn : 2 ≤ n) : x < n := by
  unfold shortF at h
  repeat' split at h
  all_goals first | (cases h; omega) | cases h

theorem short_lv {A : Arn} (hA : A.OK) {k f g x : Nat} (h : shortF k f g = some x) : min (A.lv f) (A.lv g) ≤ A.lv x := by
  have h0 := hA.lv_zero
  have h1 := hA.lv_one
  have hf := hA.lv_le f
  have hg := hA.lv_le g
  unfold shortF at h
  repeat' split at h
  all_goals first | (cases h; omega) | cases h

theorem short_none {k f g : Nat} (h3 : k ≤ 3) (h : shortF k f g = none) : 2 ≤ f ∨ 2 ≤ g := by
  unfold shortF at h
  repeat' split at h
  all_goals first | omega | cases h

theorem min_lv {A : Arn} (hA : A.OK) {f g : Nat} (hf : f < A.nodes.length) (hg : g < A.nodes.length) (h : 2 ≤ f ∨ 2 ≤ g) : min (A.lv f) (A.lv g) < 104 := by
  rcases h with h | h
  · have := (hA.at_ hf h).1; omega
  · have := (hA.at_ hg h).1; omega

theorem joinF_ok (d : Nat) : ∀ (k : Nat) (A : Arn) (S : Seen) (f g : Nat), k ≤ 3 → A.OK → SV A S → f < A.nodes.length → g < A.nodes.length →
    (joinF d k A S f g).2.1.OK ∧ Ext A (joinF d k A S f g).2.1 ∧ SV (joinF d k A S f g).2.1 (joinF d k A S f g).2.2 ∧
    ∀ x, (joinF d k A S f g).1 = some x → x < (joinF d k A S f g).2.1.nodes.length ∧ min (A.lv f) (A.lv g) ≤ (joinF d k A S f g).2.1.lv x := by
  induction d with
  | zero =>
    intro k A S f g _ hA hS _ _
    exact ⟨hA, Ext.refl A, hS, fun x h => by cases h⟩
  | succ d ih =>
    intro k A S f g h3 hA hS hf hg
    unfold joinF
    cases hs : shortF k f g with
    | some x =>
      exact ⟨hA, Ext.refl A, hS, fun y h => by cases h; exact ⟨short_lt hs hf hg hA.two, short_lv hA hs⟩⟩
    | none =>
      cases hx : S (f, g) with
      | some x =>
        obtain ⟨a, b, c, e⟩ := hS f g x hx
        exact ⟨hA, Ext.refl A, hS, fun y h => by cases h; exact ⟨c, e⟩⟩
      | none =>
        have hlv := min_lv hA hf hg (short_none h3 hs)
        obtain ⟨f0, f1, lf0, lf1⟩ := parts_ok hA (lv := min (A.lv f) (A.lv g)) hf hlv (Nat.min_le_left _ _)
        obtain ⟨g0, g1, lg0, lg1⟩ := parts_ok hA (lv := min (A.lv f) (A.lv g)) hg hlv (Nat.min_le_right _ _)
        have hlf : A.lv f ≤ 104 := hA.lv_le f
        generalize hL : min (A.lv f) (A.lv g) = L at *
        generalize hF : partsF A f L = F at *
        generalize hG : partsF A g L = G at *
        simp only
        have i1 := ih k A S F.1 G.1 h3 hA hS f0 g0
        rcases h1 : joinF d k A S F.1 G.1 with ⟨r, A1, S1⟩
        rw [h1] at i1
        obtain ⟨o1, e1, s1, v1⟩ := i1
        cases r with
        | none => exact ⟨o1, e1, s1, fun x h => by cases h⟩
        | some lo =>
          simp only at o1 e1 s1 v1 ⊢
          obtain ⟨hlo, vlo⟩ := v1 lo rfl
          have hl1 := e1.len
          have i2 := ih k A1 S1 F.2 G.2 h3 o1 s1 (by omega) (by omega)
          rcases h2 : joinF d k A1 S1 F.2 G.2 with ⟨r, A2, S2⟩
          rw [h2] at i2
          obtain ⟨o2, e2, s2, v2⟩ := i2
          cases r with
          | none => exact ⟨o2, e1.trans e2, s2, fun x h => by cases h⟩
          | some hi =>
            simp only at o2 e2 s2 v2 ⊢
            obtain ⟨hhi, vhi⟩ := v2 hi rfl
            rw [e1.lv f1, e1.lv g1] at vhi
            have hlo2 : L < A2.lv lo := by rw [e2.lv hlo]; omega
            have hhi2 : L < A2.lv hi := by omega
            have hl2 := e2.len
            have m1 := mkF_ok o2 hlv (show lo < A2.nodes.length by omega) hhi hlo2 hhi2
            have m2 := mkF_ext A2 L lo hi
            have m3 := fun x h => mkF_some (A := A2) (level := L) (low := lo) (high := hi) (x := x) h (by omega) hlo2
            rcases h3 : mkF A2 L lo hi with ⟨r, A3⟩
            rw [h3] at m1 m2 m3
            cases r with
            | none => exact ⟨m1, (e1.trans e2).trans m2, s2.ext m2, fun x h => by cases h⟩
            | some x =>
              simp only at m1 m2 m3 ⊢
              obtain ⟨hx1, hx2⟩ := m3 x rfl
              have hall := (e1.trans e2).trans m2
              refine ⟨m1, hall, ?_, fun y h => by cases h; exact ⟨hx1, hx2⟩⟩
              intro f' g' x' h'
              unfold seeJ at h'
              split at h'
              · rename_i e
                cases e
                cases h'
                have := hall.len
                rw [hall.lv hf, hall.lv hg]
                exact ⟨by omega, by omega, hx1, by omega⟩
              · exact (s2.ext m2) f' g' x' h'

end Go.Proofs.Ytakgghhmecphmaa
