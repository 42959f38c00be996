/- Sets of headers as graphs, in plain lists and numbers: what the arena's functions come to. No program in sight. · Sets of headers as graphs, in plain lists and numbers: cuts, bits held. · Sets of headers as graphs, in plain lists and numbers: whole calls; a bit held. · How a set is made of ones ahead: the document's expressions as plain data: which may be. · What Make makes of expressions, in plain lists and numbers. -/
namespace Go.Proofs.YtjoblahedgpgbaaGreat
set_option linter.unusedVariables false
set_option linter.unusedSimpArgs false

structure Nd where
  level : Nat
  low : Nat
  high : Nat
deriving DecidableEq

/-- An arena: its nodes, False and True ahead, and how many it may have. -/
structure Arn where
  nodes : List Nd
  most : Nat

/-- Where a node stands, behind the first two. -/
def findF (ns : List Nd) (x : Nd) : Option Nat := ((ns.drop 2).findIdx? (· == x)).map (· + 2)

/-- The node of a bit and two parts. -/
def mkF (A : Arn) (level low high : Nat) : Option Nat × Arn :=
  if low = high then (some low, A) else
  match findF A.nodes ⟨level, low, high⟩ with
  | some i => (some i, A)
  | none => if A.most ≤ A.nodes.length then (none, A) else (some A.nodes.length, { A with nodes := A.nodes ++ [⟨level, low, high⟩] })

/-- What an arena's nodes are like. -/
structure Arn.OK (A : Arn) : Prop where
  two : 2 ≤ A.nodes.length
  len : A.nodes.length ≤ A.most
  most : A.most ≤ 262144
  zero : A.nodes[0]? = some ⟨104, 0, 0⟩
  one : A.nodes[1]? = some ⟨104, 0, 0⟩
  nodup : (A.nodes.drop 2).Nodup
  node : ∀ i n, 2 ≤ i → A.nodes[i]? = some n → n.level < 104 ∧ n.low < i ∧ n.high < i ∧ n.low ≠ n.high ∧
    (∀ m, A.nodes[n.low]? = some m → n.level < m.level) ∧ (∀ m, A.nodes[n.high]? = some m → n.level < m.level)

def Arn.nd (A : Arn) (f : Nat) : Nd := A.nodes.getD f ⟨104, 0, 0⟩
def Arn.lv (A : Arn) (f : Nat) : Nat := (A.nd f).level

theorem Arn.OK.lv_le {A : Arn} (h : A.OK) (f : Nat) : A.lv f ≤ 104 := by
  unfold Arn.lv Arn.nd
  rcases Nat.lt_or_ge f A.nodes.length with hf | hf
  · rw [List.getD_eq_getElem?_getD, List.getElem?_eq_getElem hf]
    match f, hf with
    | 0, hf => have := h.zero; rw [List.getElem?_eq_getElem hf] at this; simp at this; simp [this]
    | 1, hf => have := h.one; rw [List.getElem?_eq_getElem hf] at this; simp at this; simp [this]
    | f + 2, hf =>
      have := (h.node (f + 2) _ (by omega) (List.getElem?_eq_getElem hf)).1
      simp
      omega
  · simp [List.getD_eq_getElem?_getD, List.getElem?_eq_none hf]

theorem findF_some {ns : List Nd} {x : Nd} {i : Nat} (h : findF ns x = some i) : 2 ≤ i ∧ ns[i]? = some x := by
  unfold findF at h
  obtain ⟨j, hj, rfl⟩ := Option.map_eq_some_iff.1 h
  have := List.findIdx?_eq_some_iff_getElem.1 hj
  obtain ⟨hl, h1, _⟩ := this
  simp only [beq_iff_eq, List.getElem_drop] at h1
  refine ⟨by omega, ?_⟩
  simp at hl
  rw [List.getElem?_eq_getElem (by omega)]
  rw [← h1]
  congr 2
  omega

theorem findF_none {ns : List Nd} {x : Nd} (h : findF ns x = none) : x ∉ ns.drop 2 := by
  unfold findF at h
  simp only [Option.map_eq_none_iff, List.findIdx?_eq_none_iff] at h
  intro hm
  have := h x hm
  simp at this

theorem findF_of {ns : List Nd} {x : Nd} {i : Nat} (hn : (ns.drop 2).Nodup) (hi : 2 ≤ i) (h : ns[i]? = some x) : findF ns x = some i := by
  cases hf : findF ns x with
  | none =>
    refine absurd ?_ (findF_none hf)
    refine List.mem_of_getElem? (i := i - 2) ?_
    rw [List.getElem?_drop]
    rw [show 2 + (i - 2) = i by omega]
    exact h
  | some j =>
    obtain ⟨hj, h2⟩ := findF_some hf
    have e : (ns.drop 2)[i - 2]? = (ns.drop 2)[j - 2]? := by
      rw [List.getElem?_drop, List.getElem?_drop, show 2 + (i - 2) = i by omega, show 2 + (j - 2) = j by omega, h, h2]
    have hl : i - 2 < (ns.drop 2).length := by
      have := (List.getElem?_eq_some_iff.1 h).1
      simp
      omega
    have := (List.getElem?_inj hl hn).1 e
    congr 1
    omega

theorem findF_append {ns : List Nd} {x : Nd} (h2 : 2 ≤ ns.length) (hn : x ∉ ns.drop 2) (y : Nd) : findF (ns ++ [x]) y = if y = x then some ns.length else findF ns y := by
  unfold findF
  rw [List.drop_append_of_le_length h2, List.findIdx?_append]
  by_cases e : y = x
  · subst e
    rw [if_pos rfl]
    have : (ns.drop 2).findIdx? (· == y) = none := by
      rw [List.findIdx?_eq_none_iff]
      intro z hz
      simp only [beq_eq_false_iff_ne]
      rintro rfl
      exact hn hz
    rw [this]
    simp [List.findIdx?_cons]
    omega
  · rw [if_neg e]
    have : [x].findIdx? (· == y) = none := by
      rw [List.findIdx?_eq_none_iff]
      intro z hz
      simp only [beq_eq_false_iff_ne]
      rintro rfl
      simp at hz
      exact e hz
    rw [this]
    simp

theorem mkF_ok {A : Arn} (h : A.OK) {level low high : Nat} (hl : level < 104) (h0 : low < A.nodes.length) (h1 : high < A.nodes.length) (hlo : level < A.lv low) (hhi : level < A.lv high) : (mkF A level low high).2.OK := by
  unfold mkF
  split
  · exact h
  · rename_i hne
    split
    · exact h
    · rename_i hf
      split
      · exact h
      · rename_i hm
        have hx := findF_none hf
        have key : ∀ f, f < A.nodes.length → (A.nodes ++ [⟨level, low, high⟩])[f]? = A.nodes[f]? := fun f hf => by rw [List.getElem?_append_left hf]
        refine ⟨by simp; have := h.two; omega, by simp; omega, h.most, ?_, ?_, ?_, ?_⟩
        · rw [key 0 (by have := h.two; omega)]; exact h.zero
        · rw [key 1 (by have := h.two; omega)]; exact h.one
        · simp only
          rw [List.drop_append_of_le_length h.two]
          refine List.nodup_append.2 ⟨h.nodup, by simp, ?_⟩
          intro a ha b hb
          simp at hb
          subst hb
          rintro rfl
          exact hx ha
        · intro i n hi hn
          simp only at hn ⊢
          rcases Nat.lt_or_ge i A.nodes.length with hil | hil
          · rw [key i hil] at hn
            obtain ⟨a1, a2, a3, a4, a5, a6⟩ := h.node i n hi hn
            refine ⟨a1, a2, a3, a4, fun m hm => a5 m ?_, fun m hm => a6 m ?_⟩
            · rw [key _ (by omega)] at hm; exact hm
            · rw [key _ (by omega)] at hm; exact hm
          · have : i = A.nodes.length := by
              have := (List.getElem?_eq_some_iff.1 hn).1
              simp at this
              omega
            subst this
            simp at hn
            subst hn
            refine ⟨hl, h0, h1, hne, fun m hm => ?_, fun m hm => ?_⟩
            · rw [key _ h0] at hm
              unfold Arn.lv Arn.nd at hlo
              rw [List.getD_eq_getElem?_getD, hm] at hlo
              exact hlo
            · rw [key _ h1] at hm
              unfold Arn.lv Arn.nd at hhi
              rw [List.getD_eq_getElem?_getD, hm] at hhi
              exact hhi

/-- What two sets joined are, if that can be told at once (kinds: 0 and, 1 or, 2 one alone, 3 the first alone). -/
def shortF (k f g : Nat) : Option Nat :=
  if k = 0 then (if f = 0 ∨ g = 0 then some 0 else if f = 1 ∨ f = g then some g else if g = 1 then some f else none)
  else if k = 1 then (if f = 1 ∨ g = 1 then some 1 else if f = 0 ∨ f = g then some g else if g = 0 then some f else none)
  else if k = 2 then (if f = g then some 0 else if f = 0 then some g else if g = 0 then some f else none)
  else (if f = 0 ∨ g = 1 ∨ f = g then some 0 else if g = 0 then some f else none)

/-- Both parts of a set at a bit. -/
def partsF (A : Arn) (f level : Nat) : Nat × Nat := if (A.nd f).level = level then ((A.nd f).low, (A.nd f).high) else (f, f)

abbrev Seen := Nat × Nat → Option Nat
def seeJ (S : Seen) (f g x : Nat) : Seen := fun y => if y = (f, g) then some x else S y

/-- Two sets joined, part by part, in d rounds at most. -/
def joinF : Nat → Nat → Arn → Seen → Nat → Nat → Option Nat × Arn × Seen
  | 0, _, A, S, _, _ => (none, A, S)
  | d + 1, k, A, S, f, g =>
    match shortF k f g with
    | some x => (some x, A, S)
    | none =>
      match S (f, g) with
      | some x => (some x, A, S)
      | none =>
        match joinF d k A S (partsF A f (min (A.lv f) (A.lv g))).1 (partsF A g (min (A.lv f) (A.lv g))).1 with
        | (none, A1, S1) => (none, A1, S1)
        | (some lo, A1, S1) =>
          match joinF d k A1 S1 (partsF A f (min (A.lv f) (A.lv g))).2 (partsF A g (min (A.lv f) (A.lv g))).2 with
          | (none, A2, S2) => (none, A2, S2)
          | (some hi, A2, S2) =>
            match mkF A2 (min (A.lv f) (A.lv g)) lo hi with
            | (none, A3) => (none, A3, S2)
            | (some x, A3) => (some x, A3, seeJ S2 f g x)

/-- A' is A, nodes added behind. -/
structure Ext (A A' : Arn) : Prop where
  most : A'.most = A.most
  more : ∃ l, A'.nodes = A.nodes ++ l

theorem Ext.refl (A : Arn) : Ext A A := ⟨rfl, [], by simp⟩
theorem Ext.trans {A B C : Arn} (h : Ext A B) (k : Ext B C) : Ext A C := by
  obtain ⟨h1, l, h2⟩ := h
  obtain ⟨k1, m, k2⟩ := k
  exact ⟨k1.trans h1, l ++ m, by rw [k2, h2, List.append_assoc]⟩
theorem Ext.len {A B : Arn} (h : Ext A B) : A.nodes.length ≤ B.nodes.length := by
  obtain ⟨_, l, h2⟩ := h
  rw [h2]
  simp
theorem Ext.get {A B : Arn} (h : Ext A B) {f : Nat} (hf : f < A.nodes.length) : B.nodes[f]? = A.nodes[f]? := by
  obtain ⟨_, l, h2⟩ := h
  rw [h2, List.getElem?_append_left hf]
theorem Ext.nd {A B : Arn} (h : Ext A B) {f : Nat} (hf : f < A.nodes.length) : B.nd f = A.nd f := by
  unfold Arn.nd
  rw [List.getD_eq_getElem?_getD, List.getD_eq_getElem?_getD, h.get hf]
theorem Ext.lv {A B : Arn} (h : Ext A B) {f : Nat} (hf : f < A.nodes.length) : B.lv f = A.lv f := by
  unfold Arn.lv
  rw [h.nd hf]

theorem Arn.OK.lv_zero {A : Arn} (h : A.OK) : A.lv 0 = 104 := by
  unfold Arn.lv Arn.nd
  rw [List.getD_eq_getElem?_getD, h.zero]
  rfl
theorem Arn.OK.lv_one {A : Arn} (h : A.OK) : A.lv 1 = 104 := by
  unfold Arn.lv Arn.nd
  rw [List.getD_eq_getElem?_getD, h.one]
  rfl
theorem nd_get {A : Arn} {f : Nat} (hf : f < A.nodes.length) : A.nodes[f]? = some (A.nd f) := by
  simp [Arn.nd, List.getD_eq_getElem?_getD, List.getElem?_eq_getElem hf]
/-- What a node behind the first two is like. -/
theorem Arn.OK.at_ {A : Arn} (h : A.OK) {f : Nat} (hf : f < A.nodes.length) (h2 : 2 ≤ f) : A.lv f < 104 ∧ (A.nd f).low < f ∧ (A.nd f).high < f ∧ (A.nd f).low ≠ (A.nd f).high ∧ A.lv f < A.lv (A.nd f).low ∧ A.lv f < A.lv (A.nd f).high := by
  obtain ⟨a, b, c, d, e1, e2⟩ := h.node f _ h2 (nd_get hf)
  exact ⟨a, b, c, d, e1 _ (nd_get (by omega)), e2 _ (nd_get (by omega))⟩

theorem mkF_ext (A : Arn) (level low high : Nat) : Ext A (mkF A level low high).2 := by
  unfold mkF
  split
  · exact Ext.refl A
  · split
    · exact Ext.refl A
    · split
      · exact Ext.refl A
      · exact ⟨rfl, _, rfl⟩

/-- What mk answers is there, at its bit or behind it. -/
theorem mkF_some {A : Arn} {level low high x : Nat} (h : (mkF A level low high).1 = some x) (h0 : low < A.nodes.length) (hlo : level < A.lv low) : x < (mkF A level low high).2.nodes.length ∧ level ≤ (mkF A level low high).2.lv x := by
  by_cases e : low = high
  · have hk : mkF A level low high = (some low, A) := by simp [mkF, e]
    rw [hk] at h ⊢
    cases h
    exact ⟨h0, by simp only; omega⟩
  · cases hf : findF A.nodes ⟨level, low, high⟩ with
    | some i =>
      have hk : mkF A level low high = (some i, A) := by simp [mkF, e, hf]
      rw [hk] at h ⊢
      cases h
      obtain ⟨h2, hx⟩ := findF_some hf
      refine ⟨(List.getElem?_eq_some_iff.1 hx).1, ?_⟩
      unfold Arn.lv Arn.nd
      simp only
      rw [List.getD_eq_getElem?_getD, hx]
      simp
    | none =>
      by_cases hm : A.most ≤ A.nodes.length
      · have hk : mkF A level low high = (none, A) := by simp [mkF, e, hf, hm]
        rw [hk] at h
        cases h
      · have hk : mkF A level low high = (some A.nodes.length, { A with nodes := A.nodes ++ [⟨level, low, high⟩] }) := by simp [mkF, e, hf, hm]
        rw [hk] at h ⊢
        cases h
        refine ⟨by simp, ?_⟩
        unfold Arn.lv Arn.nd
        simp [List.getD_eq_getElem?_getD]

/-- What is seen is there, and its bit isn't ahead of the two's. -/
def SV (A : Arn) (S : Seen) : Prop := ∀ f g x, S (f, g) = some x → f < A.nodes.length ∧ g < A.nodes.length ∧ x < A.nodes.length ∧ min (A.lv f) (A.lv g) ≤ A.lv x
theorem SV.ext {A B : Arn} {S : Seen} (h : SV A S) (e : Ext A B) : SV B S := fun f g x hx => by
  obtain ⟨a, b, c, d⟩ := h f g x hx
  have := e.len
  rw [e.lv a, e.lv b, e.lv c]
  exact ⟨by omega, by omega, by omega, d⟩
theorem SV.none (A : Arn) : SV A (fun _ => none) := fun _ _ _ h => by cases h

theorem parts_ok {A : Arn} (h : A.OK) {f lv : Nat} (hf : f < A.nodes.length) (hlv : lv < 104) (hle : lv ≤ A.lv f) :
    (partsF A f lv).1 < A.nodes.length ∧ (partsF A f lv).2 < A.nodes.length ∧ lv < A.lv (partsF A f lv).1 ∧ lv < A.lv (partsF A f lv).2 := by
  unfold partsF
  split
  · rename_i e
    have h2 : 2 ≤ f := by
      rcases Nat.lt_or_ge f 2 with h' | h'
      · have hl : A.lv f = lv := e
        obtain rfl | rfl : f = 0 ∨ f = 1 := by omega
        · rw [h.lv_zero] at hl; omega
        · rw [h.lv_one] at hl; omega
      · exact h'
    obtain ⟨a, b, c, d, e1, e2⟩ := h.at_ hf h2
    have hl : A.lv f = lv := e
    rw [hl] at e1 e2
    exact ⟨by simp only; omega, by simp only; omega, e1, e2⟩
  · rename_i e
    have : A.lv f ≠ lv := e
    exact ⟨hf, hf, by simp only; omega, by simp only; omega⟩

theorem short_lt {k f g x n : Nat} (h : shortF k f g = some x) (hf : f < n) (hg : g < n) (hn : 2 ≤ n) : x < n := by
  unfold shortF at h
  repeat' split at h
  all_goals first | (cases h; omega) | cases h

theorem short_lv {A : Arn} (hA : A.OK) {k f g x : Nat} (h : shortF k f g = some x) : min (A.lv f) (A.lv g) ≤ A.lv x := by
  have h0 := hA.lv_zero
  have h1 := hA.lv_one
  have hf := hA.lv_le f
  have hg := hA.lv_le g
  unfold shortF at h
  repeat' split at h
  all_goals first | (cases h; omega) | cases h

theorem short_none {k f g : Nat} (h3 : k ≤ 3) (h : shortF k f g = none) : 2 ≤ f ∨ 2 ≤ g := by
  unfold shortF at h
  repeat' split at h
  all_goals first | omega | cases h

theorem min_lv {A : Arn} (hA : A.OK) {f g : Nat} (hf : f < A.nodes.length) (hg : g < A.nodes.length) (h : 2 ≤ f ∨ 2 ≤ g) : min (A.lv f) (A.lv g) < 104 := by
  rcases h with h | h
  · have := (hA.at_ hf h).1; omega
  · have := (hA.at_ hg h).1; omega

theorem joinF_ok (d : Nat) : ∀ (k : Nat) (A : Arn) (S : Seen) (f g : Nat), k ≤ 3 → A.OK → SV A S → f < A.nodes.length → g < A.nodes.length →
    (joinF d k A S f g).2.1.OK ∧ Ext A (joinF d k A S f g).2.1 ∧ SV (joinF d k A S f g).2.1 (joinF d k A S f g).2.2 ∧
    ∀ x, (joinF d k A S f g).1 = some x → x < (joinF d k A S f g).2.1.nodes.length ∧ min (A.lv f) (A.lv g) ≤ (joinF d k A S f g).2.1.lv x := by
  induction d with
  | zero =>
    intro k A S f g _ hA hS _ _
    exact ⟨hA, Ext.refl A, hS, fun x h => by cases h⟩
  | succ d ih =>
    intro k A S f g h3 hA hS hf hg
    unfold joinF
    cases hs : shortF k f g with
    | some x =>
      exact ⟨hA, Ext.refl A, hS, fun y h => by cases h; exact ⟨short_lt hs hf hg hA.two, short_lv hA hs⟩⟩
    | none =>
      cases hx : S (f, g) with
      | some x =>
        obtain ⟨a, b, c, e⟩ := hS f g x hx
        exact ⟨hA, Ext.refl A, hS, fun y h => by cases h; exact ⟨c, e⟩⟩
      | none =>
        have hlv := min_lv hA hf hg (short_none h3 hs)
        obtain ⟨f0, f1, lf0, lf1⟩ := parts_ok hA (lv := min (A.lv f) (A.lv g)) hf hlv (Nat.min_le_left _ _)
        obtain ⟨g0, g1, lg0, lg1⟩ := parts_ok hA (lv := min (A.lv f) (A.lv g)) hg hlv (Nat.min_le_right _ _)
        have hlf : A.lv f ≤ 104 := hA.lv_le f
        generalize hL : min (A.lv f) (A.lv g) = L at *
        generalize hF : partsF A f L = F at *
        generalize hG : partsF A g L = G at *
        simp only
        have i1 := ih k A S F.1 G.1 h3 hA hS f0 g0
        rcases h1 : joinF d k A S F.1 G.1 with ⟨r, A1, S1⟩
        rw [h1] at i1
        obtain ⟨o1, e1, s1, v1⟩ := i1
        cases r with
        | none => exact ⟨o1, e1, s1, fun x h => by cases h⟩
        | some lo =>
          simp only at o1 e1 s1 v1 ⊢
          obtain ⟨hlo, vlo⟩ := v1 lo rfl
          have hl1 := e1.len
          have i2 := ih k A1 S1 F.2 G.2 h3 o1 s1 (by omega) (by omega)
          rcases h2 : joinF d k A1 S1 F.2 G.2 with ⟨r, A2, S2⟩
          rw [h2] at i2
          obtain ⟨o2, e2, s2, v2⟩ := i2
          cases r with
          | none => exact ⟨o2, e1.trans e2, s2, fun x h => by cases h⟩
          | some hi =>
            simp only at o2 e2 s2 v2 ⊢
            obtain ⟨hhi, vhi⟩ := v2 hi rfl
            rw [e1.lv f1, e1.lv g1] at vhi
            have hlo2 : L < A2.lv lo := by rw [e2.lv hlo]; omega
            have hhi2 : L < A2.lv hi := by omega
            have hl2 := e2.len
            have m1 := mkF_ok o2 hlv (show lo < A2.nodes.length by omega) hhi hlo2 hhi2
            have m2 := mkF_ext A2 L lo hi
            have m3 := fun x h => mkF_some (A := A2) (level := L) (low := lo) (high := hi) (x := x) h (by omega) hlo2
            rcases h3 : mkF A2 L lo hi with ⟨r, A3⟩
            rw [h3] at m1 m2 m3
            cases r with
            | none => exact ⟨m1, (e1.trans e2).trans m2, s2.ext m2, fun x h => by cases h⟩
            | some x =>
              simp only at m1 m2 m3 ⊢
              obtain ⟨hx1, hx2⟩ := m3 x rfl
              have hall := (e1.trans e2).trans m2
              refine ⟨m1, hall, ?_, fun y h => by cases h; exact ⟨hx1, hx2⟩⟩
              intro f' g' x' h'
              unfold seeJ at h'
              split at h'
              · rename_i e
                cases e
                cases h'
                have := hall.len
                rw [hall.lv hf, hall.lv hg]
                exact ⟨by omega, by omega, hx1, by omega⟩
              · exact (s2.ext m2) f' g' x' h'


/-- All nodes from a number on are gone. -/
def cutF (A : Arn) (n : Nat) : Arn := { A with nodes := A.nodes.take (max n 2) }

theorem findF_take {ns : List Nd} {k : Nat} (hn : (ns.drop 2).Nodup) (h2 : 2 ≤ k) (x : Nd) (hk : ns[k]? = some x) (y : Nd) : findF (ns.take k) y = if y = x then none else findF (ns.take (k + 1)) y := by
  have hl : k < ns.length := (List.getElem?_eq_some_iff.1 hk).1
  have e : ns.take (k + 1) = ns.take k ++ [x] := by rw [List.take_add_one, hk]; rfl
  have hnot : x ∉ (ns.take k).drop 2 := by
    intro hm
    obtain ⟨i, hi⟩ := List.getElem?_of_mem hm
    rw [List.getElem?_drop, List.getElem?_take] at hi
    split at hi
    · have h1 : (ns.drop 2)[i]? = (ns.drop 2)[k - 2]? := by
        rw [List.getElem?_drop, List.getElem?_drop, hi, show 2 + (k - 2) = k by omega, hk]
      have := (List.getElem?_inj (by simp; omega) hn).1 h1
      omega
    · cases hi
  rw [e, findF_append (by simp; omega) hnot]
  by_cases hy : y = x
  · rw [if_pos hy]
    subst hy
    cases hf : findF (ns.take k) y with
    | none => rfl
    | some i =>
      obtain ⟨h2', hi⟩ := findF_some hf
      refine absurd ?_ hnot
      refine List.mem_of_getElem? (i := i - 2) ?_
      rw [List.getElem?_drop, show 2 + (i - 2) = i by omega]
      exact hi
  · rw [if_neg hy, if_neg hy]

theorem cutF_ok {A : Arn} (h : A.OK) (n : Nat) : (cutF A n).OK := by
  have key : ∀ i, i < max n 2 → (A.nodes.take (max n 2))[i]? = A.nodes[i]? := fun i hi => by rw [List.getElem?_take, if_pos hi]
  refine ⟨?_, ?_, h.most, ?_, ?_, ?_, ?_⟩
  · simp only [cutF, List.length_take]; have := h.two; omega
  · simp only [cutF, List.length_take]; have := h.len; omega
  · exact (key 0 (by omega)).trans h.zero
  · exact (key 1 (by omega)).trans h.one
  · simp only [cutF]
    rw [List.drop_take]
    exact (List.take_sublist _ _).nodup h.nodup
  · intro i m hi hm
    simp only [cutF, List.getElem?_take] at hm ⊢
    split at hm
    · rename_i hlt
      obtain ⟨a, b, c, d, e1, e2⟩ := h.node i m hi hm
      refine ⟨a, b, c, d, fun q hq => e1 q ?_, fun q hq => e2 q ?_⟩
      · rw [if_pos (by omega)] at hq; exact hq
      · rw [if_pos (by omega)] at hq; exact hq
    · cases hm

/-- The sets of a list of bits, the last bit first, joined one by one ahead of f. -/
def cubeGo (A : Arn) (f : Nat) : List (Nat × Bool) → Option Nat × Arn
  | [] => (some f, A)
  | (v, on) :: r =>
    match mkF A v (if on then 0 else f) (if on then f else 0) with
    | (none, A') => (none, A')
    | (some f', A') => cubeGo A' f' r

/-- What Cube answers: f, or no room and nothing new. -/
def cubeF (A : Arn) (l : List (Nat × Bool)) : Option Nat × Arn :=
  match cubeGo A 1 l.reverse with
  | (none, _) => (none, A)
  | (some f, A') => (some f, A')

/-- Bits that rise. -/
structure Rise (l : List (Nat × Bool)) : Prop where
  lt : ∀ x ∈ l, x.1 < 104
  up : l.Pairwise (fun a b => a.1 < b.1)

theorem mkF_step {A : Arn} (hA : A.OK) {f v : Nat} {on : Bool} (hf : f < A.nodes.length) (hv : v < 104) (hl : v < A.lv f) :
    (mkF A v (if on then 0 else f) (if on then f else 0)).2.OK ∧ Ext A (mkF A v (if on then 0 else f) (if on then f else 0)).2 ∧
    ∀ x, (mkF A v (if on then 0 else f) (if on then f else 0)).1 = some x → x < (mkF A v (if on then 0 else f) (if on then f else 0)).2.nodes.length ∧ v ≤ (mkF A v (if on then 0 else f) (if on then f else 0)).2.lv x := by
  have h0 := hA.lv_zero
  have h2 := hA.two
  cases on
  · exact ⟨mkF_ok hA hv hf (by simp; omega) hl (by simp [h0]; omega), mkF_ext _ _ _ _, fun x hx => mkF_some hx hf hl⟩
  · exact ⟨mkF_ok hA hv (by simp; omega) hf (by simp [h0]; omega) hl, mkF_ext _ _ _ _, fun x hx => mkF_some hx (by simp; omega) (by simp [h0]; omega)⟩

theorem cubeGo_ok : ∀ (l : List (Nat × Bool)) (A : Arn) (f : Nat), A.OK → f < A.nodes.length → (∀ x ∈ l, x.1 < 104) → l.Pairwise (fun a b => b.1 < a.1) → (∀ x ∈ l, x.1 < A.lv f) →
    (cubeGo A f l).2.OK ∧ Ext A (cubeGo A f l).2 ∧ ∀ x, (cubeGo A f l).1 = some x → x < (cubeGo A f l).2.nodes.length
  | [], A, f, hA, hf, _, _, _ => ⟨hA, Ext.refl A, fun x h => by cases h; exact hf⟩
  | (v, on) :: r, A, f, hA, hf, hlt, hp, hl => by
    obtain ⟨m1, m2, m3⟩ := mkF_step (on := on) hA hf (hlt (v, on) (by simp)) (hl (v, on) (by simp))
    unfold cubeGo
    rcases hm : mkF A v (if on then 0 else f) (if on then f else 0) with ⟨x, A'⟩
    rw [hm] at m1 m2 m3
    cases x with
    | none => exact ⟨m1, m2, fun x h => by cases h⟩
    | some f' =>
      simp only at m1 m2 m3 ⊢
      obtain ⟨h1, h2⟩ := m3 f' rfl
      obtain ⟨p1, p2⟩ := List.pairwise_cons.1 hp
      obtain ⟨a, b, c⟩ := cubeGo_ok r A' f' m1 h1 (fun x hx => hlt x (by simp [hx])) p2 (fun x hx => by have := p1 x hx; simp only at this; omega)
      exact ⟨a, m2.trans b, c⟩

theorem Ext.cut {A B : Arn} (h : Ext A B) (h2 : 2 ≤ A.nodes.length) : ({ B with nodes := B.nodes.take A.nodes.length } : Arn) = A := by
  obtain ⟨h1, l, e⟩ := h
  cases A; cases B
  simp at h1 e ⊢
  exact ⟨by rw [e]; simp, h1⟩


/-- Join: the set, or no room and nothing new. -/
def joinA (A : Arn) (k f g : Nat) : Option Nat × Arn :=
  match joinF 106 k A (fun _ => none) f g with
  | (none, _, _) => (none, A)
  | (some x, A', _) => (some x, A')

theorem joinA_ok {A : Arn} (hA : A.OK) {k f g : Nat} (h3 : k ≤ 3) (hf : f < A.nodes.length) (hg : g < A.nodes.length) :
    (joinA A k f g).2.OK ∧ Ext A (joinA A k f g).2 ∧ ∀ x, (joinA A k f g).1 = some x → x < (joinA A k f g).2.nodes.length := by
  have h := joinF_ok 106 k A (fun _ => none) f g h3 hA (SV.none A) hf hg
  unfold joinA
  rcases e : joinF 106 k A (fun _ => none) f g with ⟨r, A', S'⟩
  rw [e] at h
  obtain ⟨a, b, _, d⟩ := h
  cases r with
  | none => exact ⟨hA, Ext.refl A, fun x h => by cases h⟩
  | some y => exact ⟨a, b, fun x h => by cases h; exact (d y rfl).1⟩

/-- Ite: three joins, or no room and nothing new. -/
def iteA (A : Arn) (f g h : Nat) : Option Nat × Arn :=
  match joinA A 0 f g with
  | (none, _) => (none, A)
  | (some x, A1) =>
    match joinA A1 3 h f with
    | (none, _) => (none, A)
    | (some y, A2) =>
      match joinA A2 1 x y with
      | (none, _) => (none, A)
      | (some z, A3) => (some z, A3)

theorem iteA_ok {A : Arn} (hA : A.OK) {f g h : Nat} (hf : f < A.nodes.length) (hg : g < A.nodes.length) (hh : h < A.nodes.length) :
    (iteA A f g h).2.OK ∧ Ext A (iteA A f g h).2 ∧ ∀ x, (iteA A f g h).1 = some x → x < (iteA A f g h).2.nodes.length := by
  unfold iteA
  have j1 := joinA_ok hA (k := 0) (by omega) hf hg
  rcases e1 : joinA A 0 f g with ⟨r, A1⟩
  rw [e1] at j1
  obtain ⟨a1, b1, c1⟩ := j1
  cases r with
  | none => exact ⟨hA, Ext.refl A, fun x h => by cases h⟩
  | some x =>
    simp only at a1 b1 c1 ⊢
    have l1 := b1.len
    have j2 := joinA_ok a1 (k := 3) (f := h) (g := f) (by omega) (by omega) (by omega)
    rcases e2 : joinA A1 3 h f with ⟨r, A2⟩
    rw [e2] at j2
    obtain ⟨a2, b2, c2⟩ := j2
    cases r with
    | none => exact ⟨hA, Ext.refl A, fun x h => by cases h⟩
    | some y =>
      simp only at a2 b2 c2 ⊢
      have l2 := b2.len
      have hx := c1 x rfl
      have j3 := joinA_ok a2 (k := 1) (f := x) (g := y) (by omega) (by omega) (c2 y rfl)
      rcases e3 : joinA A2 1 x y with ⟨r, A3⟩
      rw [e3] at j3
      obtain ⟨a3, b3, c3⟩ := j3
      cases r with
      | none => exact ⟨hA, Ext.refl A, fun x h => by cases h⟩
      | some z => exact ⟨a3, (b1.trans b2).trans b3, c3⟩

abbrev SeenL := Nat → Option Nat
def seeL (S : SeenL) (f x : Nat) : SeenL := fun y => if y = f then some x else S y
def SVL (A : Arn) (S : SeenL) : Prop := ∀ f x, S f = some x → f < A.nodes.length ∧ x < A.nodes.length ∧ A.lv f ≤ A.lv x
theorem SVL.ext {A B : Arn} {S : SeenL} (h : SVL A S) (e : Ext A B) : SVL B S := fun f x hx => by
  obtain ⟨a, b, c⟩ := h f x hx
  have := e.len
  rw [e.lv a, e.lv b]
  exact ⟨by omega, by omega, c⟩
theorem SVL.none (A : Arn) : SVL A (fun _ => none) := fun _ _ h => by cases h

/-- A set with a bit held, in d rounds at most. -/
def limitF : Nat → Arn → SeenL → Nat → Nat → Bool → Option Nat × Arn × SeenL
  | 0, A, S, _, _, _ => (none, A, S)
  | d + 1, A, S, f, i, on =>
    if i < (A.nd f).level then (some f, A, S) else
    if (A.nd f).level = i then (some (if on then (A.nd f).high else (A.nd f).low), A, S) else
    match S f with
    | some x => (some x, A, S)
    | none =>
      match limitF d A S (A.nd f).low i on with
      | (none, A1, S1) => (none, A1, S1)
      | (some lo, A1, S1) =>
        match limitF d A1 S1 (A.nd f).high i on with
        | (none, A2, S2) => (none, A2, S2)
        | (some hi, A2, S2) =>
          match mkF A2 (A.nd f).level lo hi with
          | (none, A3) => (none, A3, S2)
          | (some x, A3) => (some x, A3, seeL S2 f x)

theorem two_of_lv {A : Arn} (hA : A.OK) {f : Nat} (h : A.lv f < 104) : 2 ≤ f := by
  rcases Nat.lt_or_ge f 2 with h' | h'
  · obtain rfl | rfl : f = 0 ∨ f = 1 := by omega
    · rw [hA.lv_zero] at h; omega
    · rw [hA.lv_one] at h; omega
  · exact h'

theorem limitF_ok (d : Nat) : ∀ (A : Arn) (S : SeenL) (f i : Nat) (on : Bool), A.OK → SVL A S → f < A.nodes.length → i < 104 →
    (limitF d A S f i on).2.1.OK ∧ Ext A (limitF d A S f i on).2.1 ∧ SVL (limitF d A S f i on).2.1 (limitF d A S f i on).2.2 ∧
    ∀ x, (limitF d A S f i on).1 = some x → x < (limitF d A S f i on).2.1.nodes.length ∧ A.lv f ≤ (limitF d A S f i on).2.1.lv x := by
  induction d with
  | zero =>
    intro A S f i on hA hS _ _
    exact ⟨hA, Ext.refl A, hS, fun x h => by cases h⟩
  | succ d ih =>
    intro A S f i on hA hS hf hi
    unfold limitF
    have hlvdef : (A.nd f).level = A.lv f := rfl
    rw [hlvdef]
    by_cases h1 : i < A.lv f
    · rw [if_pos h1]
      exact ⟨hA, Ext.refl A, hS, fun x h => by cases h; exact ⟨hf, Nat.le_refl _⟩⟩
    · rw [if_neg h1]
      have h2 := two_of_lv hA (f := f) (by omega)
      obtain ⟨a, b, c, e, g1, g2⟩ := hA.at_ hf h2
      by_cases h3 : A.lv f = i
      · rw [if_pos h3]
        refine ⟨hA, Ext.refl A, hS, fun x h => ?_⟩
        cases h
        cases on
        · exact ⟨by simp; omega, by simp; omega⟩
        · exact ⟨by simp; omega, by simp; omega⟩
      · rw [if_neg h3]
        cases hx : S f with
        | some x =>
          obtain ⟨p, q, r⟩ := hS f x hx
          exact ⟨hA, Ext.refl A, hS, fun y h => by cases h; exact ⟨q, r⟩⟩
        | none =>
          simp only
          have i1 := ih A S (A.nd f).low i on hA hS (by omega) hi
          rcases e1 : limitF d A S (A.nd f).low i on with ⟨r, A1, S1⟩
          rw [e1] at i1
          obtain ⟨o1, x1, s1, v1⟩ := i1
          cases r with
          | none => exact ⟨o1, x1, s1, fun x h => by cases h⟩
          | some lo =>
            simp only at o1 x1 s1 v1 ⊢
            obtain ⟨hlo, vlo⟩ := v1 lo rfl
            have hl1 := x1.len
            have i2 := ih A1 S1 (A.nd f).high i on o1 s1 (by omega) hi
            rcases e2 : limitF d A1 S1 (A.nd f).high i on with ⟨r, A2, S2⟩
            rw [e2] at i2
            obtain ⟨o2, x2, s2, v2⟩ := i2
            cases r with
            | none => exact ⟨o2, x1.trans x2, s2, fun x h => by cases h⟩
            | some hi' =>
              simp only at o2 x2 s2 v2 ⊢
              obtain ⟨hhi, vhi⟩ := v2 hi' rfl
              rw [x1.lv (show (A.nd f).high < A.nodes.length by omega)] at vhi
              have hlo2 : A.lv f < A2.lv lo := by rw [x2.lv hlo]; omega
              have hl2 := x2.len
              have m1 := mkF_ok o2 a (show lo < A2.nodes.length by omega) hhi hlo2 (by omega)
              have m2 := mkF_ext A2 (A.lv f) lo hi'
              have m3 := fun x h => mkF_some (A := A2) (level := A.lv f) (low := lo) (high := hi') (x := x) h (by omega) hlo2
              rcases e3 : mkF A2 (A.lv f) lo hi' with ⟨r, A3⟩
              rw [e3] at m1 m2 m3
              cases r with
              | none => exact ⟨m1, (x1.trans x2).trans m2, s2.ext m2, fun x h => by cases h⟩
              | some x =>
                simp only at m1 m2 m3 ⊢
                obtain ⟨hx1, hx2⟩ := m3 x rfl
                have hall := (x1.trans x2).trans m2
                refine ⟨m1, hall, ?_, fun y h => by cases h; exact ⟨hx1, hx2⟩⟩
                intro f' x' h'
                unfold seeL at h'
                split at h'
                · rename_i e
                  subst e
                  cases h'
                  have := hall.len
                  rw [hall.lv hf]
                  exact ⟨by omega, hx1, hx2⟩
                · exact (s2.ext m2) f' x' h'

/-- Restrict: the set, or no room and nothing new. -/
def restrictA (A : Arn) (f i : Nat) (on : Bool) : Option Nat × Arn :=
  match limitF 106 A (fun _ => none) f i on with
  | (none, _, _) => (none, A)
  | (some x, A', _) => (some x, A')

theorem restrictA_ok {A : Arn} (hA : A.OK) {f i : Nat} {on : Bool} (hf : f < A.nodes.length) (hi : i < 104) :
    (restrictA A f i on).2.OK ∧ Ext A (restrictA A f i on).2 ∧ ∀ x, (restrictA A f i on).1 = some x → x < (restrictA A f i on).2.nodes.length := by
  have h := limitF_ok 106 A (fun _ => none) f i on hA (SVL.none A) hf hi
  unfold restrictA
  rcases e : limitF 106 A (fun _ => none) f i on with ⟨r, A', S'⟩
  rw [e] at h
  obtain ⟨a, b, _, d⟩ := h
  cases r with
  | none => exact ⟨hA, Ext.refl A, fun x h => by cases h⟩
  | some y => exact ⟨a, b, fun x h => by cases h; exact (d y rfl).1⟩


structure Ex where
  kind : Int
  a : Int
  b : Int
  c : Int
  var : Int
  on : Bool

def exZ : Ex := ⟨0, 0, 0, 0, 0, false⟩

/-- Different ones of a list, in the order in which they come. -/
def dset (l : List Int) : List Int := l.foldl (fun s x => if x ∈ s then s else s ++ [x]) []
theorem dset_snoc (l : List Int) (x : Int) : dset (l ++ [x]) = if x ∈ dset l then dset l else dset l ++ [x] := by
  unfold dset
  rw [List.foldl_append]
  rfl
theorem mem_dset (l : List Int) (x : Int) : x ∈ dset l ↔ x ∈ l := by
  have key : ∀ (l s : List Int), x ∈ l.foldl (fun s x => if x ∈ s then s else s ++ [x]) s ↔ x ∈ s ∨ x ∈ l := by
    intro l
    induction l with
    | nil => simp
    | cons y l ih =>
      intro s
      rw [List.foldl_cons, ih]
      split
      · rename_i h
        simp only [List.mem_cons]
        constructor
        · rintro (h1 | h1)
          · exact Or.inl h1
          · exact Or.inr (Or.inr h1)
        · rintro (h1 | rfl | h1)
          · exact Or.inl h1
          · exact Or.inl h
          · exact Or.inr h1
      · simp only [List.mem_append, List.mem_cons, List.mem_singleton, List.not_mem_nil, or_false, or_assoc]
  have := key l []
  simpa [dset] using this

def isVar (x : Ex) : Bool := x.kind == 2
def varsOf (l : List Ex) : List Int := (l.filter isVar).map (·.var)
theorem varsOf_snoc (l : List Ex) (x : Ex) : varsOf (l ++ [x]) = varsOf l ++ if x.kind = 2 then [x.var] else [] := by
  unfold varsOf
  rw [List.filter_append, List.map_append]
  by_cases h : x.kind = 2
  · simp [isVar, h]
  · simp [isVar, h]

/-- An expression that may not be at place i. -/
def BadE (x : Ex) (i : Nat) : Prop := x.kind < 0 ∨ 9 < x.kind ∨ (3 ≤ x.kind ∧ (x.a < 0 ∨ (i : Int) ≤ x.a ∨ x.b < 0 ∨ (i : Int) ≤ x.b ∨ x.c < 0 ∨ (i : Int) ≤ x.c)) ∨ x.var < 0 ∨ 104 ≤ x.var
def heldN (l : List Ex) : Nat := (l.filter fun x => x.kind == 8).length
def RightP (l : List Ex) : Prop := (∀ i x, l[i]? = some x → ¬ BadE x i) ∧ heldN l ≤ 4
def LightP (l : List Ex) : Prop := l.length ≤ 60 ∧ (dset (varsOf l)).length ≤ 10 ∧ RightP l

theorem heldN_snoc (l : List Ex) (x : Ex) : heldN (l ++ [x]) = heldN l + if x.kind = 8 then 1 else 0 := by
  unfold heldN
  rw [List.filter_append, List.length_append]
  by_cases h : x.kind = 8
  · simp [h]
  · simp [h]
theorem heldN_le (l : List Ex) : heldN l ≤ l.length := List.length_filter_le _ _


/-- One expression's set, of ones that are there. -/
def stepE (A : Arn) (out : List Nat) (x : Ex) : Option Nat × Arn :=
  if x.kind = 0 then (some 0, A)
  else if x.kind = 1 then (some 1, A)
  else if x.kind = 2 then cubeF A [(x.var.toNat, x.on)]
  else if x.kind = 7 then joinA A 3 1 (out.getD x.a.toNat 0)
  else if x.kind = 8 then restrictA A (out.getD x.a.toNat 0) x.var.toNat x.on
  else if x.kind = 9 then iteA A (out.getD x.a.toNat 0) (out.getD x.b.toNat 0) (out.getD x.c.toNat 0)
  else joinA A (x.kind.toNat - 3) (out.getD x.a.toNat 0) (out.getD x.b.toNat 0)

theorem stepE_2 (A : Arn) (out : List Nat) (a b c v : Int) (o : Bool) : stepE A out ⟨2, a, b, c, v, o⟩ = cubeF A [(v.toNat, o)] := by simp [stepE]
theorem stepE_3 (A : Arn) (out : List Nat) (a b c v : Int) (o : Bool) : stepE A out ⟨3, a, b, c, v, o⟩ = joinA A 0 (out.getD a.toNat 0) (out.getD b.toNat 0) := by simp [stepE]
theorem stepE_4 (A : Arn) (out : List Nat) (a b c v : Int) (o : Bool) : stepE A out ⟨4, a, b, c, v, o⟩ = joinA A 1 (out.getD a.toNat 0) (out.getD b.toNat 0) := by simp [stepE]
theorem stepE_5 (A : Arn) (out : List Nat) (a b c v : Int) (o : Bool) : stepE A out ⟨5, a, b, c, v, o⟩ = joinA A 2 (out.getD a.toNat 0) (out.getD b.toNat 0) := by simp [stepE]
theorem stepE_6 (A : Arn) (out : List Nat) (a b c v : Int) (o : Bool) : stepE A out ⟨6, a, b, c, v, o⟩ = joinA A 3 (out.getD a.toNat 0) (out.getD b.toNat 0) := by simp [stepE]
theorem stepE_7 (A : Arn) (out : List Nat) (a b c v : Int) (o : Bool) : stepE A out ⟨7, a, b, c, v, o⟩ = joinA A 3 1 (out.getD a.toNat 0) := by simp [stepE]
theorem stepE_8 (A : Arn) (out : List Nat) (a b c v : Int) (o : Bool) : stepE A out ⟨8, a, b, c, v, o⟩ = restrictA A (out.getD a.toNat 0) v.toNat o := by simp [stepE]
theorem stepE_9 (A : Arn) (out : List Nat) (a b c v : Int) (o : Bool) : stepE A out ⟨9, a, b, c, v, o⟩ = iteA A (out.getD a.toNat 0) (out.getD b.toNat 0) (out.getD c.toNat 0) := by simp [stepE]

/-- The sets of expressions, one behind the other; whether there was room for all. -/
def makeGo : Arn → List Nat → List Ex → List Nat × Bool × Arn
  | A, out, [] => (out, true, A)
  | A, out, x :: r =>
    match stepE A out x with
    | (none, A') => (out, false, A')
    | (some f, A') => makeGo A' (out ++ [f]) r

theorem cubeF_ok {A : Arn} (hA : A.OK) {l : List (Nat × Bool)} (hR : Rise l) :
    (cubeF A l).2.OK ∧ Ext A (cubeF A l).2 ∧ (∀ x, (cubeF A l).1 = some x → x < (cubeF A l).2.nodes.length) ∧ ((cubeF A l).1 = none → (cubeF A l).2 = A) := by
  have h := cubeGo_ok l.reverse A 1 hA (by have := hA.two; omega) (fun x hx => hR.lt x (by simpa using hx)) (List.pairwise_reverse.2 hR.up) (fun x hx => by rw [hA.lv_one]; exact hR.lt x (by simpa using hx))
  unfold cubeF
  rcases e : cubeGo A 1 l.reverse with ⟨r, A'⟩
  rw [e] at h
  obtain ⟨a, b, c⟩ := h
  cases r with
  | none => exact ⟨hA, Ext.refl A, fun x h => (by cases h), fun _ => rfl⟩
  | some f => exact ⟨a, b, c, fun h => (by cases h)⟩

theorem rise_one {v : Nat} (h : v < 104) (on : Bool) : Rise [(v, on)] := ⟨by simpa using h, by simp⟩

theorem getD_lt {out : List Nat} {n : Nat} (h : ∀ f ∈ out, f < n) (hn : 0 < n) (i : Nat) : out.getD i 0 < n := by
  rw [List.getD_eq_getElem?_getD]
  cases e : out[i]? with
  | none => simpa using hn
  | some f => simpa using h f (List.mem_of_getElem? e)

theorem stepE_ok {A : Arn} (hA : A.OK) {out : List Nat} (ho : ∀ f ∈ out, f < A.nodes.length) {x : Ex} {i : Nat} (hx : ¬ BadE x i) :
    (stepE A out x).2.OK ∧ Ext A (stepE A out x).2 ∧ ∀ f, (stepE A out x).1 = some f → f < (stepE A out x).2.nodes.length := by
  have h2 := hA.two
  have hg := getD_lt ho (by omega)
  unfold BadE at hx
  unfold stepE
  split
  · exact ⟨hA, Ext.refl A, fun f h => by cases h; simp only; omega⟩
  split
  · exact ⟨hA, Ext.refl A, fun f h => by cases h; simp only; omega⟩
  split
  · obtain ⟨a, b, c, _⟩ := cubeF_ok hA (rise_one (v := x.var.toNat) (by omega) x.on)
    exact ⟨a, b, c⟩
  split
  · exact joinA_ok hA (by omega) (by omega) (hg _)
  split
  · exact restrictA_ok hA (hg _) (by omega)
  split
  · exact iteA_ok hA (hg _) (hg _) (hg _)
  · exact joinA_ok hA (by omega) (hg _) (hg _)

theorem makeGo_ok : ∀ (l : List Ex) (A : Arn) (out : List Nat) (k : Nat), A.OK → (∀ f ∈ out, f < A.nodes.length) → (∀ i x, l[i]? = some x → ¬ BadE x (k + i)) →
    (makeGo A out l).2.2.OK ∧ Ext A (makeGo A out l).2.2 ∧ (∀ f ∈ (makeGo A out l).1, f < (makeGo A out l).2.2.nodes.length) ∧ (makeGo A out l).1.length ≤ out.length + l.length ∧ ((makeGo A out l).2.1 = true → (makeGo A out l).1.length = out.length + l.length)
  | [], A, out, k, hA, ho, _ => ⟨hA, Ext.refl A, ho, by simp [makeGo], by simp [makeGo]⟩
  | x :: r, A, out, k, hA, ho, hb => by
    obtain ⟨a, b, c⟩ := stepE_ok hA ho (hb 0 x rfl)
    unfold makeGo
    rcases e : stepE A out x with ⟨q, A'⟩
    rw [e] at a b c
    cases q with
    | none => exact ⟨a, b, fun f hf => Nat.lt_of_lt_of_le (ho f hf) b.len, by simp, by simp⟩
    | some f =>
      simp only at a b c ⊢
      obtain ⟨p1, p2, p3, p4, p5⟩ := makeGo_ok r A' (out ++ [f]) (k + 1) a (fun g hg => by
        rcases List.mem_append.1 hg with h | h
        · exact Nat.lt_of_lt_of_le (ho g h) b.len
        · obtain rfl : g = f := by simpa using h
          exact c g rfl) (fun i y hy => by have := hb (i + 1) y (by simpa using hy); rw [show k + 1 + i = k + (i + 1) by omega]; exact this)
      refine ⟨p1, b.trans p2, p3, ?_, ?_⟩
      · simp at p4 ⊢; omega
      · intro h
        have := p5 h
        simp at this ⊢
        omega

end Go.Proofs.YtjoblahedgpgbaaGreat
