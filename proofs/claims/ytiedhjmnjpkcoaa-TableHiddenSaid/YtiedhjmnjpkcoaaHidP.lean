/- Prefixes taken out of prefixes: plain. -/
import Derived.Test.YtiedhjmnjpkcoaaMeetP
namespace Go.Proofs.Ytiedhjmnjpkcoaa
set_option linter.unusedVariables false
set_option linter.unusedSimpArgs false
open Go.RowKit

structure Pn where
  a : Nat
  n : Nat
def Pn.Ok (q : Pn) : Prop := q.a < 2 ^ 32 ∧ q.n ≤ 32 ∧ q.a % 2 ^ (32 - q.n) = 0
def Pn.has (q : Pn) (x : Nat) : Bool := hasN q.a q.n x
def meets (p q : Pn) : Bool := meetN p.a p.n q.a q.n
/-- Is p within q? -/
def within (p q : Pn) : Bool := decide (q.n ≤ p.n) && q.has p.a
def Pn.low (q : Pn) : Pn := ⟨q.a, q.n + 1⟩
def Pn.high (q : Pn) : Pn := ⟨q.a ||| 2 ^ (31 - q.n), q.n + 1⟩
/-- q without p. -/
def lessQ (p : Pn) : Nat → Pn → List Pn
  | 0, q => if meets p q then [] else [q]
  | d + 1, q => if meets p q && !within q p then (if meets q.low p then q.high :: lessQ p d q.low else q.low :: lessQ p d q.high) else (if meets p q then [] else [q])
def lessL (p : Pn) (l : List Pn) : List Pn := l.flatMap fun q => lessQ p (32 - q.n) q

theorem Pn.has_iff {q : Pn} {x : Nat} : q.has x = true ↔ x / 2 ^ (32 - q.n) = q.a / 2 ^ (32 - q.n) := by unfold Pn.has hasN; exact beq_iff_eq
theorem Pn.has_self (q : Pn) : q.has q.a = true := Pn.has_iff.2 rfl
theorem within_iff {p q : Pn} : within p q = true ↔ q.n ≤ p.n ∧ q.has p.a = true := by unfold within; simp
theorem meets_iff {p q : Pn} : meets p q = true ↔ within p q = true ∨ within q p = true := by unfold meets meetN within Pn.has; simp

theorem div_up {x y i j : Nat} (h : x / 2 ^ i = y / 2 ^ i) (hij : i ≤ j) : x / 2 ^ j = y / 2 ^ j := by
  rw [show 2 ^ j = 2 ^ i * 2 ^ (j - i) by rw [← Nat.pow_add]; congr 1; omega, ← Nat.div_div_eq_div_mul, ← Nat.div_div_eq_div_mul, h]

theorem within_has {p q : Pn} {x : Nat} (h : within p q = true) (hx : p.has x = true) : q.has x = true := by
  obtain ⟨h1, h2⟩ := within_iff.1 h
  rw [Pn.has_iff] at *
  exact (div_up hx (by omega)).trans h2

theorem share_meets {p q : Pn} {x : Nat} (hp : p.has x = true) (hq : q.has x = true) : meets p q = true := by
  rw [meets_iff, within_iff, within_iff]
  rw [Pn.has_iff] at hp hq
  rcases Nat.le_total q.n p.n with h | h
  · refine Or.inl ⟨h, Pn.has_iff.2 ?_⟩
    exact (div_up hp.symm (by omega)).trans hq
  · refine Or.inr ⟨h, Pn.has_iff.2 ?_⟩
    exact (div_up hq.symm (by omega)).trans hp

/-- p lies within q, and is less. -/
theorem strict_iff {p q : Pn} (hp : p.Ok) (hq : q.Ok) (h : (meets p q && !within q p) = true) : q.n < p.n ∧ q.has p.a = true := by
  rw [Bool.and_eq_true, meets_iff] at h
  obtain ⟨h1, h2⟩ := h
  have h2 : within q p = false := by simpa using h2
  rcases h1 with h1 | h1
  · obtain ⟨h3, h4⟩ := within_iff.1 h1
    refine ⟨?_, h4⟩
    rcases Nat.lt_or_eq_of_le h3 with h5 | h5
    · exact h5
    · exfalso
      have : within q p = true := within_iff.2 ⟨by omega, by
        rw [Pn.has_iff] at *
        rw [← h5]
        exact h4.symm⟩
      rw [this] at h2
      cases h2
  · rw [h1] at h2
    cases h2

theorem Pn.Ok.mul {q : Pn} (h : q.Ok) (hn : q.n < 32) : ∃ c, q.a = c * 2 ^ (31 - q.n) * 2 ∧ q.a ||| 2 ^ (31 - q.n) = (2 * c + 1) * 2 ^ (31 - q.n) := by
  obtain ⟨h1, h2, h3⟩ := h
  have e : 2 ^ (32 - q.n) = 2 ^ (31 - q.n) * 2 := by rw [← Nat.pow_succ]; congr 1; omega
  obtain ⟨c, hc⟩ := Nat.dvd_of_mod_eq_zero h3
  refine ⟨c, by rw [hc, e]; ac_rfl, ?_⟩
  have hl : 2 ^ (31 - q.n) < 2 ^ (32 - q.n) := by rw [e]; have := Nat.two_pow_pos (31 - q.n); omega
  have h4 := Nat.two_pow_add_eq_or_of_lt hl c
  rw [hc, ← h4, e]
  generalize 2 ^ (31 - q.n) = z
  rw [Nat.add_mul, Nat.one_mul]
  congr 1
  ac_rfl

theorem half_has {q : Pn} (h : q.Ok) (hn : q.n < 32) (x : Nat) : (q.has x = true ↔ q.low.has x = true ∨ q.high.has x = true) ∧ ¬ (q.low.has x = true ∧ q.high.has x = true) := by
  obtain ⟨c, h1, h2⟩ := h.mul hn
  have hz := Nat.two_pow_pos (31 - q.n)
  have e : 2 ^ (32 - q.n) = 2 ^ (31 - q.n) * 2 := by rw [← Nat.pow_succ]; congr 1; omega
  have a0 : q.has x = true ↔ x / 2 ^ (31 - q.n) / 2 = c := by
    rw [Pn.has_iff, e, ← Nat.div_div_eq_div_mul, ← Nat.div_div_eq_div_mul, h1]
    rw [show c * 2 ^ (31 - q.n) * 2 = (2 * c) * 2 ^ (31 - q.n) by ac_rfl, Nat.mul_div_cancel _ hz, Nat.mul_div_cancel_left _ (by omega)]
  have a1 : q.low.has x = true ↔ x / 2 ^ (31 - q.n) = 2 * c := by
    rw [Pn.has_iff]
    unfold Pn.low
    simp only
    rw [show 32 - (q.n + 1) = 31 - q.n by omega, h1, show c * 2 ^ (31 - q.n) * 2 = (2 * c) * 2 ^ (31 - q.n) by ac_rfl, Nat.mul_div_cancel _ hz]
  have a2 : q.high.has x = true ↔ x / 2 ^ (31 - q.n) = 2 * c + 1 := by
    rw [Pn.has_iff]
    unfold Pn.high
    simp only
    rw [show 32 - (q.n + 1) = 31 - q.n by omega, h2, Nat.mul_div_cancel _ hz]
  rw [a0, a1, a2]
  omega

theorem low_ok {q : Pn} (h : q.Ok) (hn : q.n < 32) : q.low.Ok := by
  obtain ⟨c, h1, _⟩ := h.mul hn
  refine ⟨h.1, by unfold Pn.low; simp only; omega, ?_⟩
  unfold Pn.low
  simp only
  rw [show 32 - (q.n + 1) = 31 - q.n by omega, h1, show c * 2 ^ (31 - q.n) * 2 = (2 * c) * 2 ^ (31 - q.n) by ac_rfl]
  exact Nat.mul_mod_left _ _
theorem high_ok {q : Pn} (h : q.Ok) (hn : q.n < 32) : q.high.Ok := by
  obtain ⟨c, h1, h2⟩ := h.mul hn
  refine ⟨Nat.or_lt_two_pow h.1 (Nat.pow_lt_pow_right (by omega) (by omega)), by unfold Pn.high; simp only; omega, ?_⟩
  unfold Pn.high
  simp only
  rw [show 32 - (q.n + 1) = 31 - q.n by omega, h2]
  exact Nat.mul_mod_left _ _

/-- A prefix at least as long that has an address in common lies within. -/
theorem meets_half {p q : Pn} (hp : p.Ok) (hn : q.n ≤ p.n) : meets q p = true ↔ q.has p.a = true := by
  rw [meets_iff, within_iff, within_iff]
  constructor
  · rintro (⟨h1, h2⟩ | ⟨h1, h2⟩)
    · have e : q.n = p.n := by omega
      rw [Pn.has_iff] at *
      rw [e]
      exact h2.symm
    · exact h2
  · exact fun h => Or.inr ⟨hn, h⟩

theorem lessQ_count {p : Pn} (hp : p.Ok) (x : Nat) : ∀ d q, q.Ok → q.n + d = 32 → (lessQ p d q).countP (·.has x) = if (q.has x && !p.has x) = true then 1 else 0 := by
  have base : ∀ q : Pn, (meets p q && !within q p) = false → (if meets p q = true then [] else [q]).countP (·.has x) = if (q.has x && !p.has x) = true then 1 else 0 := by
    intro q hs
    cases hm : meets p q with
    | true =>
      rw [hm] at hs
      have hw : within q p = true := by simpa using hs
      rw [if_pos rfl, if_neg]
      · rfl
      · rw [Bool.and_eq_true]
        rintro ⟨h1, h2⟩
        rw [within_has hw h1] at h2
        cases h2
    | false =>
      rw [if_neg (by simp), List.countP_singleton]
      cases hq : q.has x with
      | false => simp
      | true =>
        cases hpx : p.has x with
        | false => simp
        | true =>
          rw [share_meets hpx hq] at hm
          cases hm
  intro d
  induction d with
  | zero =>
    intro q hq hn
    refine base q ?_
    cases hs : (meets p q && !within q p) with
    | false => rfl
    | true =>
      have := (strict_iff hp hq hs).1
      have := hp.2.1
      omega
  | succ d ih =>
    intro q hq hn
    unfold lessQ
    cases hs : (meets p q && !within q p) with
    | false =>
      rw [if_neg (by simp)]
      exact base q hs
    | true =>
      rw [if_pos rfl]
      obtain ⟨h1, h2⟩ := strict_iff hp hq hs
      have hn32 : q.n < 32 := by have := hp.2.1; omega
      obtain ⟨e1, e2⟩ := half_has hq hn32 x
      obtain ⟨f1, f2⟩ := half_has hq hn32 p.a
      have wl : ∀ r : Pn, r.n ≤ p.n → r.has p.a = true → p.has x = true → r.has x = true := fun r hr h3 h4 => within_has (within_iff.2 ⟨hr, h3⟩) h4
      have nl : q.low.n ≤ p.n := by unfold Pn.low; simp only; omega
      have nh : q.high.n ≤ p.n := by unfold Pn.high; simp only; omega
      cases hm : meets q.low p with
      | true =>
        rw [if_pos rfl, List.countP_cons, ih q.low (low_ok hq hn32) (by unfold Pn.low; simp only; omega)]
        have hl := (meets_half hp nl).1 hm
        have := wl q.low nl hl
        cases h3 : q.low.has x <;> cases h4 : q.high.has x <;> cases h5 : p.has x <;> cases h6 : q.has x <;> simp_all
      | false =>
        rw [if_neg (by simp), List.countP_cons, ih q.high (high_ok hq hn32) (by unfold Pn.high; simp only; omega)]
        have hl : q.low.has p.a = false := by
          cases h3 : q.low.has p.a with
          | false => rfl
          | true =>
            rw [(meets_half hp nl).2 h3] at hm
            cases hm
        have hh : q.high.has p.a = true := by
          rcases f1.1 h2 with h3 | h3
          · rw [hl] at h3
            cases h3
          · exact h3
        have := wl q.high nh hh
        cases h3 : q.low.has x <;> cases h4 : q.high.has x <;> cases h5 : p.has x <;> cases h6 : q.has x <;> simp_all

theorem lessQ_ok {p : Pn} (hp : p.Ok) : ∀ d q, q.Ok → ∀ r ∈ lessQ p d q, r.Ok := by
  have base : ∀ q : Pn, q.Ok → ∀ r ∈ (if meets p q = true then [] else [q]), r.Ok := by
    intro q hq r hr
    split at hr
    · cases hr
    · obtain rfl : r = q := by simpa using hr
      exact hq
  intro d
  induction d with
  | zero => exact fun q hq => base q hq
  | succ d ih =>
    intro q hq r hr
    unfold lessQ at hr
    cases hs : (meets p q && !within q p) with
    | false =>
      rw [hs, if_neg (by simp)] at hr
      exact base q hq r hr
    | true =>
      rw [hs, if_pos rfl] at hr
      obtain ⟨h1, h2⟩ := strict_iff hp hq hs
      have hn32 : q.n < 32 := by have := hp.2.1; omega
      split at hr
      · rcases List.mem_cons.1 hr with rfl | hr
        · exact high_ok hq hn32
        · exact ih _ (low_ok hq hn32) r hr
      · rcases List.mem_cons.1 hr with rfl | hr
        · exact low_ok hq hn32
        · exact ih _ (high_ok hq hn32) r hr

theorem lessQ_len {p : Pn} (hp : p.Ok) : ∀ d q, q.Ok → (lessQ p d q).length ≤ 1 + (if q.has p.a = true then d else 0) := by
  have base : ∀ q : Pn, (if meets p q = true then [] else [q]).length ≤ 1 := by
    intro q
    split <;> simp
  have deep : ∀ d q, (lessQ p d q).length ≤ 1 + d := by
    intro d
    induction d with
    | zero => exact fun q => base q
    | succ d ih =>
      intro q
      unfold lessQ
      split
      · split
        · have := ih q.low; simp; omega
        · have := ih q.high; simp; omega
      · have := base q; omega
  intro d q hq
  by_cases h : q.has p.a = true
  · rw [if_pos h]
    exact deep d q
  · rw [if_neg h]
    cases d with
    | zero => exact base q
    | succ d =>
      unfold lessQ
      rw [if_neg]
      · exact base q
      · intro hs
        exact h (strict_iff hp hq hs).2

theorem lessL_ok {p : Pn} (hp : p.Ok) {l : List Pn} (hl : ∀ q ∈ l, q.Ok) : ∀ r ∈ lessL p l, r.Ok := by
  intro r hr
  obtain ⟨q, hq, hr⟩ := List.mem_flatMap.1 hr
  exact lessQ_ok hp _ q (hl q hq) r hr
theorem lessL_count {p : Pn} (hp : p.Ok) (x : Nat) : ∀ l : List Pn, (∀ q ∈ l, q.Ok) → (lessL p l).countP (·.has x) = if p.has x = true then 0 else l.countP (·.has x)
  | [], _ => by simp [lessL]
  | q :: l, h => by
    have ih := lessL_count hp x l fun r hr => h r (List.mem_cons_of_mem _ hr)
    have hq := h q (by simp)
    have h1 := lessQ_count hp x (32 - q.n) q hq (by have := hq.2.1; omega)
    unfold lessL at *
    rw [List.flatMap_cons, List.countP_append, ih, h1, List.countP_cons]
    cases q.has x <;> cases p.has x <;> simp <;> omega
theorem lessL_len {p : Pn} (hp : p.Ok) : ∀ l : List Pn, (∀ q ∈ l, q.Ok) → (lessL p l).length ≤ l.length + 32 * l.countP (·.has p.a)
  | [], _ => by simp [lessL]
  | q :: l, h => by
    have ih := lessL_len hp l fun r hr => h r (List.mem_cons_of_mem _ hr)
    have h1 := lessQ_len hp (32 - q.n) q (h q (by simp))
    unfold lessL at *
    rw [List.flatMap_cons, List.length_append, List.length_cons, List.countP_cons]
    split at h1 <;> simp_all <;> omega
end Go.Proofs.Ytiedhjmnjpkcoaa
