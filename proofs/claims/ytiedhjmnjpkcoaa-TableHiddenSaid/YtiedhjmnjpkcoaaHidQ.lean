/- Hidden rules: plain. -/
import Derived.Test.YtiedhjmnjpkcoaaHidP
import Derived.Test.YtiedhjmnjpkcoaaRMeet
namespace Go.Proofs.Ytiedhjmnjpkcoaa
set_option linter.unusedVariables false
set_option linter.unusedSimpArgs false
open Go.RowKit

def Rl.pn (r : Rl) : Pn := ⟨r.addr, r.bits.toNat⟩
theorem Rl.Ok.pn {r : Rl} (h : r.Ok) : r.pn.Ok := by
  obtain ⟨_, hb, _⟩ := h.bits
  exact ⟨h.1, hb, ((rtB_iff _).1 h.2.1).2.2⟩
theorem hasR_pn (x : Nat) (r : Rl) : hasR x r = r.pn.has x := rfl

/-- Is the rule of that id hidden? -/
def Hidd (l : List Rl) (id : Int) : Prop := ∃ l1 r l2, l = l1 ++ r :: l2 ∧ r.id = id ∧ ∀ x, x < 2 ^ 32 → hasR x r = true → ∃ y ∈ l1, hasR x y = true

theorem split_one {l l1 l2 m1 m2 : List Rl} {r s : Rl} (hn : (l.map (·.id)).Nodup) (h1 : l = l1 ++ r :: l2) (h2 : l = m1 ++ s :: m2) (he : r.id = s.id) : l1 = m1 ∧ r = s ∧ l2 = m2 := by
  have a1 : l1.length < l.length := by rw [h1]; simp
  have b1 : m1.length < l.length := by rw [h2]; simp
  have a2 : l[l1.length] = r := by simp [h1]
  have b2 : l[m1.length] = s := by simp [h2]
  have hlen : l1.length = m1.length := by
    have hp := List.pairwise_iff_getElem.1 hn
    rcases Nat.lt_trichotomy l1.length m1.length with h | h | h
    · exact absurd (by rw [List.getElem_map, List.getElem_map, a2, b2]; exact he) (hp _ _ (by simpa using a1) (by simpa using b1) h)
    · exact h
    · exact absurd (by rw [List.getElem_map, List.getElem_map, a2, b2]; exact he.symm) (hp _ _ (by simpa using b1) (by simpa using a1) h)
  have h3 := List.append_inj (h1.symm.trans h2) hlen
  obtain ⟨h4, h5⟩ := List.cons.inj h3.2
  exact ⟨h3.1, h4, h5⟩

theorem hidd_none {l : List Rl} {id : Int} (h : ∀ r ∈ l, r.id ≠ id) : ¬ Hidd l id := by
  rintro ⟨l1, r, l2, e, hr, _⟩
  exact h r (by rw [e]; simp) hr

theorem hidd_at {l l1 l2 : List Rl} {r : Rl} (hn : (l.map (·.id)).Nodup) (h : l = l1 ++ r :: l2) : Hidd l r.id ↔ ∀ x, x < 2 ^ 32 → hasR x r = true → ∃ y ∈ l1, hasR x y = true := by
  constructor
  · rintro ⟨m1, s, m2, e, hs, hh⟩
    obtain ⟨rfl, rfl, rfl⟩ := split_one hn h e hs.symm
    exact hh
  · exact fun hh => ⟨l1, r, l2, h, rfl, hh⟩

/-- What is left of a rule behind others. -/
def leftL (r : Rl) (xs : List Rl) : List Pn := xs.foldl (fun acc y => lessL y.pn acc) [r.pn]
theorem left_snoc (r y : Rl) (xs : List Rl) : leftL r (xs ++ [y]) = lessL y.pn (leftL r xs) := by simp [leftL]

theorem left_rev {r : Rl} (hr : r.Ok) : ∀ (n : Nat) (xs : List Rl), xs.length = n → (∀ y ∈ xs, y.Ok) → (∀ q ∈ leftL r xs, q.Ok) ∧ (∀ x, (leftL r xs).countP (·.has x) = if (hasR x r && xs.all fun y => !hasR x y) = true then 1 else 0) ∧ (leftL r xs).length ≤ 1 + 32 * xs.length := by
  intro n
  induction n with
  | zero =>
    intro xs hl _
    obtain rfl := List.length_eq_zero_iff.1 hl
    refine ⟨fun q hq => ?_, fun x => ?_, by simp [leftL]⟩
    · obtain rfl : q = r.pn := by simpa [leftL] using hq
      exact hr.pn
    · simp [leftL, hasR_pn]
  | succ n ih =>
    intro xs hl hok
    rcases List.eq_nil_or_concat xs with rfl | ⟨ys, y, rfl⟩
    · simp at hl
    · rw [List.concat_eq_append] at *
      obtain ⟨i1, i2, i3⟩ := ih ys (by simpa using hl) fun z hz => hok z (List.mem_append_left _ hz)
      have hy := (hok y (by simp)).pn
      rw [left_snoc]
      refine ⟨lessL_ok hy i1, fun x => ?_, ?_⟩
      · rw [lessL_count hy x _ i1, i2 x, List.all_append]
        simp only [List.all_cons, List.all_nil, Bool.and_true, hasR_pn]
        cases y.pn.has x <;> simp
      · have h1 := lessL_len hy _ i1
        rw [i2] at h1
        have : (if (hasR y.pn.a r && ys.all fun z => !hasR y.pn.a z) = true then 1 else 0) ≤ 1 := by split <;> omega
        simp only [List.length_append, List.length_cons, List.length_nil]
        omega

theorem left_nil {r : Rl} (hr : r.Ok) {xs : List Rl} (hok : ∀ y ∈ xs, y.Ok) : leftL r xs = [] ↔ ∀ x, x < 2 ^ 32 → hasR x r = true → ∃ y ∈ xs, hasR x y = true := by
  obtain ⟨i1, i2, _⟩ := left_rev hr _ xs rfl hok
  constructor
  · intro h x _ hx
    have := i2 x
    rw [h, hx] at this
    by_cases ha : (xs.all fun y => !hasR x y) = true
    · rw [ha] at this
      simp at this
    · simpa using ha
  · intro h
    rcases hl : leftL r xs with _ | ⟨q, rest⟩
    · rfl
    · exfalso
      have hq := i1 q (by rw [hl]; simp)
      have h1 := i2 q.a
      rw [hl] at h1
      have h2 : 0 < (q :: rest).countP (·.has q.a) := List.countP_pos_iff.2 ⟨q, by simp, q.has_self⟩
      split at h1
      · rename_i hc
        rw [Bool.and_eq_true] at hc
        obtain ⟨y, hy, hyx⟩ := h q.a hq.1 hc.1
        have := List.all_eq_true.1 hc.2 y hy
        rw [hyx] at this
        cases this
      · omega

/-- Only rules that meet count. -/
theorem hidd_left {l l1 l2 : List Rl} {r : Rl} (hn : (l.map (·.id)).Nodup) (hok : ∀ y ∈ l, y.Ok) (h : l = l1 ++ r :: l2) : leftL r (l1.filter (meetR r.addr r.bits.toNat)) = [] ↔ Hidd l r.id := by
  have hr : r.Ok := hok r (by rw [h]; simp)
  have h1 : ∀ y ∈ l1, y.Ok := fun y hy => hok y (by rw [h]; exact List.mem_append_left _ hy)
  rw [left_nil hr (fun y hy => h1 y (List.mem_filter.1 hy).1), hidd_at hn h]
  constructor
  · intro hh x hx hxr
    obtain ⟨y, hy, hyx⟩ := hh x hx hxr
    exact ⟨y, (List.mem_filter.1 hy).1, hyx⟩
  · intro hh x hx hxr
    obtain ⟨y, hy, hyx⟩ := hh x hx hxr
    refine ⟨y, List.mem_filter.2 ⟨hy, ?_⟩, hyx⟩
    have hm := share_meets (p := r.pn) (q := y.pn) hxr hyx
    unfold meets meetN at hm
    unfold meetR hasR
    exact hm

/-- The list of those that meet, at the rule itself. -/
theorem meet_split {l l1 l2 : List Rl} {r : Rl} (hr : r.Ok) (h : l = l1 ++ r :: l2) : l.filter (meetR r.addr r.bits.toNat) = l1.filter (meetR r.addr r.bits.toNat) ++ r :: l2.filter (meetR r.addr r.bits.toNat) := by
  rw [h, List.filter_append, List.filter_cons_of_pos]
  unfold meetR hasR hasN
  simp

theorem find_split {l : List Rl} {id : Int} {r : Rl} (h : findR l id = some r) : ∃ l1 l2, l = l1 ++ r :: l2 ∧ r.id = id ∧ ∀ y ∈ l1, y.id ≠ id := by
  obtain ⟨h1, l1, l2, h2, h3⟩ := List.find?_eq_some_iff_append.1 h
  exact ⟨l1, l2, h2, by simpa using h1, fun y hy => by simpa using h3 y hy⟩
end Go.Proofs.Ytiedhjmnjpkcoaa
