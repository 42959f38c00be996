/- Paths and prefixes: who is on the way, and who meets. Plain. -/
import Derived.Test.YtjoblahedgpgbaaGreatRefP
namespace Go.Proofs.YtjoblahedgpgbaaGreat
set_option linter.unusedVariables false
set_option linter.unusedSimpArgs false
open Go.RowKit

theorem pth_eq {a b n : Nat} (ha : a < 2 ^ 32) (hb : b < 2 ^ 32) (hn : n ≤ 32) : pth a n = pth b n ↔ a / 2 ^ (32 - n) = b / 2 ^ (32 - n) := by
  constructor
  · intro h
    apply Nat.eq_of_testBit_eq
    intro j
    rw [Nat.testBit_div_two_pow, Nat.testBit_div_two_pow]
    by_cases hj : j < n
    · have h1 := congrArg (fun l => l[n - 1 - j]?) h
      simp only [pth, List.getElem?_map] at h1
      rw [List.getElem?_range (by omega)] at h1
      simp only [Option.map_some, Option.some.injEq] at h1
      rwa [show 31 - (n - 1 - j) = j + (32 - n) by omega] at h1
    · rw [Nat.testBit_lt_two_pow (Nat.lt_of_lt_of_le ha (Nat.pow_le_pow_right (by omega) (by omega))), Nat.testBit_lt_two_pow (Nat.lt_of_lt_of_le hb (Nat.pow_le_pow_right (by omega) (by omega)))]
  · intro h
    unfold pth
    refine List.map_congr_left fun i hi => ?_
    have hi := List.mem_range.1 hi
    have h1 := congrArg (fun x => x.testBit (n - 1 - i)) h
    simp only [Nat.testBit_div_two_pow] at h1
    rwa [show n - 1 - i + (32 - n) = 31 - i by omega] at h1

theorem pth_take (a : Nat) {n m : Nat} (h : n ≤ m) : (pth a m).take n = pth a n := by
  unfold pth
  rw [← List.map_take, List.take_range, Nat.min_eq_left h]

theorem pth_pre {a q n m : Nat} : pth a n <+: pth q m ↔ n ≤ m ∧ pth q n = pth a n := by
  constructor
  · intro h
    have hl := h.length_le
    rw [pth_length, pth_length] at hl
    refine ⟨hl, ?_⟩
    rw [← pth_take q hl]
    have := List.prefix_iff_eq_take.1 h
    rw [pth_length] at this
    exact this.symm
  · rintro ⟨h1, h2⟩
    rw [← h2, ← pth_take q h1]
    exact List.take_prefix _ _

theorem Rl.Ok.bits {r : Rl} (h : r.Ok) : 0 ≤ r.bits ∧ r.bits.toNat ≤ 32 ∧ ((r.bits.toNat : Nat) : Int) = r.bits := by
  obtain ⟨h0, h1, _⟩ := (rtB_iff _).1 h.2.1
  have h0 : 0 ≤ r.bits := h0
  have h1 : r.bits ≤ 32 := h1
  omega

theorem onWay_has {r : Rl} (h : r.Ok) {a : Nat} (ha : a < 2 ^ 32) : onWay a r = hasR a r := by
  obtain ⟨_, hb, _⟩ := h.bits
  unfold onWay hasR hasN Rl.path
  rw [pth_length, Bool.eq_iff_iff]
  simp only [decide_eq_true_eq, beq_iff_eq]
  rw [pth_eq h.1 ha hb]
  constructor
  · exact fun e => e.2.symm
  · exact fun e => ⟨by omega, e.symm⟩

/-- Does a rule meet a prefix (as the document has it)? -/
def meetR (a n : Nat) (r : Rl) : Bool := (decide (r.bits.toNat ≤ n) && hasR a r) || (decide (n ≤ r.bits.toNat) && hasN a n r.addr)

theorem meetsW_meet {r : Rl} (h : r.Ok) {a n : Nat} (ha : a < 2 ^ 32) (hn : n ≤ 32) : meetsW a n r = meetR a n r := by
  obtain ⟨_, hb, _⟩ := h.bits
  unfold meetsW meetR hasR hasN Rl.path
  rw [pth_length, Bool.eq_iff_iff]
  simp only [decide_eq_true_eq, beq_iff_eq, Bool.or_eq_true, Bool.and_eq_true]
  rw [pth_eq h.1 ha hb, pth_pre, pth_eq h.1 ha hn]
  constructor
  · rintro (⟨h1, h2⟩ | ⟨h1, h2⟩)
    · exact Or.inl ⟨by omega, h2.symm⟩
    · exact Or.inr ⟨h1, h2⟩
  · rintro (⟨h1, h2⟩ | ⟨h1, h2⟩)
    · rcases Nat.lt_or_eq_of_le h1 with h3 | h3
      · exact Or.inl ⟨h3, h2.symm⟩
      · exact Or.inr ⟨by omega, by rw [← h3]; exact h2.symm⟩
    · exact Or.inr ⟨h1, h2⟩

/-- A sorted list of a filter. -/
theorem sorted_filter {L l l' : List Rl} {q q' : Rl → Bool} (hp : Pair L l) (hq : ∀ r ∈ L, q r = q' r) (h1 : l'.Perm (L.filter q)) (h2 : l'.Pairwise (fun a b => aheadR b a = false)) : l' = l.filter q' := by
  have hqq : L.filter q = L.filter q' := List.filter_congr fun r hr => hq r hr
  have h3 : l'.Perm (l.filter q') := by
    rw [hqq] at h1
    exact h1.trans (hp.perm.filter q').symm
  refine sorted_one h3 ?_ h2 (hp.sorted.sublist List.filter_sublist)
  exact ((h3.map _).nodup_iff).2 (hp.ids.sublist (List.filter_sublist.map _))

theorem head_filter {α : Type} (q : α → Bool) : ∀ l : List α, (l.filter q).head? = l.find? q
  | [] => rfl
  | a :: l => by
    by_cases h : q a = true
    · rw [List.filter_cons_of_pos h, List.find?_cons_of_pos h]; rfl
    · rw [List.filter_cons_of_neg h, List.find?_cons_of_neg h]; exact head_filter q l
end Go.Proofs.YtjoblahedgpgbaaGreat
