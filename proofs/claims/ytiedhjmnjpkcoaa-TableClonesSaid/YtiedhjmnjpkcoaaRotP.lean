/- A list taken from some place on, around: plain. -/
import Derived.Test.YtiedhjmnjpkcoaaRefP
namespace Go.Proofs.Ytiedhjmnjpkcoaa
set_option linter.unusedVariables false
set_option linter.unusedSimpArgs false
open Go.RowKit

instance : Inhabited Rl := ⟨noRule⟩
/-- The first i rules from place b on, around. -/
def rotL (l : List Rl) (b i : Nat) : List Rl := (List.range i).map fun j => l[(j + b) % l.length]!
theorem rot_succ (l : List Rl) (b i : Nat) : rotL l b (i + 1) = rotL l b i ++ [l[(i + b) % l.length]!] := by simp [rotL, List.range_succ]
theorem rot_len (l : List Rl) (b i : Nat) : (rotL l b i).length = i := by simp [rotL]

theorem ids_inj {l : List Rl} (hn : (l.map (·.id)).Nodup) {a b : Nat} (ha : a < l.length) (hb : b < l.length) (h : l[a].id = l[b].id) : a = b := by
  have hp := List.pairwise_iff_getElem.1 hn
  rcases Nat.lt_trichotomy a b with h1 | h1 | h1
  · exact absurd (by rw [List.getElem_map, List.getElem_map]; exact h) (hp a b (by simpa using ha) (by simpa using hb) h1)
  · exact h1
  · exact absurd (by rw [List.getElem_map, List.getElem_map]; exact h.symm) (hp b a (by simpa using hb) (by simpa using ha) h1)

theorem rot_new {l : List Rl} (hn : (l.map (·.id)).Nodup) {b i : Nat} (hi : i < l.length) : ∀ x ∈ rotL l b i, x.id ≠ (l[(i + b) % l.length]!).id := by
  intro x hx e
  obtain ⟨j, hj, rfl⟩ := List.mem_map.1 hx
  have hj := List.mem_range.1 hj
  have h1 : (j + b) % l.length < l.length := Nat.mod_lt _ (by omega)
  have h2 : (i + b) % l.length < l.length := Nat.mod_lt _ (by omega)
  rw [getElem!_pos l _ h1, getElem!_pos l _ h2] at e
  have h3 := ids_inj hn h1 h2 e
  have h4 := Nat.sub_mod_eq_zero_of_mod_eq h3.symm
  rw [show i + b - (j + b) = i - j by omega, Nat.mod_eq_of_lt (by omega)] at h4
  omega

theorem rot_mem {l : List Rl} {b i : Nat} (hl : 0 < l.length) : ∀ x ∈ rotL l b i, x ∈ l := by
  intro x hx
  obtain ⟨j, hj, rfl⟩ := List.mem_map.1 hx
  rw [getElem!_pos l _ (Nat.mod_lt _ hl)]
  exact List.getElem_mem _

theorem rot_perm (l : List Rl) (b : Nat) : (rotL l b l.length).Perm l := by
  by_cases h0 : l.length = 0
  · rw [List.length_eq_zero_iff.1 h0]
    exact List.Perm.refl _
  obtain ⟨c, hc, hcl⟩ : ∃ c, c = b % l.length ∧ c < l.length := ⟨_, rfl, Nat.mod_lt _ (by omega)⟩
  have e : rotL l b l.length = l.drop c ++ l.take c := by
    apply List.ext_getElem
    · simp [rotL]; omega
    · intro j h1 h2
      have hj : j < l.length := by simpa [rotL] using h1
      have hm : (j + b) % l.length < l.length := Nat.mod_lt _ (by omega)
      have hjb : (j + b) % l.length = (j + c) % l.length := by rw [hc, Nat.add_mod_mod]
      have h3 : (rotL l b l.length)[j] = l[(j + b) % l.length] := by
        simp only [rotL, List.getElem_map, List.getElem_range]
        rw [getElem!_pos l _ hm]
      rw [h3]
      by_cases hk : j + c < l.length
      · have : (j + b) % l.length = c + j := by rw [hjb, Nat.mod_eq_of_lt hk]; omega
        rw [List.getElem_append_left (by simp; omega), List.getElem_drop]
        simp only [this]
      · have : (j + b) % l.length = j - (l.length - c) := by
          rw [hjb, Nat.mod_eq_sub_mod (by omega), Nat.mod_eq_of_lt (by omega)]
          omega
        rw [List.getElem_append_right (by simp; omega), List.getElem_take]
        simp only [this, List.length_drop]
  rw [e]
  have := List.perm_append_comm (l₁ := l.drop c) (l₂ := l.take c)
  rwa [List.take_append_drop] at this

/-- One more is new to the table. -/
theorem rot_add {L l : List Rl} (hp : Pair L l) (hok : ∀ r ∈ l, r.Ok) {b i : Nat} (hi : i < l.length) : addT (rotL l b i).reverse (l[(i + b) % l.length]!) = ((rotL l b (i + 1)).reverse, 0) := by
  have hm : (i + b) % l.length < l.length := Nat.mod_lt _ (by omega)
  have hr := hok (l[(i + b) % l.length]!) (by rw [getElem!_pos l _ hm]; exact List.getElem_mem hm)
  unfold addT
  rw [if_pos hr.2.1, if_neg, rot_succ]
  · simp
  · rw [findR_isSome]
    rintro ⟨x, hx, e⟩
    exact rot_new hp.ids hi x (List.mem_reverse.1 hx) e
theorem rot_pair {L l : List Rl} (hp : Pair L l) (b : Nat) : Pair (rotL l b l.length).reverse l := ⟨((List.reverse_perm _).trans (rot_perm l b)).symm, hp.sorted, hp.ids⟩
end Go.Proofs.Ytiedhjmnjpkcoaa
