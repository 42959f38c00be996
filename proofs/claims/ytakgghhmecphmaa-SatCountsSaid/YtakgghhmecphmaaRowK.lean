/- Rows of like things in a block. -/
import Derived.Test.YtakgghhmecphmaaVarsW
import Derived.Laws.OwnMore
namespace Go.Proofs.Ytakgghhmecphmaa
set_option linter.unusedVariables false
set_option linter.unusedSimpArgs false
open Go.RowKit

def setRun (w : World) (b : Nat) : Nat → List Value → World
  | _, [] => w
  | o, v :: vs => setRun (w.setCell ⟨b, o, none⟩ v) b (o + 1) vs
theorem setRun_blk {b : Nat} {T : TypeId} {fr : Nat × Nat} : ∀ (vs : List Value) (w : World) (o : Nat) (cs : Array Value), w.heap[b]? = some (.cells cs T fr) →
    ∃ cs' : Array Value, (setRun w b o vs).heap[b]? = some (.cells cs' T fr) ∧ cs'.size = cs.size ∧ (∀ t, (t < o ∨ o + vs.length ≤ t) → cs'[t]? = cs[t]?) ∧ ∀ j u, vs[j]? = some u → o + j < cs.size → cs'[o + j]? = some u
  | [], w, o, cs, h => ⟨cs, h, rfl, fun _ _ => rfl, fun j u hu => by simp at hu⟩
  | v :: vs, w, o, cs, h => by
    obtain ⟨cs', h1, h2, h3, h4⟩ := setRun_blk vs _ (o + 1) _ (set_block h o v)
    refine ⟨cs', h1, by rw [h2, Array.size_setIfInBounds], fun t ht => ?_, fun j u hu hlt => ?_⟩
    · rw [List.length_cons] at ht
      rw [h3 t (by omega), Array.getElem?_setIfInBounds_ne (by omega)]
    · cases j with
      | zero =>
        rw [Nat.add_zero, h3 o (by omega)]
        rw [List.getElem?_cons_zero] at hu
        cases hu
        rw [Array.getElem?_setIfInBounds_self_of_lt (by omega)]
      | succ j =>
        rw [show o + (j + 1) = o + 1 + j by omega]
        exact h4 j u (by simpa using hu) (by rw [Array.size_setIfInBounds]; omega)
theorem setRun_kept (b : Nat) : ∀ (vs : List Value) (w : World) (o : Nat), Kept [b] w (setRun w b o vs)
  | [], w, _ => Kept.refl _ _
  | v :: vs, w, o => (((Kept.refl [b] w).setCell ⟨b, o, none⟩ v (by simp)).trans (setRun_kept b vs _ (o + 1)) (fun x hx => Or.inl hx))

def RowK {α : Type} (T : TypeId) (k : Nat) (c : α → List Value) (w : World) (b : Nat) (xs : List α) : Prop :=
  ∃ cs : Array Value, w.heap[b]? = some (.cells cs T (0, 0)) ∧ cs.size = xs.length * k ∧ ∀ (i : Nat) (x : α), xs[i]? = some x → ∀ j u, (c x)[j]? = some u → cs[i * k + j]? = some u
section
variable {α : Type} {T : TypeId} {k : Nat} {c : α → List Value} {w w' : World} {b : Nat} {xs : List α}
theorem RowK.lt (h : RowK T k c w b xs) : b < w.heap.size := by
  obtain ⟨cs, h1, _⟩ := h
  exact lt_of_block h1
theorem RowK.kept {S : List Nat} (h : RowK T k c w b xs) (hk : Kept S w w') (hb : b ∉ S) : RowK T k c w' b xs := by
  obtain ⟨cs, h1, h2⟩ := h
  exact ⟨cs, (hk.block b (lt_of_block h1) hb).trans h1, h2⟩
theorem RowK.cell (h : RowK T k c w b xs) {i : Nat} {x : α} (hx : xs[i]? = some x) {j : Nat} {u : Value} (hu : (c x)[j]? = some u) : w.cell? ⟨b, i * k + j, none⟩ = some u := by
  obtain ⟨cs, h1, h2, h3⟩ := h
  rw [cell_of h1 (i * k + j)]
  exact h3 i x hx j u hu
theorem RowK.free (h : RowK T k c w b xs) (o : Nat) : w.frozen? ⟨b, o, none⟩ = false := by
  obtain ⟨cs, h1, _⟩ := h
  exact unfrozen_of h1 o
theorem RowK.set (h : RowK T k c w b xs) (hc : ∀ x, (c x).length = k) {i : Nat} (hi : i < xs.length) (x : α) : RowK T k c (setRun w b (i * k) (c x)) b (xs.set i x) := by
  obtain ⟨cs, h1, h2, h3⟩ := h
  obtain ⟨cs', a1, a2, a3, a4⟩ := setRun_blk (c x) w (i * k) cs h1
  refine ⟨cs', a1, by rw [a2, h2, List.length_set], fun i' x' hx' j u hu => ?_⟩
  have hj : j < k := by rw [← hc x']; exact (List.getElem?_eq_some_iff.1 hu).1
  rw [List.getElem?_set] at hx'
  by_cases e : i = i'
  · subst e
    rw [if_pos rfl, if_pos hi] at hx'
    cases hx'
    refine a4 j u hu ?_
    rw [h2]
    have : (i + 1) * k ≤ xs.length * k := Nat.mul_le_mul_right _ hi
    rw [Nat.add_mul] at this
    omega
  · rw [if_neg e] at hx'
    rw [a3 _ ?_]
    · exact h3 i' x' hx' j u hu
    · rw [hc x]
      rcases Nat.lt_or_gt_of_ne e with h4 | h4
      · right
        have : (i + 1) * k ≤ i' * k := Nat.mul_le_mul_right _ h4
        rw [Nat.add_mul] at this
        omega
      · left
        have : (i' + 1) * k ≤ i * k := Nat.mul_le_mul_right _ h4
        rw [Nat.add_mul] at this
        omega
theorem RowK.made (w : World) (n : Nat) (x : α) (hc : (c x).length = k) (hk : 0 < k) : RowK T k c (w.alloc (.cells (madeCells (c x).toArray (n * k)) T)) w.heap.size (List.replicate n x) := by
  refine ⟨_, heap_alloc_new w _, by rw [size_madeCells, List.length_replicate], fun i y hy j u hu => ?_⟩
  rw [List.getElem?_replicate] at hy
  split at hy
  · rename_i hi
    cases hy
    have hj : j < k := by rw [← hc]; exact (List.getElem?_eq_some_iff.1 hu).1
    have hlt : i * k + j < n * k := by
      have : (i + 1) * k ≤ n * k := Nat.mul_le_mul_right _ hi
      rw [Nat.add_mul] at this
      omega
    unfold madeCells
    rw [Array.getElem?_map, Array.getElem?_range, if_pos hlt]
    simp only [Option.map_some, List.size_toArray, hc]
    rw [Nat.add_comm, Nat.add_mul_mod_self_right, Nat.mod_eq_of_lt hj, getElem!_pos (c x).toArray j (by simp [hc]; exact hj)]
    have := List.getElem?_eq_some_iff.1 hu
    simp [this.2]
  · cases hy
end
def intC (x : Nat) : List Value := [nat64 x]
def boolC (x : Bool) : List Value := [.bool x]
def hdC (h : Hd) : List Value := [.int .u32 (h.dst : Int), .int .u32 (h.src : Int), .int .u8 (h.proto : Int), .int .u16 (h.sport : Int), .int .u16 (h.dport : Int)]
def ctC (n : Nat) : List Value := [.int .u64 ((n / 18446744073709551616 : Nat) : Int), .int .u64 ((n % 18446744073709551616 : Nat) : Int)]
end Go.Proofs.Ytakgghhmecphmaa
