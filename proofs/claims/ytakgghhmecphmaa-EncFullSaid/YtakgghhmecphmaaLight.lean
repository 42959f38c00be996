/- The walks of Light and of the reference's Right. -/
import Derived.Test.YtakgghhmecphmaaLimit
import Derived.Test.YtakgghhmecphmaaBdd
namespace Go.Proofs.Ytakgghhmecphmaa
set_option linter.unusedVariables false
set_option linter.unusedSimpArgs false
open Go.RowKit Go.Maps

def exCells (l : List Ex) : List Value := l.flatMap fun x => [.int .i64 x.kind, .int .i64 x.a, .int .i64 x.b, .int .i64 x.c, .int .i64 x.var, .bool x.on]
theorem exCells_at {l : List Ex} {i : Nat} {x : Ex} (h : l[i]? = some x) (j : Nat) (u : Value) (hj : [Value.int .i64 x.kind, .int .i64 x.a, .int .i64 x.b, .int .i64 x.c, .int .i64 x.var, .bool x.on][j]? = some u) : (exCells l)[i * 6 + j]? = some u := by
  induction l generalizing i with
  | nil => simp at h
  | cons y l ih =>
    have e : exCells (y :: l) = [.int .i64 y.kind, .int .i64 y.a, .int .i64 y.b, .int .i64 y.c, .int .i64 y.var, .bool y.on] ++ exCells l := rfl
    cases i with
    | zero =>
      obtain rfl : y = x := by simpa using h
      rw [e, Nat.zero_mul, Nat.zero_add, List.getElem?_append_left (List.getElem?_eq_some_iff.1 hj).1]
      exact hj
    | succ i =>
      rw [e, show (i + 1) * 6 + j = 6 + (i * 6 + j) by omega, List.getElem?_append_right (by simp)]
      rw [show 6 + (i * 6 + j) - [Value.int .i64 y.kind, .int .i64 y.a, .int .i64 y.b, .int .i64 y.c, .int .i64 y.var, .bool y.on].length = i * 6 + j by simp]
      exact ih (by simpa using h)

/-- Expressions in memory, from ⟨b, off⟩ on. -/
def ExsAt (w : World) (b off : Nat) (l : List Ex) : Prop := ∀ j u, (exCells l)[j]? = some u → w.cell? ⟨b, off + j, none⟩ = some u
theorem ExsAt.at_ {w : World} {b off : Nat} {l : List Ex} (h : ExsAt w b off l) {i : Nat} {x : Ex} (hx : l[i]? = some x) :
    w.cell? ⟨b, off + i * 6, none⟩ = some (.int .i64 x.kind) ∧ w.cell? ⟨b, off + i * 6 + 1, none⟩ = some (.int .i64 x.a) ∧ w.cell? ⟨b, off + i * 6 + 2, none⟩ = some (.int .i64 x.b) ∧
    w.cell? ⟨b, off + i * 6 + 3, none⟩ = some (.int .i64 x.c) ∧ w.cell? ⟨b, off + i * 6 + 4, none⟩ = some (.int .i64 x.var) ∧ w.cell? ⟨b, off + i * 6 + 5, none⟩ = some (.bool x.on) :=
  ⟨h _ _ (exCells_at hx 0 _ rfl), by rw [Nat.add_assoc]; exact h _ _ (exCells_at hx 1 _ rfl), by rw [Nat.add_assoc]; exact h _ _ (exCells_at hx 2 _ rfl), by rw [Nat.add_assoc]; exact h _ _ (exCells_at hx 3 _ rfl),
    by rw [Nat.add_assoc]; exact h _ _ (exCells_at hx 4 _ rfl), by rw [Nat.add_assoc]; exact h _ _ (exCells_at hx 5 _ rfl)⟩
theorem ExsAt.kept {w w' : World} {S : List Nat} {b off : Nat} {l : List Ex} (h : ExsAt w b off l) (k : Kept S w w') (hb : b ∉ S) : ExsAt w' b off l :=
  fun j u hu => k.cell (h j u hu) hb

set_option maxRecDepth 100000 in
set_option maxHeartbeats 1000000 in
open Classical in
theorem right_calls {w : World} (b off cap n : Nat) (l : List Ex) (hn : l.length = n) (hnm : n ≤ 140737488355328) (hL : ExsAt w b off l) :
    Calls Try.prog 59 #[.slice (some ⟨b, off, none⟩) n cap] w fun e w' => e = .returned (.bool (decide (RightP l))) ∧ Below w.heap.size w w' := by
  have HL := Lib.hid hL
  have HN := Lib.hid hn
  clear hL hn
  go_enter Try.func59, Try.ntmps59
  go_wp2
  go_loopw [3, 4] (fun h i wr => ∃ k : Nat, k ≤ n ∧ i = .int .i64 (k : Int) ∧ h = .int .i64 (heldN (l.take k) : Int) ∧ (∀ j x, j < k → l[j]? = some x → ¬ BadE x j) ∧ Kept [] w wr) (fun _ i _ => n - (intOf i).toNat)
  case atStart => exact ⟨0, Nat.zero_le _, rfl, rfl, fun j x hj => by omega, Kept.refl _ _⟩
  case round =>
    obtain ⟨k, hk, rfl, rfl, hgood, hK⟩ := hrel
    have HK := Lib.hid hK
    have HG := Lib.hid hgood
    clear hK hgood
    by_cases hlt : k < n
    · have hx : l[k]? = some (l[k]'(by have := HN.out; omega)) := List.getElem?_eq_getElem _
      generalize l[k]'(by have := HN.out; omega) = x at hx
      obtain ⟨k0, k1, k2, k3, k4, k5⟩ := (HL.out.kept HK.out (by simp)).at_ hx
      have HX := Lib.hid hx
      have hh : heldN (l.take k) ≤ k := Nat.le_trans (heldN_le _) (by simp; omega)
      have hs : heldN (l.take (k + 1)) = heldN (l.take k) + if x.kind = 8 then 1 else 0 := by rw [List.take_add_one, hx, Option.toList_some, heldN_snoc]
      have hend : ∀ o, Below w.heap.size w (wr.alloc o) := fun o => Kept.below (HK.out.alloc o) (Nat.le_refl _) (by simp)
      have HE := Lib.hid hend
      have HS := Lib.hid hs
      clear hend
      generalize heldN (l.take k) = H at *
      obtain ⟨xk, xa, xb, xc, xv, xo⟩ := x
      simp only at k0 k1 k2 k3 k4 k5
      clear hx
      go_wp2
      all_goals first
        | (go_ret
           refine ⟨?_, HE.out _⟩
           have hb : BadE ⟨xk, xa, xb, xc, xv, xo⟩ k := by unfold BadE; simp only; omega
           rw [decide_eq_false (fun h : RightP l => h.1 k _ HX.out hb)]
           rfl)
        | (go_roundw
           case rel =>
             refine ⟨k + 1, by omega, by go_num, ?_, ?_, HK.out.alloc _⟩
             · rw [HS.out]
               first
                 | (rw [if_pos (by simpa using ‹(xk == 8) = true›)]; go_num)
                 | (rw [if_neg (by simpa using ‹(xk == 8) = false›)]; rfl)
             · intro j x hj hx
               rcases Nat.lt_or_ge j k with h | h
               · exact HG.out j x h hx
               · obtain rfl : j = k := by omega
                 have := HX.out.symm.trans hx
                 cases this
                 unfold BadE
                 simp only
                 omega
           case measure => simp [intOf]; omega)
    · obtain rfl : k = n := by omega
      have hend : Below w.heap.size w wr := Kept.below HK.out (Nat.le_refl _) (by simp)
      have HE := Lib.hid hend
      have hR : decide (heldN (l.take k) ≤ 4) = decide (RightP l) := by
        have e : l.take k = l := List.take_of_length_le (by rw [HN.out]; exact Nat.le_refl _)
        rw [e]
        refine decide_eq_decide.2 ⟨fun h => ⟨fun i x hx => HG.out i x (by have := (List.getElem?_eq_some_iff.1 hx).1; rw [HN.out] at this; exact this) hx, h⟩, fun h => h.2⟩
      have HR := Lib.hid hR
      clear hend hR
      generalize heldN (l.take k) = H at *
      go_wp2
      go_ret
      exact ⟨by rw [← HR.out]; simp; omega, HE.out⟩

end Go.Proofs.Ytakgghhmecphmaa
