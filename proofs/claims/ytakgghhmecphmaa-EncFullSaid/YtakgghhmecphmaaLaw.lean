/- An arena of a law's own beside the law's arguments and its own rows: the contracts of layer 6, in one form. -/
import Derived.Test.YtakgghhmecphmaaMake
import Derived.Test.YtakgghhmecphmaaArgs
import Derived.Test.YtakgghhmecphmaaAwake
namespace Go.Proofs.Ytakgghhmecphmaa
set_option linter.unusedVariables false
set_option linter.unusedSimpArgs false
open Go.RowKit Go.Maps

/-- A list of expressions in memory that is older than block N. -/
def ArgL (N : Nat) (w : World) (v : Value) (l : List Ex) : Prop := ExsWf l ∧ ((l = [] ∧ ∃ ao cap, v = .slice ao 0 cap) ∨
  ∃ b off n cap, 0 < n ∧ v = .slice (some ⟨b, off, none⟩) n cap ∧ l.length = n ∧ n ≤ 140737488355328 ∧ ExsAt w b off l ∧ b < N)
theorem ArgEx.list {w : World} {v : Value} (h : ArgEx w v) : ∃ l, ArgL w.heap.size w v l := h
theorem ArgL.below {N : Nat} {w w' : World} {v : Value} {l : List Ex} (h : ArgL N w v l) (k : Below N w w') (_ : N ≤ w.heap.size) : ArgL N w' v l := by
  obtain ⟨hw, h | ⟨b, off, n, cap, h0, rfl, h1, h2, h3, h4⟩⟩ := h
  · exact ⟨hw, Or.inl h⟩
  · refine ⟨hw, Or.inr ⟨b, off, n, cap, h0, rfl, h1, h2, fun j u hu => ?_, h4⟩⟩
    exact (World.cell?_of_block (k.block b h4)).trans (h3 j u hu)
theorem ArgL.slice {N : Nat} {w : World} {v : Value} {l : List Ex} (h : ArgL N w v l) : ∃ ao cap, v = .slice ao l.length cap ∧ l.length ≤ 140737488355328 := by
  obtain ⟨hw, ⟨rfl, ao, cap, rfl⟩ | ⟨b, off, n, cap, h0, rfl, h1, h2, h3, h4⟩⟩ := h
  · exact ⟨ao, cap, rfl, by simp⟩
  · subst h1
    exact ⟨_, _, rfl, h2⟩

open Classical in
theorem light_arg {N : Nat} {w : World} {v : Value} {l : List Ex} (h : ArgL N w v l) : Calls Try.prog 28 #[v] w fun e w' => e = .returned (.bool (decide (LightP l))) ∧ Below w.heap.size w w' := by
  obtain ⟨hw, ⟨rfl, ao, cap, rfl⟩ | ⟨b, off, n, cap, h0, rfl, h1, h2, h3, h4⟩⟩ := h
  · have : LightP [] := ⟨by simp, by simp [dset, varsOf], fun i x hx => by simp at hx, by simp [heldN]⟩
    rw [decide_eq_true this]
    exact light_nil w ao cap
  · exact light_calls b off cap n l h1 h2 h3 hw

open Classical in
theorem light_yes {N : Nat} {w : World} {v : Value} {l : List Ex} (h : ArgL N w v l) (hl : LightP l) : Calls Try.prog 28 #[v] w fun e w' => e = .returned (.bool true) ∧ Below w.heap.size w w' := by
  have := light_arg h
  rwa [decide_eq_true hl] at this
open Classical in
theorem light_no {N : Nat} {w : World} {v : Value} {l : List Ex} (h : ArgL N w v l) (hl : ¬ LightP l) : Calls Try.prog 28 #[v] w fun e w' => e = .returned (.bool false) ∧ Below w.heap.size w w' := by
  have := light_arg h
  rwa [decide_eq_false hl] at this

/-- An arena of the law's own, made behind w0. -/
def AR (w0 w : World) (p g mb : Nat) (A : Arn) : Prop := w0.heap.size ≤ p ∧ w0.heap.size ≤ g ∧ w0.heap.size ≤ mb ∧ ArenaAt w p g mb A ∧ A.OK ∧ Below w0.heap.size w0 w
/-- What a call on it comes to. -/
def APost (w0 w : World) (p g mb : Nat) (A' : Arn) (w' : World) : Prop := ∃ g', (g' = g ∨ w.heap.size ≤ g') ∧ AR w0 w' p g' mb A' ∧ Kept [p, g, mb] w w'

theorem AR.post {w0 w : World} {p g mb : Nat} {A A' : Arn} {r : Option Nat} {f : FuncId} {args : Array Value} (h : AR w0 w p g mb A) (hO : A'.OK) (hc : Calls Try.prog f args w (ArenaPost w p g mb r A')) :
    Calls Try.prog f args w fun e w' => e = .returned (resV r) ∧ APost w0 w p g mb A' w' := by
  obtain ⟨a, b, c, e, o, k⟩ := h
  refine hc.mono ?_
  rintro e' w' ⟨rfl, g', hg', hA', hK⟩
  have := k.size
  refine ⟨rfl, g', hg', ⟨a, by rcases hg' with h | h <;> omega, c, hA', hO, k.trans (hK.below (by omega) (by simp; omega))⟩, hK⟩
theorem AR.below {w0 w w' : World} {p g mb : Nat} {A : Arn} (h : AR w0 w p g mb A) (k : Below w.heap.size w w') : AR w0 w' p g mb A := by
  obtain ⟨a, b, c, e, o, k0⟩ := h
  exact ⟨a, b, c, e.below k, o, k0.trans (k.mono k0.size)⟩
/-- Blocks that are none of the arena's may be turned. -/
theorem AR.kept {w0 w w' : World} {p g mb : Nat} {A : Arn} {S : List Nat} (h : AR w0 w p g mb A) (k : Kept S w w') (hp : p ∉ S) (hg : g ∉ S) (hm : mb ∉ S) (hS : ∀ i ∈ S, w0.heap.size ≤ i) : AR w0 w' p g mb A := by
  obtain ⟨a, b, c, e, o, k0⟩ := h
  exact ⟨a, b, c, e.kept k hp hg hm, o, k0.trans (k.below k0.size hS)⟩

theorem AR.new {w0 w : World} (h : Below w0.heap.size w0 w) (most : Nat) (h2 : 2 ≤ most) (hm : most ≤ 262144) :
    Calls Try.prog 17 #[.int .i64 (most : Int)] w fun e w' => ∃ p g mb, e = .returned (.tuple #[.pointer (some ⟨p, 0, none⟩), .int .i64 0]) ∧ AR w0 w' p g mb (newF most) := by
  refine (new_calls w most h2 hm).mono ?_
  rintro e w' ⟨p, g, mb, rfl, a, b, c, d, k⟩
  have := h.size
  exact ⟨p, g, mb, rfl, by omega, by omega, by omega, d, newF_ok h2 hm, h.trans (k.mono this)⟩
theorem AR.arg {w0 w : World} {p g mb : Nat} {A : Arn} {v : Value} {l : List Ex} (h : AR w0 w p g mb A) (hl : ArgL w0.heap.size w0 v l) : ArgL w0.heap.size w v l := hl.below h.2.2.2.2.2 (Nat.le_refl _)

theorem make_nil (w : World) (ao : Option Addr) (cap p : Nat) : Calls Try.prog 31 #[.pointer (some ⟨p, 0, none⟩), .slice ao 0 cap] w fun e w' => e = .returned (.tuple #[.slice none 0 0, .int .i64 0]) ∧ w = w' := by
  go_enter Try.func31, Try.ntmps31
  go_wp2
  go_wp2_with (refine wp_loop_rounds 1 ?_)
  rw [rounds_succ]
  go_wp2
  go_ret2
  exact ⟨rfl, rfl⟩

/-- What Make comes to. -/
theorem make_arg {w0 w : World} {p g mb : Nat} {A : Arn} {v : Value} {l : List Ex} (h : AR w0 w p g mb A) (hl : ArgL w0.heap.size w0 v l) (hn : l.length ≤ 60) (hR : ∀ i x, l[i]? = some x → ¬ BadE x i) :
    Calls Try.prog 31 #[.pointer (some ⟨p, 0, none⟩), v] w fun e w' => ∃ vo, e = .returned (.tuple #[vo, .int .i64 (if (makeGo A [] l).2.1 then 0 else 20)]) ∧
      w'.ownsRow w.heap.size 3 1 vo (makeGo A [] l).1.length ((makeGo A [] l).1.map nat64) ∧ APost w0 w p g mb (makeGo A [] l).2.2 w' := by
  have hlw := h.arg hl
  obtain ⟨a, b, c, e, o, k0⟩ := h
  obtain ⟨hw, ⟨rfl, ao, cap, rfl⟩ | ⟨bb, off, n, cap, h0, rfl, h1, h2, h3, h4⟩⟩ := hlw
  · refine (make_nil w ao cap p).mono ?_
    rintro e' w' ⟨rfl, rfl⟩
    exact ⟨_, rfl, World.ownsRow_nil _ _ _ _, g, Or.inl rfl, ⟨a, b, c, e, o, k0⟩, Kept.refl _ _⟩
  · refine (make_calls e o bb off cap n l h1 (by omega) h3 hR (by omega) (by omega) (by omega)).mono ?_
    rintro e' w' ⟨vo, g', rfl, how, hg', hA', hK⟩
    have hok := (makeGo_ok l A [] 0 o (by simp) (fun i x hx => by rw [Nat.zero_add]; exact hR i x hx)).1
    have := k0.size
    exact ⟨vo, rfl, how, g', hg', ⟨a, by rcases hg' with h | h <;> omega, c, hA', hok, k0.trans (hK.below (by omega) (by simp; omega))⟩, hK⟩

end Go.Proofs.Ytakgghhmecphmaa
