/- What the walk of Make keeps from round to round. -/
import Derived.Test.YtakgghhmecphmaaLight2
import Derived.Test.YtakgghhmecphmaaBdd
import Derived.Test.YtakgghhmecphmaaMid
import Derived.Deep.LoopGhost
namespace Go.Proofs.Ytakgghhmecphmaa
set_option linter.unusedVariables false
set_option linter.unusedSimpArgs false
open Go.RowKit Go.Maps

theorem Kept.grown_row {S : List Nat} {w w' w2 : World} (h : Kept S w w') {row : Option Nat} (hg : w'.grownBy w2 row) (ha : ∀ k, row = some k → k ∈ S ∨ w.heap.size ≤ k) : Kept S w w2 := by
  cases row with
  | none => exact h.trans (Kept.of_grown_none (S := []) hg) (by simp)
  | some k => exact h.grown hg (ha k rfl)

/-- A row of another kind of elements is none of an arena's blocks. -/
theorem own_ne_arena {w : World} {base e size n : Nat} {v : Value} {xs : List Value} {p g mb : Nat} {A : Arn} (h : w.ownsRow base e size v n xs) (hA : ArenaAt w p g mb A) (h1 : e ≠ 94) (h2 : e ≠ 98) :
    ∀ s, v.ownBlock = some s → s ≠ p ∧ s ≠ g ∧ s ≠ mb := by
  intro s hs
  obtain ⟨cap, m, b1, b2, b3⟩ := hA
  rcases h.2 with ⟨rfl, _⟩ | ⟨s', cap', cur, rfl, _, hh, _⟩
  · simp [Value.ownBlock] at hs
  · have e1 : s' = s := by simpa [Value.ownBlock] using hs
    subst e1
    refine ⟨block_ne hh b1 ?_, ?_, ?_⟩
    · intro h; injection h with _ h; exact h2 h
    · rcases b2.2 with ⟨h, _⟩ | ⟨g1, _, _, hv, _, hg, _⟩
      · cases h
      · injection hv with hv; injection hv with hv; injection hv with hv
        subst hv
        exact block_ne hh hg (by intro h; injection h with _ h; exact h1 h)
    · obtain ⟨es, clock, hb, _⟩ := b3
      exact block_ne hh hb (by intro h; cases h)

theorem news_at {w : World} {cs : Array Value} {t : TypeId} {k : Nat} (hk : k = w.heap.size) : ∀ j u, cs.toList[j]? = some u → (w.alloc (.cells cs t)).cell? ((⟨k, 0, none⟩ : Addr).add j) = some u := by
  subst hk
  exact news_new w cs t

theorem int_info : (Try.prog.info? 3).map (fun i => (i.zero, i.size, i.bytes)) = some (some (.int .i64 0), 1, 8) := by kernel_rfl

/-- What Make leaves: the sets' numbers, whether there was room, the arena. -/
def MakePost (w : World) (p g mb : Nat) (r : List Nat × Bool × Arn) : Ending → World → Prop := fun e w' =>
  ∃ v g', e = .returned (.tuple #[v, .int .i64 (if r.2.1 then 0 else 20)]) ∧ w'.ownsRow w.heap.size 3 1 v r.1.length (r.1.map nat64) ∧ (g' = g ∨ w.heap.size ≤ g') ∧ ArenaAt w' p g' mb r.2.2 ∧ Kept [p, g, mb] w w'

/-- What holds at a round's head. -/
def MakeRel (w : World) (p g mb n : Nat) (A : Arn) (l : List Ex) (gk : Nat) (vo vi : Value) (wr : World) : Prop :=
  ∃ (k : Nat) (g' : Nat) (A' : Arn) (out : List Nat), k + gk = n ∧ vi = .int .i64 (k : Int) ∧ out.length = k ∧ wr.ownsRow w.heap.size 3 1 vo k (out.map nat64) ∧ (g' = g ∨ w.heap.size ≤ g') ∧ ArenaAt wr p g' mb A' ∧ Kept [p, g, mb] w wr ∧ A'.OK ∧ Ext A A' ∧ (∀ f ∈ out, f < A'.nodes.length) ∧ makeGo A [] l = makeGo A' out (l.drop k)

theorem make_end {w : World} {p g mb n : Nat} {A : Arn} {l : List Ex} {k gk : Nat} {A' A2 : Arn} {out : List Nat} {x : Ex} {f : Nat} {v2 : Value} {w2 : World} {g2 : Nat}
    (hx : l[k]? = some x) (hk : k + gk = n) (hol : out.length = k) (hlt : k < n) (hs : stepE A' out x = (some f, A2)) (hO : A'.OK) (hb : ¬ BadE x k) (hE : Ext A A') (hf : ∀ f ∈ out, f < A'.nodes.length) (hgo : makeGo A [] l = makeGo A' out (l.drop k))
    (how : w2.ownsRow w.heap.size 3 1 v2 (k + 1) ((out ++ [f]).map nat64)) (hg2 : g2 = g ∨ w.heap.size ≤ g2) (hA2 : ArenaAt w2 p g2 mb A2) (hK : Kept [p, g, mb] w w2) :
    MakeRel w p g mb n A l (gk - 1) v2 (.int .i64 ((k : Int) + 1)) w2 := by
  obtain ⟨a, b, c⟩ := stepE_ok hO hf hb
  rw [hs] at a b c
  refine ⟨k + 1, g2, A2, out ++ [f], by omega, by go_num, by simp [hol], how, hg2, hA2, hK, a, hE.trans b, ?_, ?_⟩
  · intro y hy
    rcases List.mem_append.1 hy with h | h
    · exact Nat.lt_of_lt_of_le (hf y h) b.len
    · obtain rfl : y = f := by simpa using h
      exact c y rfl
  · rw [hgo]
    have e : l.drop k = x :: l.drop (k + 1) := by
      obtain ⟨hl, hx'⟩ := List.getElem?_eq_some_iff.1 hx
      rw [List.drop_eq_getElem_cons hl, hx']
    rw [e]
    conv => lhs; unfold makeGo
    rw [hs]

theorem make_stop {A : Arn} {l : List Ex} {k : Nat} {A' A2 : Arn} {out : List Nat} {x : Ex} (hx : l[k]? = some x) (hs : stepE A' out x = (none, A2)) (hgo : makeGo A [] l = makeGo A' out (l.drop k)) : makeGo A [] l = (out, false, A2) := by
  rw [hgo]
  have e : l.drop k = x :: l.drop (k + 1) := by
    obtain ⟨hl, hx'⟩ := List.getElem?_eq_some_iff.1 hx
    rw [List.drop_eq_getElem_cons hl, hx']
  rw [e]
  conv => lhs; unfold makeGo
  rw [hs]

theorem arena_grown {w w9 : World} {base e size n : Nat} {v : Value} {xs : List Value} {p g mb : Nat} {A : Arn} (hA : ArenaAt w p g mb A) (h : w.ownsRow base e size v n xs) (h1 : e ≠ 94) (h2 : e ≠ 98) (hg : w.grownBy w9 v.ownBlock) : ArenaAt w9 p g mb A := by
  have hne := own_ne_arena h hA h1 h2
  obtain ⟨l1, l2, l3⟩ := hA.lt
  exact hA.of_blocks (hg.block p l1 (fun e => (hne p e.symm).1 rfl)) (hg.block g l2 (fun e => (hne g e.symm).2.1 rfl)) (hg.block mb l3 (fun e => (hne mb e.symm).2.2 rfl))

theorem out_cell {w : World} {base s0 k cap : Nat} {out : List Nat} (h : w.ownsRow base 3 1 (.slice (some ⟨s0, 0, none⟩) k cap) k (out.map nat64)) {i : Nat} (hi : i < k) : w.cell? ⟨s0, i, none⟩ = some (.int .i64 ((out.getD i 0 : Nat) : Int)) := by
  have hl : out.length = k := by have := h.1; simpa using this
  have := h.cells (g := s0) rfl i (.int .i64 ((out.getD i 0 : Nat) : Int)) (by rw [List.getElem?_map, List.getElem?_eq_getElem (show i < out.length by omega), List.getD_eq_getElem?_getD, List.getElem?_eq_getElem (show i < out.length by omega)]; rfl)
  have key : (⟨s0, 0, none⟩ : Addr).add i = ⟨s0, i, none⟩ := by unfold Addr.add; split <;> simp_all
  rwa [key] at this

/-- A round's end, behind the append. -/
theorem make_round {w : World} {p g mb n : Nat} {A : Arn} {l : List Ex} {k gk : Nat} {A' A2 : Arn} {out : List Nat} {x : Ex} {f : Nat} {vo v2 : Value} {W w9 : World} {g2 : Nat}
    (hx : l[k]? = some x) (hk : k + gk = n) (hol : out.length = k) (hlt : k < n) (hs : stepE A' out x = (some f, A2)) (hO : A'.OK) (hb : ¬ BadE x k) (hE : Ext A A') (hf : ∀ f ∈ out, f < A'.nodes.length) (hgo : makeGo A [] l = makeGo A' out (l.drop k))
    (hown : W.ownsRow w.heap.size 3 1 vo k (out.map nat64)) (how : w9.ownsRow w.heap.size 3 1 v2 (k + 1) (out.map nat64 ++ [.int .i64 (f : Int)])) (hg2 : g2 = g ∨ w.heap.size ≤ g2) (hA2 : ArenaAt W p g2 mb A2) (hK : Kept [p, g, mb] w W) (hgr : W.grownBy w9 vo.ownBlock) :
    MakeRel w p g mb n A l (gk - 1) v2 (.int .i64 ((k : Int) + 1)) w9 :=
  make_end hx hk hol hlt hs hO hb hE hf hgo (by simpa [nat64] using how) hg2 (arena_grown hA2 hown (by decide) (by decide) hgr) (hK.grown_row hgr (fun s hs => Or.inr (hown.lt s hs).1))

end Go.Proofs.Ytakgghhmecphmaa
