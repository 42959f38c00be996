/- What a call leaves alone: 'Kept S w w'': of what was there in w nothing outside the blocks S has turned. And what the walks ask of rows of cells. Plain theorems on the kit's worlds. -/
import Derived.WalkKit
import Derived.StillTailTactics
import Derived.Deep.Draws
import Derived.Maps.AppendAt
import Derived.Laws.MakeOwn
import Derived.Laws.Slices
namespace Go.Proofs.YtjoblahedgpgbaaGreat
set_option linter.unusedVariables false
set_option linter.unusedSimpArgs false
open Go.RowKit

structure Kept (S : List Nat) (w w' : World) : Prop where
  os : w'.os = w.os
  tape : w'.tape = w.tape
  output : w'.output = w.output
  size : w.heap.size ≤ w'.heap.size
  block : ∀ k, k < w.heap.size → k ∉ S → w'.heap[k]? = w.heap[k]?

theorem Kept.refl (S : List Nat) (w : World) : Kept S w w := ⟨rfl, rfl, rfl, Nat.le_refl _, fun _ _ _ => rfl⟩
theorem Kept.trans {S S' : List Nat} {a b c : World} (h : Kept S a b) (k : Kept S' b c) (hs : ∀ i ∈ S', i ∈ S ∨ a.heap.size ≤ i) : Kept S a c :=
  ⟨k.os.trans h.os, k.tape.trans h.tape, k.output.trans h.output, Nat.le_trans h.size k.size, fun i hi hn => (k.block i (Nat.lt_of_lt_of_le hi h.size) (fun hm => by
    rcases hs i hm with h1 | h1
    · exact hn h1
    · omega)).trans (h.block i hi hn)⟩
theorem Kept.mono {S S' : List Nat} {a b : World} (h : Kept S a b) (hs : ∀ i ∈ S, i ∈ S' ∨ a.heap.size ≤ i) : Kept S' a b :=
  (Kept.refl S' a).trans h hs
theorem Kept.of_below {S : List Nat} {w w' : World} (h : Below w.heap.size w w') : Kept S w w' := ⟨h.os, h.tape, h.output, h.size, fun k hk _ => h.block k hk⟩
theorem Kept.below {S : List Nat} {B : Nat} {w w' : World} (h : Kept S w w') (hB : B ≤ w.heap.size) (hS : ∀ i ∈ S, B ≤ i) : Below B w w' :=
  ⟨h.os, h.tape, h.output, h.size, fun k hk => h.block k (by omega) (fun hm => by have := hS k hm; omega)⟩
theorem Kept.of_grown {row : Nat} {w w' : World} (h : w.grownBy w' (some row)) : Kept [row] w w' := ⟨h.os, h.tape, h.output, h.size, fun k hk hn => h.block k hk (fun e => hn (by cases e; simp))⟩
theorem Kept.of_grown_none {S : List Nat} {w w' : World} (h : w.grownBy w' none) : Kept S w w' := ⟨h.os, h.tape, h.output, h.size, fun k hk _ => h.block k hk (by simp)⟩
theorem Kept.of_drewN {S : List Nat} (w : World) (n : Nat) : Kept S w (w.drewN n) := ⟨rfl, rfl, rfl, Nat.le_refl _, fun _ _ _ => rfl⟩
theorem Kept.of_alloc {S : List Nat} (w : World) (o : Obj) : Kept S w (w.alloc o) := ⟨rfl, rfl, rfl, by simp, fun k hk _ => Below.heap_alloc _ _ _ hk⟩
theorem Kept.of_setCell (w : World) (a : Addr) (u : Value) : Kept [a.block] w (w.setCell a u) := ⟨rfl, rfl, rfl, by simp [World.setCell], fun k _ hn => Below.heap_setCell _ _ _ _ (by simpa using hn)⟩
theorem Kept.drewN {S : List Nat} {w w' : World} (h : Kept S w w') (n : Nat) : Kept S w (w'.drewN n) := ⟨h.os, h.tape, h.output, h.size, h.block⟩
theorem Kept.drew {S : List Nat} {w w' : World} (h : Kept S w w') : Kept S w w'.drew := ⟨h.os, h.tape, h.output, h.size, h.block⟩
theorem Kept.alloc {S : List Nat} {w w' : World} (h : Kept S w w') (o : Obj) : Kept S w (w'.alloc o) := h.trans (Kept.of_alloc (S := []) w' o) (by simp)
theorem Kept.setCell {S : List Nat} {w w' : World} (h : Kept S w w') (a : Addr) (u : Value) (ha : a.block ∈ S ∨ w.heap.size ≤ a.block) : Kept S w (w'.setCell a u) := h.trans (Kept.of_setCell w' a u) (by simpa using ha)
theorem Kept.grown {S : List Nat} {w w' w2 : World} (h : Kept S w w') {row : Nat} (hg : w'.grownBy w2 (some row)) (ha : row ∈ S ∨ w.heap.size ≤ row) : Kept S w w2 := h.trans (Kept.of_grown hg) (by simpa using ha)

theorem Kept.cell {S : List Nat} {w w' : World} (h : Kept S w w') {a : Addr} {v : Value} (hc : w.cell? a = some v) (hn : a.block ∉ S) : w'.cell? a = some v :=
  (World.cell?_of_block (h.block a.block (World.block_lt_of_cell? w a hc) hn)).trans hc
theorem Kept.frozen {S : List Nat} {w w' : World} (h : Kept S w w') {a : Addr} (hl : a.block < w.heap.size) (hn : a.block ∉ S) : w'.frozen? a = w.frozen? a :=
  World.frozen?_of_block (h.block a.block hl hn)

/-- The cells of a block that is known. -/
theorem cell_of {w : World} {b : Nat} {cs : Array Value} {t : TypeId} {fr : Nat × Nat} (h : w.heap[b]? = some (.cells cs t fr)) (j : Nat) : w.cell? ⟨b, j, none⟩ = cs[j]? := by
  simp [World.cell?, h]
theorem unfrozen_of {w : World} {b : Nat} {cs : Array Value} {t : TypeId} (h : w.heap[b]? = some (.cells cs t (0, 0))) (j : Nat) : w.frozen? ⟨b, j, none⟩ = false := by
  simp [World.frozen?, h]
theorem lt_of_block {w : World} {b : Nat} {o : Obj} (h : w.heap[b]? = some o) : b < w.heap.size := (Array.getElem?_eq_some_iff.1 h).1
theorem set_block {w : World} {b : Nat} {cs : Array Value} {t : TypeId} {fr : Nat × Nat} (h : w.heap[b]? = some (.cells cs t fr)) (j : Nat) (v : Value) : (w.setCell ⟨b, j, none⟩ v).heap[b]? = some (.cells (cs.setIfInBounds j v) t fr) := by
  simp [World.setCell, Array.getElem?_modify, h]
theorem block_ne {w : World} {a b : Nat} {x y : Obj} (ha : w.heap[a]? = some x) (hb : w.heap[b]? = some y) (hne : x ≠ y) : a ≠ b := by
  rintro rfl
  exact hne (Option.some.inj (ha.symm.trans hb))

theorem own_kept {S : List Nat} {w w' : World} {base : Nat} {e : TypeId} {size : Nat} {v : Value} {n : Nat} {xs : List Value} (h : w.ownsRow base e size v n xs) (k : Kept S w w') (hn : ∀ g, v.ownBlock = some g → g ∉ S) : w'.ownsRow base e size v n xs := by
  refine ⟨h.1, ?_⟩
  rcases h.2 with h1 | ⟨g, cap, cur, rfl, hb, hh, r⟩
  · exact Or.inl h1
  · exact Or.inr ⟨g, cap, cur, rfl, hb, (k.block g (lt_of_block hh) (hn g rfl)).trans hh, r⟩
theorem news_new (w : World) (cs : Array Value) (t : TypeId) : ∀ j u, cs.toList[j]? = some u → (w.alloc (.cells cs t)).cell? ((⟨w.heap.size, 0, none⟩ : Addr).add j) = some u := by
  intro j u hu
  have hadd : (⟨w.heap.size, 0, none⟩ : Addr).add j = ⟨w.heap.size, j, none⟩ := by unfold Addr.add; split <;> simp_all
  rw [hadd, cell_of (heap_alloc_new w _)]
  simpa using hu
theorem news_new2 (w : World) (o : Obj) (n : Nat) (cs : Array Value) (t : TypeId) : ∀ j u, cs.toList[j]? = some u → (((w.alloc o).drewN n).alloc (.cells cs t)).cell? ((⟨w.heap.size + 1, 0, none⟩ : Addr).add j) = some u := by
  have := news_new ((w.alloc o).drewN n) cs t
  have e : ((w.alloc o).drewN n).heap.size = w.heap.size + 1 := by simp [World.drewN]
  rwa [e] at this
theorem blk_grown {W w1 : World} {g b : Nat} {o : Obj} (h : W.heap[b]? = some o) (hg : W.grownBy w1 (some g)) (hne : b ≠ g) : w1.heap[b]? = some o :=
  (hg.block b (lt_of_block h) (by simpa using hne)).trans h
theorem blk_alloc {w : World} {b : Nat} {x : Obj} (h : w.heap[b]? = some x) (o : Obj) : (w.alloc o).heap[b]? = some x := (Below.heap_alloc w o b (lt_of_block h)).trans h
theorem blk_drewN {w : World} {b : Nat} {x : Obj} (h : w.heap[b]? = some x) (n : Nat) : (w.drewN n).heap[b]? = some x := h
theorem blk_drew {w : World} {b : Nat} {x : Obj} (h : w.heap[b]? = some x) : w.drew.heap[b]? = some x := h
theorem blk_setCell {w : World} {b : Nat} {x : Obj} (h : w.heap[b]? = some x) {a : Addr} (hne : b ≠ a.block) (v : Value) : (w.setCell a v).heap[b]? = some x := (Below.heap_setCell w a v b hne).trans h
/-- A region of open order whose first n operations only read and all stand ahead of the rest, which stand in one order: one walk. -/
theorem wp_still_tail {P : Program} {id : Nat} {Q : Exit → Act → World → Prop} {a : Act} {w : World} {l : List Oper} (n : Nat) (hm : P.follows .mixedOrders = true) (hB : Region.lexTailB .any l.toArray n = true)
    (h : wpStill P l.toArray w.drew (fun a' => wpList P l.toArray Q (l.drop n) a' w.drew) (l.take n) a) : (Code.region id l.toArray true).wp P Q a w :=
  wp_region_still_tail n hm hB h

end Go.Proofs.YtjoblahedgpgbaaGreat
