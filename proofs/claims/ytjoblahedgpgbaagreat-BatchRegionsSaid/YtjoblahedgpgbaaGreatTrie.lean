/- A tree of prefixes in memory: nodes by their paths; the walk of way. -/
import Derived.Test.YtjoblahedgpgbaaGreatRul
import Derived.Deep.AppendLies
import Derived.Maps.AppendAt
import Derived.Deep.CutRange
namespace Go.Proofs.YtjoblahedgpgbaaGreat
set_option linter.unusedVariables false
set_option linter.unusedSimpArgs false
open Go.RowKit

/-- The way to a prefix, bit by bit. -/
def pth (a n : Nat) : List Bool := (List.range n).map fun i => a.testBit (31 - i)
theorem pth_succ (a n : Nat) : pth a (n + 1) = pth a n ++ [a.testBit (31 - n)] := by simp [pth, List.range_succ]
theorem pth_length (a n : Nat) : (pth a n).length = n := by simp [pth]
def i64 (x : Int) : Value := .int .i64 x
/-- A pointer to a node, if there is one. -/
def kidV : Option (Nat × Nat) → Value
  | none => .pointer none
  | some (g, o) => .pointer (some ⟨g, o, none⟩)

structure TreeAt (w : World) (p : Nat) (F : List Nat) (B : List Bool → Option (Nat × Nat)) (S : List Bool → Value) (V : List Bool → List Int) : Prop where
  root : B [] = some (p, 1)
  up : ∀ π b, (B (π ++ [b])).isSome = true → (B π).isSome = true
  node : ∀ π g o, B π = some (g, o) → g ∈ F ∧ w.cell? ⟨g, o, none⟩ = some (S π) ∧ w.cell? ⟨g, o + 1, none⟩ = some (kidV (B (π ++ [false]))) ∧ w.cell? ⟨g, o + 2, none⟩ = some (kidV (B (π ++ [true]))) ∧ ∀ j, w.frozen? ⟨g, j, none⟩ = false
  inj : ∀ π π' g o o', B π = some (g, o) → B π' = some (g, o') → π = π'
  vals : ∀ π, (B π).isSome = true → w.ownsRow 0 3 1 (S π) (V π).length ((V π).map i64)
  own : ∀ π h, (B π).isSome = true → (S π).ownBlock = some h → h ∈ F ∧ (∀ π' g o, B π' = some (g, o) → g ≠ h) ∧ ∀ π', (B π').isSome = true → (S π').ownBlock = some h → π' = π
  empty : ∀ π, B π = none → V π = []

variable {w w' : World} {p : Nat} {F : List Nat} {B : List Bool → Option (Nat × Nat)} {S : List Bool → Value} {V : List Bool → List Int}

theorem TreeAt.of_blocks (h : TreeAt w p F B S V) (hb : ∀ g ∈ F, w'.heap[g]? = w.heap[g]?) : TreeAt w' p F B S V := by
  refine ⟨h.root, h.up, fun π g o e => ?_, h.inj, fun π e => ?_, h.own, h.empty⟩
  · obtain ⟨a, b, c, d, f⟩ := h.node π g o e
    have hc := fun j => World.cell?_of_block (a := ⟨g, j, none⟩) (hb g a)
    exact ⟨a, (hc _).trans b, (hc _).trans c, (hc _).trans d, fun j => (World.frozen?_of_block (a := ⟨g, j, none⟩) (hb g a)).trans (f j)⟩
  · refine ⟨(h.vals π e).1, ?_⟩
    rcases (h.vals π e).2 with h1 | ⟨g, cap, cur, e1, h2, h3, r⟩
    · exact Or.inl h1
    · exact Or.inr ⟨g, cap, cur, e1, h2, (hb g (h.own π g e (by rw [e1]; rfl)).1).trans h3, r⟩
theorem TreeAt.lt (h : TreeAt w p F B S V) {π : List Bool} {g o : Nat} (e : B π = some (g, o)) : g < w.heap.size := World.block_lt_of_cell? w _ (h.node π g o e).2.1
theorem TreeAt.foot (h : TreeAt w p F B S V) {F' : List Nat} (hF : ∀ g ∈ F, g ∈ F') : TreeAt w p F' B S V :=
  ⟨h.root, h.up, fun π g o e => by obtain ⟨a, r⟩ := h.node π g o e; exact ⟨hF g a, r⟩, h.inj, h.vals, fun π k e e2 => by obtain ⟨a, r⟩ := h.own π k e e2; exact ⟨hF k a, r⟩, h.empty⟩
theorem TreeAt.kept {T : List Nat} (h : TreeAt w p F B S V) (k : Kept T w w') (hF : ∀ g ∈ F, g < w.heap.size) (hT : ∀ g ∈ F, g ∉ T) : TreeAt w' p F B S V :=
  h.of_blocks fun g hg => k.block g (hF g hg) (hT g hg)

/-- A new node below another one. -/
theorem TreeAt.grow (h : TreeAt w p F B S V) {π : List Bool} {b : Bool} {g o : Nat} (e : B π = some (g, o)) (hn : B (π ++ [b]) = none) (hF : ∀ x ∈ F, x < w.heap.size) :
    TreeAt ((w.alloc (.cells #[.slice none 0 0, .pointer none, .pointer none] 272)).setCell ⟨g, o + 1 + b.toNat, none⟩ (.pointer (some ⟨w.heap.size, 0, none⟩))) p (w.heap.size :: F)
      (fun q => if q = π ++ [b] then some (w.heap.size, 0) else B q) (fun q => if q = π ++ [b] then .slice none 0 0 else S q) V := by
  have hg := h.lt e
  have hgne : g ≠ w.heap.size := by omega
  have hX := heap_alloc_new w (.cells #[.slice none 0 0, .pointer none, .pointer none] 272)
  have k1 : Kept [g] w ((w.alloc (.cells #[.slice none 0 0, .pointer none, .pointer none] 272)).setCell ⟨g, o + 1 + b.toNat, none⟩ (.pointer (some ⟨w.heap.size, 0, none⟩))) := ((Kept.refl [g] w).alloc _).setCell _ _ (by simp)
  have hX2 := blk_setCell hX (a := ⟨g, o + 1 + b.toNat, none⟩) (by simp; omega) (.pointer (some ⟨w.heap.size, 0, none⟩))
  have hset : ∀ o', o' ≠ o + 1 + b.toNat → ∀ v, w.cell? ⟨g, o', none⟩ = some v → ((w.alloc (.cells #[.slice none 0 0, .pointer none, .pointer none] 272)).setCell ⟨g, o + 1 + b.toNat, none⟩ (.pointer (some ⟨w.heap.size, 0, none⟩))).cell? ⟨g, o', none⟩ = some v := by
    intro o' hne v hv
    have hne2 : (⟨g, o + 1 + b.toNat, none⟩ : Addr) ≠ ⟨g, o', none⟩ := by
      intro h1
      injection h1 with _ h2
      omega
    rw [World.cell?_setCell_other (h := hne2)]
    exact ((Kept.refl [] w).alloc _).cell hv (by simp)
  have hthe : ∀ v, w.cell? ⟨g, o + 1 + b.toNat, none⟩ = some v → ((w.alloc (.cells #[.slice none 0 0, .pointer none, .pointer none] 272)).setCell ⟨g, o + 1 + b.toNat, none⟩ (.pointer (some ⟨w.heap.size, 0, none⟩))).cell? ⟨g, o + 1 + b.toNat, none⟩ = some (.pointer (some ⟨w.heap.size, 0, none⟩)) := fun v hv =>
    World.cell?_setCell_same _ _ _ (((Kept.refl [] w).alloc _).cell hv (by simp))
  have hfro : ∀ j, w.frozen? ⟨g, j, none⟩ = false → ((w.alloc (.cells #[.slice none 0 0, .pointer none, .pointer none] 272)).setCell ⟨g, o + 1 + b.toNat, none⟩ (.pointer (some ⟨w.heap.size, 0, none⟩))).frozen? ⟨g, j, none⟩ = false := fun j hj => by
    rw [World.frozen?_setCell, ((Kept.refl [] w).alloc _).frozen hg (by simp)]
    exact hj
  generalize (w.alloc (.cells #[.slice none 0 0, .pointer none, .pointer none] 272)).setCell ⟨g, o + 1 + b.toNat, none⟩ (.pointer (some ⟨w.heap.size, 0, none⟩)) = T at *
  have snoc : ∀ {q : List Bool} {c : Bool}, q ++ [c] = π ++ [b] → q = π ∧ c = b := fun e => by
    have := List.append_inj' e rfl
    exact ⟨this.1, by simpa using this.2⟩
  have hne : ∀ c, B ((π ++ [b]) ++ [c]) = none := fun c => by
    cases hc : B ((π ++ [b]) ++ [c]) with
    | none => rfl
    | some x => have := h.up (π ++ [b]) c (by rw [hc]; rfl); rw [hn] at this; cases this
  have hlong : ∀ c, ¬ (π ++ [b]) ++ [c] = π ++ [b] := fun c e => by have := congrArg List.length e; simp at this
  have hshort : ¬ π = π ++ [b] := fun e => by have := congrArg List.length e; simp at this
  refine ⟨?_, ?_, ?_, ?_, ?_, ?_, ?_⟩
  · rw [if_neg (by simp)]
    exact h.root
  · intro q c hq
    by_cases hqe : q = π ++ [b]
    · rw [if_pos hqe]; rfl
    · rw [if_neg hqe]
      by_cases hqc : q ++ [c] = π ++ [b]
      · rw [(snoc hqc).1, e]; rfl
      · rw [if_neg hqc] at hq
        exact h.up q c hq
  · intro q g' o' hq
    by_cases hqe : q = π ++ [b]
    · rw [if_pos hqe] at hq
      cases hq
      subst hqe
      refine ⟨by simp, ?_, ?_, ?_, fun j => unfrozen_of hX2 j⟩
      · rw [if_pos rfl]
        exact cell_of hX2 0
      · rw [if_neg (hlong _), hne]
        exact cell_of hX2 1
      · rw [if_neg (hlong _), hne]
        exact cell_of hX2 2
    · rw [if_neg hqe] at hq ⊢
      obtain ⟨n1, n2, n3, n4, n5⟩ := h.node q g' o' hq
      by_cases hqp : q = π
      · subst hqp
        rw [e] at hq
        cases hq
        refine ⟨by simp [n1], hset _ (by omega) _ n2, ?_, ?_, fun j => hfro j (n5 j)⟩
        · cases b
          · rw [if_pos rfl]
            exact hthe _ n3
          · rw [if_neg (fun e => by have := (snoc e).2; cases this)]
            exact hset _ (by simp) _ n3
        · cases b
          · rw [if_neg (fun e => by have := (snoc e).2; cases this)]
            exact hset _ (by simp) _ n4
          · rw [if_pos rfl]
            exact hthe _ n4
      · have hgg : g' ≠ g := fun e2 => hqp (h.inj q π g' o' o hq (by rw [e2]; exact e))
        rw [if_neg (fun e => hqp (snoc e).1), if_neg (fun e => hqp (snoc e).1)]
        have hlt := hF g' n1
        exact ⟨by simp [n1], k1.cell n2 (by simp; omega), k1.cell n3 (by simp; omega), k1.cell n4 (by simp; omega), fun j => (k1.frozen (a := ⟨g', j, none⟩) hlt (by simp; omega)).trans (n5 j)⟩
  · intro q q' g' o' o'' hq hq'
    by_cases h1 : q = π ++ [b]
    · by_cases h2 : q' = π ++ [b]
      · rw [h1, h2]
      · rw [if_pos h1] at hq
        rw [if_neg h2] at hq'
        cases hq
        have := h.lt hq'
        omega
    · by_cases h2 : q' = π ++ [b]
      · rw [if_neg h1] at hq
        rw [if_pos h2] at hq'
        cases hq'
        have := h.lt hq
        omega
      · rw [if_neg h1] at hq
        rw [if_neg h2] at hq'
        exact h.inj q q' g' o' o'' hq hq'
  · intro q hq
    by_cases h1 : q = π ++ [b]
    · rw [if_pos h1, h1, h.empty _ hn]
      exact World.ownsRow_nil _ _ _ _
    · rw [if_neg h1] at hq ⊢
      exact own_kept (h.vals q hq) k1 (fun x hx => by have := (h.own q x hq hx).2.1 π g o e; simp; omega)
  · intro q x hq hx
    by_cases h1 : q = π ++ [b]
    · rw [if_pos h1] at hx
      cases hx
    · rw [if_neg h1] at hq hx
      obtain ⟨o1, o2, o3⟩ := h.own q x hq hx
      have hxl := hF x o1
      refine ⟨by simp [o1], fun q' g' o' hq' => ?_, fun q' hq' hx' => ?_⟩
      · by_cases h2 : q' = π ++ [b]
        · rw [if_pos h2] at hq'
          cases hq'
          omega
        · rw [if_neg h2] at hq'
          exact o2 q' g' o' hq'
      · by_cases h2 : q' = π ++ [b]
        · rw [if_pos h2] at hx'
          cases hx'
        · rw [if_neg h2] at hq' hx'
          exact o3 q' hq' hx'
  · intro q hq
    by_cases h1 : q = π ++ [b]
    · rw [if_pos h1] at hq
      cases hq
    · rw [if_neg h1] at hq
      exact h.empty q hq

theorem ptr_info : (Tryz.prog.info? 269).map (fun i => (i.zero, i.size, i.bytes)) = some (some (.pointer none), 1, 8) := by kernel_rfl
theorem int_infoT : (Tryz.prog.info? 3).map (fun i => (i.zero, i.size, i.bytes)) = some (some (.int .i64 0), 1, 8) := by kernel_rfl
theorem info_parts {t : TypeId} {z : Value} {s b : Nat} (h : (Tryz.prog.info? t).map (fun i => (i.zero, i.size, i.bytes)) = some (some z, s, b)) : ∃ i, Tryz.prog.info? t = some i ∧ i.zero = some z ∧ i.size = s ∧ i.bytes = b := by
  cases hi : Tryz.prog.info? t with
  | none => rw [hi] at h; cases h
  | some i =>
    rw [hi] at h
    simp at h
    exact ⟨i, rfl, h.1, h.2.1, h.2.2⟩
theorem own_pastT {w : World} {base : Nat} {e : TypeId} {size : Nat} {v : Value} {n : Nat} {xs : List Value} (h : w.ownsRow base e size v n xs) : ∀ g, v.ownBlock = some g → base ≤ g := by
  intro g hg
  rcases h.2 with ⟨h0, h1⟩ | ⟨g', cap, cur, rfl, hb, _⟩
  · rw [h0] at hg; cases hg
  · cases hg; exact hb
theorem Kept.grown_rowT {S : List Nat} {w w' w2 : World} (h : Kept S w w') {row : Option Nat} (hg : w'.grownBy w2 row) (ha : ∀ k, row = some k → k ∈ S ∨ w.heap.size ≤ k) : Kept S w w2 := by
  cases row with
  | none => exact h.trans (Kept.of_grown_none (S := []) hg) (by simp)
  | some k => exact h.grown hg (ha k rfl)
theorem news_atT {w : World} {cs : Array Value} {t : TypeId} {k : Nat} (hk : k = w.heap.size) : ∀ j u, cs.toList[j]? = some u → (w.alloc (.cells cs t)).cell? ((⟨k, 0, none⟩ : Addr).add j) = some u := by
  subst hk
  exact news_new w cs t

/-- The nodes on the way, in a row. -/
def wayL (B : List Bool → Option (Nat × Nat)) (a m : Nat) : List Value := (List.range m).map fun j => kidV (B (pth a j))
theorem wayL_succ (B : List Bool → Option (Nat × Nat)) (a m : Nat) : wayL B a (m + 1) = wayL B a m ++ [kidV (B (pth a m))] := by simp [wayL, List.range_succ]

/-- A tree in memory, behind a world. -/
structure TreeIn (w w' : World) (p : Nat) (F F' : List Nat) (B : List Bool → Option (Nat × Nat)) (S : List Bool → Value) (V : List Bool → List Int) : Prop where
  tree : TreeAt w' p F' B S V
  foot : ∀ x ∈ F', x ∈ F ∨ w.heap.size ≤ x
  lt : ∀ x ∈ F', x < w'.heap.size
  kept : Kept F w w'
  cell : ∀ j, j ≠ 1 → j ≠ 2 → j ≠ 3 → w'.cell? ⟨p, j, none⟩ = w.cell? ⟨p, j, none⟩
theorem TreeIn.start (h : TreeAt w p F B S V) (hF : ∀ x ∈ F, x < w.heap.size) : TreeIn w w p F F B S V := ⟨h, fun x hx => Or.inl hx, hF, Kept.refl _ _, fun _ _ _ _ => rfl⟩

theorem TreeIn.kept0 {w1 w2 : World} {F' : List Nat} {B' : List Bool → Option (Nat × Nat)} {S' : List Bool → Value} (h : TreeIn w1 w' p F F' B' S' V) (k : Kept [] w' w2) : TreeIn w1 w2 p F F' B' S' V :=
  ⟨h.tree.kept k h.lt (by simp), h.foot, fun x hx => Nat.lt_of_lt_of_le (h.lt x hx) k.size, h.kept.trans k (by simp), fun j h1 h2 h3 => (World.cell?_of_block (a := ⟨p, j, none⟩) (k.block p (h.tree.lt h.tree.root) (by simp))).trans (h.cell j h1 h2 h3)⟩
theorem TreeIn.pre {w1 : World} {F' : List Nat} {B' : List Bool → Option (Nat × Nat)} {S' : List Bool → Value} (h : TreeIn w1 w' p F F' B' S' V) (k : Below w.heap.size w w1) (hF : ∀ x ∈ F, x < w.heap.size) (hp : p < w.heap.size) : TreeIn w w' p F F' B' S' V :=
  ⟨h.tree, fun x hx => by have := k.size; rcases h.foot x hx with a | a; exact Or.inl a; exact Or.inr (by omega), h.lt, Kept.trans (S := F) (Kept.of_below k) h.kept (fun i hi => Or.inl hi), fun j h1 h2 h3 => (h.cell j h1 h2 h3).trans (World.cell?_of_block (a := ⟨p, j, none⟩) (k.block p hp))⟩
theorem wayL_upd {B B' : List Bool → Option (Nat × Nat)} {a m : Nat} (h : ∀ q, q.length < m → B' q = B q) : wayL B' a m = wayL B a m := by
  unfold wayL
  refine List.map_congr_left fun j hj => ?_
  rw [h _ (by rw [pth_length]; exact List.mem_range.1 hj)]

theorem TreeIn.keptT {w2 : World} {T F' : List Nat} {B' : List Bool → Option (Nat × Nat)} {S' : List Bool → Value} (h : TreeIn w w' p F F' B' S' V) (k : Kept T w' w2) (hT : ∀ g ∈ F', g ∉ T) (hT2 : ∀ x ∈ T, w.heap.size ≤ x) : TreeIn w w2 p F F' B' S' V :=
  ⟨h.tree.kept k h.lt hT, h.foot, fun x hx => Nat.lt_of_lt_of_le (h.lt x hx) k.size, h.kept.trans k (fun i hi => Or.inr (hT2 i hi)), fun j h1 h2 h3 => (World.cell?_of_block (a := ⟨p, j, none⟩) (k.block p (h.tree.lt h.tree.root) (hT p (h.tree.node _ _ _ h.tree.root).1))).trans (h.cell j h1 h2 h3)⟩
theorem TreeIn.grow {F' : List Nat} {B' : List Bool → Option (Nat × Nat)} {S' : List Bool → Value} (h : TreeIn w w' p F F' B' S' V) {π : List Bool} {b : Bool} {g o : Nat} (e : B' π = some (g, o)) (hn : B' (π ++ [b]) = none) :
    TreeIn w ((w'.setCell ⟨g, o + 1 + b.toNat, none⟩ (.pointer (some ⟨w'.heap.size, 0, none⟩))).alloc (.cells #[.slice none 0 0, .pointer none, .pointer none] 272)) p F (w'.heap.size :: F')
      (fun q => if q = π ++ [b] then some (w'.heap.size, 0) else B' q) (fun q => if q = π ++ [b] then .slice none 0 0 else S' q) V := by
  have hg := h.tree.lt e
  have hz := h.kept.size
  have hgm := (h.tree.node _ _ _ e).1
  have hT := h.tree.grow e hn h.lt
  rw [World.setCell_alloc_past _ _ _ _ hg] at hT
  have k1 : Kept [g] w' ((w'.setCell ⟨g, o + 1 + b.toNat, none⟩ (.pointer (some ⟨w'.heap.size, 0, none⟩))).alloc (.cells #[.slice none 0 0, .pointer none, .pointer none] 272)) := ((Kept.refl [g] w').setCell _ _ (by simp)).alloc _
  refine ⟨?_, ?_, ?_, ?_, ?_⟩
  · exact hT
  · intro x hx
    rcases List.mem_cons.1 hx with rfl | hx
    · exact Or.inr hz
    · exact h.foot x hx
  · intro x hx
    rcases List.mem_cons.1 hx with rfl | hx
    · simp
    · have := h.lt x hx
      simp
      omega
  · refine h.kept.trans k1 fun i hi => ?_
    obtain rfl : i = g := by simpa using hi
    exact h.foot i hgm
  · intro j h1 h2 h3
    rw [← h.cell j h1 h2 h3]
    have hp := h.tree.lt h.tree.root
    by_cases hgp : g = p
    · subst hgp
      have hpi := h.tree.inj _ _ _ _ _ e h.tree.root
      subst hpi
      rw [h.tree.root] at e
      cases e
      have hne : (⟨g, 1 + 1 + b.toNat, none⟩ : Addr) ≠ ⟨g, j, none⟩ := by
        intro h1
        injection h1 with _ h4
        cases b <;> simp at h4 <;> omega
      have e1 : (w'.setCell ⟨g, 1 + 1 + b.toNat, none⟩ (.pointer (some ⟨w'.heap.size, 0, none⟩))).cell? ⟨g, j, none⟩ = w'.cell? ⟨g, j, none⟩ := World.cell?_setCell_other _ _ _ _ hne
      rw [← e1]
      exact World.cell?_of_block (a := ⟨g, j, none⟩) (Below.heap_alloc _ _ _ (by simp [World.setCell]; exact hp))
    · exact World.cell?_of_block (a := ⟨p, j, none⟩) (k1.block p hp (by simp; omega))

/-- What holds at a round's head of way. -/
structure WayAt (w wr : World) (p : Nat) (F F' : List Nat) (B' : List Bool → Option (Nat × Nat)) (S' : List Bool → Value) (V : List Bool → List Int) (a n i : Nat) (vo : Value) : Prop where
  some : (B' (pth a i)).isSome = true
  row : wr.ownsRow (w.heap.size + 1) 269 1 vo (i + 1) (wayL B' a (i + 1))
  tree : TreeIn w wr p F F' B' S' V
  notin : w.heap.size ∉ F'
  size : w.heap.size + 2 ≤ wr.heap.size
  box : wr.heap[w.heap.size]? = Option.some (.cells #[.int .u32 (a : Int), .int .i64 (n : Int)] 48 (0, 0))
  own : ∀ x, vo.ownBlock = Option.some x → x ∉ F'

section
variable {wr w9 : World} {F' : List Nat} {B' : List Bool → Option (Nat × Nat)} {S' : List Bool → Value} {a n i : Nat} {vo : Value}
theorem WayAt.kept0 {w2 : World} (h : WayAt w wr p F F' B' S' V a n i vo) (k : Kept [] wr w2) : WayAt w w2 p F F' B' S' V a n i vo :=
  ⟨h.some, own_kept h.row k (by simp), h.tree.kept0 k, h.notin, Nat.le_trans h.size k.size, (k.block _ (lt_of_block h.box) (by simp)).trans h.box, h.own⟩
theorem WayAt.step (h : WayAt w wr p F F' B' S' V a n i vo) {g2 o2 g9 cap : Nat} {obj : Obj} (hk : B' (pth a (i + 1)) = Option.some (g2, o2)) (how : w9.ownsRow (w.heap.size + 1) 269 1 (.slice (Option.some ⟨g9, 0, Option.none⟩) (i + 1 + 1) cap) (i + 1 + 1) (wayL B' a (i + 1) ++ [.pointer (Option.some ⟨g2, o2, Option.none⟩)]))
    (hgr : (wr.alloc obj).grownBy w9 vo.ownBlock) (hat : vo.ownBlock = Option.some g9 ∨ g9 = wr.heap.size + 1) : WayAt w w9 p F F' B' S' V a n (i + 1) (.slice (Option.some ⟨g9, 0, Option.none⟩) (i + 1 + 1) cap) := by
  have hp := own_pastT h.row
  have k1 : Kept vo.ownBlock.toList wr w9 := Kept.grown_rowT ((Kept.refl _ wr).alloc obj) hgr (fun k hk => Or.inl (by rw [hk]; simp))
  refine ⟨by rw [hk]; rfl, ?_, h.tree.keptT k1 ?_ ?_, h.notin, Nat.le_trans h.size k1.size, (k1.block _ (lt_of_block h.box) ?_).trans h.box, ?_⟩
  · rw [wayL_succ, hk]
    exact how
  · intro g hg hm
    exact h.own g (by simpa using hm) hg
  · intro x hx
    have := hp x (by simpa using hx)
    omega
  · intro hm
    have := hp _ (by simpa using hm)
    omega
  · intro x hx
    obtain rfl : x = g9 := by simp [Value.ownBlock] at hx; exact hx.symm
    rcases hat with e | e
    · exact h.own _ e
    · intro hm
      have := h.tree.lt _ hm
      omega
theorem WayAt.make (h : WayAt w wr p F F' B' S' V a n i vo) {g o : Nat} {b : Bool} (e : B' (pth a i) = Option.some (g, o)) (hn : B' (pth a i ++ [b]) = Option.none) :
    WayAt w ((wr.setCell ⟨g, o + 1 + b.toNat, Option.none⟩ (.pointer (Option.some ⟨wr.heap.size, 0, Option.none⟩))).alloc (.cells #[.slice Option.none 0 0, .pointer Option.none, .pointer Option.none] 272)) p F (wr.heap.size :: F')
      (fun q => if q = pth a i ++ [b] then Option.some (wr.heap.size, 0) else B' q) (fun q => if q = pth a i ++ [b] then .slice Option.none 0 0 else S' q) V a n i vo := by
  have hgm := (h.tree.tree.node _ _ _ e).1
  have k1 : Kept [g] wr ((wr.setCell ⟨g, o + 1 + b.toNat, Option.none⟩ (.pointer (Option.some ⟨wr.heap.size, 0, Option.none⟩))).alloc (.cells #[.slice Option.none 0 0, .pointer Option.none, .pointer Option.none] 272)) := ((Kept.refl [g] wr).setCell _ _ (by simp)).alloc _
  have hlen : ∀ q : List Bool, q.length < i + 1 → ¬ q = pth a i ++ [b] := fun q hq he => by have := congrArg List.length he; simp [pth_length] at this; omega
  refine ⟨?_, ?_, h.tree.grow e hn, ?_, Nat.le_trans h.size k1.size, (k1.block _ (lt_of_block h.box) ?_).trans h.box, ?_⟩
  · rw [if_neg (hlen _ (by rw [pth_length]; omega))]
    exact h.some
  · rw [wayL_upd fun q hq => if_neg (hlen q hq)]
    exact own_kept h.row k1 (fun x hx hm => h.own x hx (by rw [show x = g by simpa using hm]; exact hgm))
  · have := h.size
    intro hm
    rcases List.mem_cons.1 hm with hm | hm
    · omega
    · exact h.notin hm
  · intro hm
    obtain hm : w.heap.size = g := by simpa using hm
    exact h.notin (by rw [hm]; exact hgm)
  · intro x hx hm
    rcases List.mem_cons.1 hm with rfl | hm
    · have := (h.row.lt _ hx).2
      omega
    · exact h.own x hx hm
end

set_option maxRecDepth 100000 in
set_option maxHeartbeats 2000000 in
theorem way_made (h : TreeAt w p F B S V) (hF : ∀ x ∈ F, x < w.heap.size) (a n : Nat) (ha : a < 2 ^ 32) (hn : n ≤ 32) :
    Calls Tryz.prog 241 #[.pointer (some ⟨p, 1, none⟩), .agg #[.int .u32 (a : Int), .int .i64 (n : Int)], .bool true] w fun e w' => ∃ vo F' B' S', e = .returned vo ∧ w'.ownsRow w.heap.size 269 1 vo (n + 1) (wayL B' a (n + 1)) ∧
      TreeIn w w' p F F' B' S' V ∧ (B' (pth a n)).isSome = true ∧ ∀ x, vo.ownBlock = some x → x ∉ F' := by
  obtain ⟨i0, hi, hz0, hz1, hz2⟩ := info_parts ptr_info
  have HT := Lib.hid (TreeIn.start h hF)
  have hpz := h.lt h.root
  have hroot := h.root
  have HBIT := Lib.hid (fun w' i hi => tbit_calls w' a i ha hi)
  have k0 := ((Below.refl w.heap.size w).alloc (Nat.le_refl _) (.cells #[.int .u32 (a : Int), .int .i64 (n : Int)] 48)).alloc (by simp) (.cells #[.pointer (some ⟨p, 1, none⟩)] 269)
  have hX := blk_alloc (heap_alloc_new w (.cells #[.int .u32 (a : Int), .int .i64 (n : Int)] 48)) (.cells #[.pointer (some ⟨p, 1, none⟩)] 269)
  have hO := World.ownsRow_lit (base := w.heap.size) (e := 269) (size := 1) (w.alloc (.cells #[.int .u32 (a : Int), .int .i64 (n : Int)] 48)) #[.pointer (some ⟨p, 1, none⟩)] 1 (by simp) (by unfold maxLen; omega) rfl
  rw [show (w.alloc (.cells #[.int .u32 (a : Int), .int .i64 (n : Int)] 48)).heap.size = w.heap.size + 1 by simp] at hO
  have hz1' := k0.size
  have hzz : ((w.alloc (.cells #[.int .u32 (a : Int), .int .i64 (n : Int)] 48)).alloc (.cells #[.pointer (some ⟨p, 1, none⟩)] 269)).heap.size = w.heap.size + 2 := by simp
  clear h hF
  go_enter Tryz.func241, Tryz.ntmps241
  go_wp2_with (fail)
  generalize (w.alloc (.cells #[.int .u32 (a : Int), .int .i64 (n : Int)] 48)).alloc (.cells #[.pointer (some ⟨p, 1, none⟩)] 269) = w1 at *
  have HW0 : WayAt w w1 p F F B S V a n 0 (.slice (some ⟨w.heap.size + 1, 0, none⟩) 1 1) := by
    have hnot : ∀ x, w.heap.size ≤ x → x ∉ F := fun x hx hm => by have := HT.out.lt _ hm; omega
    refine ⟨by rw [show pth a 0 = [] from rfl, hroot]; rfl, ?_, HT.out.kept0 (Kept.of_below (S := []) k0), hnot _ (Nat.le_refl _), by omega, hX, fun x hx => ?_⟩
    · have e : wayL B a (0 + 1) = [.pointer (some ⟨p, 1, none⟩)] := by simp [wayL, show pth a 0 = [] from rfl, hroot, kidV]
      rw [e]
      exact ⟨hO.1, by rcases hO.2 with h1 | ⟨g', cap, cur, h1, h2, r⟩; exact Or.inl h1; exact Or.inr ⟨g', cap, cur, h1, by cases h1; omega, r⟩⟩
    · obtain rfl : x = w.heap.size + 1 := by simp [Value.ownBlock] at hx; exact hx.symm
      exact hnot _ (by omega)
  have HW0 := Lib.hid HW0
  have HR := Lib.hid hroot
  clear k0 hX hroot HT hO
  go_loopg [7, 8, 18] n (fun gk vat vo vi wr => ∃ (i : Nat) (F' : List Nat) (B' : List Bool → Option (Nat × Nat)) (S' : List Bool → Value), i + gk = n ∧ vi = .int .i64 (i : Int) ∧ vat = kidV (B' (pth a i)) ∧ WayAt w wr p F F' B' S' V a n i vo)
  case atStart => exact ⟨0, F, B, S, by omega, rfl, by rw [show pth a 0 = [] from rfl, HR.out]; rfl, HW0.out⟩
  case round =>
    obtain ⟨i, F', B', S', hgk, rfl, rfl, hW⟩ := hrel
    obtain ⟨⟨g, o⟩, hgo⟩ := Option.isSome_iff_exists.1 hW.some
    have hbx := hW.box
    have dx := And.intro (cell_of hbx 0) (cell_of hbx 1)
    simp only [List.getElem?_toArray, List.getElem?_cons_zero, List.getElem?_cons_succ] at dx
    have HW := Lib.hid hW
    have HGO := Lib.hid hgo
    rw [hgo]
    clear hgo hbx hW HW0
    by_cases hlt : i < n
    · have HB : ∀ w', Calls Tryz.prog 243 #[.int .u32 (a : Int), .int .i64 (i : Int)] w' fun e w'' => e = .returned (.int .i64 (((a.testBit (31 - i)).toNat : Nat) : Int)) ∧ w'' = w' := fun w' => HBIT.out w' i (by omega)
      have HPS := Lib.hid (pth_succ a i)
      generalize a.testBit (31 - i) = b at *
      have HBB := Lib.hid HB
      clear HB HBIT
      unfold kidV
      cases b
      · have HB0 : Hid (∀ w', Calls Tryz.prog 243 #[.int .u32 (a : Int), .int .i64 (i : Int)] w' fun e w'' => e = .returned (.int .i64 0) ∧ w'' = w') := Lib.hid HBB.out
        clear HBB
        go_wp2_with (fail)
        go_quiet ((go_at_call 243; exact Calls.quiet_of_same (HB0.out _)))
        have HQ := Lib.hid (HW.out.kept0 (Kept.of_drewN (S := []) wr nq))
        have hwq : wr.heap.size ≤ (wr.drewN nq).heap.size := Nat.le_refl _
        generalize wr.drewN nq = wq at *
        obtain ⟨n1, n2, n3, n4, n5⟩ := HQ.out.tree.tree.node _ _ _ HGO.out
        have hg := HQ.out.tree.tree.lt HGO.out
        have hsz := HQ.out.size
        have f1 := n5 (o + 1)
        clear n5 n2 HW
        rcases hk : B' (pth a i ++ [false]) with _ | ⟨g2, o2⟩
        · have HW2 := Lib.hid (HQ.out.make (b := false) HGO.out hk)
          have HKN : (fun q => if q = pth a i ++ [false] then some (wq.heap.size, 0) else B' q) (pth a (i + 1)) = some (wq.heap.size, 0) := by rw [HPS.out]; exact if_pos rfl
          have HKN := Lib.hid HKN
          rw [hk] at n3
          unfold kidV at n3
          have c1 := ((Kept.refl [] wq).alloc (.cells #[.slice none 0 0, .pointer none, .pointer none] 272)).cell n3 (by simp)
          have c2 := (((Kept.refl [] wq).alloc (.cells #[.slice none 0 0, .pointer none, .pointer none] 272)).frozen (a := ⟨g, o + 1, none⟩) hg (by simp)).trans f1
          clear hk HQ n4
          generalize hBN : (fun q => if q = pth a i ++ [false] then some (wq.heap.size, 0) else B' q) = BN at *
          generalize hSN : (fun q => if q = pth a i ++ [false] then Value.slice none 0 0 else S' q) = SN at *
          have HBN := Lib.hid hBN
          clear hBN hSN
          go_wp2_with (at_builtin; refine wpList_append_lies _ rfl (.tmp 43) (.tmp 45) 399 rfl (w.heap.size + 1) 269 i0 _ 1 8 Tryz.underlying399 hi hz0 hz1 hz2 rfl (by decide) _ (i + 1) (wayL BN a (i + 1)) rfl ?_ ⟨wq.heap.size + 1, 0, none⟩ 1 1 [.pointer (some ⟨wq.heap.size, 0, none⟩)] rfl rfl ?_ ?_ (by omega) ?_ ?_ ?_ _ rfl ?_; (· exact own_kept HW2.out.row ((Kept.refl [] _).alloc _) (by simp)); (· exact news_atT (by simp)); (· simp [Value.oneCell']); (· unfold maxLen; omega); (· omega); (· simp; omega); intro g9 cap9 w9 how9 hgr9 hat9 hlt9; have HOW9 := Lib.hid how9; have HGR9 := Lib.hid hgr9; have HAT9 := Lib.hid hat9; clear how9 hgr9 hat9 hlt9)
          go_roundg (gk - 1)
          case measure => omega
          case rel => exact ⟨i + 1, _, BN, SN, by omega, by go_num, by rw [HKN.out]; rfl, HW2.out.step HKN.out HOW9.out HGR9.out (HAT9.out.imp id (fun e => e.trans (by simp)))⟩
        · have HW2 := HQ
          have HKN : B' (pth a (i + 1)) = some (g2, o2) := by rw [HPS.out]; exact hk
          have HKN := Lib.hid HKN
          rw [hk] at n3
          unfold kidV at n3
          clear hk n4
          go_wp2_with (at_builtin; refine wpList_append_lies _ rfl (.tmp 43) (.tmp 45) 399 rfl (w.heap.size + 1) 269 i0 _ 1 8 Tryz.underlying399 hi hz0 hz1 hz2 rfl (by decide) _ (i + 1) (wayL B' a (i + 1)) rfl ?_ ⟨wq.heap.size, 0, none⟩ 1 1 [.pointer (some ⟨g2, o2, none⟩)] rfl rfl ?_ ?_ (by omega) ?_ ?_ ?_ _ rfl ?_; (· exact own_kept HW2.out.row ((Kept.refl [] _).alloc _) (by simp)); (· exact news_atT (by simp)); (· simp [Value.oneCell']); (· unfold maxLen; omega); (· omega); (· simp; omega); intro g9 cap9 w9 how9 hgr9 hat9 hlt9; have HOW9 := Lib.hid how9; have HGR9 := Lib.hid hgr9; have HAT9 := Lib.hid hat9; clear how9 hgr9 hat9 hlt9)
          go_roundg (gk - 1)
          case measure => omega
          case rel => exact ⟨i + 1, F', B', S', by omega, by go_num, by rw [HKN.out]; rfl, HW2.out.step HKN.out HOW9.out HGR9.out (HAT9.out.imp id (fun e => e.trans (by simp)))⟩
      · have HB0 : Hid (∀ w', Calls Tryz.prog 243 #[.int .u32 (a : Int), .int .i64 (i : Int)] w' fun e w'' => e = .returned (.int .i64 1) ∧ w'' = w') := Lib.hid HBB.out
        clear HBB
        go_wp2_with (fail)
        go_quiet ((go_at_call 243; exact Calls.quiet_of_same (HB0.out _)))
        have HQ := Lib.hid (HW.out.kept0 (Kept.of_drewN (S := []) wr nq))
        have hwq : wr.heap.size ≤ (wr.drewN nq).heap.size := Nat.le_refl _
        generalize wr.drewN nq = wq at *
        obtain ⟨n1, n2, n3, n4, n5⟩ := HQ.out.tree.tree.node _ _ _ HGO.out
        have hg := HQ.out.tree.tree.lt HGO.out
        have hsz := HQ.out.size
        have f1 := n5 (o + 1 + 1)
        clear n5 n2 HW
        rcases hk : B' (pth a i ++ [true]) with _ | ⟨g2, o2⟩
        · have HW2 := Lib.hid (HQ.out.make (b := true) HGO.out hk)
          have HKN : (fun q => if q = pth a i ++ [true] then some (wq.heap.size, 0) else B' q) (pth a (i + 1)) = some (wq.heap.size, 0) := by rw [HPS.out]; exact if_pos rfl
          have HKN := Lib.hid HKN
          rw [hk] at n4
          unfold kidV at n4
          have c1 := ((Kept.refl [] wq).alloc (.cells #[.slice none 0 0, .pointer none, .pointer none] 272)).cell n4 (by simp)
          have c2 := (((Kept.refl [] wq).alloc (.cells #[.slice none 0 0, .pointer none, .pointer none] 272)).frozen (a := ⟨g, o + 1 + 1, none⟩) hg (by simp)).trans f1
          clear hk HQ n3
          generalize hBN : (fun q => if q = pth a i ++ [true] then some (wq.heap.size, 0) else B' q) = BN at *
          generalize hSN : (fun q => if q = pth a i ++ [true] then Value.slice none 0 0 else S' q) = SN at *
          have HBN := Lib.hid hBN
          clear hBN hSN
          go_wp2_with (at_builtin; refine wpList_append_lies _ rfl (.tmp 43) (.tmp 45) 399 rfl (w.heap.size + 1) 269 i0 _ 1 8 Tryz.underlying399 hi hz0 hz1 hz2 rfl (by decide) _ (i + 1) (wayL BN a (i + 1)) rfl ?_ ⟨wq.heap.size + 1, 0, none⟩ 1 1 [.pointer (some ⟨wq.heap.size, 0, none⟩)] rfl rfl ?_ ?_ (by omega) ?_ ?_ ?_ _ rfl ?_; (· exact own_kept HW2.out.row ((Kept.refl [] _).alloc _) (by simp)); (· exact news_atT (by simp)); (· simp [Value.oneCell']); (· unfold maxLen; omega); (· omega); (· simp; omega); intro g9 cap9 w9 how9 hgr9 hat9 hlt9; have HOW9 := Lib.hid how9; have HGR9 := Lib.hid hgr9; have HAT9 := Lib.hid hat9; clear how9 hgr9 hat9 hlt9)
          go_roundg (gk - 1)
          case measure => omega
          case rel => exact ⟨i + 1, _, BN, SN, by omega, by go_num, by rw [HKN.out]; rfl, HW2.out.step HKN.out HOW9.out HGR9.out (HAT9.out.imp id (fun e => e.trans (by simp)))⟩
        · have HW2 := HQ
          have HKN : B' (pth a (i + 1)) = some (g2, o2) := by rw [HPS.out]; exact hk
          have HKN := Lib.hid HKN
          rw [hk] at n4
          unfold kidV at n4
          clear hk n3
          go_wp2_with (at_builtin; refine wpList_append_lies _ rfl (.tmp 43) (.tmp 45) 399 rfl (w.heap.size + 1) 269 i0 _ 1 8 Tryz.underlying399 hi hz0 hz1 hz2 rfl (by decide) _ (i + 1) (wayL B' a (i + 1)) rfl ?_ ⟨wq.heap.size, 0, none⟩ 1 1 [.pointer (some ⟨g2, o2, none⟩)] rfl rfl ?_ ?_ (by omega) ?_ ?_ ?_ _ rfl ?_; (· exact own_kept HW2.out.row ((Kept.refl [] _).alloc _) (by simp)); (· exact news_atT (by simp)); (· simp [Value.oneCell']); (· unfold maxLen; omega); (· omega); (· simp; omega); intro g9 cap9 w9 how9 hgr9 hat9 hlt9; have HOW9 := Lib.hid how9; have HGR9 := Lib.hid hgr9; have HAT9 := Lib.hid hat9; clear how9 hgr9 hat9 hlt9)
          go_roundg (gk - 1)
          case measure => omega
          case rel => exact ⟨i + 1, F', B', S', by omega, by go_num, by rw [HKN.out]; rfl, HW2.out.step HKN.out HOW9.out HGR9.out (HAT9.out.imp id (fun e => e.trans (by simp)))⟩
    · obtain rfl : i = n := by omega
      go_wp2_with (fail)
      go_ret
      exact ⟨_, F', B', S', rfl, ⟨HW.out.row.1, by rcases HW.out.row.2 with h1 | ⟨g', cap, cur, h1, h2, r⟩; exact Or.inl h1; exact Or.inr ⟨g', cap, cur, h1, by omega, r⟩⟩, HW.out.tree, HW.out.some, HW.out.own⟩

theorem below_grownT {base : Nat} {w w1 w2 : World} {row : Option Nat} (h : Below base w w1) (hg : w1.grownBy w2 row) (hr : ∀ g, row = some g → base ≤ g) (hb : base ≤ w1.heap.size) : Below base w w2 :=
  ⟨hg.os.trans h.os, hg.tape.trans h.tape, hg.output.trans h.output, Nat.le_trans h.size hg.size, fun k hk => (hg.block k (by omega) (fun e => by have := hr k e.symm; omega)).trans (h.block k hk)⟩

set_option maxRecDepth 100000 in
set_option maxHeartbeats 2000000 in
theorem way_there (h : TreeAt w p F B S V) (hF : ∀ x ∈ F, x < w.heap.size) (a n : Nat) (ha : a < 2 ^ 32) (hn : n ≤ 32) :
    Calls Tryz.prog 241 #[.pointer (some ⟨p, 1, none⟩), .agg #[.int .u32 (a : Int), .int .i64 (n : Int)], .bool false] w fun e w' => ∃ m vo, e = .returned vo ∧ m ≤ n ∧ (∀ j, j ≤ m → (B (pth a j)).isSome = true) ∧ (m < n → B (pth a (m + 1)) = none) ∧
      w'.ownsRow (w.heap.size + 1) 269 1 vo (m + 1) (wayL B a (m + 1)) ∧ Below w.heap.size w w' := by
  obtain ⟨i0, hi, hz0, hz1, hz2⟩ := info_parts ptr_info
  have HT := Lib.hid (TreeIn.start h hF)
  have hpz := h.lt h.root
  have hroot := h.root
  have HBIT := Lib.hid (fun w' i hi => tbit_calls w' a i ha hi)
  have k0 := ((Below.refl w.heap.size w).alloc (Nat.le_refl _) (.cells #[.int .u32 (a : Int), .int .i64 (n : Int)] 48)).alloc (by simp) (.cells #[.pointer (some ⟨p, 1, none⟩)] 269)
  have hX := blk_alloc (heap_alloc_new w (.cells #[.int .u32 (a : Int), .int .i64 (n : Int)] 48)) (.cells #[.pointer (some ⟨p, 1, none⟩)] 269)
  have hO := World.ownsRow_lit (base := w.heap.size) (e := 269) (size := 1) (w.alloc (.cells #[.int .u32 (a : Int), .int .i64 (n : Int)] 48)) #[.pointer (some ⟨p, 1, none⟩)] 1 (by simp) (by unfold maxLen; omega) rfl
  rw [show (w.alloc (.cells #[.int .u32 (a : Int), .int .i64 (n : Int)] 48)).heap.size = w.heap.size + 1 by simp] at hO
  have hz1' := k0.size
  have hzz : ((w.alloc (.cells #[.int .u32 (a : Int), .int .i64 (n : Int)] 48)).alloc (.cells #[.pointer (some ⟨p, 1, none⟩)] 269)).heap.size = w.heap.size + 2 := by simp
  clear h hF
  go_enter Tryz.func241, Tryz.ntmps241
  go_wp2_with (fail)
  generalize (w.alloc (.cells #[.int .u32 (a : Int), .int .i64 (n : Int)] 48)).alloc (.cells #[.pointer (some ⟨p, 1, none⟩)] 269) = w1 at *
  have HW0 : WayAt w w1 p F F B S V a n 0 (.slice (some ⟨w.heap.size + 1, 0, none⟩) 1 1) := by
    have hnot : ∀ x, w.heap.size ≤ x → x ∉ F := fun x hx hm => by have := HT.out.lt _ hm; omega
    refine ⟨by rw [show pth a 0 = [] from rfl, hroot]; rfl, ?_, HT.out.kept0 (Kept.of_below (S := []) k0), hnot _ (Nat.le_refl _), by omega, hX, fun x hx => ?_⟩
    · have e : wayL B a (0 + 1) = [.pointer (some ⟨p, 1, none⟩)] := by simp [wayL, show pth a 0 = [] from rfl, hroot, kidV]
      rw [e]
      exact ⟨hO.1, by rcases hO.2 with h1 | ⟨g', cap, cur, h1, h2, r⟩; exact Or.inl h1; exact Or.inr ⟨g', cap, cur, h1, by cases h1; omega, r⟩⟩
    · obtain rfl : x = w.heap.size + 1 := by simp [Value.ownBlock] at hx; exact hx.symm
      exact hnot _ (by omega)
  have HW0 := Lib.hid HW0
  have HB0 := Lib.hid k0
  have HR := Lib.hid hroot
  clear k0 hX hroot HT hO
  go_loopg [7, 8, 18] n (fun gk vat vo vi wr => ∃ i : Nat, i + gk = n ∧ vi = .int .i64 (i : Int) ∧ vat = kidV (B (pth a i)) ∧ (∀ j, j ≤ i → (B (pth a j)).isSome = true) ∧ WayAt w wr p F F B S V a n i vo ∧ Below w.heap.size w wr)
  case atStart => exact ⟨0, by omega, rfl, by rw [show pth a 0 = [] from rfl, HR.out]; rfl, (fun j hj => (Nat.le_zero.1 hj) ▸ HW0.out.some), HW0.out, HB0.out⟩
  case round =>
    obtain ⟨i, hgk, rfl, rfl, hal, hW, hbe⟩ := hrel
    obtain ⟨⟨g, o⟩, hgo⟩ := Option.isSome_iff_exists.1 hW.some
    have hbx := hW.box
    have dx := And.intro (cell_of hbx 0) (cell_of hbx 1)
    simp only [List.getElem?_toArray, List.getElem?_cons_zero, List.getElem?_cons_succ] at dx
    have HW := Lib.hid hW
    have HGO := Lib.hid hgo
    have HAL := Lib.hid hal
    have HBE := Lib.hid hbe
    rw [hgo]
    clear hgo hbx hW HW0 hal hbe HB0
    by_cases hlt : i < n
    · have HB : ∀ w', Calls Tryz.prog 243 #[.int .u32 (a : Int), .int .i64 (i : Int)] w' fun e w'' => e = .returned (.int .i64 (((a.testBit (31 - i)).toNat : Nat) : Int)) ∧ w'' = w' := fun w' => HBIT.out w' i (by omega)
      have HPS := Lib.hid (pth_succ a i)
      generalize a.testBit (31 - i) = b at *
      have HBB := Lib.hid HB
      clear HB HBIT
      unfold kidV
      cases b
      · have HB0 : Hid (∀ w', Calls Tryz.prog 243 #[.int .u32 (a : Int), .int .i64 (i : Int)] w' fun e w'' => e = .returned (.int .i64 0) ∧ w'' = w') := Lib.hid HBB.out
        clear HBB
        go_wp2_with (fail)
        go_quiet ((go_at_call 243; exact Calls.quiet_of_same (HB0.out _)))
        have HQ := Lib.hid (HW.out.kept0 (Kept.of_drewN (S := []) wr nq))
        have HKB := Lib.hid (HBE.out.trans ((Kept.of_drewN (S := []) wr nq).below HBE.out.size (by simp)))
        have hwq : wr.heap.size ≤ (wr.drewN nq).heap.size := Nat.le_refl _
        generalize wr.drewN nq = wq at *
        obtain ⟨n1, n2, n3, n4, n5⟩ := HQ.out.tree.tree.node _ _ _ HGO.out
        have hg := HQ.out.tree.tree.lt HGO.out
        have hsz := HQ.out.size
        have f1 := n5 (o + 1)
        clear n5 n2 HW HBE
        rcases hk : B (pth a i ++ [false]) with _ | ⟨g2, o2⟩
        · have HKN : B (pth a (i + 1)) = none := by rw [HPS.out]; exact hk
          have HKN := Lib.hid HKN
          rw [hk] at n3
          unfold kidV at n3
          clear hk n4
          go_wp2_with (fail)
          go_ret
          exact ⟨i, _, rfl, by omega, HAL.out, fun _ => HKN.out, HQ.out.row, HKB.out⟩
        · have HKN : B (pth a (i + 1)) = some (g2, o2) := by rw [HPS.out]; exact hk
          have HKN := Lib.hid HKN
          rw [hk] at n3
          unfold kidV at n3
          clear hk n4
          go_wp2_with (at_builtin; refine wpList_append_lies _ rfl (.tmp 43) (.tmp 45) 399 rfl (w.heap.size + 1) 269 i0 _ 1 8 Tryz.underlying399 hi hz0 hz1 hz2 rfl (by decide) _ (i + 1) (wayL B a (i + 1)) rfl ?_ ⟨wq.heap.size, 0, none⟩ 1 1 [.pointer (some ⟨g2, o2, none⟩)] rfl rfl ?_ ?_ (by omega) ?_ ?_ ?_ _ rfl ?_; (· exact own_kept HQ.out.row ((Kept.refl [] _).alloc _) (by simp)); (· exact news_atT (by simp)); (· simp [Value.oneCell']); (· unfold maxLen; omega); (· omega); (· simp; omega); intro g9 cap9 w9 how9 hgr9 hat9 hlt9; have HOW9 := Lib.hid how9; have HGR9 := Lib.hid hgr9; have HAT9 := Lib.hid hat9; clear how9 hgr9 hat9 hlt9)
          go_roundg (gk - 1)
          case measure => omega
          case rel =>
            refine ⟨i + 1, by omega, by go_num, by rw [HKN.out]; rfl, fun j hj => ?_, HQ.out.step HKN.out HOW9.out HGR9.out (HAT9.out.imp id (fun e => e.trans (by simp))), ?_⟩
            · rcases Nat.lt_or_ge j (i + 1) with h | h
              · exact HAL.out j (by omega)
              · obtain rfl : j = i + 1 := by omega
                rw [HKN.out]; rfl
            · exact below_grownT (HKB.out.alloc (by omega) _) HGR9.out (fun g hg => by have := own_pastT HQ.out.row g hg; omega) (by simp; omega)
      · have HB0 : Hid (∀ w', Calls Tryz.prog 243 #[.int .u32 (a : Int), .int .i64 (i : Int)] w' fun e w'' => e = .returned (.int .i64 1) ∧ w'' = w') := Lib.hid HBB.out
        clear HBB
        go_wp2_with (fail)
        go_quiet ((go_at_call 243; exact Calls.quiet_of_same (HB0.out _)))
        have HQ := Lib.hid (HW.out.kept0 (Kept.of_drewN (S := []) wr nq))
        have HKB := Lib.hid (HBE.out.trans ((Kept.of_drewN (S := []) wr nq).below HBE.out.size (by simp)))
        have hwq : wr.heap.size ≤ (wr.drewN nq).heap.size := Nat.le_refl _
        generalize wr.drewN nq = wq at *
        obtain ⟨n1, n2, n3, n4, n5⟩ := HQ.out.tree.tree.node _ _ _ HGO.out
        have hg := HQ.out.tree.tree.lt HGO.out
        have hsz := HQ.out.size
        have f1 := n5 (o + 1 + 1)
        clear n5 n2 HW HBE
        rcases hk : B (pth a i ++ [true]) with _ | ⟨g2, o2⟩
        · have HKN : B (pth a (i + 1)) = none := by rw [HPS.out]; exact hk
          have HKN := Lib.hid HKN
          rw [hk] at n4
          unfold kidV at n4
          clear hk n3
          go_wp2_with (fail)
          go_ret
          exact ⟨i, _, rfl, by omega, HAL.out, fun _ => HKN.out, HQ.out.row, HKB.out⟩
        · have HKN : B (pth a (i + 1)) = some (g2, o2) := by rw [HPS.out]; exact hk
          have HKN := Lib.hid HKN
          rw [hk] at n4
          unfold kidV at n4
          clear hk n3
          go_wp2_with (at_builtin; refine wpList_append_lies _ rfl (.tmp 43) (.tmp 45) 399 rfl (w.heap.size + 1) 269 i0 _ 1 8 Tryz.underlying399 hi hz0 hz1 hz2 rfl (by decide) _ (i + 1) (wayL B a (i + 1)) rfl ?_ ⟨wq.heap.size, 0, none⟩ 1 1 [.pointer (some ⟨g2, o2, none⟩)] rfl rfl ?_ ?_ (by omega) ?_ ?_ ?_ _ rfl ?_; (· exact own_kept HQ.out.row ((Kept.refl [] _).alloc _) (by simp)); (· exact news_atT (by simp)); (· simp [Value.oneCell']); (· unfold maxLen; omega); (· omega); (· simp; omega); intro g9 cap9 w9 how9 hgr9 hat9 hlt9; have HOW9 := Lib.hid how9; have HGR9 := Lib.hid hgr9; have HAT9 := Lib.hid hat9; clear how9 hgr9 hat9 hlt9)
          go_roundg (gk - 1)
          case measure => omega
          case rel =>
            refine ⟨i + 1, by omega, by go_num, by rw [HKN.out]; rfl, fun j hj => ?_, HQ.out.step HKN.out HOW9.out HGR9.out (HAT9.out.imp id (fun e => e.trans (by simp))), ?_⟩
            · rcases Nat.lt_or_ge j (i + 1) with h | h
              · exact HAL.out j (by omega)
              · obtain rfl : j = i + 1 := by omega
                rw [HKN.out]; rfl
            · exact below_grownT (HKB.out.alloc (by omega) _) HGR9.out (fun g hg => by have := own_pastT HQ.out.row g hg; omega) (by simp; omega)
    · obtain rfl : i = n := by omega
      go_wp2_with (fail)
      go_ret
      exact ⟨i, _, rfl, Nat.le_refl _, HAL.out, fun h => by omega, HW.out.row, HBE.out⟩

end Go.Proofs.YtjoblahedgpgbaaGreat
