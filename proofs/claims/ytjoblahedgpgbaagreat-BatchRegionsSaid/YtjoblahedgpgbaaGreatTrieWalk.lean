/- All values from a node on: the walks of walk, All and their closures. -/
import Derived.Test.YtjoblahedgpgbaaGreatTrieOf
namespace Go.Proofs.YtjoblahedgpgbaaGreat
set_option linter.unusedVariables false
set_option linter.unusedSimpArgs false
open Go.RowKit

/-- A variable that holds a row of entries. -/
def OutAt (w : World) (ob : Nat) (vo : Value) (es : List Ent) : Prop := w.heap[ob]? = some (.cells #[vo] 350 (0, 0)) ∧ w.ownsRow 0 405 3 vo es.length (entCells es) ∧ ∀ y, vo.ownBlock = some y → y ≠ ob
def OutPost (w w' : World) (ob : Nat) (vo : Value) (es' : List Ent) : Prop := ∃ vo', OutAt w' ob vo' es' ∧ Kept (ob :: vo.ownBlock.toList) w w' ∧ ∀ y, vo'.ownBlock = some y → vo.ownBlock = some y ∨ w.heap.size ≤ y
theorem OutAt.kept {S : List Nat} {w w' : World} {ob : Nat} {vo : Value} {es : List Ent} (h : OutAt w ob vo es) (k : Kept S w w') (h1 : ob ∉ S) (h2 : ∀ y, vo.ownBlock = some y → y ∉ S) : OutAt w' ob vo es :=
  ⟨(k.block _ (lt_of_block h.1) h1).trans h.1, own_kept h.2.1 k h2, h.2.2⟩
theorem OutPost.start {w w' : World} {ob : Nat} {vo : Value} {es : List Ent} (h : OutAt w ob vo es) (k : Kept [] w w') : OutPost w w' ob vo es :=
  ⟨vo, h.kept k (by simp) (by simp), k.mono (by simp), fun y hy => Or.inl hy⟩
theorem OutPost.trans {w w1 w2 : World} {ob : Nat} {vo v1 : Value} {es : List Ent} (hk : Kept (ob :: vo.ownBlock.toList) w w1) (hy : ∀ y, v1.ownBlock = some y → vo.ownBlock = some y ∨ w.heap.size ≤ y) (h : OutPost w1 w2 ob v1 es) : OutPost w w2 ob vo es := by
  obtain ⟨v2, h1, k2, y2⟩ := h
  refine ⟨v2, h1, hk.trans k2 fun i hi => ?_, fun y hy2 => ?_⟩
  · rcases List.mem_cons.1 hi with rfl | hi
    · exact Or.inl (by simp)
    · rcases hy i (by simpa using hi) with h3 | h3
      · exact Or.inl (by simp [h3])
      · exact Or.inr h3
  · rcases y2 y hy2 with h3 | h3
    · exact hy y h3
    · exact Or.inr (Nat.le_trans hk.size h3)

/-- What a closure that appends does. -/
def Yields (G : Nat) : Prop := ∀ (w : World) (ob : Nat) (vo : Value) (es : List Ent) (z : Nat) (b v : Int), OutAt w ob vo es → es.length < 1000000 →
  Calls Tryz.prog G #[.agg #[.int .u32 (z : Int), .int .i64 b, .int .i64 v], .pointer (some ⟨ob, 0, none⟩)] w fun e w' => e = .returned (.tuple #[]) ∧ OutPost w w' ob vo (es ++ [⟨z, b, v⟩])

set_option maxRecDepth 100000 in
theorem yields_all : Yields 248 := by
  intro w ob vo es z b v h hl
  obtain ⟨i0, hi, hz0, hz1, hz2⟩ := info_parts ent_info
  have H := Lib.hid h
  have hob := lt_of_block h.1
  have k0 := (Kept.refl [] w).alloc (.cells #[.int .u32 (z : Int), .int .i64 b, .int .i64 v] 405)
  have hX := H.out.kept k0 (by simp) (by simp)
  have HK0 := Lib.hid k0
  have c0 := cell_of hX.1 0
  simp only [List.getElem?_toArray, List.getElem?_cons_zero] at c0
  have f0 := unfrozen_of hX.1 0
  have HX := Lib.hid hX
  clear h k0 hX
  go_enter Tryz.func248, Tryz.ntmps248
  go_wp2_with (at_builtin; refine wpList_append_lies _ rfl (.tmp 3) (.tmp 5) 350 rfl 0 405 i0 _ 3 24 Tryz.underlying350 hi hz0 hz1 hz2 rfl (by decide) _ es.length (entCells es) rfl ?_ ⟨w.heap.size + 1, 0, none⟩ 1 1 [.int .u32 (z : Int), .int .i64 b, .int .i64 v] rfl rfl ?_ ?_ (by omega) ?_ ?_ ?_ _ rfl ?_; (· exact own_kept HX.out.2.1 ((Kept.refl [] _).alloc _) (by simp)); (· exact news_atT (by simp)); (· simp [Value.oneCell']); (· unfold maxLen; omega); (· omega); (· simp); intro g9 cap9 w9 how9 hgr9 hat9 hlt9; have HOW9 := Lib.hid how9; have HGR9 := Lib.hid hgr9; have HAT9 := Lib.hid hat9; have kk := Lib.hid (Kept.grown_rowT (S := vo.ownBlock.toList) (((Kept.refl [] _).alloc _).mono (by simp)) hgr9 (fun k hk => Or.inl (by rw [show vo.ownBlock = some k from hk]; simp))); clear how9 hgr9 hat9 hlt9; have hx9 := (kk.out.block ob (by simp; omega) (fun hm => H.out.2.2 ob (by simpa using hm) rfl)).trans HX.out.1; have c9 := cell_of hx9 0; simp only [List.getElem?_toArray, List.getElem?_cons_zero] at c9; have f9 := unfrozen_of hx9 0; have HX9 := Lib.hid hx9; clear hx9 c0 f0)
  go_end0
  have hz9 := kk.out.size
  have hz0' := HK0.out.size
  have hg9 : vo.ownBlock = some g9 ∨ w.heap.size + 2 ≤ g9 := HAT9.out.imp id (fun e => by rw [e]; simp)
  have hne : g9 ≠ ob := by
    rcases hg9 with h | h
    · exact H.out.2.2 g9 h
    · omega
  refine ⟨rfl, .slice (some ⟨g9, 0, none⟩) (es.length + 1) cap9, ⟨?_, ?_, fun y hy => ?_⟩, (((HK0.out.mono (S' := ob :: vo.ownBlock.toList) (by simp)).trans kk.out (fun i hi => Or.inl (by simp [hi]))).setCell _ _ (Or.inl (by simp))), fun y hy => ?_⟩
  · exact set_block HX9.out 0 _
  · have := own_kept HOW9.out (Kept.of_setCell w9 ⟨ob, 0, none⟩ (.slice (some ⟨g9, 0, none⟩) (es.length + 1) cap9)) (fun y hy => by simp [Value.ownBlock] at hy; simp; omega)
    rw [List.length_append, entCells_snoc]
    exact this
  · simp [Value.ownBlock] at hy
    omega
  · simp [Value.ownBlock] at hy
    subst hy
    rcases hg9 with h | h
    · exact Or.inl h
    · exact Or.inr (by omega)

set_option maxRecDepth 100000 in
theorem yields_meet : Yields 284 := by
  intro w ob vo es z b v h hl
  obtain ⟨i0, hi, hz0, hz1, hz2⟩ := info_parts ent_info
  have H := Lib.hid h
  have hob := lt_of_block h.1
  have k0 := (Kept.refl [] w).alloc (.cells #[.int .u32 (z : Int), .int .i64 b, .int .i64 v] 405)
  have hX := H.out.kept k0 (by simp) (by simp)
  have HK0 := Lib.hid k0
  have c0 := cell_of hX.1 0
  simp only [List.getElem?_toArray, List.getElem?_cons_zero] at c0
  have f0 := unfrozen_of hX.1 0
  have HX := Lib.hid hX
  clear h k0 hX
  go_enter Tryz.func284, Tryz.ntmps284
  go_wp2_with (at_builtin; refine wpList_append_lies _ rfl (.tmp 3) (.tmp 5) 350 rfl 0 405 i0 _ 3 24 Tryz.underlying350 hi hz0 hz1 hz2 rfl (by decide) _ es.length (entCells es) rfl ?_ ⟨w.heap.size + 1, 0, none⟩ 1 1 [.int .u32 (z : Int), .int .i64 b, .int .i64 v] rfl rfl ?_ ?_ (by omega) ?_ ?_ ?_ _ rfl ?_; (· exact own_kept HX.out.2.1 ((Kept.refl [] _).alloc _) (by simp)); (· exact news_atT (by simp)); (· simp [Value.oneCell']); (· unfold maxLen; omega); (· omega); (· simp); intro g9 cap9 w9 how9 hgr9 hat9 hlt9; have HOW9 := Lib.hid how9; have HGR9 := Lib.hid hgr9; have HAT9 := Lib.hid hat9; have kk := Lib.hid (Kept.grown_rowT (S := vo.ownBlock.toList) (((Kept.refl [] _).alloc _).mono (by simp)) hgr9 (fun k hk => Or.inl (by rw [show vo.ownBlock = some k from hk]; simp))); clear how9 hgr9 hat9 hlt9; have hx9 := (kk.out.block ob (by simp; omega) (fun hm => H.out.2.2 ob (by simpa using hm) rfl)).trans HX.out.1; have c9 := cell_of hx9 0; simp only [List.getElem?_toArray, List.getElem?_cons_zero] at c9; have f9 := unfrozen_of hx9 0; have HX9 := Lib.hid hx9; clear hx9 c0 f0)
  go_end0
  have hz9 := kk.out.size
  have hz0' := HK0.out.size
  have hg9 : vo.ownBlock = some g9 ∨ w.heap.size + 2 ≤ g9 := HAT9.out.imp id (fun e => by rw [e]; simp)
  have hne : g9 ≠ ob := by
    rcases hg9 with h | h
    · exact H.out.2.2 g9 h
    · omega
  refine ⟨rfl, .slice (some ⟨g9, 0, none⟩) (es.length + 1) cap9, ⟨?_, ?_, fun y hy => ?_⟩, (((HK0.out.mono (S' := ob :: vo.ownBlock.toList) (by simp)).trans kk.out (fun i hi => Or.inl (by simp [hi]))).setCell _ _ (Or.inl (by simp))), fun y hy => ?_⟩
  · exact set_block HX9.out 0 _
  · have := own_kept HOW9.out (Kept.of_setCell w9 ⟨ob, 0, none⟩ (.slice (some ⟨g9, 0, none⟩) (es.length + 1) cap9)) (fun y hy => by simp [Value.ownBlock] at hy; simp; omega)
    rw [List.length_append, entCells_snoc]
    exact this
  · simp [Value.ownBlock] at hy
    omega
  · simp [Value.ownBlock] at hy
    subst hy
    rcases hg9 with h | h
    · exact Or.inl h
    · exact Or.inr (by omega)

/-- All values from a node on. -/
def subL (V : List Bool → List Int) : Nat → List Bool → List Int
  | 0, π => V π
  | d + 1, π => V π ++ (subL V d (π ++ [false]) ++ subL V d (π ++ [true]))
theorem subL_nil {w : World} {p : Nat} {F : List Nat} {B : List Bool → Option (Nat × Nat)} {S : List Bool → Value} {V : List Bool → List Int} (h : TreeAt w p F B S V) : ∀ d π, B π = none → subL V d π = []
  | 0, π, e => h.empty π e
  | d + 1, π, e => by
    have hk : ∀ c, B (π ++ [c]) = none := fun c => by
      cases hc : B (π ++ [c]) with
      | none => rfl
      | some x => have := h.up π c (by rw [hc]; rfl); rw [e] at this; cases this
    rw [subL, h.empty π e, subL_nil h d _ (hk _), subL_nil h d _ (hk _)]
    rfl

theorem shl31 {n : Nat} (hn : n ≤ 31) : 1 * 2 ^ (31 - n) % 4294967296 = 2 ^ (31 - n) := by
  have := Nat.pow_le_pow_right (n := 2) (show 0 < 2 by omega) (show 31 - n ≤ 31 by omega)
  rw [Nat.one_mul, Nat.mod_eq_of_lt (by omega)]

theorem or_bit {z n : Nat} (hz : z < 2 ^ 32) (hn : n ≤ 31) : bits .or .u32 (z : Int) (2 ^ (31 - n) % 4294967296) = ((z ||| 2 ^ (31 - n) : Nat) : Int) := by
  have h1 : ((2 ^ (31 - n) % 4294967296 : Nat) : Int) = 2 ^ (31 - n) % 4294967296  := by
    rw [Int.natCast_emod, Int.natCast_pow]
    rfl
  have h2 : 2 ^ (31 - n) % 4294967296 = 2 ^ (31 - n) := by have := shl31 hn; rwa [Nat.one_mul] at this
  rw [← h1, h2]
  exact or32 z _ hz (Nat.pow_lt_pow_right (by omega) (by omega))

/-- The tree and the row beside it, on the walk. -/
structure WalkAt (w0 w : World) (p : Nat) (F : List Nat) (B : List Bool → Option (Nat × Nat)) (S : List Bool → Value) (V : List Bool → List Int) (ob : Nat) (vo0 vo : Value) (es : List Ent) : Prop where
  tree : TreeAt w p F B S V
  lt : ∀ x ∈ F, x < w0.heap.size
  out : OutAt w ob vo es
  ap : ∀ x ∈ F, x ≠ ob ∧ ∀ y, vo.ownBlock = some y → y ≠ x
  kept : Kept (ob :: vo0.ownBlock.toList) w0 w
  own : ∀ y, vo.ownBlock = some y → vo0.ownBlock = some y ∨ w0.heap.size ≤ y
section
variable {w0 w w' : World} {p : Nat} {F : List Nat} {B : List Bool → Option (Nat × Nat)} {S : List Bool → Value} {V : List Bool → List Int} {ob : Nat} {vo0 vo : Value} {es es' : List Ent}
theorem WalkAt.start (hT : TreeAt w p F B S V) (hF : ∀ x ∈ F, x < w.heap.size) (hO : OutAt w ob vo es) (hap : ∀ x ∈ F, x ≠ ob ∧ ∀ y, vo.ownBlock = some y → y ≠ x) : WalkAt w w p F B S V ob vo vo es := ⟨hT, hF, hO, hap, Kept.refl _ _, fun y h => Or.inl h⟩
theorem WalkAt.ltw (h : WalkAt w0 w p F B S V ob vo0 vo es) : ∀ x ∈ F, x < w.heap.size := fun x hx => Nat.lt_of_lt_of_le (h.lt x hx) h.kept.size
theorem WalkAt.kept0 (h : WalkAt w0 w p F B S V ob vo0 vo es) (k : Kept [] w w') : WalkAt w0 w' p F B S V ob vo0 vo es :=
  ⟨h.tree.kept k h.ltw (by simp), h.lt, h.out.kept k (by simp) (by simp), h.ap, h.kept.trans k (by simp), h.own⟩
theorem WalkAt.step (h : WalkAt w0 w p F B S V ob vo0 vo es) (k : OutPost w w' ob vo es') : ∃ v', WalkAt w0 w' p F B S V ob vo0 v' es' := by
  obtain ⟨v', ho, hk, hy⟩ := k
  refine ⟨v', h.tree.kept hk h.ltw (fun g hg hm => ?_), h.lt, ho, fun x hx => ⟨(h.ap x hx).1, fun y hy2 => ?_⟩, h.kept.trans hk (fun i hi => ?_), fun y hy2 => ?_⟩
  · rcases List.mem_cons.1 hm with e | hm
    · exact (h.ap g hg).1 e
    · exact (h.ap g hg).2 g (by simpa using hm) rfl
  · rcases hy y hy2 with h1 | h1
    · exact (h.ap x hx).2 y h1
    · have := h.ltw x hx
      omega
  · rcases List.mem_cons.1 hi with rfl | hi
    · exact Or.inl (by simp)
    · rcases h.own i (by simpa using hi) with h1 | h1
      · exact Or.inl (by simp [h1])
      · exact Or.inr h1
  · rcases hy y hy2 with h1 | h1
    · exact h.own y h1
    · exact Or.inr (Nat.le_trans h.kept.size h1)
theorem WalkAt.post (h : WalkAt w0 w p F B S V ob vo0 vo es) : OutPost w0 w ob vo0 es := ⟨vo, h.out, h.kept, h.own⟩
theorem WalkAt.block (h : WalkAt w0 w p F B S V ob vo0 vo es) {k : Nat} {o : Obj} (hk : w0.heap[k]? = some o) (h1 : k ≠ ob) (h2 : ∀ y, vo0.ownBlock = some y → y ≠ k) : w.heap[k]? = some o :=
  (h.kept.block k (lt_of_block hk) (fun hm => by
    rcases List.mem_cons.1 hm with e | hm
    · exact h1 e
    · exact h2 k (by simpa using hm) rfl)).trans hk
end

set_option maxRecDepth 100000 in
set_option maxHeartbeats 2000000 in
theorem twalk_none (G : Nat) (w : World) (ob z n : Nat) : Calls Tryz.prog 247 #[.pointer none, .agg #[.int .u32 (z : Int), .int .i64 (n : Int)], .func (.func G) #[] #[.pointer (some ⟨ob, 0, none⟩)]] w fun e w' => e = .returned (.tuple #[]) ∧ Kept [] w w' := by
  go_enter Tryz.func247, Tryz.ntmps247
  go_wp2
  exact bodyPost_ret (v := .tuple #[]) (by simp [results, Tryz.results247, go_sem]) rfl ⟨rfl, (Kept.refl [] w).alloc _⟩

/-- What walk comes to, d bits further in at most. -/
def WalkSaid (G p : Nat) (F : List Nat) (B : List Bool → Option (Nat × Nat)) (S : List Bool → Value) (V : List Bool → List Int) (d : Nat) : Prop :=
    ∀ (π : List Bool) (w : World) (ob : Nat) (vo : Value) (es : List Ent) (z n : Nat), n + d = 32 → z < 2 ^ 32 → TreeAt w p F B S V → (∀ x ∈ F, x < w.heap.size) → OutAt w ob vo es → (∀ x ∈ F, x ≠ ob ∧ ∀ y, vo.ownBlock = some y → y ≠ x) →
      es.length + (subL V d π).length < 1000000 →
      Calls Tryz.prog 247 #[kidV (B π), .agg #[.int .u32 (z : Int), .int .i64 (n : Int)], .func (.func G) #[] #[.pointer (some ⟨ob, 0, none⟩)]] w fun e w' => e = .returned (.tuple #[]) ∧ ∃ es', es'.map (·.v) = es.map (·.v) ++ subL V d π ∧ OutPost w w' ob vo es'

set_option maxRecDepth 100000 in
set_option maxHeartbeats 4000000 in
theorem twalk_node {G : Nat} (hG : Yields G) (hfunc : ∀ args w, (callFunc G args).run Tryz.prog w = .ok (.enter G args) w) {p : Nat} {F : List Nat} {B : List Bool → Option (Nat × Nat)} {S : List Bool → Value} {V : List Bool → List Int} (d : Nat) (ih : ∀ d', d = d' + 1 → WalkSaid G p F B S V d') : WalkSaid G p F B S V d := by
  intro π w ob vo es z n hnd hz hT hF hO hap hlen
  rcases hg : B π with _ | ⟨g, o⟩
  · refine (twalk_none G w ob z n).mono ?_
    rintro e w' ⟨rfl, k⟩
    exact ⟨rfl, es, by rw [subL_nil hT _ _ hg]; simp, OutPost.start hO k⟩
  have hsub : (V π).length ≤ (subL V d π).length := by cases d <;> simp [subL]
  have IH := Lib.hid ih
  have k0 := (Kept.refl [] w).alloc (.cells #[.int .u32 (z : Int), .int .i64 (n : Int)] 48)
  have hX := heap_alloc_new w (.cells #[.int .u32 (z : Int), .int .i64 (n : Int)] 48)
  have hob := lt_of_block hO.1
  have howl := fun y hy => (hO.2.1.lt y hy).2
  have HW := Lib.hid (WalkAt.start (hT.kept k0 hF (by simp)) (fun x hx => Nat.lt_of_lt_of_le (hF x hx) k0.size) (hO.kept k0 (by simp) (by simp)) hap)
  have HK0 := Lib.hid k0
  have HGO := Lib.hid hg
  have HX := Lib.hid hX
  have hbo : w.heap.size ≠ ob := by omega
  have HOWL := Lib.hid (show ∀ y, vo.ownBlock = some y → y ≠ w.heap.size from fun y hy => by have := howl y hy; omega)
  have hva := HW.out.tree.vals π (by rw [hg]; rfl)
  obtain ⟨n1, n2, n3, n4, n5⟩ := HW.out.tree.node _ _ _ hg
  obtain ⟨aoV, capV, hSV⟩ : ∃ ao cap, S π = .slice ao (V π).length cap := by
    rcases hva.2 with ⟨h0, h1⟩ | ⟨g', cap', cur, h0, _⟩
    · exact ⟨none, 0, by rw [h0, h1]⟩
    · exact ⟨_, cap', h0⟩
  have hgV : ∀ y, (S π).ownBlock = some y → y ∈ F := fun y hy => (HW.out.tree.own π y (by rw [hg]; rfl) hy).1
  rw [hSV] at n2 hva hgV
  have HVA := Lib.hid hva
  have HGV := Lib.hid hgV
  have HN2 := Lib.hid (And.intro n2 (And.intro n3 n4))
  have HG := Lib.hid hG
  have HSUB := Lib.hid hsub
  have HLEN := Lib.hid hlen
  have c0 := n2
  have hvlen : (V π).length < 1000000 := by omega
  clear ih hT hF hO hap hlen k0 hX hg howl hSV hva hgV n1 n2 n3 n4 n5 hsub hG
  unfold kidV
  generalize hVV : (V π).length = vl at *
  have HVV := Lib.hid hVV
  clear hVV
  go_enter Tryz.func247, Tryz.ntmps247
  go_wp2_with (fail)
  generalize w.alloc (.cells #[.int .u32 (z : Int), .int .i64 (n : Int)] 48) = w1 at *
  go_loopg [15] vl (fun gk vt wr => ∃ (t : Nat) (v2 : Value) (es2 : List Ent), t + gk = vl ∧ vt = .int .i64 (t : Int) ∧ WalkAt w1 wr p F B S V ob vo v2 es2 ∧ es2.map (·.v) = es.map (·.v) ++ (V π).take t)
  case atStart => exact ⟨0, vo, es, by omega, rfl, HW.out, by simp⟩
  case round =>
    obtain ⟨t, v2, es2, hgk, rfl, hW2, hes2⟩ := hrel
    have HW2 := Lib.hid hW2
    have HES := Lib.hid hes2
    have hbx := hW2.block HX.out hbo HOWL.out
    have dx := And.intro (cell_of hbx 0) (cell_of hbx 1)
    simp only [List.getElem?_toArray, List.getElem?_cons_zero, List.getElem?_cons_succ] at dx
    clear hW2 hes2
    by_cases hlt : t < vl
    · have hl2 : t < (V π).length := by have := HVV.out; omega
      have hesl : es2.length < 1000000 := by
        have e1 : es2.length = es.length + t := by rw [← List.length_map (f := (·.v)), HES.out, List.length_append, List.length_map, List.length_take]; omega
        have := HLEN.out
        have := HSUB.out
        omega
      obtain ⟨gv, hgv⟩ : ∃ gv, aoV = some ⟨gv, 0, none⟩ := by
        rcases HVA.out.2 with ⟨h0, h1⟩ | ⟨g', cap', cur, h0, _⟩
        · omega
        · injection h0 with h0; exact ⟨g', h0⟩
      subst hgv
      have hgvF := HGV.out gv rfl
      have hcv := HVA.out.cellAt t (by omega)
      rw [List.getElem?_map, List.getElem?_eq_getElem hl2] at hcv
      have hcv2 : wr.cell? ⟨gv, t, none⟩ = some (.int .i64 ((V π).getD t 0)) := by
        rw [List.getD_eq_getElem?_getD, List.getElem?_eq_getElem hl2]
        refine HW2.out.kept.cell hcv (fun hm => ?_)
        rcases List.mem_cons.1 hm with e | hm
        · exact (HW.out.ap gv hgvF).1 e
        · exact (HW.out.ap gv hgvF).2 gv (by simpa using hm) rfl
      have HTS := Lib.hid (take_snoc_i64 hl2)
      clear hcv
      generalize (V π).getD t 0 = x at *
      go_wp2_with (fail)
      refine (HG.out wr ob v2 es2 z n x HW2.out.out hesl).mono ?_
      rintro ew wt ⟨rfl, hpost⟩
      obtain ⟨v3, hW3⟩ := HW2.out.step hpost
      have HW3 := Lib.hid hW3
      clear hpost hW3
      go_wp2_with (fail)
      go_roundg (gk - 1)
      case measure => omega
      case rel => exact ⟨t + 1, v3, es2 ++ [⟨z, n, x⟩], by omega, rfl, HW3.out, by rw [List.map_append, HES.out, HTS.out]; simp⟩
    · obtain rfl : t = vl := by omega
      have hes : es2.map (·.v) = es.map (·.v) ++ V π := by rw [HES.out]; have := HVV.out; rw [List.take_of_length_le (by omega)]
      have HES2 := Lib.hid hes
      clear hes
      rcases d with _ | d'
      · obtain rfl : n = 32 := by omega
        go_wp2_with (fail)
        refine bodyPost_ret (v := .tuple #[]) (by simp [results, Tryz.results247, go_sem]) rfl ⟨rfl, es2, HES2.out, OutPost.trans (HK0.out.mono (by simp)) (fun y hy => Or.inl hy) HW2.out.post⟩
      · have hlen2 : es2.length = es.length + (V π).length := by rw [← List.length_map (f := (·.v)), HES2.out, List.length_append, List.length_map]
        have hlen3 := HLEN.out
        simp only [subL, List.length_append] at hlen3
        have HD := Lib.hid (HW2.out.kept0 (Kept.refl _ _).drew)
        obtain ⟨m1, m2, m3, m4, m5⟩ := HD.out.tree.node _ _ _ HGO.out
        have dxd : wr.drew.cell? ⟨w.heap.size, 0, none⟩ = some (.int .u32 (z : Int)) ∧ wr.drew.cell? ⟨w.heap.size, 1, none⟩ = some (.int .i64 (n : Int)) := dx
        have hn32 : n < 32 := by omega
        clear m1 m2 m4 m5
        go_upto_region 8 with (fail)
        go_still_tail 12, (by kernel_rfl)
        change wpList _ _ _ _ _ wr.drew
        generalize wr.drew = wd at *
        go_wp2_with (fail)
        refine (IH.out d' rfl (π ++ [false]) wd ob v2 es2 z (n + 1) (by omega) hz HD.out.tree HD.out.ltw HD.out.out HD.out.ap (by omega)).mono ?_
        rintro ew wt ⟨rfl, es3, hes3, hpost⟩
        obtain ⟨v3, hW3⟩ := HD.out.step hpost
        have hlen4 : es3.length = es2.length + (subL V d' (π ++ [false])).length := by rw [← List.length_map (f := (·.v)), hes3, List.length_append, List.length_map]
        have HES3 := Lib.hid hes3
        have HE := Lib.hid (hW3.kept0 (Kept.refl _ _).drew)
        have hbx2 := HE.out.block HX.out hbo HOWL.out
        obtain ⟨m1, m2, m3', m4, m5⟩ := HE.out.tree.node _ _ _ HGO.out
        have dx2 := And.intro (cell_of hbx2 0) (cell_of hbx2 1)
        simp only [List.getElem?_toArray, List.getElem?_cons_zero, List.getElem?_cons_succ] at dx2
        have m4' : wt.drew.cell? ⟨g, o + 1 + 1, none⟩ = some (kidV (B (π ++ [true]))) := m4
        clear hpost hW3 hes3 hbx2 m1 m2 m3 m3' m4 m5 dx dxd
        have hw31 : IntKind.i64.wrap ((31 : Int) - n) = ((31 - n : Nat) : Int) := by rw [IntKind.wrap_i64]; omega
        have hsh : ¬ (((31 - n : Nat) : Int) < 0) := by omega
        go_upto_region 9 with (fail)
        go_still_tail 17, (by kernel_rfl)
        change wpList _ _ _ _ _ wt.drew
        generalize wt.drew = we at *
        go_wp2_with (fail)
        have hp31 : 2 ^ (31 - n) < 2 ^ 32 := Nat.pow_lt_pow_right (by omega) (by omega)
        have hor := or_bit hz (show n ≤ 31 by omega)
        rw [hor]
        refine (IH.out d' rfl (π ++ [true]) we ob v3 es3 (z ||| 2 ^ (31 - n)) (n + 1) (by omega) (Nat.or_lt_two_pow hz hp31) HE.out.tree HE.out.ltw HE.out.out HE.out.ap (by omega)).mono ?_
        rintro ew wu ⟨rfl, es4, hes4, hpost⟩
        obtain ⟨v4, hW4⟩ := HE.out.step hpost
        have HW4 := Lib.hid hW4
        clear hpost hW4
        go_wp2_with (fail)
        go_end0
        refine ⟨rfl, es4, ?_, OutPost.trans (HK0.out.mono (by simp)) (fun y hy => Or.inl hy) HW4.out.post⟩
        rw [hes4, HES3.out, HES2.out, subL]
        simp

/-- The walk from a node on. -/
theorem twalk_calls {G : Nat} (hG : Yields G) (hfunc : ∀ args w, (callFunc G args).run Tryz.prog w = .ok (.enter G args) w) {p : Nat} {F : List Nat} {B : List Bool → Option (Nat × Nat)} {S : List Bool → Value} {V : List Bool → List Int} : ∀ d, WalkSaid G p F B S V d
  | 0 => twalk_node hG hfunc 0 (fun d' h => by omega)
  | d + 1 => twalk_node hG hfunc (d + 1) (fun d' h => by
    obtain rfl : d = d' := by omega
    exact twalk_calls hG hfunc d)

set_option maxRecDepth 100000 in
set_option maxHeartbeats 2000000 in
/-- All values of a tree, with the paths' order. -/
theorem tall_calls {w : World} {p : Nat} {F : List Nat} {B : List Bool → Option (Nat × Nat)} {S : List Bool → Value} {V : List Bool → List Int} (hT : TreeAt w p F B S V) (hF : ∀ x ∈ F, x < w.heap.size) (hl : (subL V 32 []).length < 1000000) :
    Calls Tryz.prog 211 #[.pointer (some ⟨p, 1, none⟩)] w fun e w' => ∃ vo es, e = .returned vo ∧ w'.ownsRow w.heap.size 405 3 vo es.length (entCells es) ∧ es.map (·.v) = subL V 32 [] ∧ Below w.heap.size w w' := by
  have k0 := (Kept.refl [] w).alloc (.cells #[.slice none 0 0] 350)
  have hO : OutAt (w.alloc (.cells #[.slice none 0 0] 350)) w.heap.size (.slice none 0 0) [] := ⟨heap_alloc_new w _, ⟨rfl, Or.inl ⟨rfl, rfl⟩⟩, by simp [Value.ownBlock]⟩
  have HW := Lib.hid (hT.kept k0 hF (by simp))
  have HT := Lib.hid hT
  have HO := Lib.hid hO
  have HK := Lib.hid k0
  have HL := Lib.hid hl
  have HF := Lib.hid hF
  clear hT hO k0 hl hF
  go_enter Tryz.func211, Tryz.ntmps211
  go_wp2_with (fail)
  have hap : ∀ x ∈ F, x ≠ w.heap.size ∧ ∀ y, (Value.slice none 0 0).ownBlock = some y → y ≠ x := fun x hx => ⟨Nat.ne_of_lt (HF.out x hx), fun y hy => by simp [Value.ownBlock] at hy⟩
  have hlt1 : ∀ x ∈ F, x < (w.alloc (.cells #[.slice none 0 0] 350)).heap.size := fun x hx => Nat.lt_of_lt_of_le (HF.out x hx) HK.out.size
  have hc := twalk_calls yields_all (fun _ _ => rfl) 32 [] _ w.heap.size (.slice none 0 0) [] 0 0 (by omega) (by omega) HW.out hlt1 HO.out hap (by simpa using HL.out)
  rw [HW.out.root] at hc
  refine hc.mono ?_
  rintro ew wt ⟨rfl, es, hes, vo, hout, hk, hy⟩
  have d0 := cell_of hout.1 0
  simp only [List.getElem?_toArray, List.getElem?_cons_zero] at d0
  have HOUT := Lib.hid hout
  have HES := Lib.hid hes
  have HK2 := Lib.hid hk
  have HY := Lib.hid hy
  clear hc hout hes hk hy hap hlt1
  go_wp2_with (fail)
  refine bodyPost_ret (v := vo) (by simp [results, Tryz.results211, go_sem]) rfl ⟨vo, es, rfl, ⟨HOUT.out.2.1.1, ?_⟩, by simpa using HES.out, ?_⟩
  · rcases HOUT.out.2.1.2 with h0 | ⟨g', cap', cur, h0, h1, r⟩
    · exact Or.inl h0
    · have := HOUT.out.2.2 g' (by rw [h0]; rfl)
      refine Or.inr ⟨g', cap', cur, h0, ?_, r⟩
      rcases HY.out g' (by rw [h0]; rfl) with h2 | h2
      · simp [Value.ownBlock] at h2
      · simp at h2; omega
  · exact ((HK.out.trans HK2.out (fun i hi => Or.inr (by simp [Value.ownBlock] at hi; omega)))).below (Nat.le_refl _) (by simp)

end Go.Proofs.YtjoblahedgpgbaaGreat
