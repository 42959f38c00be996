/- A node taken away; the walk of Drop. -/
import Derived.Test.YtjoblahedgpgbaaGreatTrieAdd
import Derived.ChangeKeysEq
import Derived.Deep.RegionHeld3
namespace Go.Proofs.YtjoblahedgpgbaaGreat
set_option linter.unusedVariables false
set_option linter.unusedSimpArgs false
open Go.RowKit

section
variable {w w' : World} {p : Nat} {F F' : List Nat} {B : List Bool → Option (Nat × Nat)} {S : List Bool → Value} {V : List Bool → List Int}

/-- A node without values and without nodes below is taken away. -/
theorem TreeAt.cut (h : TreeAt w p F B S V) {π : List Bool} {b : Bool} {g o : Nat} (e : B π = some (g, o)) (hv : V (π ++ [b]) = []) (hn : ∀ c, B ((π ++ [b]) ++ [c]) = none) :
    TreeAt (w.setCell ⟨g, o + 1 + b.toNat, none⟩ (.pointer none)) p F (fun q => if q = π ++ [b] then none else B q) S V := by
  have snoc : ∀ {q : List Bool} {c : Bool}, q ++ [c] = π ++ [b] → q = π ∧ c = b := fun e => by
    have := List.append_inj' e rfl
    exact ⟨this.1, by simpa using this.2⟩
  have hset : ∀ o' v, o' ≠ o + 1 + b.toNat → w.cell? ⟨g, o', none⟩ = some v → (w.setCell ⟨g, o + 1 + b.toNat, none⟩ (.pointer none)).cell? ⟨g, o', none⟩ = some v := fun o' v hne hc => by
    have hne2 : (⟨g, o + 1 + b.toNat, none⟩ : Addr) ≠ ⟨g, o', none⟩ := by
      intro h1
      injection h1 with _ h2
      omega
    rw [World.cell?_setCell_other _ _ _ _ hne2]
    exact hc
  have kk : Kept [g] w (w.setCell ⟨g, o + 1 + b.toNat, none⟩ (.pointer none)) := Kept.of_setCell w ⟨g, o + 1 + b.toNat, none⟩ _
  refine ⟨?_, fun q c hq => ?_, fun q g' o' hq => ?_, fun q q' g' o' o'' hq hq' => ?_, fun q hq => ?_, fun q x hq hx => ?_, fun q hq => ?_⟩
  · rw [if_neg (by simp)]
    exact h.root
  · by_cases h1 : q ++ [c] = π ++ [b]
    · rw [if_pos h1] at hq
      cases hq
    · rw [if_neg h1] at hq
      by_cases h2 : q = π ++ [b]
      · subst h2
        rw [hn c] at hq
        cases hq
      · rw [if_neg h2]
        exact h.up q c hq
  · by_cases h2 : q = π ++ [b]
    · rw [if_pos h2] at hq
      cases hq
    · rw [if_neg h2] at hq
      obtain ⟨n1, n2, n3, n4, n5⟩ := h.node q g' o' hq
      have hfr : ∀ j, (w.setCell ⟨g, o + 1 + b.toNat, none⟩ (.pointer none)).frozen? ⟨g', j, none⟩ = false := fun j => by rw [World.frozen?_setCell]; exact n5 j
      by_cases hqp : q = π
      · subst hqp
        rw [e] at hq
        cases hq
        refine ⟨n1, hset _ _ (by omega) n2, ?_, ?_, hfr⟩
        · cases b
          · rw [if_pos rfl]
            exact World.cell?_setCell_same _ _ _ n3
          · rw [if_neg (fun e => by have := (snoc e).2; cases this)]
            exact hset _ _ (by simp) n3
        · cases b
          · rw [if_neg (fun e => by have := (snoc e).2; cases this)]
            exact hset _ _ (by simp) n4
          · rw [if_pos rfl]
            exact World.cell?_setCell_same _ _ _ n4
      · have hgg : g' ≠ g := fun e2 => hqp (h.inj q π g' o' o hq (by rw [e2]; exact e))
        rw [if_neg (fun e => hqp (snoc e).1), if_neg (fun e => hqp (snoc e).1)]
        exact ⟨n1, kk.cell n2 (by simp; omega), kk.cell n3 (by simp; omega), kk.cell n4 (by simp; omega), hfr⟩
  · by_cases h1 : q = π ++ [b]
    · rw [if_pos h1] at hq
      cases hq
    · by_cases h2 : q' = π ++ [b]
      · rw [if_pos h2] at hq'
        cases hq'
      · rw [if_neg h1] at hq
        rw [if_neg h2] at hq'
        exact h.inj q q' g' o' o'' hq hq'
  · by_cases h1 : q = π ++ [b]
    · rw [if_pos h1] at hq
      cases hq
    · rw [if_neg h1] at hq
      exact own_kept (h.vals q hq) kk (fun x hx => by have := (h.own q x hq hx).2.1 π g o e; simp; omega)
  · by_cases h1 : q = π ++ [b]
    · rw [if_pos h1] at hq
      cases hq
    · rw [if_neg h1] at hq
      obtain ⟨o1, o2, o3⟩ := h.own q x hq hx
      refine ⟨o1, fun q' g' o' hq' => ?_, fun q' hq' hx' => ?_⟩
      · by_cases h2 : q' = π ++ [b]
        · rw [if_pos h2] at hq'
          cases hq'
        · rw [if_neg h2] at hq'
          exact o2 q' g' o' hq'
      · by_cases h2 : q' = π ++ [b]
        · rw [if_pos h2] at hq'
          cases hq'
        · rw [if_neg h2] at hq'
          exact o3 q' hq' hx'
  · by_cases h1 : q = π ++ [b]
    · rw [h1]
      exact hv
    · rw [if_neg h1] at hq
      exact h.empty q hq

/-- Cells of the table itself that are no node's. -/
theorem TreeAt.apart (h : TreeAt w p F B S V) {π : List Bool} {g o : Nat} (e : B π = some (g, o)) {i j : Nat} (hi : i ≤ 2) (h1 : j ≠ 1) (h2 : j ≠ 2) (h3 : j ≠ 3) : (⟨g, o + i, none⟩ : Addr) ≠ ⟨p, j, none⟩ := by
  intro h4
  injection h4 with h5 h6
  subst h5
  have := h.inj π [] g o 1 e h.root
  subst this
  rw [h.root] at e
  cases e
  omega

theorem TreeIn.cut (h : TreeIn w w' p F F' B S V) {π : List Bool} {b : Bool} {g o : Nat} (e : B π = some (g, o)) (hv : V (π ++ [b]) = []) (hn : ∀ c, B ((π ++ [b]) ++ [c]) = none) :
    TreeIn w (w'.setCell ⟨g, o + 1 + b.toNat, none⟩ (.pointer none)) p F F' (fun q => if q = π ++ [b] then none else B q) S V := by
  refine ⟨h.tree.cut e hv hn, h.foot, fun x hx => by simp [World.setCell]; exact h.lt x hx, h.kept.setCell _ _ (h.foot g (h.tree.node _ _ _ e).1), fun j h1 h2 h3 => ?_⟩
  have hne := h.tree.apart e (i := 1 + b.toNat) (by cases b <;> simp) h1 h2 h3
  rw [← Nat.add_assoc] at hne
  rw [World.cell?_setCell_other _ _ _ _ hne]
  exact h.cell j h1 h2 h3

theorem TreeAt.pre (h : TreeAt w p F B S V) (a : Nat) : ∀ n j, j ≤ n → (B (pth a n)).isSome = true → (B (pth a j)).isSome = true
  | 0, j, hj, hs => (Nat.le_zero.1 hj) ▸ hs
  | n + 1, j, hj, hs => by
    rcases Nat.lt_or_ge j (n + 1) with h1 | h1
    · rw [pth_succ] at hs
      exact TreeAt.pre h a n j (by omega) (h.up _ _ hs)
    · obtain rfl : j = n + 1 := by omega
      exact hs
end

theorem eq_nil1 (p : Option Addr) (w : World) : (Op.equalIn 9999 269 (.pointer p) (.pointer none)).run Tryz.prog w = .ok p.isNone w :=
  run_equalIn_pointer_nil w 9998 269 p (by kernel_rfl)
theorem notAgg (w : World) : (isAgg 269).run Tryz.prog w = .ok false w := by kernel_rfl
theorem kids_eq (a b : Option Addr) (w : World) : (Op.equalIn 10000 270 (.agg #[.pointer a, .pointer b]) (.agg #[.pointer none, .pointer none])).run Tryz.prog w = .ok (a.isNone && b.isNone) w := by
  obtain ⟨i0, hi, _⟩ := info_parts ptr_info
  have hc : Tryz.prog.cellsOf 269 = 1 := by kernel_rfl
  have e0 := eq_nil1 a w
  have e1 := eq_nil1 b w
  have n0 := notAgg w
  rw [run_equalIn_array w 9999 _ _ Tryz.underlying270 hi, hc, show List.range 2 = [0, 1] from rfl]
  simp [Op.eqItems, Sem.run_bind, part, n0, e0, e1]
  cases a <;> cases b <;> simp

/-- A tree in memory on the way of Drop. -/
structure TreeMid (w wr : World) (p : Nat) (F F' : List Nat) (B : List Bool → Option (Nat × Nat)) (S : List Bool → Value) (V : List Bool → List Int) : Prop where
  tree : TreeAt wr p F' B S V
  foot : ∀ x ∈ F', x ∈ F ∨ w.heap.size ≤ x
  lt : ∀ x ∈ F', x < wr.heap.size
  kept : Kept F w wr
  cell : wr.cell? ⟨p, 0, none⟩ = w.cell? ⟨p, 0, none⟩
  count : ∃ n : Int, wr.cell? ⟨p, 4, none⟩ = some (.int .i64 n)
section
variable {w w' : World} {p : Nat} {F F' : List Nat} {B : List Bool → Option (Nat × Nat)} {S : List Bool → Value} {V : List Bool → List Int}
theorem TreeMid.out (h : TreeMid w w' p F F' B S V) : TreeOut w w' p F V := ⟨⟨F', B, S, h.tree, h.foot, h.lt⟩, h.kept, h.cell, h.count⟩
theorem TreeIn.mid (h : TreeIn w w' p F F' B S V) {u : Value} (hc : w'.cell? ⟨p, 4, none⟩ = some u) (z : Int) : TreeMid w (w'.setCell ⟨p, 4, none⟩ (.int .i64 z)) p F F' B S V := by
  have hpm := (h.tree.node _ _ _ h.tree.root).1
  have hne : (⟨p, 4, none⟩ : Addr) ≠ ⟨p, 0, none⟩ := by intro h4; injection h4 with h5 h6; omega
  refine ⟨h.tree.top (by omega) (by omega) (by omega) _, h.foot, fun x hx => by simp [World.setCell]; exact h.lt x hx, h.kept.setCell _ _ (h.foot p hpm), ?_, z, World.cell?_setCell_same _ _ _ hc⟩
  rw [World.cell?_setCell_other _ _ _ _ hne]
  exact h.cell 0 (by omega) (by omega) (by omega)
theorem TreeMid.cut (h : TreeMid w w' p F F' B S V) {π : List Bool} {b : Bool} {g o : Nat} (e : B π = some (g, o)) (hv : V (π ++ [b]) = []) (hn : ∀ c, B ((π ++ [b]) ++ [c]) = none) :
    TreeMid w (w'.setCell ⟨g, o + 1 + b.toNat, none⟩ (.pointer none)) p F F' (fun q => if q = π ++ [b] then none else B q) S V := by
  have hne := fun j h1 h2 h3 => h.tree.apart e (i := 1 + b.toNat) (j := j) (by cases b <;> simp) h1 h2 h3
  obtain ⟨z, hz⟩ := h.count
  refine ⟨h.tree.cut e hv hn, h.foot, fun x hx => by simp [World.setCell]; exact h.lt x hx, h.kept.setCell _ _ (h.foot g (h.tree.node _ _ _ e).1), ?_, z, ?_⟩
  · have := hne 0 (by omega) (by omega) (by omega)
    rw [← Nat.add_assoc] at this
    rw [World.cell?_setCell_other _ _ _ _ this]
    exact h.cell
  · have := hne 4 (by omega) (by omega) (by omega)
    rw [← Nat.add_assoc] at this
    rw [World.cell?_setCell_other _ _ _ _ this]
    exact hz
theorem TreeMid.drew (h : TreeMid w w' p F F' B S V) : TreeMid w w'.drew p F F' B S V := ⟨h.tree.of_blocks (fun _ _ => rfl), h.foot, h.lt, h.kept.drew, h.cell, h.count⟩
theorem TreeMid.drewN (h : TreeMid w w' p F F' B S V) (n : Nat) : TreeMid w (w'.drewN n) p F F' B S V := ⟨h.tree.of_blocks (fun _ _ => rfl), h.foot, h.lt, h.kept.drewN n, h.cell, h.count⟩
end

set_option maxRecDepth 100000 in
set_option maxHeartbeats 4000000 in
theorem tdrop_calls {w : World} {p : Nat} {F : List Nat} {B : List Bool → Option (Nat × Nat)} {S : List Bool → Value} {V : List Bool → List Int} (h : TreeAt w p F B S V) (hF : ∀ x ∈ F, x < w.heap.size) (a n : Nat) (ha : a < 2 ^ 32) (hn : n ≤ 32) (hr : rtB ⟨a, n⟩ = true)
    (v : Int) (hs : (V (pth a n)).Pairwise (· < ·)) (hv : (V (pth a n)).contains v = true) (hl : (V (pth a n)).length < 1000000) (hc : ∃ nn : Int, w.cell? ⟨p, 4, none⟩ = some (.int .i64 nn)) :
    Calls Tryz.prog 207 #[.pointer (some ⟨p, 1, none⟩), .agg #[.int .u32 (a : Int), .int .i64 (n : Int)], .int .i64 v] w fun e w' => e = .returned (.int .i64 0) ∧
      TreeOut w w' p F (updV V (pth a n) ((V (pth a n)).eraseIdx ((V (pth a n)).countP (· < v)))) := by
  obtain ⟨nn, hc⟩ := hc
  have hpz := h.lt h.root
  have hsn : (B (pth a n)).isSome = true := by
    cases hb : B (pth a n) with
    | none => rw [h.empty _ hb] at hv; cases hv
    | some x => rfl
  have hci : (V (pth a n)).countP (· < v) < (V (pth a n)).length := by
    rcases Nat.lt_or_ge ((V (pth a n)).countP (· < v)) (V (pth a n)).length with h1 | h1
    · exact h1
    · have h2 := List.countP_eq_length.1 (Nat.le_antisymm List.countP_le_length h1)
      have := h2 v (by simpa using hv)
      simp at this
  have HR := Lib.hid (fun w' => cright_calls w' ⟨a, n⟩ ha)
  have k0 := (Below.refl w.heap.size w).alloc (Nat.le_refl _) (.cells #[.int .u32 (a : Int), .int .i64 (n : Int)] 48)
  have hX := heap_alloc_new w (.cells #[.int .u32 (a : Int), .int .i64 (n : Int)] 48)
  rw [hr] at HR
  have HV := Lib.hid hv
  have HS := Lib.hid hs
  have HL := Lib.hid hl
  have H0 := Lib.hid h
  have HF0 := Lib.hid hF
  have HC0 := Lib.hid hc
  have HSN := Lib.hid hsn
  clear hv hs hl h hF hc hr hsn
  go_enter Tryz.func207, Tryz.ntmps207
  go_wp2_with (fail)
  generalize w.alloc (.cells #[.int .u32 (a : Int), .int .i64 (n : Int)] 48) = w1 at *
  refine (HR.out _).mono ?_
  rintro e w2 ⟨he, k2⟩
  subst he
  have K2 := Lib.hid (k0.trans (k2.mono k0.size))
  have hX2 := (k2.block _ (lt_of_block hX)).trans hX
  have dx := And.intro (cell_of hX2 0) (cell_of hX2 1)
  simp only [List.getElem?_toArray, List.getElem?_cons_zero, List.getElem?_cons_succ] at dx
  have HT2 := Lib.hid ((TreeIn.start H0.out HF0.out).kept0 (Kept.of_below K2.out))
  have HX2 := Lib.hid hX2
  clear k0 hX k2 hX2
  go_wp2_with (fail)
  refine (way_there HT2.out.tree HT2.out.lt a n ha hn).mono ?_
  rintro e w3 ⟨m, vo, he, hmn, hall, hlast, how, k3⟩
  subst he
  obtain rfl : m = n := by
    rcases Nat.lt_or_ge m n with h1 | h1
    · have h2 := HT2.out.tree.pre a n (m + 1) (by omega) HSN.out
      rw [hlast h1] at h2
      cases h2
    · omega
  obtain ⟨s0, cap0, rfl, hsb, hsz⟩ := how.form (by omega)
  obtain ⟨⟨g, o⟩, hgo⟩ := Option.isSome_iff_exists.1 HSN.out
  have hrow : ∀ j, j ≤ m → w3.cell? ⟨s0, j, none⟩ = some (kidV (B (pth a j))) := fun j hj => by
    rw [how.cellAt j (by omega)]
    exact wayL_at _ _ _ (by omega)
  have cl := hrow m (Nat.le_refl _)
  rw [hgo] at cl
  unfold kidV at cl
  have hX3 := (k3.block _ (lt_of_block HX2.out)).trans HX2.out
  have dx := And.intro (cell_of hX3 0) (cell_of hX3 1)
  simp only [List.getElem?_toArray, List.getElem?_cons_zero, List.getElem?_cons_succ] at dx
  have HT3 := Lib.hid (HT2.out.kept0 (Kept.of_below k3))
  have HGO := Lib.hid hgo
  have HALL := Lib.hid hall
  obtain ⟨n1, n2, n3, n4, n5⟩ := HT3.out.tree.node _ _ _ hgo
  have f0 := n5 o
  have hg3 := HT3.out.tree.lt hgo
  have HVAL := Lib.hid (HT3.out.tree.vals _ HSN.out)
  have HROW := Lib.hid hrow
  have HX3 := Lib.hid hX3
  have hs0 : s0 ∉ F := fun hm => by have := HT2.out.lt _ hm; omega
  have t1 : decide ((m : Int) + 1 ≤ (m : Int)) = false := decide_eq_false (by omega)
  clear how hgo hall hlast hrow hX3 n3 n4 n5 HX2 HT2
  go_wp2_with (fail)
  refine (search_own HVAL.out HS.out HL.out v).mono ?_
  rintro e w4 ⟨he, q, hw4⟩
  subst he
  rw [HV.out]
  have k4 : Kept [] w3 w4 := by rw [hw4]; exact Kept.of_drewN _ _
  have HT4 := Lib.hid (HT3.out.kept0 k4)
  have n2' := k4.cell n2 (by simp)
  have f0' := (k4.frozen (a := ⟨g, o, none⟩) hg3 (by simp)).trans f0
  have HVAL4 := Lib.hid (own_kept HVAL.out k4 (by simp))
  have hg4 := Nat.lt_of_lt_of_le hg3 k4.size
  have HK34 := Lib.hid k4
  have hz4 := k4.size
  have c4 := (HT4.out.cell 4 (by omega) (by omega) (by omega)).trans HC0.out
  clear k4 hw4 n2 f0 HVAL cl HT3 dx
  have hDEL := delete_own HVAL4.out HL.out _ hci _ rfl
  generalize hcie : (V (pth a m)).countP (· < v) = ci at *
  have HCI := Lib.hid hcie
  have HDEL := Lib.hid hDEL
  have hl1 : (ci : Int) + 1 ≤ 1000000 := by have := HL.out; omega
  clear hcie hDEL
  go_wp2_with (fail)
  refine HDEL.out.mono ?_
  rintro e w6 ⟨v2, he, ho6, k6, hy6⟩
  subst he
  obtain ⟨ao6, cap6, rfl⟩ : ∃ ao cap, v2 = .slice ao ((V (pth a m)).eraseIdx ci).length cap := by
    rcases ho6.2 with ⟨h0, h1⟩ | ⟨g', cap', cur, h0, _⟩
    · exact ⟨none, 0, by rw [h0, h1]⟩
    · exact ⟨_, cap', h0⟩
  have HP := Lib.hid (HT4.out.put HGO.out k6 ho6 hy6)
  have hgn : g ∉ (S (pth a m)).ownBlock.toList := fun hm => (HT4.out.tree.own (pth a m) g (by rw [HGO.out]; rfl) (by simpa using hm)).2.1 _ _ _ HGO.out rfl
  have n6 := k6.cell n2' hgn
  have f6 := (k6.frozen (a := ⟨g, o, none⟩) hg4 hgn).trans f0'
  have c6 := (HP.out.cell 4 (by omega) (by omega) (by omega)).trans HC0.out
  have fp := (HP.out.tree.node _ _ _ HP.out.tree.root).2.2.2.2 4
  have hp6 := HP.out.tree.lt HP.out.tree.root
  have hSown : ∀ y, (S (pth a m)).ownBlock = some y → y ∈ F := fun y hy => (HT4.out.tree.own (pth a m) y (by rw [HGO.out]; rfl) hy).1
  have hbox : w.heap.size ∉ F := fun hm => by have := HF0.out _ hm; omega
  have hv2 : ∀ y, (Value.slice ao6 ((V (pth a m)).eraseIdx ci).length cap6).ownBlock = some y → y ∈ F ∨ w4.heap.size ≤ y := fun y hy => by
    rcases hy6 y hy with h1 | h1
    · exact Or.inl (hSown y h1)
    · exact Or.inr h1
  have K46 := Lib.hid k6
  have HSO := Lib.hid hSown
  have HV2 := Lib.hid hv2
  clear ho6 k6 hy6 n2' f0' hgn hSown hv2 c4
  have hgF : g ∈ F := n1
  have hbx6 : w6.heap[w.heap.size]? = some (.cells #[.int .u32 (a : Int), .int .i64 (m : Int)] 48 (0, 0)) :=
    (K46.out.block _ (by have := lt_of_block HX3.out; omega) (fun hm => hbox (HSO.out _ (by simpa using hm)))).trans ((HK34.out.block _ (lt_of_block HX3.out) (by simp)).trans HX3.out)
  have HBX := Lib.hid (blk_setCell (blk_setCell hbx6 (a := ⟨g, o, none⟩) (by show w.heap.size ≠ g; exact fun e => hbox (e ▸ hgF)) (.slice ao6 ((V (pth a m)).eraseIdx ci).length cap6)) (a := ⟨p, 4, none⟩) (by show w.heap.size ≠ p; omega) (.int .i64 (wrap64 (nn - 1))))
  have HMD := Lib.hid (HP.out.mid c6 (wrap64 (nn - 1)))
  have hrow8 : ∀ j, j ≤ m → ((w6.setCell ⟨g, o, none⟩ (.slice ao6 ((V (pth a m)).eraseIdx ci).length cap6)).setCell ⟨p, 4, none⟩ (.int .i64 (wrap64 (nn - 1)))).cell? ⟨s0, j, none⟩ = some (kidV (B (pth a j))) := fun j hj => by
    have r6 := K46.out.cell (HK34.out.cell (HROW.out j hj) (by simp)) (a := ⟨s0, j, none⟩) (fun hm => hs0 (HSO.out _ (by simpa using hm)))
    have hgs : s0 ≠ g := fun e => hs0 (e ▸ hgF)
    have hps : s0 ≠ p := fun e => hs0 (e ▸ (HT4.out.foot p (HT4.out.tree.node _ _ _ HT4.out.tree.root).1).elim id (fun h => absurd hpz (by omega)))
    have kk := ((Kept.refl [g, p] w6).setCell ⟨g, o, none⟩ (.slice ao6 ((V (pth a m)).eraseIdx ci).length cap6) (by simp)).setCell ⟨p, 4, none⟩ (.int .i64 (wrap64 (nn - 1))) (by simp)
    exact kk.cell r6 (by simp; omega)
  have HROW8 := Lib.hid hrow8
  have HND := Lib.hid (fun π x (hx : B π = some x) => (HT4.out.tree.node π x.1 x.2 hx).1)
  clear hbx6 hrow8
  go_upto_region 14 with (fail)
  clear HP n6 f6 c6 fp HROW HX3 K46 HK34 HDEL HVAL4 HT4 HSO hp6 hg4 hg3
  generalize hV1 : (fun q => if q = pth a m then (V (pth a m)).eraseIdx ci else V q) = V1 at *
  generalize hS1 : (fun q => if q = pth a m then Value.slice ao6 ((V (pth a m)).eraseIdx ci).length cap6 else S q) = S1 at *
  generalize (Value.slice ao6 ((V (pth a m)).eraseIdx ci).length cap6).ownBlock.toList ++ F = F1 at *
  have HV1 := Lib.hid hV1
  clear hV1 hS1
  generalize (w6.setCell ⟨g, o, none⟩ (.slice ao6 ((V (pth a m)).eraseIdx ci).length cap6)).setCell ⟨p, 4, none⟩ (.int .i64 (wrap64 (nn - 1))) = w8 at *
  have db := And.intro (cell_of HBX.out 0) (cell_of HBX.out 1)
  simp only [List.getElem?_toArray, List.getElem?_cons_zero, List.getElem?_cons_succ] at db
  go_wp2_with (fail)
  have HFIN := Lib.hid (show ∀ (wr : World) (B' : List Bool → Option (Nat × Nat)), TreeMid w wr p F F1 B' S1 V1 → TreeOut w wr p F (updV V (pth a m) ((V (pth a m)).eraseIdx ((V (pth a m)).countP (· < v)))) from fun wr B' h => by
    have h2 := h.out
    rw [← HV1.out] at h2
    rw [HCI.out]
    exact h2)
  go_loopg [11] m (fun gk vi wr => gk ≤ m ∧ vi = .int .i64 (gk : Int) ∧ ∃ B', TreeMid w wr p F F1 B' S1 V1 ∧ (∀ j, j ≤ gk → B' (pth a j) = B (pth a j)) ∧ Kept F w8 wr)
  case atStart => exact ⟨Nat.le_refl _, rfl, B, HMD.out, fun _ _ => rfl, Kept.refl _ _⟩
  case round =>
    obtain ⟨hgm, rfl, B', hM, hpre, hK⟩ := hrel
    have HM := Lib.hid hM
    have HPRE := Lib.hid hpre
    have HK8 := Lib.hid hK
    have hbx := (hK.block _ (lt_of_block HBX.out) hbox).trans HBX.out
    have db := And.intro (cell_of hbx 0) (cell_of hbx 1)
    simp only [List.getElem?_toArray, List.getElem?_cons_zero, List.getElem?_cons_succ] at db
    have rw8 := fun j hj => hK.cell (HROW8.out j hj) hs0
    rcases Nat.eq_zero_or_pos gk with h0 | h0
    · subst h0
      have t2 : decide ((0 : Int) < ((0 : Nat) : Int)) = false := rfl
      clear rw8 db hM hpre hK hbx
      go_wp2_with (fail)
      go_ret
      exact ⟨rfl, HFIN.out _ _ HM.out⟩
    · have t2 : decide ((0 : Int) < (gk : Int)) = true := decide_eq_true (by omega)
      obtain ⟨⟨gi, oi⟩, hgi⟩ := Option.isSome_iff_exists.1 (HALL.out gk hgm)
      have r1 := rw8 gk hgm
      rw [hgi] at r1
      unfold kidV at r1
      have hgi2 : B' (pth a gk) = some (gi, oi) := by rw [hpre gk (Nat.le_refl _)]; exact hgi
      obtain ⟨m1, m2, m3, m4, m5⟩ := hM.tree.node _ _ _ hgi2
      have hgil := hM.tree.lt hgi2
      have m4' : wr.cell? ⟨gi, oi + 1 + 1, none⟩ = some (kidV (B' (pth a gk ++ [true]))) := m4
      have hva := hM.tree.vals (pth a gk) (by rw [hgi2]; rfl)
      obtain ⟨aoi, capi, hSi⟩ : ∃ ao cap, S1 (pth a gk) = .slice ao (V1 (pth a gk)).length cap := by
        rcases hva.2 with ⟨h0, h1⟩ | ⟨g', cap', cur, h0, _⟩
        · exact ⟨none, 0, by rw [h0, h1]⟩
        · exact ⟨_, cap', h0⟩
      rw [hSi] at m2
      have HRW := Lib.hid rw8
      have HG2 := Lib.hid hgi2
      clear hva m4 m5 hM hpre hK hbx rw8 hgi hgi2 hSi
      rcases hv1 : V1 (pth a gk) with _ | ⟨z, zs⟩
      · have HV1N := Lib.hid hv1
        rw [hv1] at m2
        simp only [List.length_nil] at m2
        clear hv1
        rcases hk0 : B' (pth a gk ++ [false]) with _ | ⟨g0, p0⟩
        · rcases hk1 : B' (pth a gk ++ [true]) with _ | ⟨g1, p1⟩
          · have HK0 := Lib.hid hk0
            have HK1 := Lib.hid hk1
            rw [hk0] at m3
            rw [hk1] at m4'
            unfold kidV at m3 m4'
            clear hk0 hk1
            have KE := fun w' => kids_eq none none w'
            simp only [Option.isNone_none, Bool.and_true] at KE
            obtain ⟨j, rfl⟩ : ∃ j, gk = j + 1 := ⟨gk - 1, by omega⟩
            obtain ⟨⟨gp, op⟩, hgp⟩ := Option.isSome_iff_exists.1 (HALL.out j (by omega))
            have r2 := HRW.out j (by omega)
            rw [hgp] at r2
            unfold kidV at r2
            have hgp2 : B' (pth a j) = some (gp, op) := by rw [HPRE.out j (by omega)]; exact hgp
            have hgpF := HND.out _ _ hgp
            simp only at hgpF
            obtain ⟨_, _, p3, p4, p5⟩ := HM.out.tree.node _ _ _ hgp2
            have hgpl := HM.out.tree.lt hgp2
            have pf1 := p5 (op + 1)
            have pf2 := p5 (op + 1 + 1)
            have hsgp : s0 ≠ gp := fun e => hs0 (e ▸ hgpF)
            have hbgp : w.heap.size ≠ gp := fun e => hbox (e ▸ hgpF)
            have HPS := Lib.hid (pth_succ a j)
            have HB : ∀ w', Calls Tryz.prog 243 #[.int .u32 (a : Int), .int .i64 (j : Int)] w' fun e w'' => e = .returned (.int .i64 (((a.testBit (31 - j)).toNat : Nat) : Int)) ∧ w'' = w' := fun w' => tbit_calls w' a j ha (by omega)
            generalize a.testBit (31 - j) = b at *
            have q1 : IntKind.i64.wrap (j : Int) = (j : Int) := IntWalk.i64_in _ (by omega)
            have hj0 : (0 : Int) ≤ (j : Int) := by omega
            have hj1 : (j : Int) < (m : Int) + 1 := by omega
            have hj2 : j < m + 1 := by omega
            have HGP := Lib.hid hgp2
            have dbx := db.1
            have t2' : decide ((0 : Int) < (j : Int) + 1) = true := decide_eq_true (by omega)
            clear p5 hgp hgp2
            cases b
            · have HBB := Lib.hid (show ∀ w', Calls Tryz.prog 243 #[.int .u32 (a : Int), .int .i64 (j : Int)] w' fun e w'' => e = .returned (.int .i64 0) ∧ w'' = w' from HB)
              clear HB
              go_wp2_with (fail)
              have kz := (Kept.refl [gp] wr.drew).setCell ⟨gp, op + 1, none⟩ (.pointer none) (by simp)
              have c1 : (wr.drew.setCell ⟨gp, op + 1, none⟩ (.pointer none)).cell? ⟨s0, j, none⟩ = some (.pointer (some ⟨gp, op, none⟩)) := kz.cell (a := ⟨s0, j, none⟩) r2 (by simpa using hsgp)
              have c2 : (wr.drew.setCell ⟨gp, op + 1, none⟩ (.pointer none)).cell? ⟨w.heap.size, 0, none⟩ = some (.int .u32 (a : Int)) := kz.cell (a := ⟨w.heap.size, 0, none⟩) dbx (by simpa using hbgp)
              have r2d : wr.drew.cell? ⟨s0, j, none⟩ = some (.pointer (some ⟨gp, op, none⟩)) := r2
              have dbd : wr.drew.cell? ⟨w.heap.size, 0, none⟩ = some (.int .u32 (a : Int)) := dbx
              have p3d : wr.drew.cell? ⟨gp, op + 1, none⟩ = some (kidV (B' (pth a j ++ [false]))) := p3
              have pfd : wr.drew.frozen? ⟨gp, op + 1, none⟩ = false := pf1
              go_region_held3 (fun w' => w'.cell? ⟨s0, j, none⟩ = some (.pointer (some ⟨gp, op, none⟩)) ∧ w'.cell? ⟨w.heap.size, 0, none⟩ = some (.int .u32 (a : Int))) (first | exact ⟨r2d, dbd⟩ | exact ⟨c1, c2⟩)
                (first | (go_at_call 243; refine Calls.mono (HBB.out _) ?_; rintro e w' ⟨rfl, rfl⟩))
              all_goals
                go_wp2_with (fail)
                go_roundg j
                case measure => omega
                case rel =>
                  refine ⟨by omega, by go_num, _, (HM.out.drew).cut (b := false) HGP.out (by rw [← HPS.out]; exact HV1N.out) (fun c => ?_), fun k hk => ?_, (HK8.out.setCell _ _ (Or.inl hgpF)).drew⟩
                  · rw [← HPS.out]
                    cases c
                    · exact HK0.out
                    · exact HK1.out
                  · rw [if_neg (fun e => by have := congrArg List.length e; simp [pth_length] at this; omega)]
                    exact HPRE.out k (by omega)
            · have HBB := Lib.hid (show ∀ w', Calls Tryz.prog 243 #[.int .u32 (a : Int), .int .i64 (j : Int)] w' fun e w'' => e = .returned (.int .i64 1) ∧ w'' = w' from HB)
              clear HB
              go_wp2_with (fail)
              have kz := (Kept.refl [gp] wr.drew).setCell ⟨gp, op + 1 + 1, none⟩ (.pointer none) (by simp)
              have c1 : (wr.drew.setCell ⟨gp, op + 1 + 1, none⟩ (.pointer none)).cell? ⟨s0, j, none⟩ = some (.pointer (some ⟨gp, op, none⟩)) := kz.cell (a := ⟨s0, j, none⟩) r2 (by simpa using hsgp)
              have c2 : (wr.drew.setCell ⟨gp, op + 1 + 1, none⟩ (.pointer none)).cell? ⟨w.heap.size, 0, none⟩ = some (.int .u32 (a : Int)) := kz.cell (a := ⟨w.heap.size, 0, none⟩) dbx (by simpa using hbgp)
              have r2d : wr.drew.cell? ⟨s0, j, none⟩ = some (.pointer (some ⟨gp, op, none⟩)) := r2
              have dbd : wr.drew.cell? ⟨w.heap.size, 0, none⟩ = some (.int .u32 (a : Int)) := dbx
              have p3d : wr.drew.cell? ⟨gp, op + 1 + 1, none⟩ = some (kidV (B' (pth a j ++ [true]))) := p4
              have pfd : wr.drew.frozen? ⟨gp, op + 1 + 1, none⟩ = false := pf2
              go_region_held3 (fun w' => w'.cell? ⟨s0, j, none⟩ = some (.pointer (some ⟨gp, op, none⟩)) ∧ w'.cell? ⟨w.heap.size, 0, none⟩ = some (.int .u32 (a : Int))) (first | exact ⟨r2d, dbd⟩ | exact ⟨c1, c2⟩)
                (first | (go_at_call 243; refine Calls.mono (HBB.out _) ?_; rintro e w' ⟨rfl, rfl⟩))
              all_goals
                go_wp2_with (fail)
                go_roundg j
                case measure => omega
                case rel =>
                  refine ⟨by omega, by go_num, _, (HM.out.drew).cut (b := true) HGP.out (by rw [← HPS.out]; exact HV1N.out) (fun c => ?_), fun k hk => ?_, (HK8.out.setCell _ _ (Or.inl hgpF)).drew⟩
                  · rw [← HPS.out]
                    cases c
                    · exact HK0.out
                    · exact HK1.out
                  · rw [if_neg (fun e => by have := congrArg List.length e; simp [pth_length] at this; omega)]
                    exact HPRE.out k (by omega)
          · rw [hk0] at m3
            rw [hk1] at m4'
            unfold kidV at m3 m4'
            clear hk0 hk1
            have KE := fun w' => kids_eq none (some ⟨g1, p1, none⟩) w'
            simp only [Option.isNone_none, Option.isNone_some, Bool.and_false] at KE
            go_wp2_with (fail)
            go_ret
            exact ⟨rfl, HFIN.out _ _ HM.out⟩
        · rw [hk0] at m3
          unfold kidV at m3
          rcases hk1 : B' (pth a gk ++ [true]) with _ | ⟨g1, p1⟩
          · rw [hk1] at m4'
            unfold kidV at m4'
            clear hk0 hk1
            have KE := fun w' => kids_eq (some ⟨g0, p0, none⟩) none w'
            simp only [Option.isNone_none, Option.isNone_some, Bool.false_and] at KE
            go_wp2_with (fail)
            go_ret
            exact ⟨rfl, HFIN.out _ _ HM.out⟩
          · rw [hk1] at m4'
            unfold kidV at m4'
            clear hk0 hk1
            have KE := fun w' => kids_eq (some ⟨g0, p0, none⟩) (some ⟨g1, p1, none⟩) w'
            simp only [Option.isNone_some, Bool.and_false] at KE
            go_wp2_with (fail)
            go_ret
            exact ⟨rfl, HFIN.out _ _ HM.out⟩
      · have t3 : (((V1 (pth a gk)).length : Int) == 0) = false := by rw [hv1, beq_eq_false_iff_ne]; simp; omega
        generalize (V1 (pth a gk)).length = vl at *
        clear hv1
        go_wp2_with (fail)
        go_ret
        exact ⟨rfl, HFIN.out _ _ HM.out⟩

end Go.Proofs.YtjoblahedgpgbaaGreat
