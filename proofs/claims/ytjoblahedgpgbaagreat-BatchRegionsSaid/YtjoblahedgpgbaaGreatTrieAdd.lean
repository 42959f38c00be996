/- A tree of prefixes: a value put in, or taken away, at a node; the walk of Add. -/
import Derived.Test.YtjoblahedgpgbaaGreatSlc
import Derived.StillTailTactics
namespace Go.Proofs.YtjoblahedgpgbaaGreat
set_option linter.unusedVariables false
set_option linter.unusedSimpArgs false
open Go.RowKit

section
variable {w w' : World} {p : Nat} {F : List Nat} {B : List Bool → Option (Nat × Nat)} {S : List Bool → Value} {V : List Bool → List Int}

theorem TreeAt.put (h : TreeAt w p F B S V) (hF : ∀ x ∈ F, x < w.heap.size) {π : List Bool} {g o : Nat} (e : B π = some (g, o)) {w1 : World} {v2 : Value} {l : List Int} (hk : Kept (S π).ownBlock.toList w w1)
    (ho : w1.ownsRow 0 3 1 v2 l.length (l.map i64)) (hy : ∀ y, v2.ownBlock = some y → (S π).ownBlock = some y ∨ w.heap.size ≤ y) :
    TreeAt (w1.setCell ⟨g, o, none⟩ v2) p (v2.ownBlock.toList ++ F) B (fun q => if q = π then v2 else S q) (fun q => if q = π then l else V q) := by
  have hs : (B π).isSome = true := by rw [e]; rfl
  have hg := h.lt e
  have hown := fun x hx => h.own π x hs hx
  have hgown : g ∉ (S π).ownBlock.toList := fun hm => (hown g (by simpa using hm)).2.1 π g o e rfl
  have hyg : ∀ y, v2.ownBlock = some y → y ≠ g := fun y hy2 => by
    rcases hy y hy2 with h1 | h1
    · exact fun e2 => hgown (by rw [← e2, h1]; simp)
    · omega
  refine ⟨h.root, h.up, fun q g' o' hq => ?_, h.inj, fun q hq => ?_, fun q x hq hx => ?_, fun q hq => ?_⟩
  · obtain ⟨n1, n2, n3, n4, n5⟩ := h.node q g' o' hq
    have hg'own : g' ∉ (S π).ownBlock.toList := fun hm => (hown g' (by simpa using hm)).2.1 q g' o' hq rfl
    have hg'lt := hF g' n1
    have c := fun j v (hc : w.cell? ⟨g', j, none⟩ = some v) => hk.cell hc hg'own
    have hfr : ∀ j, (w1.setCell ⟨g, o, none⟩ v2).frozen? ⟨g', j, none⟩ = false := fun j => by
      rw [World.frozen?_setCell, hk.frozen (a := ⟨g', j, none⟩) hg'lt hg'own]
      exact n5 j
    have oth : ∀ j v, ¬ (g' = g ∧ j = o) → w.cell? ⟨g', j, none⟩ = some v → (w1.setCell ⟨g, o, none⟩ v2).cell? ⟨g', j, none⟩ = some v := fun j v hne hc => by
      have hne2 : (⟨g, o, none⟩ : Addr) ≠ ⟨g', j, none⟩ := by
        intro h1
        injection h1 with h2 h3
        exact hne ⟨h2.symm, h3.symm⟩
      rw [World.cell?_setCell_other _ _ _ _ hne2]
      exact c j v hc
    by_cases hqp : q = π
    · subst hqp
      rw [e] at hq
      cases hq
      refine ⟨by simp [n1], ?_, oth _ _ (by omega) n3, oth _ _ (by omega) n4, hfr⟩
      rw [if_pos rfl]
      exact World.cell?_setCell_same _ _ _ (c _ _ n2)
    · have hgg : g' ≠ g := fun e2 => hqp (h.inj q π g' o' o hq (by rw [e2]; exact e))
      rw [if_neg hqp]
      exact ⟨by simp [n1], oth _ _ (by omega) n2, oth _ _ (by omega) n3, oth _ _ (by omega) n4, hfr⟩
  · have kk : Kept [g] w1 (w1.setCell ⟨g, o, none⟩ v2) := Kept.of_setCell w1 ⟨g, o, none⟩ v2
    by_cases hqp : q = π
    · subst hqp
      simp only [if_true]
      exact own_kept ho kk (fun x hx => by have := hyg x hx; simpa using this)
    · simp only [if_neg hqp]
      refine own_kept (own_kept (h.vals q hq) hk (fun x hx hm => ?_)) kk (fun x hx => ?_)
      · exact hqp ((hown x (by simpa using hm)).2.2 q hq hx)
      · have := (h.own q x hq hx).2.1 π g o e
        simp
        omega
  · by_cases hqp : q = π
    · subst hqp
      simp only [if_true] at hx
      refine ⟨by rw [hx]; simp, fun q' g' o' hq' => ?_, fun q' hq' hx' => ?_⟩
      · rcases hy x hx with h1 | h1
        · exact (hown x h1).2.1 q' g' o' hq'
        · have := h.lt hq'
          omega
      · by_cases h3 : q' = q
        · exact h3
        · simp only [if_neg h3] at hx'
          rcases hy x hx with h1 | h1
          · exact (hown x h1).2.2 q' hq' hx'
          · have := hF x (h.own q' x hq' hx').1
            omega
    · simp only [if_neg hqp] at hx
      obtain ⟨o1, o2, o3⟩ := h.own q x hq hx
      refine ⟨by simp [o1], o2, fun q' hq' hx' => ?_⟩
      by_cases h3 : q' = π
      · subst h3
        simp only [if_true] at hx'
        rcases hy x hx' with h1 | h1
        · exact absurd ((hown x h1).2.2 q hq hx) hqp
        · have := hF x o1
          omega
      · simp only [if_neg h3] at hx'
        exact o3 q' hq' hx'
  · have hqp : q ≠ π := fun e2 => by rw [e2, e] at hq; cases hq
    simp only [if_neg hqp]
    exact h.empty q hq

/-- The table's own cells beside the tree. -/
theorem TreeAt.top (h : TreeAt w p F B S V) {j : Nat} (h1 : j ≠ 1) (h2 : j ≠ 2) (h3 : j ≠ 3) (v : Value) : TreeAt (w.setCell ⟨p, j, none⟩ v) p F B S V := by
  refine ⟨h.root, h.up, fun q g o hq => ?_, h.inj, fun q hq => own_kept (h.vals q hq) (Kept.of_setCell w ⟨p, j, none⟩ v) (fun x hx => by have := (h.own q x hq hx).2.1 [] p 1 h.root; simp; omega), h.own, h.empty⟩
  obtain ⟨n1, n2, n3, n4, n5⟩ := h.node q g o hq
  have oth : ∀ i u, ¬ (g = p ∧ i = j) → w.cell? ⟨g, i, none⟩ = some u → (w.setCell ⟨p, j, none⟩ v).cell? ⟨g, i, none⟩ = some u := fun i u hne hc => by
    have hne2 : (⟨p, j, none⟩ : Addr) ≠ ⟨g, i, none⟩ := by
      intro h4
      injection h4 with h5 h6
      exact hne ⟨h5.symm, h6.symm⟩
    rw [World.cell?_setCell_other _ _ _ _ hne2]
    exact hc
  have ho : g = p → o = 1 := fun e => by
    subst e
    have := h.inj q [] g o 1 hq h.root
    subst this
    rw [h.root] at hq
    cases hq
    rfl
  exact ⟨n1, oth _ _ (fun q => by have := ho q.1; omega) n2, oth _ _ (fun q => by have := ho q.1; omega) n3, oth _ _ (fun q => by have := ho q.1; omega) n4, fun i => by rw [World.frozen?_setCell]; exact n5 i⟩
end

theorem TreeIn.put {w w' : World} {p : Nat} {F F' : List Nat} {B : List Bool → Option (Nat × Nat)} {S : List Bool → Value} {V : List Bool → List Int} (h : TreeIn w w' p F F' B S V) {π : List Bool} {g o : Nat} (e : B π = some (g, o)) {w1 : World} {v2 : Value} {l : List Int} (hk : Kept (S π).ownBlock.toList w' w1)
    (ho : w1.ownsRow 0 3 1 v2 l.length (l.map i64)) (hy : ∀ y, v2.ownBlock = some y → (S π).ownBlock = some y ∨ w'.heap.size ≤ y) :
    TreeIn w (w1.setCell ⟨g, o, none⟩ v2) p F (v2.ownBlock.toList ++ F') B (fun q => if q = π then v2 else S q) (fun q => if q = π then l else V q) := by
  have hs : (B π).isSome = true := by rw [e]; rfl
  have hz := h.kept.size
  have hown := fun x hx => h.tree.own π x hs hx
  have hz2 : (w1.setCell ⟨g, o, none⟩ v2).heap.size = w1.heap.size := by simp [World.setCell]
  have kk : Kept ((S π).ownBlock.toList ++ [g]) w' (w1.setCell ⟨g, o, none⟩ v2) := (hk.mono (S' := (S π).ownBlock.toList ++ [g]) (fun i hi => Or.inl (by simp [hi]))).setCell _ _ (by simp)
  refine ⟨h.tree.put h.lt e hk ho hy, fun x hx => ?_, fun x hx => ?_, h.kept.trans kk fun i hi => ?_, fun j h1 h2 h3 => ?_⟩
  · rcases List.mem_append.1 hx with hx | hx
    · rcases hy x (by simpa using hx) with h1 | h1
      · exact h.foot x (hown x h1).1
      · exact Or.inr (by omega)
    · exact h.foot x hx
  · rw [hz2]
    rcases List.mem_append.1 hx with hx | hx
    · exact (ho.lt x (by simpa using hx)).2
    · exact Nat.lt_of_lt_of_le (h.lt x hx) hk.size
  · rcases List.mem_append.1 hi with hi | hi
    · exact h.foot i (hown i (by simpa using hi)).1
    · obtain rfl : i = g := by simpa using hi
      exact h.foot i (h.tree.node _ _ _ e).1
  · rw [← h.cell j h1 h2 h3]
    have hpn : p ∉ (S π).ownBlock.toList := fun hm => (hown p (by simpa using hm)).2.1 [] p 1 h.tree.root rfl
    have hne : (⟨g, o, none⟩ : Addr) ≠ ⟨p, j, none⟩ := by
      intro h4
      injection h4 with h5 h6
      subst h5
      have := h.tree.inj π [] g o 1 e h.tree.root
      subst this
      rw [h.tree.root] at e
      cases e
      exact h1 h6.symm
    rw [World.cell?_setCell_other _ _ _ _ hne]
    exact World.cell?_of_block (a := ⟨p, j, none⟩) (hk.block p (h.tree.lt h.tree.root) hpn)
/-- What a change of one node's values comes to. -/
structure TreeOut (w w' : World) (p : Nat) (F : List Nat) (V : List Bool → List Int) : Prop where
  ex : ∃ F' B' S', TreeAt w' p F' B' S' V ∧ (∀ x ∈ F', x ∈ F ∨ w.heap.size ≤ x) ∧ ∀ x ∈ F', x < w'.heap.size
  kept : Kept F w w'
  cell : w'.cell? ⟨p, 0, none⟩ = w.cell? ⟨p, 0, none⟩
  count : ∃ n : Int, w'.cell? ⟨p, 4, none⟩ = some (.int .i64 n)

theorem TreeIn.done {w w' : World} {p : Nat} {F F' : List Nat} {B : List Bool → Option (Nat × Nat)} {S : List Bool → Value} {V : List Bool → List Int} (h : TreeIn w w' p F F' B S V) {u : Value} (hc : w'.cell? ⟨p, 4, none⟩ = some u) (z : Int) : TreeOut w (w'.setCell ⟨p, 4, none⟩ (.int .i64 z)) p F V := by
  have hpm := (h.tree.node _ _ _ h.tree.root).1
  have hne : (⟨p, 4, none⟩ : Addr) ≠ ⟨p, 0, none⟩ := by intro h4; injection h4 with h5 h6; omega
  refine ⟨⟨F', B, S, h.tree.top (by omega) (by omega) (by omega) _, h.foot, fun x hx => by simp [World.setCell]; exact h.lt x hx⟩, h.kept.setCell _ _ (h.foot p hpm), ?_, z, World.cell?_setCell_same _ _ _ hc⟩
  rw [World.cell?_setCell_other _ _ _ _ hne]
  exact h.cell 0 (by omega) (by omega) (by omega)

def updV (V : List Bool → List Int) (π : List Bool) (l : List Int) : List Bool → List Int := fun q => if q = π then l else V q
theorem wayL_at (B : List Bool → Option (Nat × Nat)) (a m : Nat) {j : Nat} (hj : j < m) : (wayL B a m)[j]? = some (kidV (B (pth a j))) := by simp [wayL, hj]

set_option maxRecDepth 100000 in
set_option maxHeartbeats 2000000 in
theorem tadd_calls {w : World} {p : Nat} {F : List Nat} {B : List Bool → Option (Nat × Nat)} {S : List Bool → Value} {V : List Bool → List Int} (h : TreeAt w p F B S V) (hF : ∀ x ∈ F, x < w.heap.size) (a n : Nat) (ha : a < 2 ^ 32) (hn : n ≤ 32) (hr : rtB ⟨a, n⟩ = true)
    (v : Int) (hs : (V (pth a n)).Pairwise (· < ·)) (hv : (V (pth a n)).contains v = false) (hl : (V (pth a n)).length < 1000000) (hc : ∃ nn : Int, w.cell? ⟨p, 4, none⟩ = some (.int .i64 nn)) :
    Calls Tryz.prog 208 #[.pointer (some ⟨p, 1, none⟩), .agg #[.int .u32 (a : Int), .int .i64 (n : Int)], .int .i64 v] w fun e w' => e = .returned (.int .i64 0) ∧
      TreeOut w w' p F (updV V (pth a n) (putAt (V (pth a n)) ((V (pth a n)).countP (· < v)) v)) := by
  obtain ⟨nn, hc⟩ := hc
  have hpz := h.lt h.root
  have HR := Lib.hid (fun w' => cright_calls w' ⟨a, n⟩ ha)
  have k0 := (Below.refl w.heap.size w).alloc (Nat.le_refl _) (.cells #[.int .u32 (a : Int), .int .i64 (n : Int)] 48)
  have hX := heap_alloc_new w (.cells #[.int .u32 (a : Int), .int .i64 (n : Int)] 48)
  rw [hr] at HR
  have HV := Lib.hid hv
  have HS := Lib.hid hs
  have HL := Lib.hid hl
  have H0 := Lib.hid h
  have HF0 := Lib.hid hF
  have HC0 := Lib.hid hc
  clear hv hs hl h hF hc hr
  go_enter Tryz.func208, Tryz.ntmps208
  go_wp2_with (fail)
  generalize w.alloc (.cells #[.int .u32 (a : Int), .int .i64 (n : Int)] 48) = w1 at *
  refine (HR.out _).mono ?_
  rintro e w2 ⟨he, k2⟩
  subst he
  have K2 := Lib.hid (k0.trans (k2.mono k0.size))
  have hX2 := (k2.block _ (lt_of_block hX)).trans hX
  have dx := And.intro (cell_of hX2 0) (cell_of hX2 1)
  simp only [List.getElem?_toArray, List.getElem?_cons_zero, List.getElem?_cons_succ] at dx
  have HT2 := Lib.hid ((TreeIn.start H0.out HF0.out).kept0 (Kept.of_below K2.out))
  clear k0 hX k2 hX2
  go_wp2_with (fail)
  refine (way_made HT2.out.tree HT2.out.lt a n ha hn).mono ?_
  rintro e w3 ⟨vo, F3, B3, S3, he, how, hT, hsm, hown⟩
  subst he
  obtain ⟨s0, cap0, rfl, hsb, hsz⟩ := how.form (by omega)
  obtain ⟨⟨g, o⟩, hgo⟩ := Option.isSome_iff_exists.1 hsm
  have cl := how.cellAt n (by omega)
  rw [wayL_at _ _ _ (Nat.lt_succ_self n), hgo] at cl
  unfold kidV at cl
  have HT3 := Lib.hid (hT.pre K2.out HF0.out hpz)
  have HGO := Lib.hid hgo
  obtain ⟨n1, n2, n3, n4, n5⟩ := hT.tree.node _ _ _ hgo
  have f0 := n5 o
  have hg3 := hT.tree.lt hgo
  have HVAL := Lib.hid (hT.tree.vals _ hsm)
  have q1 : IntKind.i64.wrap ((n : Int) + 1 - 1) = (n : Int) := by rw [show (n : Int) + 1 - 1 = (n : Int) by omega]; exact IntWalk.i64_in _ (by omega)
  clear how hT hsm hgo hown n3 n4 n5 dx
  go_wp2_with (fail)
  refine (search_own HVAL.out HS.out HL.out v).mono ?_
  rintro e w4 ⟨he, q, hw4⟩
  subst he
  rw [HV.out]
  have k4 : Kept [] w3 w4 := by rw [hw4]; exact Kept.of_drewN _ _
  have HT4 := Lib.hid (HT3.out.kept0 k4)
  have n2' := k4.cell n2 (by simp)
  have f0' := (k4.frozen (a := ⟨g, o, none⟩) hg3 (by simp)).trans f0
  have HVAL4 := Lib.hid (own_kept HVAL.out k4 (by simp))
  have hg4 := Nat.lt_of_lt_of_le hg3 k4.size
  clear k4 hw4 n2 f0 HVAL cl HT3
  go_wp2_with (fail)
  have kb := (Kept.refl [] w4).alloc (.cells #[.int .i64 v] 3)
  have hb := heap_alloc_new w4 (.cells #[.int .i64 v] 3)
  have hlt4 : ∀ y, (S3 (pth a n)).ownBlock = some y → y ≠ w4.heap.size := fun y hy => by have := (HVAL4.out.lt y hy).2; omega
  have HT5 := Lib.hid (HT4.out.kept0 kb)
  have HVAL5 := Lib.hid (own_kept HVAL4.out kb (by simp))
  have n5' := kb.cell n2' (by simp)
  have f5' := (kb.frozen (a := ⟨g, o, none⟩) hg4 (by simp)).trans f0'
  have hg5 := Nat.lt_of_lt_of_le hg4 kb.size
  generalize w4.alloc (.cells #[.int .i64 v] 3) = w5 at *
  generalize w4.heap.size = vb at *
  refine (insert_own HVAL5.out HL.out v _ List.countP_le_length vb hb hlt4 (Nat.zero_le _)).mono ?_
  rintro e w6 ⟨v2, he, ho6, k6, hy6⟩
  subst he
  have hpl := putAt_length (V (pth a n)) ((V (pth a n)).countP (· < v)) v
  obtain ⟨g6, cap6, rfl, _, hg6⟩ := ho6.form (by omega)
  have hP := HT5.out.put HGO.out k6 ho6 hy6
  rw [hpl] at hP
  rw [hpl]
  have HP := Lib.hid hP
  clear hP
  have hgn : g ∉ (S3 (pth a n)).ownBlock.toList := fun hm => (HT5.out.tree.own (pth a n) g (by rw [HGO.out]; rfl) (by simpa using hm)).2.1 _ _ _ HGO.out rfl
  have n6 := k6.cell n5' hgn
  have f6 := (k6.frozen (a := ⟨g, o, none⟩) hg5 hgn).trans f5'
  have c4 := (HP.out.cell 4 (by omega) (by omega) (by omega)).trans HC0.out
  have fp := (HP.out.tree.node _ _ _ HP.out.tree.root).2.2.2.2 4
  have hp6 := HP.out.tree.lt HP.out.tree.root
  have C0 := Lib.hid (HP.out.cell 0 (by omega) (by omega) (by omega))
  clear ho6 k6 hy6 hb hlt4 n5' f5' n2' f0' hgn
  generalize hci : (V (pth a n)).countP (· < v) = ci at *
  have HCI := Lib.hid hci
  clear hci
  go_wp2_with (fail)
  go_ret
  have hd := HP.out.done c4 (wrap64 (nn + 1))
  rw [← HCI.out] at hd
  exact ⟨rfl, hd⟩

end Go.Proofs.YtjoblahedgpgbaaGreat
