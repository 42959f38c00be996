/- Arguments, as the rows hand them in: lists of expressions, headers. -/
import Derived.Test.YtakgghhmecphmaaLight2
import Derived.WalkKit
import Derived.ProofKit
import Derived.OpenShut
import Derived.ChangeOld
import Derived.Below
import Derived.SizedLaws
import Derived.Deep.Slices
namespace Go.Proofs.Ytakgghhmecphmaa
set_option linter.unusedVariables false
set_option linter.unusedSimpArgs false
open Go.ChangeShapes Go.WideShapes Go.ChangeAt Go.RowKit Go.Deep

/-- A list of expressions that lies in memory. -/
def ArgEx (w : World) (v : Value) : Prop := ∃ l : List Ex, ExsWf l ∧ ((l = [] ∧ ∃ ao cap, v = .slice ao 0 cap) ∨
  ∃ b off n cap, 0 < n ∧ v = .slice (some ⟨b, off, none⟩) n cap ∧ l.length = n ∧ n ≤ 140737488355328 ∧ ExsAt w b off l ∧ b < w.heap.size)

theorem add_none {b off i : Nat} : ((⟨b, off, none⟩ : Addr).add i) = ⟨b, off + i, none⟩ := by
  unfold Addr.add
  by_cases h : i = 0
  · simp [h]
  · simp [h]

/-- A cell that is there is at an address without a spot. -/
theorem cell_spot {w : World} {a : Addr} {v : Value} (h : w.cell? a = some v) : a.spot = none ∧ a.block < w.heap.size := by
  unfold World.cell? at h
  split at h
  · rename_i c _ _ e
    split at h
    · cases h
    · rename_i hs
      refine ⟨by simpa using hs, ?_⟩
      exact (Array.getElem?_eq_some_iff.1 e).1
  · cases h

theorem take_drop_one {l : List Value} {i : Nat} {v : Value} (h : l[i]? = some v) : (l.drop i).take 1 = [v] := by
  rw [List.getElem?_eq_some_iff] at h
  obtain ⟨hi, rfl⟩ := h
  rw [List.drop_eq_getElem_cons hi]
  rfl

set_option maxRecDepth 100000 in
theorem exprs_open {H : Type} {enc : TypeId × Value → H} {W : World} {r : Reach} {b0 : Nat} {sp : Nat → Bool} {held : Bool} {v : Value} {d : DataW H} {p : List MemPlace} (hv : Value.okWide Try.prog W r b0 50 v)
    (h : DataW.Trod enc Try.prog W 0 sp held 50 v d p)
    (hs : ∀ elems spare, d = .slice elems spare → (elems.length + spare.length) * Try.prog.bytesOf 105 ≤ reachBytes) : ArgEx W v := by
  obtain ⟨a, len, cap, rfl⟩ := okWide_slice Try.underlying50 hv
  obtain ⟨fuel, hf⟩ := h
  rcases open_slice Try.underlying50 hf with ⟨hcs, _⟩ | ⟨x, l, c, m, n, D, Pl, hcs, _, hlc, _, hm, hx, hel⟩
  · simp [Value.cells] at hcs
    obtain ⟨rfl, rfl, rfl⟩ := hcs
    exact ⟨[], fun x hx => by simp at hx, Or.inl ⟨rfl, none, 0, rfl⟩⟩
  · simp [Value.cells] at hcs
    obtain ⟨rfl, rfl, rfl⟩ := hcs
    rcases Nat.eq_zero_or_pos len with h0 | h0
    · subst h0
      exact ⟨[], fun x hx => by simp at hx, Or.inl ⟨rfl, some x, cap, rfl⟩⟩
    have hlm : len ≤ m := by rw [hm]; split <;> omega
    have hsz : len ≤ 140737488355328 := by
      simp only [Prod.mk.injEq] at hx
      have := hs _ _ hx.1
      have hb : Try.prog.bytesOf 105 = 48 := by kernel_rfl
      have hr := reachBytes_lt
      rw [hb, List.length_map, List.length_range] at this
      omega
    have ce : Try.prog.cellsOf 105 = 6 := by kernel_rfl
    have c3 : Try.prog.cellsOf 3 = 1 := by kernel_rfl
    have c4 : Try.prog.cellsOf 4 = 1 := by kernel_rfl
    have each : ∀ i, i < len → ∃ e : Ex, (Lit.int .i64 e.var).wf = true ∧ ∀ j u, [Value.int .i64 e.kind, .int .i64 e.a, .int .i64 e.b, .int .i64 e.c, .int .i64 e.var, .bool e.on][j]? = some u → W.cell? (x.add (i * 6 + j)) = some u := by
      intro i hi
      obtain ⟨cs', h1, h2⟩ := hel i (by omega)
      rw [ce] at h1
      obtain ⟨_, hlen, hcell⟩ := World.cells?_some h1
      obtain ⟨xs, k, hk, hxy, _, hxl, hfd⟩ := DataW.trod_struct Try.underlying105 h2
      match xs, hxl, cs', hlen with
      | [y0, y1, y2, y3, y4, y5], _, [v0, v1, v2, v3, v4, v5], _ =>
        have g0 := hfd 0 _ rfl
        have g1 := hfd 1 _ rfl
        have g2 := hfd 2 _ rfl
        have g3 := hfd 3 _ rfl
        have g4 := hfd 4 _ rfl
        have g5 := hfd 5 _ rfl
        simp [c3, c4] at g0 g1 g2 g3 g4 g5
        obtain ⟨n0, e0, _, _⟩ := DataW.trod_int Try.underlying3 g0
        obtain ⟨n1, e1, _, _⟩ := DataW.trod_int Try.underlying3 g1
        obtain ⟨n2, e2, _, _⟩ := DataW.trod_int Try.underlying3 g2
        obtain ⟨n3, e3, _, _⟩ := DataW.trod_int Try.underlying3 g3
        obtain ⟨n4, e4, _, w4⟩ := DataW.trod_int Try.underlying3 g4
        obtain ⟨n5, e5, _⟩ := DataW.trod_bool Try.underlying4 g5
        cases e0; cases e1; cases e2; cases e3; cases e4; cases e5
        refine ⟨⟨n0, n1, n2, n3, n4, n5⟩, w4, fun j u hu => ?_⟩
        have hj : j < 6 := (List.getElem?_eq_some_iff.1 hu).1
        have := hcell j hj
        rw [add_add] at this
        rw [this]
        exact hu
    have : Inhabited Ex := ⟨exZ⟩
    obtain ⟨E, hE⟩ := choose_lt each
    have h00 := (hE 0 h0).2 0 _ rfl
    have hsp := cell_spot h00
    obtain ⟨xb, xo, xs⟩ := x
    have hxs : xs = none := by
      have := hsp.1
      rw [Nat.zero_mul, Nat.add_zero] at this
      simpa [Addr.add] using this
    subst hxs
    simp only [add_none] at hE hsp
    have hget : ∀ i, i < len → ((List.range len).map E)[i]? = some (E i) := fun i hi => by simp [hi]
    refine ⟨(List.range len).map E, fun e he => ?_, Or.inr ⟨xb, xo, len, cap, h0, rfl, by simp, hsz, ?_, hsp.2⟩⟩
    · obtain ⟨i, hi, rfl⟩ := List.mem_map.1 he
      exact (hE i (List.mem_range.1 hi)).1
    · intro j u hu
      have hj : j < len * 6 := by
        have := (List.getElem?_eq_some_iff.1 hu).1
        have hl : ∀ l : List Ex, (exCells l).length = l.length * 6 := by
          intro l
          induction l with
          | nil => rfl
          | cons y l ih =>
            have e : exCells (y :: l) = [.int .i64 y.kind, .int .i64 y.a, .int .i64 y.b, .int .i64 y.c, .int .i64 y.var, .bool y.on] ++ exCells l := rfl
            rw [e, List.length_append, ih, List.length_cons]
            simp
            omega
        rw [hl, List.length_map, List.length_range] at this
        exact this
      have hi : j / 6 < len := by omega
      have hr : j % 6 < 6 := Nat.mod_lt _ (by omega)
      have hjj : j / 6 * 6 + j % 6 = j := by omega
      have h1 := exCells_at (hget (j / 6) hi) (j % 6)
      obtain ⟨u', hu'⟩ : ∃ u', [Value.int .i64 (E (j / 6)).kind, .int .i64 (E (j / 6)).a, .int .i64 (E (j / 6)).b, .int .i64 (E (j / 6)).c, .int .i64 (E (j / 6)).var, .bool (E (j / 6)).on][j % 6]? = some u' :=
        ⟨_, List.getElem?_eq_getElem (by simpa using hr)⟩
      have h2 := h1 u' hu'
      rw [hjj, hu] at h2
      cases h2
      have := (hE (j / 6) hi).2 (j % 6) u hu'
      rw [hjj] at this
      exact this

end Go.Proofs.Ytakgghhmecphmaa
