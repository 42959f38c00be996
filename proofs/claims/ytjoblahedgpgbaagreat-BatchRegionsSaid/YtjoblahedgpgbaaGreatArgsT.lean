/- Topologies, as the rows hand them in. · Headers, as the rows hand them in. -/
import Derived.Test.YtjoblahedgpgbaaGreatTopL
import Derived.Test.YtjoblahedgpgbaaGreatArgsO
namespace Go.Proofs.YtjoblahedgpgbaaGreat
set_option linter.unusedVariables false
set_option linter.unusedSimpArgs false
open Go.ChangeShapes Go.WideShapes Go.ChangeAt Go.RowKit Go.Deep

theorem flat_get {E : Type} (cells : E → List Value) (size : Nat) (hs : ∀ e, (cells e).length = size) (h0 : 0 < size) : ∀ (l : List E) (j : Nat) (u : Value), (l.flatMap cells)[j]? = some u → ∃ e, l[j / size]? = some e ∧ (cells e)[j % size]? = some u
  | [], j, u, h => by simp at h
  | a :: l, j, u, h => by
    rw [List.flatMap_cons] at h
    by_cases hj : j < size
    · rw [List.getElem?_append_left (by rw [hs]; exact hj)] at h
      rw [Nat.div_eq_of_lt hj, Nat.mod_eq_of_lt hj]
      exact ⟨a, rfl, h⟩
    · rw [List.getElem?_append_right (by rw [hs]; omega), hs] at h
      obtain ⟨e, h1, h2⟩ := flat_get cells size hs h0 l (j - size) u h
      rw [Nat.div_eq_sub_div h0 (by omega), Nat.mod_eq_sub_mod (by omega)]
      exact ⟨e, by simpa using h1, h2⟩

theorem row_open {E : Type} [Inhabited E] {W : World} {x : Addr} {len cap : Nat} (P : E → Prop) (cells : E → List Value) (size : Nat) (hs : ∀ e, (cells e).length = size) (h0 : 0 < size)
    (each : ∀ i, i < len → ∃ e, P e ∧ ∀ j u, (cells e)[j]? = some u → W.cell? (x.add (i * size + j)) = some u) :
    ∃ l : List E, l.length = len ∧ (∀ e ∈ l, P e) ∧ RowIn W.heap.size W (.slice (some x) len cap) l.length (l.flatMap cells) := by
  obtain ⟨E1, hE⟩ := choose_lt each
  refine ⟨(List.range len).map E1, by simp, fun e he => ?_, ⟨some x, cap, by simp, fun j u hu => ?_⟩⟩
  · obtain ⟨i, hi, rfl⟩ := List.mem_map.1 he
    exact (hE i (List.mem_range.1 hi)).1
  · obtain ⟨e, h1, h2⟩ := flat_get cells size hs h0 _ j u hu
    have hil : j / size < len := by
      have := (List.getElem?_eq_some_iff.1 h1).1
      simpa using this
    have e1 : E1 (j / size) = e := by simpa [hil] using h1
    subst e1
    have h3 := (hE _ hil).2 _ u h2
    rw [show j / size * size + j % size = j by rw [Nat.mul_comm]; exact Nat.div_add_mod j size] at h3
    obtain ⟨s1, s2⟩ := cell_spotO h3
    have h00 := (hE 0 (Nat.lt_of_le_of_lt (Nat.zero_le _) hil)).2 0 _ (List.getElem?_eq_getElem (by rw [hs]; exact h0))
    obtain ⟨t1, _⟩ := cell_spotO h00
    obtain ⟨xb, xo, xs⟩ := x
    have hxs : xs = none := by
      rw [Nat.zero_mul, Nat.add_zero] at t1
      simpa [Addr.add] using t1
    subst hxs
    rw [add_noneO] at h3 s2
    exact ⟨xb, xo, rfl, s2, h3⟩

def LkWf (l : Lk) : Prop := inI l.dev ∧ inI l.port ∧ inI l.peer ∧ inI l.far
set_option maxRecDepth 100000 in
theorem lk_cells {H : Type} {enc : TypeId × Value → H} {W : World} {sp : Nat → Bool} {held : Bool} {cs : List Value} {fuel : Nat} {x : DataW H × List MemPlace} (hl : cs.length = 4)
    (h : DataW.trod enc Tryz.prog W 0 sp held fuel 348 cs = some x) : ∃ l : Lk, LkWf l ∧ cs = l.cells := by
  have c1 : Tryz.prog.cellsOf 3 = 1 := by kernel_rfl
  obtain ⟨xs, k, hk, hxy, _, hxl, hfd⟩ := DataW.trod_struct Tryz.underlying348 h
  match xs, hxl, cs, hl with
  | [y0, y1, y2, y3], _, [v0, v1, v2, v3], _ =>
    have g0 := hfd 0 _ rfl
    have g1 := hfd 1 _ rfl
    have g2 := hfd 2 _ rfl
    have g3 := hfd 3 _ rfl
    simp [c1] at g0 g1 g2 g3
    obtain ⟨n0, e0, _, w0⟩ := DataW.trod_int Tryz.underlying3 g0
    obtain ⟨n1, e1, _, w1⟩ := DataW.trod_int Tryz.underlying3 g1
    obtain ⟨n2, e2, _, w2⟩ := DataW.trod_int Tryz.underlying3 g2
    obtain ⟨n3, e3, _, w3⟩ := DataW.trod_int Tryz.underlying3 g3
    cases e0; cases e1; cases e2; cases e3
    exact ⟨⟨n0, n1, n2, n3⟩, ⟨in_of w0, in_of w1, in_of w2, in_of w3⟩, rfl⟩

theorem nat_of_u16 {n : Int} (h : (Lit.int .u16 n).wf = true) : ∃ m : Nat, n = m ∧ m < 65536 := by
  have m1 : IntKind.u16.min = 0 := by decide
  have m2 : IntKind.u16.max = 65535 := by decide
  simp [Lit.wf, m1, m2] at h
  exact ⟨n.toNat, by omega, by omega⟩

section
variable {H : Type} {enc : TypeId × Value → H} {W : World} {sp : Nat → Bool} {held : Bool}
set_option maxRecDepth 100000 in
theorem pf_cells {cs : List Value} {fuel : Nat} {x : DataW H × List MemPlace} (hl : cs.length = 2) (h : DataW.trod enc Tryz.prog W 0 sp held fuel 48 cs = some x) :
    ∃ (a : Nat) (n : Int), a < 2 ^ 32 ∧ cs = [.int .u32 (a : Int), .int .i64 n] := by
  have c0 : Tryz.prog.cellsOf 28 = 1 := by kernel_rfl
  have c1 : Tryz.prog.cellsOf 3 = 1 := by kernel_rfl
  obtain ⟨xs, k, hk, hxy, _, hxl, hfd⟩ := DataW.trod_struct Tryz.underlying48 h
  match xs, hxl, cs, hl with
  | [y0, y1], _, [v0, v1], _ =>
    have g0 := hfd 0 _ rfl
    have g1 := hfd 1 _ rfl
    simp [c0, c1] at g0 g1
    obtain ⟨n0, e0, _, w0⟩ := DataW.trod_int Tryz.underlying28 g0
    obtain ⟨n1, e1, _, w1⟩ := DataW.trod_int Tryz.underlying3 g1
    cases e0; cases e1
    obtain ⟨a, rfl, ha⟩ := nat_of_u32 w0
    exact ⟨a, n1, ha, rfl⟩
set_option maxRecDepth 100000 in
theorem rg_cells {cs : List Value} {fuel : Nat} {x : DataW H × List MemPlace} (hl : cs.length = 2) (h : DataW.trod enc Tryz.prog W 0 sp held fuel 57 cs = some x) :
    ∃ a b : Nat, b < 65536 ∧ cs = [.int .u16 (a : Int), .int .u16 (b : Int)] := by
  have c0 : Tryz.prog.cellsOf 29 = 1 := by kernel_rfl
  obtain ⟨xs, k, hk, hxy, _, hxl, hfd⟩ := DataW.trod_struct Tryz.underlying57 h
  match xs, hxl, cs, hl with
  | [y0, y1], _, [v0, v1], _ =>
    have g0 := hfd 0 _ rfl
    have g1 := hfd 1 _ rfl
    simp [c0] at g0 g1
    obtain ⟨n0, e0, _, w0⟩ := DataW.trod_int Tryz.underlying29 g0
    obtain ⟨n1, e1, _, w1⟩ := DataW.trod_int Tryz.underlying29 g1
    cases e0; cases e1
    obtain ⟨a, rfl, _⟩ := nat_of_u16 w0
    obtain ⟨b, rfl, hb⟩ := nat_of_u16 w1
    exact ⟨a, b, hb, rfl⟩
set_option maxRecDepth 100000 in
theorem fl_cells {cs : List Value} {fuel : Nat} {x : DataW H × List MemPlace} (hl : cs.length = 9) (h : DataW.trod enc Tryz.prog W 0 sp held fuel 59 cs = some x) :
    ∃ f : Fl, f.Wf ∧ cs = f.cells := by
  have c0 : Tryz.prog.cellsOf 48 = 2 := by kernel_rfl
  have c1 : Tryz.prog.cellsOf 3 = 1 := by kernel_rfl
  have c2 : Tryz.prog.cellsOf 57 = 2 := by kernel_rfl
  obtain ⟨xs, k, hk, hxy, _, hxl, hfd⟩ := DataW.trod_struct Tryz.underlying59 h
  match xs, hxl, cs, hl with
  | [y0, y1, y2, y3, y4], _, [v0, v1, v2, v3, v4, v5, v6, v7, v8], _ =>
    have g0 := hfd 0 _ rfl
    have g1 := hfd 1 _ rfl
    have g2 := hfd 2 _ rfl
    have g3 := hfd 3 _ rfl
    have g4 := hfd 4 _ rfl
    simp [c0, c1, c2] at g0 g1 g2 g3 g4
    obtain ⟨a, n, ha, e0⟩ := pf_cells rfl g0
    obtain ⟨b, m, hb, e1⟩ := pf_cells rfl g1
    obtain ⟨p, e2, _, _⟩ := DataW.trod_int Tryz.underlying3 g2
    obtain ⟨s1, s2, hs2, e3⟩ := rg_cells rfl g3
    obtain ⟨d1, d2, hd2, e4⟩ := rg_cells rfl g4
    cases e0; cases e1; cases e2; cases e3; cases e4
    exact ⟨⟨a, n, b, m, p, s1, s2, d1, d2⟩, ⟨ha, hb, hs2, hd2⟩, rfl⟩
set_option maxRecDepth 100000 in
theorem ac_cells {cs : List Value} {fuel : Nat} {x : DataW H × List MemPlace} (hl : cs.length = 13) (h : DataW.trod enc Tryz.prog W 0 sp held fuel 265 cs = some x) :
    ∃ a : Ac, a.f.Wf ∧ cs = a.cells := by
  have c0 : Tryz.prog.cellsOf 4 = 1 := by kernel_rfl
  have c1 : Tryz.prog.cellsOf 3 = 1 := by kernel_rfl
  have c2 : Tryz.prog.cellsOf 59 = 9 := by kernel_rfl
  obtain ⟨xs, k, hk, hxy, _, hxl, hfd⟩ := DataW.trod_struct Tryz.underlying265 h
  match xs, hxl, cs, hl with
  | [y0, y1, y2, y3, y4], _, [v0, v1, v2, v3, v4, v5, v6, v7, v8, v9, v10, v11, v12], _ =>
    have g0 := hfd 0 _ rfl
    have g1 := hfd 1 _ rfl
    have g2 := hfd 2 _ rfl
    have g3 := hfd 3 _ rfl
    have g4 := hfd 4 _ rfl
    simp [c0, c1, c2] at g0 g1 g2 g3 g4
    obtain ⟨n0, e0, _, _⟩ := DataW.trod_int Tryz.underlying3 g0
    obtain ⟨n1, e1, _, _⟩ := DataW.trod_int Tryz.underlying3 g1
    obtain ⟨b2, e2, _⟩ := DataW.trod_bool Tryz.underlying4 g2
    obtain ⟨b3, e3, _⟩ := DataW.trod_bool Tryz.underlying4 g3
    obtain ⟨f, hf, e4⟩ := fl_cells rfl g4
    cases e0; cases e1; cases e2; cases e3
    exact ⟨⟨n0, n1, b2, b3, f⟩, hf, by rw [e4]; rfl⟩
end

instance : Inhabited Lk := ⟨⟨0, 0, 0, 0⟩⟩
instance : Inhabited Ac := ⟨⟨0, 0, false, false, ⟨0, 0, 0, 0, 0, 0, 0, 0, 0⟩⟩⟩
theorem row_nil {W : World} (xs : List Value) (h : xs = []) : RowIn W.heap.size W (.slice none 0 0) 0 xs := ⟨none, 0, rfl, fun j u hu => by rw [h] at hu; simp at hu⟩

/-- A topology, by value; its parts lie in memory. -/
def ArgTp (W : World) (v : Value) : Prop := ∃ (T : Tp) (vp vl va : Value), v = .agg #[vp, vl, va] ∧ TpIn W.heap.size W vp vl va T
set_option maxRecDepth 100000 in
theorem topo_open {H : Type} {enc : TypeId × Value → H} {W : World} {r : Reach} {b0 : Nat} {sp : Nat → Bool} {held : Bool} {v : Value} {d : DataW H} {p : List MemPlace} (hv : Value.okWide Tryz.prog W r b0 26 v)
    (h : DataW.Trod enc Tryz.prog W 0 sp held 26 v d p) : ArgTp W v := by
  obtain ⟨cs, rfl, hsz⟩ := okWide_struct Tryz.underlying26 hv
  have c0 : Tryz.prog.cellsOf 22 = 1 := by kernel_rfl
  have c1 : Tryz.prog.cellsOf 23 = 1 := by kernel_rfl
  have c2 : Tryz.prog.cellsOf 24 = 1 := by kernel_rfl
  have c3 : Tryz.prog.cellsOf 26 = 3 := by kernel_rfl
  have k0 : Tryz.prog.cellsOf 3 = 1 := by kernel_rfl
  have k1 : Tryz.prog.cellsOf 348 = 4 := by kernel_rfl
  have k2 : Tryz.prog.cellsOf 265 = 13 := by kernel_rfl
  rw [c3] at hsz
  obtain ⟨fuel, hf⟩ := h
  obtain ⟨xs, k, hk, hxy, _, hxl, hfd⟩ := DataW.trod_struct Tryz.underlying26 hf
  obtain ⟨cs⟩ := cs
  match xs, hxl, cs, hsz with
  | [y0, y1, y2], _, [v0, v1, v2], _ =>
    have g0 := hfd 0 _ rfl
    have g1 := hfd 1 _ rfl
    have g2 := hfd 2 _ rfl
    simp [c0, c1, c2, Value.cells] at g0 g1 g2
    obtain ⟨ports, hp⟩ : ∃ l : List Int, RowIn W.heap.size W v0 l.length (l.map i64v) := by
      rcases open_slice Tryz.underlying22 g0 with ⟨hcs, _⟩ | ⟨x, l, c, m, n, D, Pl, hcs, _, hlc, _, hm, hx, hel⟩
      · cases hcs
        exact ⟨[], row_nil _ rfl⟩
      · cases hcs
        have hlm : l ≤ m := by rw [hm]; split <;> omega
        obtain ⟨L, h1, _, h2⟩ := row_open (cap := c) (fun _ : Int => True) (fun e => [i64v e]) 1 (fun _ => rfl) (by omega) (x := x) (len := l) (W := W) (fun i hi => by
          obtain ⟨cs', q1, q2⟩ := hel i (by omega)
          rw [k0] at q1
          obtain ⟨_, hlen, hcell⟩ := World.cells?_some q1
          obtain ⟨n0, e0, _, _⟩ := DataW.trod_int Tryz.underlying3 q2
          subst e0
          refine ⟨n0, trivial, fun j u hu => ?_⟩
          have hj : j < 1 := (List.getElem?_eq_some_iff.1 hu).1
          have := hcell j hj
          rw [add_add] at this
          rw [this]
          exact hu)
        refine ⟨L, ?_⟩
        rw [h1] at h2 ⊢
        rw [show L.map i64v = L.flatMap (fun e => [i64v e]) from List.map_eq_flatMap]
        exact h2
    obtain ⟨links, hl⟩ : ∃ l : List Lk, RowIn W.heap.size W v1 l.length (lkCells l) := by
      rcases open_slice Tryz.underlying23 g1 with ⟨hcs, _⟩ | ⟨x, l, c, m, n, D, Pl, hcs, _, hlc, _, hm, hx, hel⟩
      · cases hcs
        exact ⟨[], row_nil _ rfl⟩
      · cases hcs
        have hlm : l ≤ m := by rw [hm]; split <;> omega
        obtain ⟨L, h1, _, h2⟩ := row_open (cap := c) LkWf Lk.cells 4 (fun _ => rfl) (by omega) (x := x) (len := l) (W := W) (fun i hi => by
          obtain ⟨cs', q1, q2⟩ := hel i (by omega)
          rw [k1] at q1
          obtain ⟨_, hlen, hcell⟩ := World.cells?_some q1
          obtain ⟨e, he, rfl⟩ := lk_cells hlen q2
          refine ⟨e, he, fun j u hu => ?_⟩
          have hj : j < 4 := (List.getElem?_eq_some_iff.1 hu).1
          have := hcell j hj
          rw [add_add] at this
          rw [this]
          exact hu)
        refine ⟨L, ?_⟩
        rw [h1] at h2 ⊢
        exact h2
    obtain ⟨aces, ha, hw⟩ : ∃ l : List Ac, RowIn W.heap.size W v2 l.length (acCells l) ∧ ∀ a ∈ l, a.f.Wf := by
      rcases open_slice Tryz.underlying24 g2 with ⟨hcs, _⟩ | ⟨x, l, c, m, n, D, Pl, hcs, _, hlc, _, hm, hx, hel⟩
      · cases hcs
        exact ⟨[], row_nil _ rfl, fun a ha => by simp at ha⟩
      · cases hcs
        have hlm : l ≤ m := by rw [hm]; split <;> omega
        obtain ⟨L, h1, h3, h2⟩ := row_open (cap := c) (fun a : Ac => a.f.Wf) Ac.cells 13 (fun _ => rfl) (by omega) (x := x) (len := l) (W := W) (fun i hi => by
          obtain ⟨cs', q1, q2⟩ := hel i (by omega)
          rw [k2] at q1
          obtain ⟨_, hlen, hcell⟩ := World.cells?_some q1
          obtain ⟨e, he, rfl⟩ := ac_cells hlen q2
          refine ⟨e, he, fun j u hu => ?_⟩
          have hj : j < 13 := (List.getElem?_eq_some_iff.1 hu).1
          have := hcell j hj
          rw [add_add] at this
          rw [this]
          exact hu)
        refine ⟨L, ?_, h3⟩
        rw [h1] at h2 ⊢
        exact h2
    exact ⟨⟨ports, links, aces⟩, v0, v1, v2, rfl, hp, hl, ha, hw⟩
end Go.Proofs.YtjoblahedgpgbaaGreat

namespace Go.Proofs.YtjoblahedgpgbaaGreat
set_option linter.unusedVariables false
set_option linter.unusedSimpArgs false
open Go.ChangeShapes Go.WideShapes Go.ChangeAt Go.RowKit Go.Deep

theorem nat_of_byte {n : Int} (h : (Lit.int .u8 n).wf = true) : ∃ m : Nat, n = m ∧ m < 256 := by
  have m1 : IntKind.u8.min = 0 := by decide
  have m2 : IntKind.u8.max = 255 := by decide
  simp [Lit.wf, m1, m2] at h
  exact ⟨n.toNat, by omega, by omega⟩
/-- A header, by value. -/
def ArgHv (v : Value) : Prop := ∃ hv : Hv, hv.Wf ∧ v = hv.val
set_option maxRecDepth 100000 in
theorem hv_open {H : Type} {enc : TypeId × Value → H} {W : World} {r : Reach} {b0 : Nat} {sp : Nat → Bool} {held : Bool} {v : Value} {d : DataW H} {p : List MemPlace} (hv : Value.okWide Tryz.prog W r b0 31 v)
    (h : DataW.Trod enc Tryz.prog W 0 sp held 31 v d p) : ArgHv v := by
  obtain ⟨cs, rfl, hsz⟩ := okWide_struct Tryz.underlying31 hv
  have c0 : Tryz.prog.cellsOf 28 = 1 := by kernel_rfl
  have c1 : Tryz.prog.cellsOf 5 = 1 := by kernel_rfl
  have c2 : Tryz.prog.cellsOf 29 = 1 := by kernel_rfl
  have c3 : Tryz.prog.cellsOf 31 = 5 := by kernel_rfl
  rw [c3] at hsz
  obtain ⟨fuel, hf⟩ := h
  obtain ⟨xs, k, hk, hxy, _, hxl, hfd⟩ := DataW.trod_struct Tryz.underlying31 hf
  obtain ⟨cs⟩ := cs
  match xs, hxl, cs, hsz with
  | [y0, y1, y2, y3, y4], _, [v0, v1, v2, v3, v4], _ =>
    have g0 := hfd 0 _ rfl
    have g1 := hfd 1 _ rfl
    have g2 := hfd 2 _ rfl
    have g3 := hfd 3 _ rfl
    have g4 := hfd 4 _ rfl
    simp [c0, c1, c2, Value.cells] at g0 g1 g2 g3 g4
    obtain ⟨n0, e0, _, w0⟩ := DataW.trod_int Tryz.underlying28 g0
    obtain ⟨n1, e1, _, w1⟩ := DataW.trod_int Tryz.underlying28 g1
    obtain ⟨n2, e2, _, w2⟩ := DataW.trod_int Tryz.underlying5 g2
    obtain ⟨n3, e3, _, w3⟩ := DataW.trod_int Tryz.underlying29 g3
    obtain ⟨n4, e4, _, w4⟩ := DataW.trod_int Tryz.underlying29 g4
    cases e0; cases e1; cases e2; cases e3; cases e4
    obtain ⟨a, rfl, ha⟩ := nat_of_u32 w0
    obtain ⟨b, rfl, hb⟩ := nat_of_u32 w1
    obtain ⟨c, rfl, hc⟩ := nat_of_byte w2
    obtain ⟨s, rfl, _⟩ := nat_of_u16 w3
    obtain ⟨t, rfl, _⟩ := nat_of_u16 w4
    exact ⟨⟨a, b, c, s, t⟩, ⟨ha, hb, hc⟩, rfl⟩
end Go.Proofs.YtjoblahedgpgbaaGreat
