/- Rules by value, as the rows hand them in. · Changes, prefixes and addresses, as the rows hand them in. -/
import Derived.Test.YtjoblahedgpgbaaGreatRul
import Derived.WalkKit
import Derived.ProofKit
import Derived.OpenShut
import Derived.ChangeOld
import Derived.Below
import Derived.SizedLaws
import Derived.Deep.Slices
import Derived.Test.YtjoblahedgpgbaaGreatCid
namespace Go.Proofs.YtjoblahedgpgbaaGreat
set_option linter.unusedVariables false
set_option linter.unusedSimpArgs false
open Go.ChangeShapes Go.WideShapes Go.ChangeAt Go.RowKit Go.Deep

def inI (x : Int) : Prop := -9223372036854775808 ≤ x ∧ x ≤ 9223372036854775807
/-- A rule, by value. -/
def ArgRl (v : Value) : Prop := ∃ r : Rl, r.addr < 2 ^ 32 ∧ inI r.id ∧ inI r.dev ∧ inI r.bits ∧ inI r.prio ∧ inI r.out ∧ v = r.val
theorem in_of {n : Int} (h : (Lit.int .i64 n).wf = true) : inI n := by
  have m1 : IntKind.i64.min = -9223372036854775808 := by decide
  have m2 : IntKind.i64.max = 9223372036854775807 := by decide
  simp [Lit.wf, m1, m2] at h
  exact h
theorem nat_of_u32 {n : Int} (h : (Lit.int .u32 n).wf = true) : ∃ m : Nat, n = m ∧ m < 2 ^ 32 := by
  have m1 : IntKind.u32.min = 0 := by decide
  have m2 : IntKind.u32.max = 4294967295 := by decide
  simp [Lit.wf, m1, m2] at h
  exact ⟨n.toNat, by omega, by omega⟩

set_option maxRecDepth 100000 in
theorem rule_cells {H : Type} {enc : TypeId × Value → H} {W : World} {sp : Nat → Bool} {held : Bool} {cs : List Value} {fuel : Nat} {x : DataW H × List MemPlace} (hl : cs.length = 6)
    (h : DataW.trod enc Tryz.prog W 0 sp held fuel 89 cs = some x) : ∃ r : Rl, r.addr < 2 ^ 32 ∧ inI r.id ∧ inI r.dev ∧ inI r.bits ∧ inI r.prio ∧ inI r.out ∧ cs = r.cells := by
  have c0 : Tryz.prog.cellsOf 28 = 1 := by kernel_rfl
  have c1 : Tryz.prog.cellsOf 3 = 1 := by kernel_rfl
  have c2 : Tryz.prog.cellsOf 48 = 2 := by kernel_rfl
  obtain ⟨xs, k, hk, hxy, _, hxl, hfd⟩ := DataW.trod_struct Tryz.underlying89 h
  match xs, hxl, cs, hl with
  | [y0, y1, y2, y3, y4], _, [v0, v1, v2, v3, v4, v5], _ =>
    have g0 := hfd 0 _ rfl
    have g1 := hfd 1 _ rfl
    have g2 := hfd 2 _ rfl
    have g3 := hfd 3 _ rfl
    have g4 := hfd 4 _ rfl
    simp [c0, c1, c2] at g0 g1 g2 g3 g4
    obtain ⟨zs, k2, hk2, hxy2, _, hxl2, hfd2⟩ := DataW.trod_struct Tryz.underlying48 g2
    match zs, hxl2 with
    | [z0, z1], _ =>
      have f0 := hfd2 0 _ rfl
      have f1 := hfd2 1 _ rfl
      simp [c0, c1] at f0 f1
      obtain ⟨n0, e0, _, w0⟩ := DataW.trod_int Tryz.underlying3 g0
      obtain ⟨n1, e1, _, w1⟩ := DataW.trod_int Tryz.underlying3 g1
      obtain ⟨n2, e2, _, w2⟩ := DataW.trod_int Tryz.underlying28 f0
      obtain ⟨n3, e3, _, w3⟩ := DataW.trod_int Tryz.underlying3 f1
      obtain ⟨n4, e4, _, w4⟩ := DataW.trod_int Tryz.underlying3 g3
      obtain ⟨n5, e5, _, w5⟩ := DataW.trod_int Tryz.underlying3 g4
      cases e0; cases e1; cases e2; cases e3; cases e4; cases e5
      obtain ⟨a, rfl, ha⟩ := nat_of_u32 w2
      exact ⟨⟨n0, n1, a, n3, n4, n5⟩, ha, in_of w0, in_of w1, in_of w3, in_of w4, in_of w5, rfl⟩

set_option maxRecDepth 100000 in
theorem rule_open {H : Type} {enc : TypeId × Value → H} {W : World} {r : Reach} {b0 : Nat} {sp : Nat → Bool} {held : Bool} {v : Value} {d : DataW H} {p : List MemPlace} (hv : Value.okWide Tryz.prog W r b0 89 v)
    (h : DataW.Trod enc Tryz.prog W 0 sp held 89 v d p) : ArgRl v := by
  obtain ⟨cs, rfl, hsz⟩ := okWide_struct Tryz.underlying89 hv
  have c5 : Tryz.prog.cellsOf 89 = 6 := by kernel_rfl
  rw [c5] at hsz
  obtain ⟨fuel, hf⟩ := h
  obtain ⟨r, h1, h2, h3, h4, h5, h6, e⟩ := rule_cells (by simpa [Value.cells] using hsz) hf
  refine ⟨r, h1, h2, h3, h4, h5, h6, ?_⟩
  unfold Rl.val
  congr 1
  apply Array.toList_inj.1
  unfold Rl.cells at e
  simpa [Value.cells] using e
end Go.Proofs.YtjoblahedgpgbaaGreat

namespace Go.Proofs.YtjoblahedgpgbaaGreat
set_option linter.unusedVariables false
set_option linter.unusedSimpArgs false
open Go.ChangeShapes Go.WideShapes Go.ChangeAt Go.RowKit Go.Deep

theorem add_noneO {b off i : Nat} : ((⟨b, off, none⟩ : Addr).add i) = ⟨b, off + i, none⟩ := by
  unfold Addr.add
  by_cases h : i = 0
  · simp [h]
  · simp [h]

/-- A cell that is there is at an address without a spot. -/
theorem cell_spotO {w : World} {a : Addr} {v : Value} (h : w.cell? a = some v) : a.spot = none ∧ a.block < w.heap.size := by
  unfold World.cell? at h
  split at h
  · rename_i c _ _ e
    split at h
    · cases h
    · rename_i hs
      refine ⟨by simpa using hs, ?_⟩
      exact (Array.getElem?_eq_some_iff.1 e).1
  · cases h

/-- A change: a rule that comes or goes. -/
structure Op where
  del : Bool
  rule : Rl
def Op.cells (o : Op) : List Value := .bool o.del :: o.rule.cells
def Rl.Wf (r : Rl) : Prop := r.addr < 2 ^ 32 ∧ inI r.id ∧ inI r.dev ∧ inI r.bits ∧ inI r.prio ∧ inI r.out

set_option maxRecDepth 100000 in
theorem op_cells {H : Type} {enc : TypeId × Value → H} {W : World} {sp : Nat → Bool} {held : Bool} {cs : List Value} {fuel : Nat} {x : DataW H × List MemPlace} (hl : cs.length = 7)
    (h : DataW.trod enc Tryz.prog W 0 sp held fuel 91 cs = some x) : ∃ o : Op, o.rule.Wf ∧ cs = o.cells := by
  have c0 : Tryz.prog.cellsOf 4 = 1 := by kernel_rfl
  have c1 : Tryz.prog.cellsOf 89 = 6 := by kernel_rfl
  obtain ⟨xs, k, hk, hxy, _, hxl, hfd⟩ := DataW.trod_struct Tryz.underlying91 h
  match xs, hxl, cs, hl with
  | [y0, y1], _, [v0, v1, v2, v3, v4, v5, v6], _ =>
    have g0 := hfd 0 _ rfl
    have g1 := hfd 1 _ rfl
    simp [c0, c1] at g0 g1
    obtain ⟨r, h1, h2, h3, h4, h5, h6, e⟩ := rule_cells rfl g1
    obtain ⟨b, e0, _⟩ := DataW.trod_bool Tryz.underlying4 g0
    cases e0
    exact ⟨⟨b, r⟩, ⟨h1, h2, h3, h4, h5, h6⟩, by rw [e]; rfl⟩

/-- Changes in memory. -/
def OpsAt (w : World) (b off : Nat) (l : List Op) : Prop := ∀ i o, l[i]? = some o → ∀ j u, o.cells[j]? = some u → w.cell? ⟨b, off + (i * 7 + j), none⟩ = some u
def ArgOps (W : World) (v : Value) : Prop := ∃ l : List Op, (∀ o ∈ l, o.rule.Wf) ∧ ((l = [] ∧ ∃ ao cap, v = .slice ao 0 cap) ∨
  ∃ b off n cap, 0 < n ∧ v = .slice (some ⟨b, off, none⟩) n cap ∧ l.length = n ∧ n ≤ 140737488355328 ∧ OpsAt W b off l ∧ b < W.heap.size)

set_option maxRecDepth 100000 in
theorem ops_open {H : Type} {enc : TypeId × Value → H} {W : World} {r : Reach} {b0 : Nat} {sp : Nat → Bool} {held : Bool} {v : Value} {d : DataW H} {p : List MemPlace} (hv : Value.okWide Tryz.prog W r b0 27 v)
    (h : DataW.Trod enc Tryz.prog W 0 sp held 27 v d p)
    (hs : ∀ elems spare, d = .slice elems spare → (elems.length + spare.length) * Tryz.prog.bytesOf 91 ≤ reachBytes) : ArgOps W v := by
  obtain ⟨a, len, cap, rfl⟩ := okWide_slice Tryz.underlying27 hv
  obtain ⟨fuel, hf⟩ := h
  rcases open_slice Tryz.underlying27 hf with ⟨hcs, _⟩ | ⟨x, l, c, m, n, D, Pl, hcs, _, hlc, _, hm, hx, hel⟩
  · simp [Value.cells] at hcs
    obtain ⟨rfl, rfl, rfl⟩ := hcs
    exact ⟨[], fun x hx => by simp at hx, Or.inl ⟨rfl, none, 0, rfl⟩⟩
  · simp [Value.cells] at hcs
    obtain ⟨rfl, rfl, rfl⟩ := hcs
    rcases Nat.eq_zero_or_pos len with h0 | h0
    · subst h0
      exact ⟨[], fun x hx => by simp at hx, Or.inl ⟨rfl, some x, cap, rfl⟩⟩
    have hlm : len ≤ m := by rw [hm]; split <;> omega
    have hsz : len ≤ 140737488355328 := by
      simp only [Prod.mk.injEq] at hx
      have := hs _ _ hx.1
      have hb : 1 ≤ Tryz.prog.bytesOf 91 := by decide +kernel
      have hr := reachBytes_lt
      rw [List.length_map, List.length_range] at this
      have h2 : (len + (List.map (fun j => D (len + j)) (List.range (m - len))).length) * 1 ≤ (len + (List.map (fun j => D (len + j)) (List.range (m - len))).length) * Tryz.prog.bytesOf 91 := Nat.mul_le_mul_left _ hb
      omega
    have ce : Tryz.prog.cellsOf 91 = 7 := by kernel_rfl
    have each : ∀ i, i < len → ∃ e : Op, e.rule.Wf ∧ ∀ j u, e.cells[j]? = some u → W.cell? (x.add (i * 7 + j)) = some u := by
      intro i hi
      obtain ⟨cs', h1, h2⟩ := hel i (by omega)
      rw [ce] at h1
      obtain ⟨_, hlen, hcell⟩ := World.cells?_some h1
      obtain ⟨hd, hw, rfl⟩ := op_cells hlen h2
      refine ⟨hd, hw, fun j u hu => ?_⟩
      have hj : j < 7 := (List.getElem?_eq_some_iff.1 hu).1
      have := hcell j hj
      rw [add_add] at this
      rw [this]
      exact hu
    have : Inhabited Op := ⟨⟨false, ⟨0, 0, 0, 0, 0, 0⟩⟩⟩
    obtain ⟨E, hE⟩ := choose_lt each
    have h00 := (hE 0 h0).2 0 _ rfl
    have hsp := cell_spotO h00
    obtain ⟨xb, xo, xs⟩ := x
    have hxs : xs = none := by
      have := hsp.1
      rw [Nat.zero_mul, Nat.add_zero] at this
      simpa [Addr.add] using this
    subst hxs
    simp only [add_noneO] at hE hsp
    refine ⟨(List.range len).map E, fun e he => ?_, Or.inr ⟨xb, xo, len, cap, h0, rfl, by simp, hsz, ?_, hsp.2⟩⟩
    · obtain ⟨i, hi, rfl⟩ := List.mem_map.1 he
      exact (hE i (List.mem_range.1 hi)).1
    · intro i h hi j u hu
      have hil : i < len := by
        have := (List.getElem?_eq_some_iff.1 hi).1
        simpa using this
      have e : E i = h := by simpa [hil] using hi
      subst e
      exact (hE i hil).2 j u hu

/-- A prefix, by value. -/
def ArgPf (v : Value) : Prop := ∃ p : Pf, p.addr < 2 ^ 32 ∧ inI p.bits ∧ v = p.val
set_option maxRecDepth 100000 in
theorem pfx_open {H : Type} {enc : TypeId × Value → H} {W : World} {r : Reach} {b0 : Nat} {sp : Nat → Bool} {held : Bool} {v : Value} {d : DataW H} {p : List MemPlace} (hv : Value.okWide Tryz.prog W r b0 48 v)
    (h : DataW.Trod enc Tryz.prog W 0 sp held 48 v d p) : ArgPf v := by
  obtain ⟨cs, rfl, hsz⟩ := okWide_struct Tryz.underlying48 hv
  have c0 : Tryz.prog.cellsOf 28 = 1 := by kernel_rfl
  have c1 : Tryz.prog.cellsOf 3 = 1 := by kernel_rfl
  have c2 : Tryz.prog.cellsOf 48 = 2 := by kernel_rfl
  rw [c2] at hsz
  obtain ⟨fuel, hf⟩ := h
  obtain ⟨xs, k, hk, hxy, _, hxl, hfd⟩ := DataW.trod_struct Tryz.underlying48 hf
  obtain ⟨cs⟩ := cs
  match xs, hxl, cs, hsz with
  | [y0, y1], _, [v0, v1], _ =>
    have g0 := hfd 0 _ rfl
    have g1 := hfd 1 _ rfl
    simp [c0, c1, Value.cells] at g0 g1
    obtain ⟨n0, e0, _, w0⟩ := DataW.trod_int Tryz.underlying28 g0
    obtain ⟨n1, e1, _, w1⟩ := DataW.trod_int Tryz.underlying3 g1
    cases e0; cases e1
    obtain ⟨a, rfl, ha⟩ := nat_of_u32 w0
    exact ⟨⟨a, n1⟩, ha, in_of w1, rfl⟩
end Go.Proofs.YtjoblahedgpgbaaGreat
