/- Headers, lists of them, and lists of expressions with their spare room, as the rows hand them in. -/
import Derived.Test.YtakgghhmecphmaaArgs
import Derived.Test.YtakgghhmecphmaaBit
namespace Go.Proofs.Ytakgghhmecphmaa
set_option linter.unusedVariables false
set_option linter.unusedSimpArgs false
open Go.ChangeShapes Go.WideShapes Go.ChangeAt Go.RowKit Go.Deep

/-- A header, by value. -/
def ArgHd (v : Value) : Prop := ∃ h : Hd, h.Wf ∧ v = h.val

theorem nat_of_u {k : IntKind} {n : Int} (h : (Lit.int k n).wf = true) (hm : k.min = 0) : ∃ m : Nat, n = m ∧ (m : Int) ≤ k.max := by
  simp [Lit.wf] at h
  rw [hm] at h
  exact ⟨n.toNat, by omega, by omega⟩

theorem hd_of {n0 n1 n2 n3 n4 : Int} (w0 : (Lit.int .u32 n0).wf = true) (w1 : (Lit.int .u32 n1).wf = true) (w2 : (Lit.int .u8 n2).wf = true) (w3 : (Lit.int .u16 n3).wf = true) (w4 : (Lit.int .u16 n4).wf = true) :
    ∃ h : Hd, h.Wf ∧ n0 = h.dst ∧ n1 = h.src ∧ n2 = h.proto ∧ n3 = h.sport ∧ n4 = h.dport := by
  obtain ⟨a0, rfl, b0⟩ := nat_of_u w0 (by decide)
  obtain ⟨a1, rfl, b1⟩ := nat_of_u w1 (by decide)
  obtain ⟨a2, rfl, b2⟩ := nat_of_u w2 (by decide)
  obtain ⟨a3, rfl, b3⟩ := nat_of_u w3 (by decide)
  obtain ⟨a4, rfl, b4⟩ := nat_of_u w4 (by decide)
  have m32 : IntKind.u32.max = 4294967295 := by decide
  have m8 : IntKind.u8.max = 255 := by decide
  have m16 : IntKind.u16.max = 65535 := by decide
  exact ⟨⟨a0, a1, a2, a3, a4⟩, ⟨by simp only; omega, by simp only; omega, by simp only; omega, by simp only; omega, by simp only; omega⟩, rfl, rfl, rfl, rfl, rfl⟩

set_option maxRecDepth 100000 in
theorem hdr_cells {H : Type} {enc : TypeId × Value → H} {W : World} {sp : Nat → Bool} {held : Bool} {cs : List Value} {fuel : Nat} {x : DataW H × List MemPlace} (hl : cs.length = 5)
    (h : DataW.trod enc Try.prog W 0 sp held fuel 25 cs = some x) : ∃ hd : Hd, hd.Wf ∧ cs = [.int .u32 (hd.dst : Int), .int .u32 (hd.src : Int), .int .u8 (hd.proto : Int), .int .u16 (hd.sport : Int), .int .u16 (hd.dport : Int)] := by
  have c0 : Try.prog.cellsOf 22 = 1 := by kernel_rfl
  have c1 : Try.prog.cellsOf 5 = 1 := by kernel_rfl
  have c2 : Try.prog.cellsOf 23 = 1 := by kernel_rfl
  obtain ⟨xs, k, hk, hxy, _, hxl, hfd⟩ := DataW.trod_struct Try.underlying25 h
  match xs, hxl, cs, hl with
  | [y0, y1, y2, y3, y4], _, [v0, v1, v2, v3, v4], _ =>
    have g0 := hfd 0 _ rfl
    have g1 := hfd 1 _ rfl
    have g2 := hfd 2 _ rfl
    have g3 := hfd 3 _ rfl
    have g4 := hfd 4 _ rfl
    simp [c0, c1, c2] at g0 g1 g2 g3 g4
    obtain ⟨n0, e0, _, w0⟩ := DataW.trod_int Try.underlying22 g0
    obtain ⟨n1, e1, _, w1⟩ := DataW.trod_int Try.underlying22 g1
    obtain ⟨n2, e2, _, w2⟩ := DataW.trod_int Try.underlying5 g2
    obtain ⟨n3, e3, _, w3⟩ := DataW.trod_int Try.underlying23 g3
    obtain ⟨n4, e4, _, w4⟩ := DataW.trod_int Try.underlying23 g4
    cases e0; cases e1; cases e2; cases e3; cases e4
    obtain ⟨hd, hw, rfl, rfl, rfl, rfl, rfl⟩ := hd_of w0 w1 w2 w3 w4
    exact ⟨hd, hw, rfl⟩

set_option maxRecDepth 100000 in
theorem hdr_open {H : Type} {enc : TypeId × Value → H} {W : World} {r : Reach} {b0 : Nat} {sp : Nat → Bool} {held : Bool} {v : Value} {d : DataW H} {p : List MemPlace} (hv : Value.okWide Try.prog W r b0 25 v)
    (h : DataW.Trod enc Try.prog W 0 sp held 25 v d p) : ArgHd v := by
  obtain ⟨cs, rfl, hsz⟩ := okWide_struct Try.underlying25 hv
  have c5 : Try.prog.cellsOf 25 = 5 := by kernel_rfl
  rw [c5] at hsz
  obtain ⟨fuel, hf⟩ := h
  obtain ⟨hd, hw, e⟩ := hdr_cells (by simpa [Value.cells] using hsz) hf
  refine ⟨hd, hw, ?_⟩
  unfold Hd.val
  congr 1
  apply Array.toList_inj.1
  simpa [Value.cells] using e

/-- A list of expressions that lies in memory, and is no longer than its row. -/
def ArgExC (W : World) (v : Value) : Prop := ArgEx W v ∧ ∀ ao n cap, v = .slice ao n cap → n ≤ cap ∧ cap ≤ maxLen
set_option maxRecDepth 100000 in
theorem exprsc_open {H : Type} {enc : TypeId × Value → H} {W : World} {r : Reach} {b0 : Nat} {sp : Nat → Bool} {held : Bool} {v : Value} {d : DataW H} {p : List MemPlace} (hv : Value.okWide Try.prog W r b0 50 v)
    (h : DataW.Trod enc Try.prog W 0 sp held 50 v d p)
    (hs : ∀ elems spare, d = .slice elems spare → (elems.length + spare.length) * Try.prog.bytesOf 105 ≤ reachBytes) : ArgExC W v := by
  refine ⟨exprs_open hv h hs, ?_⟩
  rintro ao n cap rfl
  obtain ⟨fuel, hf⟩ := h
  rcases open_slice Try.underlying50 hf with ⟨hcs, _⟩ | ⟨x, l, c, m, n, D, Pl, hcs, _, hlc, hcm, _⟩
  · simp [Value.cells] at hcs
    obtain ⟨rfl, rfl, rfl⟩ := hcs
    exact ⟨Nat.le_refl _, Nat.zero_le _⟩
  · simp [Value.cells] at hcs
    obtain ⟨rfl, rfl, rfl⟩ := hcs
    exact ⟨hlc, hcm⟩

/-- Headers in memory. -/
def HdsAt (w : World) (b off : Nat) (l : List Hd) : Prop := ∀ i h, l[i]? = some h → ∀ j u, [Value.int .u32 (h.dst : Int), .int .u32 (h.src : Int), .int .u8 (h.proto : Int), .int .u16 (h.sport : Int), .int .u16 (h.dport : Int)][j]? = some u → w.cell? ⟨b, off + (i * 5 + j), none⟩ = some u
def ArgHds (W : World) (v : Value) : Prop := ∃ l : List Hd, (∀ h ∈ l, h.Wf) ∧ ((l = [] ∧ ∃ ao cap, v = .slice ao 0 cap) ∨
  ∃ b off n cap, 0 < n ∧ v = .slice (some ⟨b, off, none⟩) n cap ∧ l.length = n ∧ n ≤ 140737488355328 ∧ HdsAt W b off l ∧ b < W.heap.size)

set_option maxRecDepth 100000 in
theorem hdrs_open {H : Type} {enc : TypeId × Value → H} {W : World} {r : Reach} {b0 : Nat} {sp : Nat → Bool} {held : Bool} {v : Value} {d : DataW H} {p : List MemPlace} (hv : Value.okWide Try.prog W r b0 67 v)
    (h : DataW.Trod enc Try.prog W 0 sp held 67 v d p)
    (hs : ∀ elems spare, d = .slice elems spare → (elems.length + spare.length) * Try.prog.bytesOf 25 ≤ reachBytes) : ArgHds W v := by
  obtain ⟨a, len, cap, rfl⟩ := okWide_slice Try.underlying67 hv
  obtain ⟨fuel, hf⟩ := h
  rcases open_slice Try.underlying67 hf with ⟨hcs, _⟩ | ⟨x, l, c, m, n, D, Pl, hcs, _, hlc, _, hm, hx, hel⟩
  · simp [Value.cells] at hcs
    obtain ⟨rfl, rfl, rfl⟩ := hcs
    exact ⟨[], fun x hx => by simp at hx, Or.inl ⟨rfl, none, 0, rfl⟩⟩
  · simp [Value.cells] at hcs
    obtain ⟨rfl, rfl, rfl⟩ := hcs
    rcases Nat.eq_zero_or_pos len with h0 | h0
    · subst h0
      exact ⟨[], fun x hx => by simp at hx, Or.inl ⟨rfl, some x, cap, rfl⟩⟩
    have hlm : len ≤ m := by rw [hm]; split <;> omega
    have hsz : len ≤ 140737488355328 := by
      simp only [Prod.mk.injEq] at hx
      have := hs _ _ hx.1
      have hb : 1 ≤ Try.prog.bytesOf 25 := by decide +kernel
      have hr := reachBytes_lt
      rw [List.length_map, List.length_range] at this
      have h2 : (len + (List.map (fun j => D (len + j)) (List.range (m - len))).length) * 1 ≤ (len + (List.map (fun j => D (len + j)) (List.range (m - len))).length) * Try.prog.bytesOf 25 := Nat.mul_le_mul_left _ hb
      omega
    have ce : Try.prog.cellsOf 25 = 5 := by kernel_rfl
    have each : ∀ i, i < len → ∃ e : Hd, e.Wf ∧ ∀ j u, [Value.int .u32 (e.dst : Int), .int .u32 (e.src : Int), .int .u8 (e.proto : Int), .int .u16 (e.sport : Int), .int .u16 (e.dport : Int)][j]? = some u → W.cell? (x.add (i * 5 + j)) = some u := by
      intro i hi
      obtain ⟨cs', h1, h2⟩ := hel i (by omega)
      rw [ce] at h1
      obtain ⟨_, hlen, hcell⟩ := World.cells?_some h1
      obtain ⟨hd, hw, rfl⟩ := hdr_cells hlen h2
      refine ⟨hd, hw, fun j u hu => ?_⟩
      have hj : j < 5 := (List.getElem?_eq_some_iff.1 hu).1
      have := hcell j hj
      rw [add_add] at this
      rw [this]
      exact hu
    have : Inhabited Hd := ⟨⟨0, 0, 0, 0, 0⟩⟩
    obtain ⟨E, hE⟩ := choose_lt each
    have h00 := (hE 0 h0).2 0 _ rfl
    have hsp := cell_spot h00
    obtain ⟨xb, xo, xs⟩ := x
    have hxs : xs = none := by
      have := hsp.1
      rw [Nat.zero_mul, Nat.add_zero] at this
      simpa [Addr.add] using this
    subst hxs
    simp only [add_none] at hE hsp
    refine ⟨(List.range len).map E, fun e he => ?_, Or.inr ⟨xb, xo, len, cap, h0, rfl, by simp, hsz, ?_, hsp.2⟩⟩
    · obtain ⟨i, hi, rfl⟩ := List.mem_map.1 he
      exact (hE i (List.mem_range.1 hi)).1
    · intro i h hi j u hu
      have hil : i < len := by
        have := (List.getElem?_eq_some_iff.1 hi).1
        simpa using this
      have e : E i = h := by simpa [hil] using hi
      subst e
      exact (hE i hil).2 j u hu

end Go.Proofs.Ytakgghhmecphmaa
