/- The table's less: prefixes without what one has. -/
import Derived.Test.YtiedhjmnjpkcoaaHidQ
namespace Go.Proofs.Ytiedhjmnjpkcoaa
set_option linter.unusedVariables false
set_option linter.unusedSimpArgs false
open Go.RowKit

def Pn.cells (q : Pn) : List Value := [.int .u32 (q.a : Int), .int .i64 (q.n : Int)]
def pnCells (l : List Pn) : List Value := l.flatMap Pn.cells
theorem pnCells_length (l : List Pn) : (pnCells l).length = l.length * 2 := by
  induction l with
  | nil => rfl
  | cons a l ih =>
    have e : pnCells (a :: l) = a.cells ++ pnCells l := rfl
    rw [e, List.length_append, ih]
    simp [Pn.cells]
    omega
theorem pnCells_snoc (l : List Pn) (q : Pn) : pnCells (l ++ [q]) = pnCells l ++ q.cells := by simp [pnCells]
theorem pnCells_get : ∀ (l : List Pn) (i : Nat) (h : i < l.length), (pnCells l)[i * 2]? = some (.int .u32 (l[i].a : Int)) ∧ (pnCells l)[i * 2 + 1]? = some (.int .i64 (l[i].n : Int))
  | a :: l, 0, _ => ⟨rfl, rfl⟩
  | a :: l, i + 1, h => by
    have ih := pnCells_get l i (by simpa using h)
    have e : pnCells (a :: l) = [.int .u32 (a.a : Int), .int .i64 (a.n : Int)] ++ pnCells l := rfl
    rw [e, show (i + 1) * 2 = 2 + i * 2 by omega]
    refine ⟨?_, ?_⟩
    · rw [List.getElem?_append_right (by simp)]
      simpa using ih.1
    · rw [List.getElem?_append_right (by simp; omega), show 2 + i * 2 + 1 - [Value.int .u32 (a.a : Int), .int .i64 (a.n : Int)].length = i * 2 + 1 by simp; omega]
      simpa using ih.2
theorem pf_info : (Try.prog.info? 24).map (fun i => (i.zero, i.size, i.bytes)) = some (some (.agg #[.int .u32 0, .int .i64 0]), 2, 16) := by kernel_rfl

theorem or_u32 {a b : Nat} (ha : a < 2 ^ 32) (hb : b < 2 ^ 32) : bits .or .u32 (a : Int) (b : Int) = ((a ||| b : Nat) : Int) := by
  have e : ∀ x : Nat, x < 2 ^ 32 → (BitVec.ofInt 32 (x : Int)).toNat = x := fun x hx => by simpa using hx
  have hab := Nat.or_lt_two_pow ha hb
  have h : bits .or .u32 (a : Int) (b : Int) = IntKind.u32.wrap ((BitVec.ofInt 32 (a : Int) ||| BitVec.ofInt 32 (b : Int)).toNat : Int) := rfl
  rw [h, BitVec.toNat_or, e a ha, e b hb, IntKind.wrap_u32]
  omega
theorem high_u32 {a n : Nat} (ha : a < 2 ^ 32) (hn : n < 32) : bits .or .u32 (a : Int) ((2 : Int) ^ (31 - n) % 4294967296) = ((a ||| 2 ^ (31 - n) : Nat) : Int) := by
  have h1 : 2 ^ (31 - n) < 2 ^ 32 := Nat.pow_lt_pow_right (by omega) (by omega)
  have h2 : (2 : Int) ^ (31 - n) % 4294967296 = ((2 ^ (31 - n) : Nat) : Int) := by
    have e : (2 : Int) ^ (31 - n) = ((2 ^ (31 - n) : Nat) : Int) := by simp
    rw [e]
    clear e
    generalize (2 : Nat) ^ (31 - n) = z at *
    omega
  rw [h2, or_u32 ha h1]

/-- A box of a prefix. -/
def PB (w : World) (k : Nat) (q : Pn) : Prop := w.heap[k]? = some (.cells #[.int .u32 (q.a : Int), .int .i64 (q.n : Int)] 24 (0, 0))
theorem PB.cells {w : World} {k : Nat} {q : Pn} (h : PB w k q) : w.cell? ⟨k, 0, none⟩ = some (.int .u32 (q.a : Int)) ∧ w.cell? ⟨k, 1, none⟩ = some (.int .i64 (q.n : Int)) ∧ w.frozen? ⟨k, 0, none⟩ = false ∧ w.frozen? ⟨k, 1, none⟩ = false :=
  ⟨cell_of h 0, cell_of h 1, unfrozen_of h 0, unfrozen_of h 1⟩
theorem PB.set {w : World} {k : Nat} {q : Pn} (h : PB w k q) (r : Pn) : PB ((w.setCell ⟨k, 0, none⟩ (.int .u32 (r.a : Int))).setCell ⟨k, 1, none⟩ (.int .i64 (r.n : Int))) k r := by
  have h1 := set_block (set_block h 0 (.int .u32 (r.a : Int))) 1 (.int .i64 (r.n : Int))
  simpa [PB] using h1
theorem PB.next {w w' : World} {k : Nat} {q : Pn} (h : PB w k q) (b : Below w.heap.size w w') : PB w' k q := (b.block _ (lt_of_block h)).trans h
theorem PB.other {w : World} {k : Nat} {q : Pn} (h : PB w k q) {a : Addr} (hne : k ≠ a.block) (v : Value) : PB (w.setCell a v) k q := blk_setCell h hne v

theorem less_stop {p q : Pn} (hs : (meets p q && !within q p) = false) (d : Nat) : lessQ p d q = if meets p q = true then [] else [q] := by
  cases d with
  | zero => rfl
  | succ d =>
    unfold lessQ
    rw [hs, if_neg (by simp)]
theorem less_go {p q : Pn} (hs : (meets p q && !within q p) = true) (d : Nat) : lessQ p (d + 1) q = if meets q.low p = true then q.high :: lessQ p d q.low else q.low :: lessQ p d q.high := by
  conv => lhs; unfold lessQ
  rw [hs, if_pos rfl]

theorem own_in {w : World} {base : Nat} {e : TypeId} {size : Nat} {v : Value} {n : Nat} {xs : List Value} (h : w.ownsRow base e size v n xs) {g : Nat} (hg : v.ownBlock = some g) : g < w.heap.size := by
  rcases h.2 with ⟨rfl, _⟩ | ⟨g', cap, cur, rfl, h1, h2, _⟩
  · cases hg
  · cases hg
    exact (Array.getElem?_eq_some_iff.1 h2).1
theorem lessL_snoc (p : Pn) (l : List Pn) (q : Pn) : lessL p (l ++ [q]) = lessL p l ++ lessQ p (32 - q.n) q := by simp [lessL]

/-- What the walk keeps of the world it began in. -/
structure LK (w0 w : World) (x : Nat) (p cur : Pn) (vo : Value) (out : List Pn) : Prop where
  kept : Below w0.heap.size w0 w
  base : w0.heap.size < w.heap.size
  bp : PB w w0.heap.size p
  bx : PB w x cur
  xp : w0.heap.size < x
  own : w.ownsRow (w0.heap.size + 1) 24 2 vo out.length (pnCells out)
  apart : ∀ g, vo.ownBlock = some g → g ≠ x
theorem LK.next {w0 w w' : World} {x : Nat} {p cur : Pn} {vo : Value} {out : List Pn} (h : LK w0 w x p cur vo out) (b : Below w.heap.size w w') : LK w0 w' x p cur vo out :=
  ⟨h.kept.trans (b.mono h.kept.size), Nat.lt_of_lt_of_le h.base b.size, h.bp.next b, h.bx.next b, h.xp, own_kept h.own (Kept.of_below (S := []) b) (by simp), h.apart⟩
theorem LK.meet {w0 w : World} {x : Nat} {p cur : Pn} {vo : Value} {out : List Pn} (h : LK w0 w x p cur vo out) (hp : p.Ok) (hc : cur.Ok) : Calls Try.prog 92 #[.agg #[.int .u32 (p.a : Int), .int .i64 (p.n : Int)], .agg #[.int .u32 (cur.a : Int), .int .i64 (cur.n : Int)]] w fun e w' => e = .returned (.bool (meets p cur)) ∧ LK w0 w' x p cur vo out :=
  (cmeet_calls w p.a p.n cur.a cur.n hp.1 hc.1 hp.2.1 hc.2.1).mono fun _ _ ⟨he, k⟩ => ⟨he, h.next k⟩
theorem LK.withn {w0 w : World} {x : Nat} {p cur : Pn} {vo : Value} {out : List Pn} (h : LK w0 w x p cur vo out) (hp : p.Ok) (hc : cur.Ok) : Calls Try.prog 93 #[.agg #[.int .u32 (cur.a : Int), .int .i64 (cur.n : Int)], .agg #[.int .u32 (p.a : Int), .int .i64 (p.n : Int)]] w fun e w' => e = .returned (.bool (within cur p)) ∧ LK w0 w' x p cur vo out :=
  (cwithin_calls w cur.a cur.n p.a p.n hc.1 hp.1 hc.2.1 hp.2.1).mono fun _ _ ⟨he, k⟩ => ⟨he, h.next k⟩

theorem LK.meetlow {w0 w : World} {x : Nat} {p cur : Pn} {vo : Value} {out : List Pn} (h : LK w0 w x p cur vo out) (hp : p.Ok) (hc : cur.Ok) (hn : cur.n < 32) : Calls Try.prog 92 #[.agg #[.int .u32 (cur.a : Int), .int .i64 ((cur.n : Int) + 1)], .agg #[.int .u32 (p.a : Int), .int .i64 (p.n : Int)]] w fun e w' => e = .returned (.bool (meets cur.low p)) ∧ LK w0 w' x p cur vo out ∧ Below w.heap.size w w' :=
  (cmeet_calls w cur.a (cur.n + 1) p.a p.n hc.1 hp.1 (by omega) hp.2.1).mono fun _ _ ⟨he, k⟩ => ⟨he, h.next k, k⟩
theorem LK.store {w0 w : World} {x y : Nat} {p cur : Pn} {vo : Value} {out : List Pn} (h : LK w0 w x p cur vo out) (hy1 : w0.heap.size < y) (hy2 : y ≠ x) (hy3 : ∀ g, vo.ownBlock = some g → g ≠ y) (j : Nat) (v : Value) : LK w0 (w.setCell ⟨y, j, none⟩ v) x p cur vo out :=
  ⟨h.kept.setCell (p := ⟨y, j, none⟩) (Nat.le_of_lt hy1) v, by simpa [World.setCell] using h.base, h.bp.other (by simp; omega) _, h.bx.other (by simp; omega) _, h.xp, own_kept h.own ((Kept.refl [y] w).setCell _ _ (by simp)) (fun g hg hm => hy3 g hg (by simpa using hm)), h.apart⟩

theorem LK.close {w0 wd w9 : World} {x g9 cap9 H : Nat} {p cur c2 o : Pn} {vo : Value} {out : List Pn} {ob : Obj} (h : LK w0 wd x p cur vo out) (hx9 : PB w9 x cur) (how : w9.ownsRow (w0.heap.size + 1) 24 2 (.slice (some ⟨g9, 0, none⟩) (out.length + 1) cap9) (out.length + 1) (pnCells out ++ [.int .u32 (o.a : Int), .int .i64 (o.n : Int)]))
    (hgr : (wd.alloc ob).grownBy w9 vo.ownBlock) (hat : vo.ownBlock = some g9 ∨ g9 = H) (hH : (wd.alloc ob).heap.size = H) : LK w0 ((w9.setCell ⟨x, 0, none⟩ (.int .u32 (c2.a : Int))).setCell ⟨x, 1, none⟩ (.int .i64 (c2.n : Int))) x p c2 (.slice (some ⟨g9, 0, none⟩) (out.length + 1) cap9) (out ++ [o]) := by
  have hb := h.base
  have hx := h.xp
  have hxl := lt_of_block h.bx
  have hsz := hgr.size
  simp only [World.size_alloc] at hsz hH
  have hpast := own_past h.own
  have hgx : g9 ≠ x := by
    rcases hat with e | e
    · exact h.apart g9 e
    · omega
  refine ⟨(((h.kept.trans ((Below.refl w0.heap.size wd).alloc (by omega) ob)).trans (below_grew hgr (by simp; omega) (fun k e => by have := hpast k e; omega))).setCell (p := ⟨x, 0, none⟩) (Nat.le_of_lt hx) _).setCell (p := ⟨x, 1, none⟩) (Nat.le_of_lt hx) _, ?_, ?_, hx9.set c2, hx, ?_, ?_⟩
  · simp [World.setCell]
    omega
  · have : PB w9 w0.heap.size p := (hgr.block w0.heap.size (by simp; omega) (fun e => by have := hpast _ e.symm; omega)).trans (blk_alloc h.bp _)
    exact (this.other (by simp; omega) _).other (by simp; omega) _
  · rw [pnCells_snoc, List.length_append]
    exact own_kept how (((Kept.refl [x] w9).setCell _ _ (by simp)).setCell _ _ (by simp)) (fun g e hm => by
      cases e
      exact hgx (by simpa using hm))
  · intro g e
    cases e
    exact hgx

set_option maxRecDepth 100000 in
set_option maxHeartbeats 4000000 in
theorem less_calls {w : World} {b : Nat} {v0 : Value} {l : List Pn} (h : w.ownsRow b 24 2 v0 l.length (pnCells l)) (hok : ∀ q ∈ l, q.Ok) {p : Pn} (hp : p.Ok) (hl : l.length < 1000000) (hll : ∀ k, (lessL p (l.take k)).length < 1000000) :
    Calls Try.prog 67 #[v0, .agg #[.int .u32 (p.a : Int), .int .i64 (p.n : Int)]] w fun e w' => ∃ v', e = .returned v' ∧ w'.ownsRow w.heap.size 24 2 v' (lessL p l).length (pnCells (lessL p l)) ∧ Below w.heap.size w w' := by
  obtain ⟨i0, hi, hz0, hz1, hz2⟩ := info_parts pf_info
  obtain ⟨ao, cap, hv, hao⟩ : ∃ ao cap, v0 = .slice ao l.length cap ∧ ∀ i, i < l.length → ∃ g, ao = some ⟨g, 0, none⟩ := by
    rcases h.2 with ⟨h0, h1⟩ | ⟨g', cap', cur, h0, _, _, h3, _⟩
    · exact ⟨none, 0, by rw [h0, h1], fun i hi => by omega⟩
    · exact ⟨_, cap', h0, fun i _ => ⟨g', rfl⟩⟩
  subst hv
  have H := Lib.hid h
  have HAO := Lib.hid hao
  have HOK := Lib.hid hok
  have HLL := Lib.hid hll
  have hX := heap_alloc_new w (.cells #[.int .u32 (p.a : Int), .int .i64 (p.n : Int)] 24)
  have kb := (Below.refl w.heap.size w).alloc (Nat.le_refl _) (.cells #[.int .u32 (p.a : Int), .int .i64 (p.n : Int)] 24)
  have HX := Lib.hid hX
  have HKB := Lib.hid kb
  clear h hao hok hll hX kb
  go_enter Try.func67, Try.ntmps67
  go_wp2_with (fail)
  generalize w.alloc (.cells #[.int .u32 (p.a : Int), .int .i64 (p.n : Int)] 24) = w1 at *
  go_loopg [5, 12] l.length (fun gk vo vi wr => ∃ i : Nat, i + gk = l.length ∧ vi = .int .i64 (i : Int) ∧ wr.ownsRow (w.heap.size + 1) 24 2 vo (lessL p (l.take i)).length (pnCells (lessL p (l.take i))) ∧ Below w.heap.size w wr ∧ PB wr w.heap.size p)
  case atStart => exact ⟨0, by omega, rfl, World.ownsRow_nil _ _ _ _, HKB.out, HX.out⟩
  case round =>
    obtain ⟨i, hgk, rfl, hO, hK, hB⟩ := hrel
    have HO := Lib.hid hO
    have HK := Lib.hid hK
    have HB := Lib.hid hB
    clear hO hB
    by_cases hlt : i < l.length
    · obtain ⟨g, rfl⟩ := HAO.out i hlt
      have how := own_kept H.out (Kept.of_below (S := []) hK) (by simp)
      have e0 := (how.cellAt (i * 2) (by omega)).trans (pnCells_get l i hlt).1
      have e1 := (how.cellAt (i * 2 + 1) (by omega)).trans (pnCells_get l i hlt).2
      have HTK : Hid (l.take (i + 1) = l.take i ++ [l[i]]) := Lib.hid (by rw [List.take_add_one, List.getElem?_eq_getElem hlt]; rfl)
      have HQ : Hid (l[i].Ok) := Lib.hid (HOK.out _ (List.getElem_mem hlt))
      generalize l[i] = q at *
      clear how hK
      have HKA := Lib.hid ((Below.refl wr.heap.size wr).alloc (Nat.le_refl _) (.cells #[.int .u32 (q.a : Int), .int .i64 (q.n : Int)] 24))
      have HXA := Lib.hid (heap_alloc_new wr (.cells #[.int .u32 (q.a : Int), .int .i64 (q.n : Int)] 24))
      go_upto_region 5 with (fail)
      have hLK : LK w (wr.alloc (.cells #[.int .u32 (q.a : Int), .int .i64 (q.n : Int)] 24)) wr.heap.size p q u5 (lessL p (l.take i)) :=
        ⟨HK.out.trans (HKA.out.mono HK.out.size), by simp; have := lt_of_block HB.out; omega, HB.out.next HKA.out, HXA.out, lt_of_block HB.out, own_kept HO.out (Kept.of_below (S := []) HKA.out) (by simp), fun g hg e => by
          subst e
          have := (own_in HO.out hg)
          omega⟩
      have HLK := Lib.hid hLK
      clear hLK e0 e1
      generalize wr.alloc (.cells #[.int .u32 (q.a : Int), .int .i64 (q.n : Int)] 24) = wa at *
      generalize wr.heap.size = xx at *
      generalize gk = gko at *
      go_loopg [5] (32 - q.n) (fun gk vo2 w5 => ∃ (cur : Pn) (acc : List Pn), cur.n + gk = 32 ∧ cur.Ok ∧ lessQ p (32 - q.n) q = acc ++ lessQ p gk cur ∧ LK w w5 xx p cur vo2 (lessL p (l.take i) ++ acc))
      case atStart => exact ⟨q, [], by have := HQ.out.2.1; omega, HQ.out, by simp, by simpa using HLK.out⟩
      case round =>
        obtain ⟨cur, acc, hcd, hcok, hless, hk⟩ := hrel
        have HCO := Lib.hid hcok
        have HLE := Lib.hid hless
        have HL5 := Lib.hid hk
        have HLN : Hid ((lessL p (l.take i) ++ acc).length + (lessQ p gk cur).length < 1000000) := Lib.hid (by
          have := HLL.out (i + 1)
          rw [HTK.out, lessL_snoc, hless, ← List.append_assoc, List.length_append] at this
          exact this)
        have HEND : Hid (lessL p (l.take (i + 1)) = (lessL p (l.take i) ++ acc) ++ lessQ p gk cur) := Lib.hid (by rw [HTK.out, lessL_snoc, hless, List.append_assoc])
        generalize hout : lessL p (l.take i) ++ acc = out at *
        have HOUT := Lib.hid hout
        clear hout
        clear hcok hk
        have c1 := HL5.out.bp.cells
        have c2 := HL5.out.bx.cells
        go_wp2_with (fail)
        refine (HL5.out.meet hp HCO.out).mono ?_
        rintro e w6 ⟨he, hk6⟩
        have HL6 := Lib.hid hk6
        clear hk6 c1 c2
        have c1 := HL6.out.bp.cells
        have c2 := HL6.out.bx.cells
        cases hbm : meets p cur with
        | false =>
          rw [hbm] at he
          subst he
          have HBM := Lib.hid hbm
          clear hbm
          go_wp2_with (fail)
          refine (HL6.out.meet hp HCO.out).mono ?_
          rintro e w7 ⟨he, hk7⟩
          rw [HBM.out] at he
          subst he
          have HL7 := Lib.hid hk7
          clear hk7 c1 c2
          have c1 := HL7.out.bp.cells
          have c2 := HL7.out.bx.cells
          have hst := less_stop (p := p) (q := cur) (by rw [HBM.out]; rfl) gk
          rw [HBM.out, if_neg (by simp)] at hst
          have hE := HEND.out
          have hN := HLN.out
          rw [hst] at hE hN
          simp only [List.length_singleton] at hN
          have HE := Lib.hid hE
          clear hst hE
          go_wp2_with (at_builtin; refine wpList_append_lies _ rfl (.tmp 56) (.tmp 58) 85 rfl (w.heap.size + 1) 24 i0 _ 2 16 Try.underlying85 hi hz0 hz1 hz2 rfl (by decide) _ out.length (pnCells out) rfl ?_ ⟨w7.heap.size, 0, none⟩ 1 1 [.int .u32 (cur.a : Int), .int .i64 (cur.n : Int)] rfl rfl ?_ ?_ (by omega) ?_ ?_ ?_ _ rfl ?_; (· exact own_kept HL7.out.own ((Kept.refl [] _).alloc _) (by simp)); (· exact news_at (by simp)); (· simp [Value.oneCell']); (· unfold maxLen; omega); (· omega); (· have := HL7.out.base; simp; omega); intro g9 cap9 w9 how9 hgr9 hat9 hlt9; have HOW9 := Lib.hid how9; have HGR9 := Lib.hid hgr9; clear how9 hgr9 hat9 hlt9)
          go_roundg (gko - 1)
          case measure => omega
          case rel =>
            have hbl := own_past HL7.out.own
            refine ⟨i + 1, by omega, by go_num, ?_, HL7.out.kept.trans (((Below.refl w.heap.size w7).alloc (by have := HL7.out.base; omega) _).trans (below_grew HGR9.out (by have := HL7.out.base; simp; omega) (fun k e => by have := hbl k e; omega))), ?_⟩
            · rw [HE.out, pnCells_snoc, List.length_append]
              exact HOW9.out
            · exact (HGR9.out.block w.heap.size (by have := HL7.out.base; simp; omega) (fun e => by have := hbl _ e.symm; omega)).trans (blk_alloc HL7.out.bp _)
        | true =>
          rw [hbm] at he
          subst he
          have HBM := Lib.hid hbm
          clear hbm
          go_wp2_with (fail)
          refine (HL6.out.withn hp HCO.out).mono ?_
          rintro e w7 ⟨he, hk7⟩
          have HL7 := Lib.hid hk7
          clear hk7 c1 c2
          have c1 := HL7.out.bp.cells
          have c2 := HL7.out.bx.cells
          cases hbw : within cur p with
          | true =>
            rw [hbw] at he
            subst he
            have HBW := Lib.hid hbw
            clear hbw
            go_wp2_with (fail)
            refine (HL7.out.meet hp HCO.out).mono ?_
            rintro e w8 ⟨he, hk8⟩
            rw [HBM.out] at he
            subst he
            have HL8 := Lib.hid hk8
            clear hk8 c1 c2
            go_wp2_with (fail)
            go_roundg (gko - 1)
            case measure => omega
            case rel =>
              have hst := less_stop (p := p) (q := cur) (by rw [HBM.out, HBW.out]; rfl) gk
              rw [HBM.out, if_pos rfl] at hst
              have hE := HEND.out
              rw [hst, List.append_nil] at hE
              refine ⟨i + 1, by omega, by go_num, ?_, HL8.out.kept, HL8.out.bp⟩
              rw [hE]
              exact HL8.out.own
          | false =>
            rw [hbw] at he
            subst he
            have HBW := Lib.hid hbw
            clear hbw
            have hs : (meets p cur && !within cur p) = true := by rw [HBM.out, HBW.out]; rfl
            obtain ⟨s1, s2⟩ := strict_iff hp HCO.out hs
            have hc32 : cur.n < 32 := by have := hp.2.1; omega
            obtain ⟨d, rfl⟩ : ∃ d, gk = d + 1 := ⟨gk - 1, by omega⟩
            have HGO := Lib.hid (less_go hs d)
            have hw1 : IntKind.i64.wrap ((cur.n : Int) + 1) = (cur.n : Int) + 1 := by rw [IntKind.wrap_i64]; omega
            have HY := Lib.hid (heap_alloc_new w7 (.cells #[.int .u32 (cur.a : Int), .int .i64 ((cur.n : Int) + 1)] 24))
            have HKY := Lib.hid ((Below.refl w7.heap.size w7).alloc (Nat.le_refl _) (.cells #[.int .u32 (cur.a : Int), .int .i64 ((cur.n : Int) + 1)] 24))
            clear hs s1 s2
            go_upto_region 7 with (fail)
            generalize hwy : w7.alloc (.cells #[.int .u32 (cur.a : Int), .int .i64 ((cur.n : Int) + 1)] 24) = w8 at *
            clear hwy
            have HL8 := Lib.hid (HL7.out.next HKY.out)
            clear c1 c2
            have c1 := HL8.out.bp.cells
            have c2 := HL8.out.bx.cells
            have hw2 : IntKind.i64.wrap (31 - (cur.n : Int)) = ((31 - cur.n : Nat) : Int) := by rw [IntKind.wrap_i64]; omega
            have hkz := (Below.refl w8.heap.size w8).alloc (Nat.le_refl _) (.cells #[.int .u32 0, .int .i64 0] 24)
            have hzb : PB (w8.alloc (.cells #[.int .u32 0, .int .i64 0] 24)) w8.heap.size ⟨0, 0⟩ := heap_alloc_new w8 (.cells #[.int .u32 0, .int .i64 0] 24)
            have c3 := (HL8.out.next hkz).bx.cells
            have c4 := hzb.cells
            have HKZ := Lib.hid hkz
            have HZB := Lib.hid hzb
            simp only at c4
            clear hkz hzb
            go_region
            simp only [high_u32 HCO.out.1 hc32]
            generalize hwz : w8.alloc (.cells #[.int .u32 ((cur.a ||| 2 ^ (31 - cur.n) : Nat) : Int), .int .i64 ((cur.n : Int) + 1)] 24) = wz at *
            have hbz : Below w8.heap.size w8 wz := by rw [← hwz]; exact (Below.refl w8.heap.size w8).alloc (Nat.le_refl _) _
            have hzz : PB wz w8.heap.size cur.high := by rw [← hwz]; exact heap_alloc_new w8 _
            have hyy : PB w8 w7.heap.size cur.low := HY.out
            have HL9 := Lib.hid ((HL8.out.next hbz).next (show Below wz.heap.size wz wz.drew from (Below.refl _ wz).drew))
            have hyz : PB wz w7.heap.size cur.low := hyy.next hbz
            have HY9 : Hid (PB wz.drew w7.heap.size cur.low) := Lib.hid hyz
            have HZ9 : Hid (PB wz.drew w8.heap.size cur.high) := Lib.hid hzz
            clear hwz hbz hzz hyy hyz c1 c2 c3 c4
            generalize wz.drew = w9 at *
            have c1 := HL9.out.bp.cells
            have c2 := HY9.out.cells
            have c3 := HZ9.out.cells
            simp only [Pn.low] at c2
            simp only [Pn.high] at c3
            go_wp2_with (fail)
            refine (HL9.out.meetlow hp HCO.out hc32).mono ?_
            rintro e w10 ⟨he, hk10, kb10⟩
            have HL10 := Lib.hid hk10
            have HY10 := Lib.hid (HY9.out.next kb10)
            have HZ10 := Lib.hid (HZ9.out.next kb10)
            clear hk10 kb10 c1 c2 c3
            have c1 := HL10.out.bp.cells
            have c2 := HY10.out.cells
            have c3 := HZ10.out.cells
            have c4 := HL10.out.bx.cells
            simp only [Pn.low] at c2
            simp only [Pn.high] at c3
            have hyz0 : w7.heap.size < w8.heap.size := lt_of_block HY.out
            have hyz1 : ¬ w8.heap.size = w7.heap.size := by omega
            have hyz2 : ¬ w7.heap.size = w8.heap.size := by omega
            have hxy0 : xx < w7.heap.size := lt_of_block HL7.out.bx
            have hxy1 : ¬ xx = w7.heap.size := by omega
            have hxy2 : ¬ w7.heap.size = xx := by omega
            have hxz1 : ¬ xx = w8.heap.size := by omega
            have hxz2 : ¬ w8.heap.size = xx := by omega
            have hby := HL7.out.base
            have HVY : Hid (∀ g, u5.ownBlock = some g → g < w7.heap.size) := Lib.hid (fun g hg => own_in HL7.out.own hg)
            cases hbl : meets cur.low p with
            | true =>
              rw [hbl] at he
              subst he
              go_upto_region 10 with (fail)
              have hY11 : PB ((((w10.setCell ⟨w7.heap.size, 0, none⟩ (.int .u32 ((cur.a ||| 2 ^ (31 - cur.n) : Nat) : Int))).setCell ⟨w7.heap.size, 1, none⟩ (.int .i64 ((cur.n : Int) + 1))).setCell ⟨w8.heap.size, 0, none⟩ (.int .u32 (cur.a : Int))).setCell ⟨w8.heap.size, 1, none⟩ (.int .i64 ((cur.n : Int) + 1))) w7.heap.size cur.high := ((HY10.out.set cur.high).other (by simp; omega) _).other (by simp; omega) _
              have hZ11 : PB ((((w10.setCell ⟨w7.heap.size, 0, none⟩ (.int .u32 ((cur.a ||| 2 ^ (31 - cur.n) : Nat) : Int))).setCell ⟨w7.heap.size, 1, none⟩ (.int .i64 ((cur.n : Int) + 1))).setCell ⟨w8.heap.size, 0, none⟩ (.int .u32 (cur.a : Int))).setCell ⟨w8.heap.size, 1, none⟩ (.int .i64 ((cur.n : Int) + 1))) w8.heap.size cur.low := (((HZ10.out.other (a := ⟨w7.heap.size, 0, none⟩) (by simp; omega) (.int .u32 ((cur.a ||| 2 ^ (31 - cur.n) : Nat) : Int))).other (a := ⟨w7.heap.size, 1, none⟩) (by simp; omega) (.int .i64 ((cur.n : Int) + 1))).set cur.low)
              have hL11 := (((HL10.out.store (y := w7.heap.size) (by omega) hxy2 (fun g hg e => by have := HVY.out g hg; omega) 0 (.int .u32 ((cur.a ||| 2 ^ (31 - cur.n) : Nat) : Int))).store (y := w7.heap.size) (by omega) hxy2 (fun g hg e => by have := HVY.out g hg; omega) 1 (.int .i64 ((cur.n : Int) + 1))).store (y := w8.heap.size) (by omega) hxz2 (fun g hg e => by have := HVY.out g hg; omega) 0 (.int .u32 (cur.a : Int))).store (y := w8.heap.size) (by omega) hxz2 (fun g hg e => by have := HVY.out g hg; omega) 1 (.int .i64 ((cur.n : Int) + 1))
              generalize (((w10.setCell ⟨w7.heap.size, 0, none⟩ (.int .u32 ((cur.a ||| 2 ^ (31 - cur.n) : Nat) : Int))).setCell ⟨w7.heap.size, 1, none⟩ (.int .i64 ((cur.n : Int) + 1))).setCell ⟨w8.heap.size, 0, none⟩ (.int .u32 (cur.a : Int))).setCell ⟨w8.heap.size, 1, none⟩ (.int .i64 ((cur.n : Int) + 1)) = w11 at *
              have hge := HGO.out
              rw [hbl, if_pos rfl] at hge
              have hco := low_ok HCO.out hc32
              have hcn : cur.low.n + d = 32 := by simp only [Pn.low]; omega
              generalize cur.high = o at *
              generalize cur.low = c2p at *
              have HGE := Lib.hid hge
              have HCO2 := Lib.hid hco
              have HCN := Lib.hid hcn
              have hbd : Below w11.heap.size w11 w11.drew := (Below.refl _ w11).drew
              have HYB := Lib.hid (hY11.next hbd)
              have HZB2 := Lib.hid (hZ11.next hbd)
              have HLB := Lib.hid (hL11.next hbd)
              have hyl := lt_of_block (hY11.next hbd)
              have hzl := lt_of_block (hZ11.next hbd)
              have hN := HLN.out
              rw [HGE.out, List.length_cons] at hN
              clear hge hco hcn hbd hY11 hZ11 hL11 c1 c2 c3 c4
              generalize hwd : w11.drew = wd at *
              have c1 := HYB.out.cells
              have c2 := HZB2.out.cells
              have c3 := HLB.out.bx.cells
              have e1 := (HZB2.out.next ((Below.refl wd.heap.size wd).alloc (Nat.le_refl _) (.cells #[.int .u32 (o.a : Int), .int .i64 (o.n : Int)] 24))).cells
              go_region_law (refine step_append_lies _ rfl (.tmp 47) (.tmp 49) 85 rfl (w.heap.size + 1) 24 i0 _ 2 16 Try.underlying85 hi hz0 hz1 hz2 rfl (by decide) _ out.length (pnCells out) rfl ?_ ⟨wd.heap.size, 0, none⟩ 1 1 [.int .u32 (o.a : Int), .int .i64 (o.n : Int)] rfl rfl ?_ ?_ (by omega) ?_ ?_ ?_ _ rfl ?_; (· exact own_kept HLB.out.own ((Kept.refl [] _).alloc _) (by simp)); (· exact news_at (by simp)); (· simp [Value.oneCell']); (· unfold maxLen; omega); (· omega); (· have := HLB.out.base; simp; omega); intro g9 cap9 w9 how9 hgr9 hat9 hlt9; have HOW9 := Lib.hid how9; have HGR9 := Lib.hid hgr9; have HAT9 := Lib.hid hat9; have hz9 : PB w9 w8.heap.size c2p := (hgr9.block w8.heap.size (by simp; omega) (fun e => by have := HVY.out _ e.symm; omega)).trans (blk_alloc HZB2.out _); have hx9 : PB w9 xx cur := (hgr9.block xx (by simp; omega) (fun e => HLB.out.apart _ e.symm rfl)).trans (blk_alloc HLB.out.bx _); have f1 := hz9.cells; have f2 := hx9.cells; have HX9 := Lib.hid hx9; clear how9 hgr9 hat9 hlt9 hz9 hx9)
              all_goals
                go_wp2_with (fail)
                go_roundg d
                case measure => omega
                case rel =>
                  refine ⟨c2p, acc ++ [o], HCN.out, HCO2.out, by rw [HLE.out, HGE.out]; simp, ?_⟩
                  rw [← List.append_assoc, HOUT.out]
                  exact LK.close HLB.out HX9.out HOW9.out HGR9.out HAT9.out rfl
            | false =>
              rw [hbl] at he
              subst he
              go_upto_region 10 with (fail)
              have hY11 : PB w10 w7.heap.size cur.low := HY10.out
              have hZ11 : PB w10 w8.heap.size cur.high := HZ10.out
              have hL11 := HL10.out
              generalize w10 = w11 at *
              have hge := HGO.out
              rw [hbl, if_neg (by simp)] at hge
              have hco := high_ok HCO.out hc32
              have hcn : cur.high.n + d = 32 := by simp only [Pn.high]; omega
              generalize cur.high = c2p at *
              generalize cur.low = o at *
              have HGE := Lib.hid hge
              have HCO2 := Lib.hid hco
              have HCN := Lib.hid hcn
              have hbd : Below w11.heap.size w11 w11.drew := (Below.refl _ w11).drew
              have HYB := Lib.hid (hY11.next hbd)
              have HZB2 := Lib.hid (hZ11.next hbd)
              have HLB := Lib.hid (hL11.next hbd)
              have hyl := lt_of_block (hY11.next hbd)
              have hzl := lt_of_block (hZ11.next hbd)
              have hN := HLN.out
              rw [HGE.out, List.length_cons] at hN
              clear hge hco hcn hbd hY11 hZ11 hL11 c1 c2 c3 c4
              generalize hwd : w11.drew = wd at *
              have c1 := HYB.out.cells
              have c2 := HZB2.out.cells
              have c3 := HLB.out.bx.cells
              have e1 := (HZB2.out.next ((Below.refl wd.heap.size wd).alloc (Nat.le_refl _) (.cells #[.int .u32 (o.a : Int), .int .i64 (o.n : Int)] 24))).cells
              go_region_law (refine step_append_lies _ rfl (.tmp 47) (.tmp 49) 85 rfl (w.heap.size + 1) 24 i0 _ 2 16 Try.underlying85 hi hz0 hz1 hz2 rfl (by decide) _ out.length (pnCells out) rfl ?_ ⟨wd.heap.size, 0, none⟩ 1 1 [.int .u32 (o.a : Int), .int .i64 (o.n : Int)] rfl rfl ?_ ?_ (by omega) ?_ ?_ ?_ _ rfl ?_; (· exact own_kept HLB.out.own ((Kept.refl [] _).alloc _) (by simp)); (· exact news_at (by simp)); (· simp [Value.oneCell']); (· unfold maxLen; omega); (· omega); (· have := HLB.out.base; simp; omega); intro g9 cap9 w9 how9 hgr9 hat9 hlt9; have HOW9 := Lib.hid how9; have HGR9 := Lib.hid hgr9; have HAT9 := Lib.hid hat9; have hz9 : PB w9 w8.heap.size c2p := (hgr9.block w8.heap.size (by simp; omega) (fun e => by have := HVY.out _ e.symm; omega)).trans (blk_alloc HZB2.out _); have hx9 : PB w9 xx cur := (hgr9.block xx (by simp; omega) (fun e => HLB.out.apart _ e.symm rfl)).trans (blk_alloc HLB.out.bx _); have f1 := hz9.cells; have f2 := hx9.cells; have HX9 := Lib.hid hx9; clear how9 hgr9 hat9 hlt9 hz9 hx9)
              all_goals
                go_wp2_with (fail)
                go_roundg d
                case measure => omega
                case rel =>
                  refine ⟨c2p, acc ++ [o], HCN.out, HCO2.out, by rw [HLE.out, HGE.out]; simp, ?_⟩
                  rw [← List.append_assoc, HOUT.out]
                  exact LK.close HLB.out HX9.out HOW9.out HGR9.out HAT9.out rfl
    · obtain rfl : i = l.length := by omega
      go_wp2_with (fail)
      have how := HO.out
      rw [List.take_length] at how
      exact bodyPost_ret (v := u5) (by simp [results, Try.results67, go_sem]) rfl ⟨_, rfl, how.mono (by omega), HK.out⟩
end Go.Proofs.Ytiedhjmnjpkcoaa
