/- The walks of New, Cube and Var. -/
import Derived.Test.YtakgghhmecphmaaCut
namespace Go.Proofs.Ytakgghhmecphmaa
set_option linter.unusedVariables false
set_option linter.unusedSimpArgs false
open Go.RowKit Go.Maps

/-- A new arena. -/
def newF (most : Nat) : Arn := ⟨[⟨104, 0, 0⟩, ⟨104, 0, 0⟩], most⟩
theorem newF_ok {most : Nat} (h2 : 2 ≤ most) (hm : most ≤ 262144) : (newF most).OK := by
  refine ⟨by simp [newF], by simp [newF]; omega, hm, rfl, rfl, by simp [newF], ?_⟩
  intro i n hi hn
  have := (List.getElem?_eq_some_iff.1 hn).1
  simp [newF] at this
  omega

theorem blk_new {w : World} {o : Obj} {k : Nat} (h : k = w.heap.size) : (w.alloc o).heap[k]? = some o := by
  subst h
  exact heap_alloc_new w o

theorem new_calls (w : World) (most : Nat) (h2 : 2 ≤ most) (hm : most ≤ 262144) : Calls Try.prog 17 #[.int .i64 (most : Int)] w fun e w' =>
    ∃ p g mb, e = .returned (.tuple #[.pointer (some ⟨p, 0, none⟩), .int .i64 0]) ∧ w.heap.size ≤ p ∧ w.heap.size ≤ g ∧ w.heap.size ≤ mb ∧ ArenaAt w' p g mb (newF most) ∧ Below w.heap.size w w' := by
  have hmm := @run_makeMap Try.prog
  go_enter Try.func17, Try.ntmps17
  go_wp2
  go_ret2
  refine ⟨w.heap.size + 3, w.heap.size + 1, w.heap.size + 2, rfl, by omega, by omega, by omega, ⟨2, 0, ?_, ?_, ?_⟩, ?_⟩
  · exact blk_new (by simp)
  · refine ⟨by rw [ndCells_length], Or.inr ⟨w.heap.size + 1, 2, _, rfl, by omega, blk_alloc (blk_alloc (blk_new (by simp)) _) _, by simp [newF], by simp [maxLen], by simp, ?_⟩⟩
    simp [newF, ndCells]
  · have m := IsMapOf.made ((w.alloc (.cells #[.int .i64 104, .int .i64 0, .int .i64 0] 94)).alloc (.cells #[.int .i64 104, .int .i64 0, .int .i64 0, .int .i64 104, .int .i64 0, .int .i64 0] 94)) Try.prog 94 ndv nat64
    have m2 := m.congr (g := findF (newF most).nodes) (fun x => by simp [findF, newF])
    simp only [World.size_alloc] at m2
    exact m2.of_block (by rw [Below.heap_alloc _ _ _ (by simp)])
  · exact ((((Below.refl _ _).alloc (Nat.le_refl _) _).alloc (by simp) _).alloc (by simp; omega) _).alloc (by simp; omega) _

theorem new_bad (w : World) (most : Int) (h : most < 2 ∨ 262144 < most) : Calls Try.prog 17 #[.int .i64 most] w fun e w' => e = .returned (.tuple #[.pointer none, .int .i64 1]) ∧ w = w' := by
  rcases h with h | h
  · go_enter Try.func17, Try.ntmps17
    go_wp2
    go_ret2
    exact ⟨rfl, rfl⟩
  · have h' : ¬ most < 2 := by omega
    go_enter Try.func17, Try.ntmps17
    go_wp2
    go_ret2
    exact ⟨rfl, rfl⟩

def ltCells (l : List (Int × Bool)) : List Value := l.flatMap fun x => [.int .i64 x.1, .bool x.2]
theorem ltCells_length (l : List (Int × Bool)) : (ltCells l).length = l.length * 2 := by
  induction l with
  | nil => rfl
  | cons x l ih =>
    rw [show ltCells (x :: l) = [.int .i64 x.1, .bool x.2] ++ ltCells l from rfl, List.length_append, ih]
    simp
    omega
theorem ltCells_at {l : List (Int × Bool)} {i : Nat} {x : Int × Bool} (h : l[i]? = some x) : (ltCells l)[i * 2]? = some (.int .i64 x.1) ∧ (ltCells l)[i * 2 + 1]? = some (.bool x.2) := by
  induction l generalizing i with
  | nil => simp at h
  | cons y l ih =>
    have e : ltCells (y :: l) = [.int .i64 y.1, .bool y.2] ++ ltCells l := rfl
    cases i with
    | zero =>
      obtain rfl : y = x := by simpa using h
      rw [e]
      simp
    | succ i =>
      have key : ∀ j, ([Value.int .i64 y.1, .bool y.2] ++ ltCells l)[2 + j]? = (ltCells l)[j]? := by
        intro j
        rw [List.getElem?_append_right (by simp)]
        congr 1
        simp
      rw [e, show (i + 1) * 2 = 2 + i * 2 by omega, show 2 + i * 2 + 1 = 2 + (i * 2 + 1) by omega, key, key]
      exact ih (by simpa using h)

/-- A list of bits in memory: n of them from ⟨b, off⟩ on. -/
def LitsAt (w : World) (b off : Nat) (l : List (Int × Bool)) : Prop := ∀ j u, (ltCells l)[j]? = some u → w.cell? ⟨b, off + j, none⟩ = some u
theorem LitsAt.at_ {w : World} {b off : Nat} {l : List (Int × Bool)} (h : LitsAt w b off l) {i : Nat} {x : Int × Bool} (hx : l[i]? = some x) :
    w.cell? ⟨b, off + i * 2, none⟩ = some (.int .i64 x.1) ∧ w.cell? ⟨b, off + i * 2 + 1, none⟩ = some (.bool x.2) :=
  ⟨h _ _ (ltCells_at hx).1, by rw [Nat.add_assoc]; exact h _ _ (ltCells_at hx).2⟩
theorem LitsAt.kept {w w' : World} {S : List Nat} {b off : Nat} {l : List (Int × Bool)} (h : LitsAt w b off l) (k : Kept S w w') (hb : b ∉ S) : LitsAt w' b off l :=
  fun j u hu => k.cell (h j u hu) hb

theorem cube_empty {w : World} {p g mb : Nat} {A : Arn} (h : ArenaAt w p g mb A) (v : Option Addr) (cap : Nat) : Calls Try.prog 22 #[.pointer (some ⟨p, 0, none⟩), .slice v 0 cap] w fun e w' => e = .returned (resV (some 1)) ∧ w = w' := by
  have HL := Lib.hid (len_calls h)
  clear h
  go_enter Try.func22, Try.ntmps22
  go_wp2
  refine wp_loop_rounds 1 ?_
  rw [rounds_succ]
  go_wp2_with (go_at_call 30; refine HL.out.mono ?_; rintro e w' ⟨rfl, rfl⟩)
  refine wp_loop_rounds 1 ?_
  rw [rounds_succ]
  go_wp2
  go_ret2
  exact ⟨rfl, rfl⟩

set_option maxRecDepth 100000 in
set_option maxHeartbeats 1000000 in
theorem cube_calls {w : World} {p g mb : Nat} {A : Arn} (h : ArenaAt w p g mb A) (hOK : A.OK) (b off cap n : Nat) (l : List (Nat × Bool)) (hn : l.length = n) (hnm : n ≤ 104) (h0 : 0 < n) (hR : Rise l) (hL : LitsAt w b off (l.map fun x => ((x.1 : Int), x.2))) (hbp : b ≠ p) (hbg : b ≠ g) (hbm : b ≠ mb) :
    Calls Try.prog 22 #[.pointer (some ⟨p, 0, none⟩), .slice (some ⟨b, off, none⟩) n cap] w (ArenaPost w p g mb (cubeF A l).1 (cubeF A l).2) := by
  have hlit : ∀ i, i < n → ∃ x : Nat × Bool, l[i]? = some x ∧ x.1 < 104 ∧ (0 < i → ∃ y : Nat × Bool, l[i - 1]? = some y ∧ y.1 < x.1) := by
    intro i hi
    have hx : l[i]? = some (l[i]'(by omega)) := List.getElem?_eq_getElem (by omega)
    refine ⟨_, hx, hR.lt _ (List.getElem_mem _), fun h1 => ⟨l[i - 1]'(by omega), List.getElem?_eq_getElem (by omega), ?_⟩⟩
    exact List.pairwise_iff_getElem.1 hR.up (i - 1) i (by omega) (by omega) (by omega)
  have HA := Lib.hid h
  have HO := Lib.hid hOK
  have HL := Lib.hid hL
  have HR := Lib.hid hR
  have HX := Lib.hid hlit
  have HN := Lib.hid hn
  clear h hOK hL hR hlit hn
  go_enter Try.func22, Try.ntmps22
  go_wp2
  go_loopw [18] (fun i wr => ∃ k : Nat, k ≤ n ∧ i = .int .i64 (k : Int) ∧ Kept [] w wr) (fun i _ => n - (intOf i).toNat)
  case atStart => exact ⟨0, Nat.zero_le _, rfl, Kept.refl _ _⟩
  case round =>
    obtain ⟨k, hk, rfl, hK⟩ := hrel
    have HK := Lib.hid hK
    clear hK
    by_cases hlt : k < n
    · obtain ⟨x, hx, hx4, hx0⟩ := HX.out k hlt
      obtain ⟨k0, k1⟩ := (HL.out.kept HK.out (by simp)).at_ (i := k) (x := ((x.1 : Int), x.2)) (by simp [hx])
      simp only at k0 k1
      have t1 : decide ((x.1 : Int) < 0) = false := decide_eq_false (by omega)
      have t2 : decide ((104 : Int) ≤ (x.1 : Int)) = false := decide_eq_false (by omega)
      have hz0 : 0 ≤ (x.1 : Int) := by omega
      by_cases hkz : k = 0
      · generalize (x.1 : Int) = xv at *
        generalize x.2 = xo at *
        subst hkz
        simp at k0 k1
        clear hx0 hx hx4
        go_wp2
        go_quiet (fail)
        go_wp2
        go_roundw
        case rel => exact ⟨1, by omega, by go_num, (HK.out.alloc _).drewN _⟩
        case measure => simp [intOf]; omega
      · obtain ⟨y, hy, hyx⟩ := hx0 (by omega)
        obtain ⟨j, rfl⟩ : ∃ j, k = j + 1 := ⟨k - 1, by omega⟩
        obtain ⟨y0, y1⟩ := (HL.out.kept HK.out (by simp)).at_ (i := j) (x := ((y.1 : Int), y.2)) (by rw [List.getElem?_map, show j = j + 1 - 1 by omega, hy]; rfl)
        simp only at y0 y1
        have hbz : b < wr.heap.size := World.block_lt_of_cell? wr _ y0
        have t3 : decide ((x.1 : Int) ≤ (y.1 : Int)) = false := decide_eq_false (by omega)
        have hjn : (j : Int) < n := by omega
        have hj0 : 0 < j + 1 := by omega
        have hw : IntKind.i64.wrap (j : Int) = (j : Int) := IntWalk.i64_in _ (by omega)
        generalize (x.1 : Int) = xv at *
        generalize x.2 = xo at *
        generalize (y.1 : Int) = yv at *
        clear hx0 hx hx4 hyx hy
        go_wp2
        go_quiet (fail)
        go_wp2
        go_roundw
        case rel => exact ⟨j + 2, by omega, by go_num, (HK.out.alloc _).drewN _⟩
        case measure => simp [intOf]; omega
    · obtain rfl : k = n := by omega
      have HLn := Lib.hid (len_calls (HA.out.kept HK.out (by simp) (by simp) (by simp)))
      go_wp2_with (go_at_call 30; refine HLn.out.mono ?_; rintro e w' ⟨rfl, rfl⟩)
      have HKm := Lib.hid (Kept.mono (S' := [p, g, mb]) HK.out (by simp))
      generalize hww : wr = w1 at *
      clear hww
      go_loopw [9, 10] (fun vf vi wr => ∃ (j f g' : Nat) (A' : Arn), j ≤ k ∧ vi = .int .i64 ((j : Int) - 1) ∧ vf = .int .i64 (f : Int) ∧ (g' = g ∨ w.heap.size ≤ g') ∧ ArenaAt wr p g' mb A' ∧ Kept [p, g, mb] w wr ∧ A'.OK ∧ Ext A A' ∧ f < A'.nodes.length ∧ cubeGo A 1 l.reverse = cubeGo A' f (l.take j).reverse ∧ (∀ x ∈ l.take j, x.1 < A'.lv f)) (fun _ i _ => (intOf i + 1).toNat)
      case atStart =>
        have h1 := HO.out.two
        exact ⟨k, 1, g, A, Nat.le_refl _, rfl, rfl, Or.inl rfl, HA.out.kept HK.out (by simp) (by simp) (by simp), HKm.out, HO.out, Ext.refl A, by omega, by rw [List.take_of_length_le (by rw [HN.out]; exact Nat.le_refl _)], fun x hx => by rw [HO.out.lv_one]; exact HR.out.lt x (List.mem_of_mem_take hx)⟩
      case round =>
        obtain ⟨j, f, g', A', hj, rfl, rfl, hg', hA', hK', hO', hE', hf', hgo, hlv⟩ := hrel
        have HA' := Lib.hid hA'
        have HK' := Lib.hid hK'
        have HO' := Lib.hid hO'
        have HE' := Lib.hid hE'
        have HG' := Lib.hid hgo
        have HV' := Lib.hid hlv
        clear hA' hK' hO' hE' hgo hlv
        cases j with
        | zero =>
          have e0 : decide (((0 : Nat) : Int) - 1 ≥ 0) = false := rfl
          go_wp2
          go_ret2
          have := HG'.out
          simp only [List.take_zero, List.reverse_nil, cubeGo] at this
          have e : cubeF A l = (some f, A') := by unfold cubeF; rw [this]
          rw [e]
          exact ⟨rfl, g', hg', HA'.out, HK'.out⟩
        | succ i =>
          obtain ⟨x, hx, hx4, hx0⟩ := HX.out i (by omega)
          obtain ⟨k0, k1⟩ := (HL.out.kept HK'.out (by simp [hbp, hbg, hbm])).at_ (i := i) (x := ((x.1 : Int), x.2)) (by simp [hx])
          simp only at k0 k1
          have hlen' := Nat.le_trans HO'.out.len HO'.out.most
          have htk : (l.take (i + 1)).reverse = x :: (l.take i).reverse := by rw [List.take_add_one, hx]; simp
          have hxm : x ∈ l.take (i + 1) := by rw [List.take_add_one, hx]; simp
          have hup : ∀ y ∈ l.take i, y.1 < x.1 := by
            have h1 := HR.out.up
            have h2 := h1.sublist (List.take_sublist (i + 1) l)
            rw [List.take_add_one, hx] at h2
            simp only [Option.toList_some] at h2
            exact fun y hy => (List.pairwise_append.1 h2).2.2 y hy x (by simp)
          have hup := Lib.hid hup
          clear hx hx0
          rcases hb : x.2 with _ | _
          · have M := Lib.hid (show Calls Try.prog 55 #[.pointer (some ⟨p, 0, none⟩), .int .i64 (x.1 : Int), .int .i64 ((f : Int)), .int .i64 (0)] wr (ArenaPost wr p g' mb (mkF A' x.1 f 0).1 (mkF A' x.1 f 0).2) from mk_calls HA'.out HO'.out x.1 f 0 (by omega) (by omega) (by omega))
            obtain ⟨m1, m2, m3⟩ := mkF_step (on := false) HO'.out hf' hx4 (HV'.out x hxm)
            simp only [if_true, Bool.false_eq_true, if_false] at m1 m2 m3
            have hgo2 : cubeGo A 1 l.reverse = match mkF A' x.1 f 0 with | (none, B) => (none, B) | (some f', B) => cubeGo B f' (l.take i).reverse := by
              rw [HG'.out, htk]
              simp only [cubeGo]
              rw [hb]
              rfl
            rcases hm : mkF A' x.1 f 0 with ⟨r, B⟩
            rw [hm] at m1 m2 m3 M hgo2
            cases r with
            | none =>
              have HR2 := Lib.hid hgo2
              have HB := Lib.hid m1
              have HE := Lib.hid (HE'.out.trans m2)
              rw [hb] at k1
              clear hm m1 m2 m3 hgo2 htk hxm hb
              go_wp2_with (fail)
              refine M.out.mono ?_
              rintro e w2 ⟨rfl, g2, hg2, A2, K2⟩
              have C := Lib.hid (cut_calls A2 HB.out (A.nodes.length : Int) A.nodes.length (by have := HO.out.two; omega))
              have hg2z : g2 = g ∨ w.heap.size ≤ g2 := by have := HK'.out.size; rcases hg2 with h' | h' <;> omega
              have K2' := Lib.hid (HK'.out.trans K2 (by simp; omega))
              clear A2 K2
              simp only [resV, Option.getD_none, Option.isSome_none, Bool.false_eq_true, if_false]
              go_wp2_with (go_at_call 41; refine C.out.mono ?_; rintro e w3 ⟨rfl, A3, K3⟩; have A3 := Lib.hid A3; have K3 := Lib.hid K3)
              go_ret2
              have e : cubeF A l = (none, A) := by unfold cubeF; rw [HR2.out]
              have ec : upTo B A.nodes.length = A := HE.out.cut HO.out.two
              rw [e]
              refine ⟨rfl, g2, hg2z, ?_, K2'.out.trans K3.out (by simp; omega)⟩
              have A3' := A3.out
              rw [ec] at A3'
              exact A3'
            | some f2 =>
              obtain ⟨n1, n2⟩ := m3 f2 rfl
              have HR2 := Lib.hid hgo2
              have HB := Lib.hid m1
              have HE := Lib.hid (HE'.out.trans m2)
              have hlv2 := Lib.hid (show ∀ y ∈ l.take i, y.1 < B.lv f2 from fun y hy => Nat.lt_of_lt_of_le (hup.out y hy) n2)
              rw [hb] at k1
              clear hm m1 m2 m3 hgo2 htk hxm hb n2
              go_wp2_with (fail)
              refine M.out.mono ?_
              rintro e w2 ⟨rfl, g2, hg2, A2, K2⟩
              have hg2z : g2 = g ∨ w.heap.size ≤ g2 := by have := HK'.out.size; rcases hg2 with h' | h' <;> omega
              have K2' := Lib.hid (HK'.out.trans K2 (by simp; omega))
              have A2 := Lib.hid A2
              clear K2 hg2
              simp only [resV, Option.getD_some, Option.isSome_some, if_true]
              go_wp2
              go_roundw
              case rel => exact ⟨i, f2, g2, B, by omega, by go_num, rfl, hg2z, A2.out, K2'.out, HB.out, HE.out, n1, HR2.out, hlv2.out⟩
              case measure => simp [intOf]
          · have M := Lib.hid (show Calls Try.prog 55 #[.pointer (some ⟨p, 0, none⟩), .int .i64 (x.1 : Int), .int .i64 (0), .int .i64 ((f : Int))] wr (ArenaPost wr p g' mb (mkF A' x.1 0 f).1 (mkF A' x.1 0 f).2) from mk_calls HA'.out HO'.out x.1 0 f (by omega) (by omega) (by omega))
            obtain ⟨m1, m2, m3⟩ := mkF_step (on := true) HO'.out hf' hx4 (HV'.out x hxm)
            simp only [if_true, Bool.false_eq_true, if_false] at m1 m2 m3
            have hgo2 : cubeGo A 1 l.reverse = match mkF A' x.1 0 f with | (none, B) => (none, B) | (some f', B) => cubeGo B f' (l.take i).reverse := by
              rw [HG'.out, htk]
              simp only [cubeGo]
              rw [hb]
              rfl
            rcases hm : mkF A' x.1 0 f with ⟨r, B⟩
            rw [hm] at m1 m2 m3 M hgo2
            cases r with
            | none =>
              have HR2 := Lib.hid hgo2
              have HB := Lib.hid m1
              have HE := Lib.hid (HE'.out.trans m2)
              rw [hb] at k1
              clear hm m1 m2 m3 hgo2 htk hxm hb
              go_wp2_with (fail)
              refine M.out.mono ?_
              rintro e w2 ⟨rfl, g2, hg2, A2, K2⟩
              have C := Lib.hid (cut_calls A2 HB.out (A.nodes.length : Int) A.nodes.length (by have := HO.out.two; omega))
              have hg2z : g2 = g ∨ w.heap.size ≤ g2 := by have := HK'.out.size; rcases hg2 with h' | h' <;> omega
              have K2' := Lib.hid (HK'.out.trans K2 (by simp; omega))
              clear A2 K2
              simp only [resV, Option.getD_none, Option.isSome_none, Bool.false_eq_true, if_false]
              go_wp2_with (go_at_call 41; refine C.out.mono ?_; rintro e w3 ⟨rfl, A3, K3⟩; have A3 := Lib.hid A3; have K3 := Lib.hid K3)
              go_ret2
              have e : cubeF A l = (none, A) := by unfold cubeF; rw [HR2.out]
              have ec : upTo B A.nodes.length = A := HE.out.cut HO.out.two
              rw [e]
              refine ⟨rfl, g2, hg2z, ?_, K2'.out.trans K3.out (by simp; omega)⟩
              have A3' := A3.out
              rw [ec] at A3'
              exact A3'
            | some f2 =>
              obtain ⟨n1, n2⟩ := m3 f2 rfl
              have HR2 := Lib.hid hgo2
              have HB := Lib.hid m1
              have HE := Lib.hid (HE'.out.trans m2)
              have hlv2 := Lib.hid (show ∀ y ∈ l.take i, y.1 < B.lv f2 from fun y hy => Nat.lt_of_lt_of_le (hup.out y hy) n2)
              rw [hb] at k1
              clear hm m1 m2 m3 hgo2 htk hxm hb n2
              go_wp2_with (fail)
              refine M.out.mono ?_
              rintro e w2 ⟨rfl, g2, hg2, A2, K2⟩
              have hg2z : g2 = g ∨ w.heap.size ≤ g2 := by have := HK'.out.size; rcases hg2 with h' | h' <;> omega
              have K2' := Lib.hid (HK'.out.trans K2 (by simp; omega))
              have A2 := Lib.hid A2
              clear K2 hg2
              simp only [resV, Option.getD_some, Option.isSome_some, if_true]
              go_wp2
              go_roundw
              case rel => exact ⟨i, f2, g2, B, by omega, by go_num, rfl, hg2z, A2.out, K2'.out, HB.out, HE.out, n1, HR2.out, hlv2.out⟩
              case measure => simp [intOf]

end Go.Proofs.Ytakgghhmecphmaa
