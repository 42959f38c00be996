/- The walk of the document's Counts. -/
import Derived.Test.YtakgghhmecphmaaCountsH
namespace Go.Proofs.Ytakgghhmecphmaa
set_option linter.unusedVariables false
set_option linter.unusedSimpArgs false
open Go.RowKit Go.Maps

def ctW (l : List Ex) (v : List Nat) : List Nat := (List.range l.length).map fun i => cntW l v i (2 ^ v.length) * 2 ^ (104 - v.length)
/-- What the document's Counts leaves. -/
def CountsPost (w : World) (l : List Ex) (v : List Nat) (e : Ending) (w' : World) : Prop :=
  ∃ ob lb sb, e = .returned (.tuple #[.slice (some ⟨ob, 0, none⟩) l.length l.length, .slice (some ⟨lb, 0, none⟩) l.length l.length, .slice (some ⟨sb, 0, none⟩) l.length l.length]) ∧
    RowK 85 2 ctC w' ob (ctW l v) ∧ RowK 25 5 hdC w' lb (rowG l.length (hdW l v) (2 ^ v.length) 0) ∧ RowK 4 1 boolC w' sb (rowG l.length (fun i k => (oneW l v i k).isSome) (2 ^ v.length) 0) ∧ Below w.heap.size w w'
/-- The three rows: how many, the least, whether some. -/
structure Rows3 (w : World) (nb lb sb : Nat) (l : List Ex) (v : List Nat) (k j : Nat) : Prop where
  n : RowK 3 1 intC w nb (rowG l.length (cntW l v) k j)
  h : RowK 25 5 hdC w lb (rowG l.length (hdW l v) k j)
  s : RowK 4 1 boolC w sb (rowG l.length (fun i k => (oneW l v i k).isSome) k j)
theorem Rows3.kept {w w' : World} {nb lb sb : Nat} {l : List Ex} {v : List Nat} {k j : Nat} {S : List Nat} (h : Rows3 w nb lb sb l v k j) (hk : Kept S w w') (h1 : nb ∉ S) (h2 : lb ∉ S) (h3 : sb ∉ S) : Rows3 w' nb lb sb l v k j :=
  ⟨h.n.kept hk h1, h.h.kept hk h2, h.s.kept hk h3⟩
theorem rowG_zero {α : Type} {n : Nat} {G : Nat → Nat → α} {x : α} (h : ∀ i, G i 0 = x) : List.replicate n x = rowG n G 0 0 := by
  apply List.ext_getElem?
  intro i
  rw [List.getElem?_replicate]
  by_cases hi : i < n
  · rw [if_pos hi, rowG_get hi, if_neg (by omega), h]
  · rw [if_neg hi, List.getElem?_eq_none (by rw [rowG_length]; omega)]

theorem one_has {l : List Ex} {v : List Nat} {j k : Nat} (h : hasW l v j k = true) (ho : oneW l v j k = none) : oneW l v j (k + 1) = some k := by
  rw [oneW_succ, ho]
  simp [h]
theorem one_keep {l : List Ex} {v : List Nat} {j k : Nat} (h : hasW l v j k = false ∨ (oneW l v j k).isSome = true) : oneW l v j (k + 1) = oneW l v j k := by
  rw [oneW_succ]
  cases e : oneW l v j k with
  | some w => rfl
  | none =>
    rw [e] at h
    rcases h with h | h
    · simp [h]
    · cases h
theorem hd_keep {l : List Ex} {v : List Nat} {j k : Nat} (h : oneW l v j (k + 1) = oneW l v j k) : hdW l v j (k + 1) = hdW l v j k := by
  unfold hdW
  rw [h]
set_option maxRecDepth 100000 in
set_option maxHeartbeats 16000000 in
theorem counts_calls (w : World) (ao : Option Addr) (cap : Nat) (l : List Ex) (hv : ExsV w ao l) (hcap : 0 < l.length → l.length ≤ cap ∧ cap ≤ maxLen) (hR : ∀ i x, l[i]? = some x → ¬ BadE x i) (hl : l.length ≤ 30) (hm : (varsF (askB l) 104).length ≤ 7) :
    Calls Try.prog 46 #[.slice ao l.length cap] w (CountsPost w l (varsF (askB l) 104)) := by
  have HV := Lib.hid hv
  have HCAP := Lib.hid hcap
  have HR := Lib.hid hR
  have HVC := Lib.hid (vars_calls w ao cap l hv hR (by omega))
  unfold VarsPost at HVC
  rw [← varsF_range] at HVC
  have HND := Lib.hid (varsF_nodup (askB l) 104)
  have HLT : Hid (∀ x ∈ varsF (askB l) 104, x < 104) := Lib.hid (fun x hx => (varsF_mem.1 hx).1)
  clear hv hcap hR
  generalize varsF (askB l) 104 = v at *
  have hmk1 := make_ints l.length (by omega)
  rw [Nat.mul_one] at hmk1
  have hmk2 := make_hds l.length (by omega)
  have hmk3 := make_bools l.length (by omega)
  rw [Nat.mul_one] at hmk3
  go_enter Try.func46, Try.ntmps46
  go_wp2_with (fail)
  refine Calls.mono HVC.out ?_
  rintro e w1 ⟨vo, he, how, k1⟩
  obtain ⟨av, cpv, rfl, hav⟩ : ∃ av cpv, vo = .slice av v.length cpv ∧ ∀ i, i < v.length → ∃ g, av = some ⟨g, 0, none⟩ ∧ ∀ X, Kept [] w1 X → X.cell? ⟨g, i, none⟩ = some (nat64 (v.getD i 0)) := by
    rcases how.2 with ⟨h0, h1⟩ | ⟨g', cap', cur, h0, _⟩
    · exact ⟨none, 0, by rw [h0, h1], fun i hi => by omega⟩
    · refine ⟨_, cap', h0, fun i hi => ⟨g', rfl, fun X kX => ?_⟩⟩
      rw [h0] at how
      have := (own_kept how kX (by simp)).cellAt (i * 1) (by simpa using hi)
      rw [Nat.mul_one, List.getElem?_map, List.getElem?_eq_getElem hi] at this
      rw [this, List.getD_eq_getElem?_getD, List.getElem?_eq_getElem hi]
      rfl
  subst he
  have HAV := Lib.hid hav
  have HK1 := Lib.hid k1
  clear how k1 hav HVC
  have hn1 := RowK.made (k := 1) (T := 3) (c := intC) w1 l.length 0 rfl (by omega)
  rw [Nat.mul_one] at hn1
  have ka := (Below.refl w1.heap.size w1).alloc (Nat.le_refl _) (.cells (madeCells (intC 0).toArray l.length) 3)
  have HA := Lib.hid ka
  have HN1 := Lib.hid hn1
  clear hn1 ka
  go_upto_region 3 with (fail)
  clear hmk1
  generalize w1.alloc (.cells (madeCells (intC 0).toArray l.length) 3) = w2 at *
  have hh1 := RowK.made (k := 5) (T := 25) (c := hdC) w2 l.length hdZ rfl (by omega)
  have kb := (Below.refl w2.heap.size w2).alloc (Nat.le_refl _) (.cells (madeCells (hdC hdZ).toArray (l.length * 5)) 25)
  have HN2 := Lib.hid (HN1.out.kept (Kept.of_below (S := []) kb) (by simp))
  have HB := Lib.hid kb
  have HH2 := Lib.hid hh1
  have hl1 := HN1.out.lt
  clear hh1 kb
  go_upto_region 4 with (fail)
  clear hmk2
  generalize w2.alloc (.cells (madeCells (hdC hdZ).toArray (l.length * 5)) 25) = w3 at *
  have hs1 := RowK.made (k := 1) (T := 4) (c := boolC) w3 l.length false rfl (by omega)
  rw [Nat.mul_one] at hs1
  have kc := (Below.refl w3.heap.size w3).alloc (Nat.le_refl _) (.cells (madeCells (boolC false).toArray l.length) 4)
  have HN3 := Lib.hid (HN2.out.kept (Kept.of_below (S := []) kc) (by simp))
  have HH3 := Lib.hid (HH2.out.kept (Kept.of_below (S := []) kc) (by simp))
  have HC := Lib.hid kc
  have HS3 := Lib.hid hs1
  have hl2 := HH2.out.lt
  clear hs1 kc
  go_upto_region 5 with (fail)
  clear hmk3
  generalize w3.alloc (.cells (madeCells (boolC false).toArray l.length) 4) = w4 at *
  have HK4 := Lib.hid (HA.out.trans ((HB.out.trans (HC.out.mono HB.out.size)).mono HA.out.size))
  have hne : w1.heap.size ≠ w2.heap.size ∧ w1.heap.size ≠ w3.heap.size ∧ w2.heap.size ≠ w3.heap.size := by have := HB.out.size; omega
  have HNE := Lib.hid hne
  have h0 : ∀ i, cntW l v i 0 = 0 := fun i => rfl
  have h0' : ∀ i, hdW l v i 0 = hdZ := fun i => rfl
  have h0'' : ∀ i, (oneW l v i 0).isSome = false := fun i => rfl
  have HR3 : Hid (Rows3 w4 w1.heap.size w2.heap.size w3.heap.size l v 0 0) := Lib.hid ⟨by rw [← rowG_zero (n := l.length) h0]; exact HN3.out, by rw [← rowG_zero (n := l.length) h0']; exact HH3.out, by rw [← rowG_zero (n := l.length) h0'']; exact HS3.out⟩
  have HSZ : Hid (w.heap.size ≤ w1.heap.size) := Lib.hid HK1.out.size
  have hbl : w1.heap.size < w4.heap.size ∧ w2.heap.size < w4.heap.size ∧ w3.heap.size < w4.heap.size := ⟨HN3.out.lt, HH3.out.lt, HS3.out.lt⟩
  have HBL := Lib.hid hbl
  have HLOW : Hid (w1.heap.size ≤ w2.heap.size ∧ w1.heap.size ≤ w3.heap.size ∧ w1.heap.size ≤ w4.heap.size) := Lib.hid (by omega)
  clear hl1 hl2 hne h0 h0' h0'' hbl
  generalize hnb : w1.heap.size = nb at *
  have HNB := Lib.hid hnb
  clear hnb
  generalize w2.heap.size = lb at *
  generalize w3.heap.size = sb at *
  obtain ⟨P, hP⟩ : ∃ P, P = 2 ^ v.length := ⟨_, rfl⟩
  have hP128 : P ≤ 128 := by
    rw [hP]
    exact Nat.pow_le_pow_right (n := 2) (by omega) hm
  have hshl : IntKind.i64.wrap ((2 : Int) ^ v.length) = (P : Int) := by
    rw [show ((2 : Int) ^ v.length) = (P : Int) by rw [hP]; exact (Int.natCast_pow 2 v.length).symm]
    exact IntWalk.i64_in _ (by omega)
  have HP := Lib.hid hP
  have hmk4 : ∀ W : World, (Instr.makeSlice 35 (.int .i64 104) (.int .i64 104)).run Try.prog W = .ok (.slice (some ⟨W.heap.size, 0, none⟩) 104 104) (W.alloc (.cells (madeCells (boolC false).toArray 104) 4)) := fun W => make_bools 104 (by omega) W
  have hmk5 := make_cts l.length (by omega)
  clear hP
  go_wp2_with (fail)
  go_loopg [9] P (fun gk vi wr => ∃ k : Nat, k + gk = P ∧ vi = .int .i64 (k : Int) ∧ Rows3 wr nb lb sb l v k 0 ∧ Kept [nb, lb, sb] w4 wr)
  case atStart => exact ⟨0, by omega, rfl, HR3.out, Kept.refl _ _⟩
  case round =>
    obtain ⟨k, hgk, rfl, hR3, hK⟩ := hrel
    have HRR := Lib.hid hR3
    have HK := Lib.hid hK
    have HGK := Lib.hid hgk
    have HSW : Hid (w4.heap.size ≤ wr.heap.size) := Lib.hid hK.size
    have HKO : Hid (Kept [] w1 wr) := Lib.hid (by
      have e := HNB.out
      have hk4 : Below w1.heap.size w1 w4 := by rw [e]; exact HK4.out
      refine (Kept.of_below (S := []) hk4).trans hK (fun x hx => Or.inr ?_)
      have := HLOW.out
      simp only [List.mem_cons, List.not_mem_nil, or_false] at hx
      rcases hx with rfl | rfl | rfl <;> omega)
    clear hR3 hK hgk
    by_cases hlt : k < P
    · have hki : (k : Int) < (P : Int) := by omega
      have hk1 : IntKind.i64.wrap ((k : Int) + 1) = (k : Int) + 1 := IntWalk.i64_in _ (by omega)
      have hbb := RowK.made (k := 1) (T := 4) (c := boolC) wr 104 false rfl (by omega)
      rw [Nat.mul_one, ← bitsW_zero v k] at hbb
      have HBB := Lib.hid hbb
      have HKB := Lib.hid ((Kept.refl ([] : List Nat) wr).alloc (.cells (madeCells (boolC false).toArray 104) 4))
      clear hbb
      generalize gk = go at *
      generalize wr = wo at *
      go_upto_region 9 with (fail)
      generalize wo.alloc (.cells (madeCells (boolC false).toArray 104) 4) = wb at *
      have HBX : Hid (w4.heap.size ≤ wo.heap.size) := HSW
      generalize wo.heap.size = bb at *
      clear hmk4
      go_wp2_with (fail)
      go_loopg [11] v.length (fun gk vi wr => ∃ i : Nat, i + gk = v.length ∧ vi = .int .i64 (i : Int) ∧ RowK 4 1 boolC wr bb (bitsW v k i) ∧ Kept [bb] wb wr)
      case atStart => exact ⟨0, by omega, rfl, HBB.out, Kept.refl _ _⟩
      case round =>
        obtain ⟨i, hgi, rfl, hb, hK⟩ := hrel
        have HBI := Lib.hid hb
        have HKI := Lib.hid hK
        have HGI := Lib.hid hgi
        clear hb hK hgi
        by_cases hli : i < v.length
        · obtain ⟨g, rfl, hcv⟩ := HAV.out i hli
          have hx104 := HLT.out _ (List.getElem_mem hli)
          have hvi : v.getD i 0 = v[i] := by rw [List.getD_eq_getElem?_getD, List.getElem?_eq_getElem hli]; rfl
          have HXD := Lib.hid (bitsW_succ HND.out HLT.out k hli)
          have HKX : Hid (Kept [] w1 wr) := Lib.hid ((HKO.out.trans HKB.out (by simp)).trans HKI.out (fun x hx => Or.inr (by rw [List.mem_singleton.1 hx]; have := HNB.out; have := HLOW.out; have := HBX.out; omega)))
          have hgb : g ≠ bb := by
            have h1 := World.block_lt_of_cell? w1 _ (hcv w1 (Kept.refl _ _))
            have := HNB.out
            have := HLOW.out
            have := HBX.out
            simp only at h1
            omega
          have hcx := hcv wr HKX.out
          have hgb2 : bb ≠ g := fun e => hgb e.symm
          rw [hvi] at hcx
          generalize v[i] = x at *
          unfold nat64 at hcx
          have hbx : ∃ old, (bitsW v k i)[x]? = some old := ⟨_, List.getElem?_eq_getElem (by rw [bitsW_length]; exact hx104)⟩
          obtain ⟨old, hold⟩ := hbx
          have hbc := HBI.out.cell hold (j := 0) (u := .bool old) rfl
          have hbf := HBI.out.free x
          rw [Nat.mul_one, Nat.add_zero] at hbc
          have hii : (i : Int) < (v.length : Int) := by omega
          have hi1 : IntKind.i64.wrap ((i : Int) + 1) = (i : Int) + 1 := IntWalk.i64_in _ (by omega)
          have hw1 : IntKind.i64.wrap ((v.length : Int) - 1) = (v.length : Int) - 1 := IntWalk.i64_in _ (by omega)
          obtain ⟨s, hs⟩ : ∃ s : Nat, s = v.length - 1 - i := ⟨_, rfl⟩
          have hw2 : IntKind.i64.wrap ((v.length : Int) - 1 - (i : Int)) = (s : Int) := by rw [IntWalk.i64_in _ (by omega)]; omega
          rw [← hs] at HXD
          have hs7 : s ≤ 7 := by omega
          have hxi : (x : Int) < 104 := by omega
          clear hcv hvi hold hs
          go_upto_region 12 with (fail)
          go_region_held3 (fun X => X.cell? ⟨g, i, none⟩ = some (.int .i64 (x : Int))) (go_keep) (fail)
          rw [tmod_bit]
          have hset := HBI.out.set (fun _ => rfl) (i := x) (by rw [bitsW_length]; exact hx104) (k.testBit s)
          rw [Nat.mul_one, HXD.out] at hset
          have HSET := Lib.hid (hset.kept ((Kept.refl [] _).drew) (by simp))
          have hks : Kept [bb] wr ((wr.setCell ⟨bb, x, none⟩ (.bool (k.testBit s))).drew) := ((Kept.refl [bb] wr).setCell _ _ (by simp)).drew
          have HKS := Lib.hid (HKI.out.trans hks (fun x hx => Or.inl hx))
          clear hset hks hcx hbc hbf
          go_wp2_with (fail)
          go_roundg (gk - 1)
          case measure => have := HGI.out; omega
          case rel => exact ⟨i + 1, by have := HGI.out; omega, by go_num, HSET.out, HKS.out⟩
        · obtain rfl : i = v.length := by have := HGI.out; omega
          have hbl := bitsW_length v k v.length
          have HBA : Hid (BoolsAt wr bb 0 (bitsW v k v.length)) := Lib.hid (fun j hj => by
            have := HBI.out.cell (List.getElem?_eq_getElem hj) (j := 0) (u := .bool ((bitsW v k v.length)[j])) rfl
            rw [Nat.mul_one, Nat.add_zero] at this
            rw [Nat.zero_add, this, List.getD_eq_getElem?_getD, List.getElem?_eq_getElem hj]
            rfl)
          have HBK := Lib.hid (back_calls wr bb 0 104 104 (bitsW v k v.length) hbl (by omega) (by omega) HBA.out)
          have HBIT := Lib.hid (bitsW_bit HLT.out k)
          have HWF := Lib.hid (backH_wf hbl)
          have HKX : Hid (Kept [] w1 wr) := Lib.hid ((HKO.out.trans HKB.out (by simp)).trans HKI.out (fun x hx => Or.inr (by rw [List.mem_singleton.1 hx]; have := HNB.out; have := HLOW.out; have := HBX.out; omega)))
          have HKW : Hid (Kept [nb, lb, sb] w4 wr) := Lib.hid (((HK.out.trans HKB.out (by simp)).trans HKI.out (fun x hx => Or.inr (by rw [List.mem_singleton.1 hx]; have := HBX.out; omega))))
          have HNBB : Hid (nb ≠ bb ∧ lb ≠ bb ∧ sb ≠ bb) := Lib.hid (by have := HBL.out; have := HBX.out; omega)
          have HR6 := Lib.hid ((HRR.out.kept HKB.out (by simp) (by simp) (by simp)).kept HKI.out (by simpa using HNBB.out.1) (by simpa using HNBB.out.2.1) (by simpa using HNBB.out.2.2))
          obtain ⟨hd, hhd⟩ : ∃ hd, hd = backH (bitsW v k v.length) := ⟨_, rfl⟩
          rw [← hhd] at HBK HBIT HWF
          have HHD := Lib.hid hhd
          unfold Hd.val at HBK
          clear hbl hhd
          go_wp2_with (fail)
          refine Calls.mono HBK.out ?_
          rintro e w6 ⟨he, k6⟩
          subst he
          have kh := k6.alloc k6.size (.cells #[.int .u32 (hd.dst : Int), .int .u32 (hd.src : Int), .int .u8 (hd.proto : Int), .int .u16 (hd.sport : Int), .int .u16 (hd.dport : Int)] 25)
          have HHB := Lib.hid (heap_alloc_new w6 (.cells #[.int .u32 (hd.dst : Int), .int .u32 (hd.src : Int), .int .u8 (hd.proto : Int), .int .u16 (hd.sport : Int), .int .u16 (hd.dport : Int)] 25))
          have HKH := Lib.hid (Kept.of_below (S := []) kh)
          have HSZ6 : Hid (w4.heap.size ≤ w6.heap.size) := Lib.hid (Nat.le_trans HKW.out.size k6.size)
          clear k6 kh HBK
          go_upto_region 14 with (fail)
          generalize w6.alloc (.cells #[.int .u32 (hd.dst : Int), .int .u32 (hd.src : Int), .int .u8 (hd.proto : Int), .int .u16 (hd.sport : Int), .int .u16 (hd.dport : Int)] 25) = w7 at *
          generalize w6.heap.size = hb at *
          have HIN := Lib.hid (refInV_calls w7 ao cap l hd (HV.out.kept (Kept.trans (Kept.of_below HK1.out) (HKX.out.trans HKH.out (by simp)) (by simp))) HCAP.out HR.out (by omega) HWF.out)
          unfold Hd.val at HIN
          have x0 := cell_of HHB.out 0
          have x1 := cell_of HHB.out 1
          have x2 := cell_of HHB.out 2
          have x3 := cell_of HHB.out 3
          have x4 := cell_of HHB.out 4
          simp only [List.getElem?_toArray, List.getElem?_cons_zero, List.getElem?_cons_succ] at x0 x1 x2 x3 x4
          go_wp2_with (fail)
          refine Calls.mono HIN.out ?_
          rintro e w8 ⟨vi8, he, how8, k8⟩
          subst he
          have HR8 := Lib.hid ((HR6.out.kept HKH.out (by simp) (by simp) (by simp)).kept (Kept.of_below (S := []) k8) (by simp) (by simp) (by simp))
          have HH8 := Lib.hid ((k8.block _ (lt_of_block HHB.out)).trans HHB.out)
          have HKW8 := Lib.hid (((HKW.out.trans HKH.out (by simp)).trans (Kept.of_below (S := []) k8) (by simp)))
          have HOW8 := Lib.hid how8
          obtain ⟨ai, cpi, rfl, hai⟩ : ∃ ai cpi, vi8 = .slice ai l.length cpi ∧ ∀ j, j < l.length → ∃ g, ai = some ⟨g, 0, none⟩ ∧ w7.heap.size ≤ g ∧ ∀ X S, Kept S w8 X → g ∉ S → X.cell? ⟨g, j, none⟩ = some (.bool (hasW l v j k)) := by
            rcases how8.2 with ⟨h0, h1⟩ | ⟨g', cap', cur, h0, hge, _⟩
            · exact ⟨none, 0, by rw [h0, h1], fun i hi => by omega⟩
            · refine ⟨_, cap', h0, fun j hj => ⟨g', rfl, hge, fun X S kX hS => ?_⟩⟩
              rw [h0] at how8
              have := (own_kept how8 kX (fun g hg => by cases hg; exact hS)).cellAt (j * 1) (by simpa using hj)
              rw [Nat.mul_one, HBIT.out, List.getElem?_map, List.getElem?_eq_getElem (by rw [inL_length]; exact hj)] at this
              rw [this]
              unfold hasW
              rw [List.getD_eq_getElem?_getD, List.getElem?_eq_getElem (by rw [inL_length]; exact hj)]
              rfl
          have HAI := Lib.hid hai
          have HLO8 : Hid (w4.heap.size ≤ w7.heap.size ∧ hb < w7.heap.size ∧ w4.heap.size ≤ hb) := Lib.hid (by have h1 := lt_of_block HHB.out; have := HSZ6.out; omega)
          clear how8 k8 hai x0 x1 x2 x3 x4 HIN
          go_wp2_with (fail)
          go_loopg [14] l.length (fun gk vi wr => ∃ j : Nat, j + gk = l.length ∧ vi = .int .i64 (j : Int) ∧ Rows3 wr nb lb sb l v k j ∧ Kept [nb, lb, sb] w8 wr)
          case atStart => exact ⟨0, by omega, rfl, HR8.out, Kept.refl _ _⟩
          case round =>
            obtain ⟨j, hgj, rfl, hR9, hK9⟩ := hrel
            have HR9 := Lib.hid hR9
            have HK9 := Lib.hid hK9
            have HGJ := Lib.hid hgj
            clear hR9 hK9 hgj
            by_cases hlj : j < l.length
            · obtain ⟨g, rfl, hge, hcell⟩ := HAI.out j hlj
              have hji : (j : Int) < (l.length : Int) := by omega
              have hj1 : IntKind.i64.wrap ((j : Int) + 1) = (j : Int) + 1 := IntWalk.i64_in _ (by omega)
              have cin := hcell wr [nb, lb, sb] HK9.out (by have := HBL.out; have := HLO8.out; simp; omega)
              clear hge hcell
              have HNSAME : Hid (hasW l v j k = false → cntW l v j (k + 1) = cntW l v j k) := Lib.hid (fun h => by rw [cntW_succ, h]; rfl)
              have HNINC : Hid (hasW l v j k = true → cntW l v j k + 1 = cntW l v j (k + 1)) := Lib.hid (fun h => by rw [cntW_succ, h]; rfl)
              obtain ⟨hw, hhw⟩ : ∃ hw, hw = hasW l v j k := ⟨_, rfl⟩
              rw [← hhw] at cin
              have HHW := Lib.hid hhw.symm
              clear hhw
              cases hw with
              | false =>
                have hone := one_keep (l := l) (v := v) (j := j) (k := k) (Or.inl HHW.out)
                have HNX : Hid (Rows3 wr nb lb sb l v k (j + 1)) := Lib.hid ⟨by rw [rowG_same hlj (HNSAME.out HHW.out)]; exact HR9.out.n, by rw [rowG_same hlj (hd_keep hone)]; exact HR9.out.h, by rw [rowG_same hlj (by rw [hone])]; exact HR9.out.s⟩
                clear hone
                go_wp2_with (fail)
                go_roundg (gk - 1)
                case measure => have := HGJ.out; omega
                case rel => exact ⟨j + 1, by have := HGJ.out; omega, by go_num, HNX.out, HK9.out⟩
              | true =>
                have cn := HR9.out.n.cell (rowG_at hlj) (j := 0) (u := nat64 (cntW l v j k)) rfl
                have fn := HR9.out.n.free j
                rw [Nat.mul_one, Nat.add_zero] at cn
                unfold nat64 at cn
                have hcle := cntW_le l v j k
                have hcw : IntKind.i64.wrap ((cntW l v j k : Int) + 1) = (cntW l v j k : Int) + 1 := IntWalk.i64_in _ (by omega)
                have hsn := HR9.out.n.set (fun _ => rfl) (i := j) (by rw [rowG_length]; exact hlj) (cntW l v j k + 1)
                rw [Nat.mul_one, rowG_set hlj (HNINC.out HHW.out)] at hsn
                have hsn : RowK 3 1 intC (wr.setCell ⟨nb, j, none⟩ (.int .i64 ((cntW l v j k : Int) + 1))) nb (rowG l.length (cntW l v) k (j + 1)) := hsn
                have HSN := Lib.hid hsn
                have hks : Kept [nb] wr (wr.setCell ⟨nb, j, none⟩ (.int .i64 ((cntW l v j k : Int) + 1))) := (Kept.refl [nb] wr).setCell _ _ (by simp)
                have HKS := Lib.hid (HK9.out.trans hks (fun x hx => Or.inl (by rw [List.mem_singleton.1 hx]; simp)))
                have HNE2 : Hid (lb ≠ nb ∧ sb ≠ nb ∧ lb ≠ sb ∧ hb ≠ nb ∧ hb ≠ lb ∧ hb ≠ sb) := Lib.hid (by have := HNE.out; have := HBL.out; have := HLO8.out; omega)
                have HHS := Lib.hid (HR9.out.h.kept hks (by simpa using HNE2.out.1))
                have HSS := Lib.hid (HR9.out.s.kept hks (by simpa using HNE2.out.2.1))
                have HHBS := Lib.hid ((HK9.out.trans hks (fun x hx => Or.inl (by rw [List.mem_singleton.1 hx]; simp))).block hb (lt_of_block HH8.out) (by have := HNE2.out; simp; omega) |>.trans HH8.out)
                clear hsn hks hcle
                go_upto_region 20 with (fail)
                generalize wr.setCell ⟨nb, j, none⟩ (.int .i64 ((cntW l v j k : Int) + 1)) = wn at *
                clear cn fn hcw cin
                have cs := HSS.out.cell (rowG_at hlj) (j := 0) (u := .bool (oneW l v j k).isSome) rfl
                have fs := HSS.out.free j
                rw [Nat.mul_one, Nat.add_zero] at cs
                obtain ⟨sm, hsm⟩ : ∃ sm, sm = (oneW l v j k).isSome := ⟨_, rfl⟩
                rw [← hsm] at cs
                have HSM := Lib.hid hsm.symm
                clear hsm
                cases sm with
                | true =>
                  have hone := one_keep (l := l) (v := v) (j := j) (k := k) (Or.inr HSM.out)
                  have HNX : Hid (Rows3 wn nb lb sb l v k (j + 1)) := Lib.hid ⟨HSN.out, by rw [rowG_same hlj (hd_keep hone)]; exact HHS.out, by rw [rowG_same hlj (by rw [hone])]; exact HSS.out⟩
                  clear hone fs
                  go_wp2_with (fail)
                  go_roundg (gk - 1)
                  case measure => have := HGJ.out; omega
                  case rel => exact ⟨j + 1, by have := HGJ.out; omega, by go_num, HNX.out, HKS.out⟩
                | false =>
                  have hnone : oneW l v j k = none := by
                    cases e : oneW l v j k with
                    | none => rfl
                    | some u => have := HSM.out; rw [e] at this; cases this
                  have hone := one_has HHW.out hnone
                  obtain ⟨oh, hoh⟩ : ∃ oh, oh = hdW l v j k := ⟨_, rfl⟩
                  have hoc := fun (t : Nat) (u : Value) (hu : (hdC oh)[t]? = some u) => HHS.out.cell (rowG_at hlj) (j := t) (u := u) (by rw [← hoh]; exact hu)
                  have t0 := And.intro (hoc 0 _ rfl) (HHS.out.free (j * 5 + 0))
                  have t1 := And.intro (hoc 1 _ rfl) (HHS.out.free (j * 5 + 1))
                  have t2 := And.intro (hoc 2 _ rfl) (HHS.out.free (j * 5 + 2))
                  have t3 := And.intro (hoc 3 _ rfl) (HHS.out.free (j * 5 + 3))
                  have t4 := And.intro (hoc 4 _ rfl) (HHS.out.free (j * 5 + 4))
                  rw [Nat.add_zero] at t0
                  have x0 := cell_of HHBS.out 0
                  have x1 := cell_of HHBS.out 1
                  have x2 := cell_of HHBS.out 2
                  have x3 := cell_of HHBS.out 3
                  have x4 := cell_of HHBS.out 4
                  simp only [List.getElem?_toArray, List.getElem?_cons_zero, List.getElem?_cons_succ] at x0 x1 x2 x3 x4
                  have hsh := HHS.out.set (fun _ => rfl) (i := j) (by rw [rowG_length]; exact hlj) hd
                  rw [rowG_set hlj (show hd = hdW l v j (k + 1) by unfold hdW; rw [hone]; exact HHD.out)] at hsh
                  have HSH := Lib.hid hsh
                  have hkh := setRun_kept lb (hdC hd) wn (j * 5)
                  have HKH2 := Lib.hid (HKS.out.trans hkh (fun x hx => Or.inl (by rw [List.mem_singleton.1 hx]; simp)))
                  have HSN2 := Lib.hid (HSN.out.kept hkh (by simpa using HNE2.out.1.symm))
                  have HSS2 := Lib.hid (HSS.out.kept hkh (by simpa using HNE2.out.2.2.1.symm))
                  have hwx : setRun wn lb (j * 5) (hdC hd) = ((((wn.setCell ⟨lb, j * 5, none⟩ (.int .u32 (hd.dst : Int))).setCell ⟨lb, j * 5 + 1, none⟩ (.int .u32 (hd.src : Int))).setCell ⟨lb, j * 5 + 2, none⟩ (.int .u8 (hd.proto : Int))).setCell ⟨lb, j * 5 + 3, none⟩ (.int .u16 (hd.sport : Int))).setCell ⟨lb, j * 5 + 4, none⟩ (.int .u16 (hd.dport : Int)) := rfl
                  rw [hwx] at HSH HKH2 HSN2 HSS2
                  have HONE := Lib.hid hone
                  clear hsh hkh hwx hoh hoc hone hnone
                  go_upto_region 22 with (fail)
                  clear t0 t1 t2 t3 t4 x0 x1 x2 x3 x4 cs fs
                  generalize ((((wn.setCell ⟨lb, j * 5, none⟩ (.int .u32 (hd.dst : Int))).setCell ⟨lb, j * 5 + 1, none⟩ (.int .u32 (hd.src : Int))).setCell ⟨lb, j * 5 + 2, none⟩ (.int .u8 (hd.proto : Int))).setCell ⟨lb, j * 5 + 3, none⟩ (.int .u16 (hd.sport : Int))).setCell ⟨lb, j * 5 + 4, none⟩ (.int .u16 (hd.dport : Int)) = wm at *
                  have cs := HSS2.out.cell (rowG_at hlj) (j := 0) (u := .bool (oneW l v j k).isSome) rfl
                  have fs := HSS2.out.free j
                  rw [Nat.mul_one, Nat.add_zero, HSM.out] at cs
                  have hss := HSS2.out.set (fun _ => rfl) (i := j) (by rw [rowG_length]; exact hlj) true
                  rw [Nat.mul_one, rowG_set hlj (show true = (oneW l v j (k + 1)).isSome by rw [HONE.out]; rfl)] at hss
                  have hss : RowK 4 1 boolC (wm.setCell ⟨sb, j, none⟩ (.bool true)) sb (rowG l.length (fun i k => (oneW l v i k).isSome) k (j + 1)) := hss
                  have hks : Kept [sb] wm (wm.setCell ⟨sb, j, none⟩ (.bool true)) := (Kept.refl [sb] wm).setCell _ _ (by simp)
                  have HNX : Hid (Rows3 (wm.setCell ⟨sb, j, none⟩ (.bool true)) nb lb sb l v k (j + 1)) := Lib.hid ⟨HSN2.out.kept hks (by simpa using HNE2.out.2.1.symm), HSH.out.kept hks (by simpa using HNE2.out.2.2.1), hss⟩
                  have HKX2 := Lib.hid (HKH2.out.trans hks (fun x hx => Or.inl (by rw [List.mem_singleton.1 hx]; simp)))
                  clear hss hks
                  go_wp2_with (fail)
                  go_roundg (gk - 1)
                  case measure => have := HGJ.out; omega
                  case rel => exact ⟨j + 1, by have := HGJ.out; omega, by go_num, HNX.out, HKX2.out⟩
            · obtain rfl : j = l.length := by have := HGJ.out; omega
              go_wp2_with (fail)
              go_roundg (go - 1)
              case measure => have := HGK.out; omega
              case rel =>
                refine ⟨k + 1, by have := HGK.out; omega, by go_num, ⟨?_, ?_, ?_⟩, ?_⟩
                · rw [← rowG_end]; exact HR9.out.n
                · rw [← rowG_end]; exact HR9.out.h
                · rw [← rowG_end]; exact HR9.out.s
                · exact HKW8.out.trans HK9.out (fun x hx => Or.inl hx)
    · obtain rfl : k = P := by have := HGK.out; omega
      have hob := RowK.made (k := 2) (T := 85) (c := ctC) wr l.length 0 rfl (by omega)
      have HOB := Lib.hid hob
      have hka : Kept [] wr (wr.alloc (.cells (madeCells (ctC 0).toArray (l.length * 2)) 85)) := (Kept.refl [] wr).alloc _
      have HR5 := Lib.hid (HRR.out.kept hka (by simp) (by simp) (by simp))
      have HK5 := Lib.hid (HK.out.trans hka (by simp))
      clear hob hka hmk4
      go_upto_region 24 with (fail)
      clear hmk5
      generalize wr.alloc (.cells (madeCells (ctC 0).toArray (l.length * 2)) 85) = w5 at *
      generalize wr.heap.size = ob at *
      have h104 : IntKind.i64.wrap ((104 : Int) - (v.length : Int)) = ((104 - v.length : Nat) : Int) := by rw [IntWalk.i64_in _ (by omega)]; omega
      go_wp2_with (fail)
      go_loopg [16] l.length (fun gk vi wr => ∃ j : Nat, j + gk = l.length ∧ vi = .int .i64 (j : Int) ∧ RowK 85 2 ctC wr ob (rowG l.length (fun i t => if t = 0 then 0 else cntW l v i k * 2 ^ (104 - v.length)) 0 j) ∧ Rows3 wr nb lb sb l v k 0 ∧ Kept [nb, lb, sb] w4 wr)
      case atStart => exact ⟨0, by omega, rfl, by rw [← rowG_zero (n := l.length) (x := 0) (fun i => rfl)]; exact HOB.out, HR5.out, HK5.out⟩
      case round =>
        obtain ⟨j, hgj, rfl, hO, hR, hKK⟩ := hrel
        have HO := Lib.hid hO
        have HR7 := Lib.hid hR
        have HK7 := Lib.hid hKK
        have HGJ := Lib.hid hgj
        clear hO hR hKK hgj
        by_cases hlj : j < l.length
        · have hji : (j : Int) < (l.length : Int) := by omega
          have hj1 : IntKind.i64.wrap ((j : Int) + 1) = (j : Int) + 1 := IntWalk.i64_in _ (by omega)
          have cn := HR7.out.n.cell (show (rowG l.length (cntW l v) k 0)[j]? = some (cntW l v j k) by rw [rowG_get hlj, if_neg (by omega)]) (j := 0) (u := nat64 (cntW l v j k)) rfl
          rw [Nat.mul_one, Nat.add_zero] at cn
          unfold nat64 at cn
          have hcle := cntW_le l v j k
          obtain ⟨n, hn⟩ : ∃ n, n = cntW l v j k := ⟨_, rfl⟩
          rw [← hn] at cn hcle
          have HN := Lib.hid hn
          have hn64 : IntKind.u64.wrap (n : Int) = (n : Int) := by rw [wrap64, Nat.mod_eq_of_lt (by omega)]
          have hup := dup_calls wr n (104 - v.length) (by omega) (by
            have h1 : n * 2 ^ (104 - v.length) ≤ 128 * 2 ^ 104 := Nat.mul_le_mul (by omega) (Nat.pow_le_pow_right (by omega) (by omega))
            have h2 : (128 : Nat) * 2 ^ 104 < 2 ^ 128 := by decide
            omega)
          have e0 : cval n = .agg #[.int .u64 0, .int .u64 (n : Int)] := by
            unfold cval
            rw [Nat.div_eq_of_lt (by omega), Nat.mod_eq_of_lt (by omega)]
            rfl
          rw [e0] at hup
          have HX : Hid (n * 2 ^ (104 - v.length) = (fun i t => if t = 0 then 0 else cntW l v i k * 2 ^ (104 - v.length)) j (0 + 1)) := Lib.hid (by rw [hn]; simp)
          generalize n * 2 ^ (104 - v.length) = X at *
          unfold cval at hup
          have HUP := Lib.hid hup
          clear hn e0 hup hcle
          go_wp2_with (fail)
          refine Calls.mono HUP.out ?_
          rintro e w9 ⟨he, k9⟩
          subst he
          have HO9 := Lib.hid (HO.out.kept (Kept.of_below (S := []) k9) (by simp))
          have HR9 := Lib.hid (HR7.out.kept (Kept.of_below (S := []) k9) (by simp) (by simp) (by simp))
          have HK9 := Lib.hid (HK7.out.trans (Kept.of_below (S := []) k9) (by simp))
          obtain ⟨ox, hox⟩ : ∃ ox, (rowG l.length (fun i t => if t = 0 then 0 else cntW l v i k * 2 ^ (104 - v.length)) 0 j)[j]? = some ox := ⟨_, List.getElem?_eq_getElem (by rw [rowG_length]; exact hlj)⟩
          have t0 := And.intro (HO9.out.cell hox (j := 0) rfl) (HO9.out.free (j * 2 + 0))
          have t1 := And.intro (HO9.out.cell hox (j := 1) rfl) (HO9.out.free (j * 2 + 1))
          rw [Nat.add_zero] at t0
          have hso := HO9.out.set (fun _ => rfl) (i := j) (by rw [rowG_length]; exact hlj) X
          rw [rowG_set hlj HX.out] at hso
          have HSO := Lib.hid hso
          have hko := setRun_kept ob (ctC X) w9 (j * 2)
          have HKO2 := Lib.hid (HK9.out.trans hko (fun x hx => Or.inr (by rw [List.mem_singleton.1 hx]; exact HSW.out)))
          have HNO : Hid (nb ≠ ob ∧ lb ≠ ob ∧ sb ≠ ob) := Lib.hid (by have := HBL.out; have := HSW.out; omega)
          have HRO := Lib.hid (HR9.out.kept hko (by simpa using HNO.out.1) (by simpa using HNO.out.2.1) (by simpa using HNO.out.2.2))
          clear hso hko hox cn k9
          go_wp2_with (fail)
          go_roundg (gk - 1)
          case measure => have := HGJ.out; omega
          case rel => exact ⟨j + 1, by have := HGJ.out; omega, by go_num, HSO.out, HRO.out, HKO2.out⟩
        · obtain rfl : j = l.length := by have := HGJ.out; omega
          have hct : rowG l.length (fun i t => if t = 0 then 0 else cntW l v i k * 2 ^ (104 - v.length)) 0 l.length = ctW l v := by
            rw [rowG_end]
            unfold rowG ctW
            refine List.map_congr_left fun i _ => ?_
            rw [← HP.out]
            simp
          have HCT := Lib.hid hct
          clear hct
          go_wp2_with (fail)
          refine bodyPost_ret (v := .tuple #[.slice (some ⟨ob, 0, none⟩) l.length l.length, .slice (some ⟨lb, 0, none⟩) l.length l.length, .slice (some ⟨sb, 0, none⟩) l.length l.length]) (by simp [results, Try.results46, go_sem]) rfl ⟨ob, lb, sb, rfl, ?_, ?_, ?_, ?_⟩
          · rw [← HCT.out]; exact HO.out
          · rw [← HP.out]; exact HR7.out.h
          · rw [← HP.out]; exact HR7.out.s
          · have e := HNB.out
            have hz := HSZ.out
            have hk4 : Below w.heap.size w1 w4 := HK4.out.mono hz
            exact HK1.out.trans (hk4.trans (HK7.out.below (by have := HLOW.out; omega) (fun x hx => by
              have := HLOW.out
              simp only [List.mem_cons, List.not_mem_nil, or_false] at hx
              rcases hx with rfl | rfl | rfl <;> omega)))
end Go.Proofs.Ytakgghhmecphmaa
