/- The walks of an arena's Cut and of New. -/
import Derived.Test.YtakgghhmecphmaaJoinW
import Derived.Test.YtakgghhmecphmaaBdd
import Derived.Deep.LoopGhost
namespace Go.Proofs.Ytakgghhmecphmaa
set_option linter.unusedVariables false
set_option linter.unusedSimpArgs false
open Go.RowKit Go.Maps

theorem own_shrink {w : World} {base : Nat} {e : TypeId} {size g n cap : Nat} {xs : List Value} (h : w.ownsRow base e size (.slice (some ⟨g, 0, none⟩) n cap) n xs) {m : Nat} (hm : m ≤ n) :
    w.ownsRow base e size (.slice (some ⟨g, 0, none⟩) m cap) m (xs.take (m * size)) := by
  have hms : m * size ≤ n * size := Nat.mul_le_mul_right _ hm
  refine ⟨by rw [List.length_take, h.1]; omega, ?_⟩
  rcases h.2 with ⟨h', _⟩ | ⟨g', cap', cur, hv, hb, hh, h1, h2, h3, h4⟩
  · cases h'
  · injection hv with e1 e2 e3
    injection e1 with e1
    injection e1 with e1
    subst e1
    subst e3
    refine Or.inr ⟨g, cap, cur, rfl, hb, hh, by omega, h2, h3, ?_⟩
    rw [← h4, List.take_take, Nat.min_eq_left hms]

theorem ndCells_take (ns : List Nd) (m : Nat) : (ndCells ns).take (m * 3) = ndCells (ns.take m) := by
  induction m generalizing ns with
  | zero => simp [ndCells]
  | succ m ih =>
    cases ns with
    | nil => simp [ndCells]
    | cons n ns =>
      have e : ndCells (n :: ns) = .int .i64 (n.level : Int) :: .int .i64 (n.low : Int) :: .int .i64 (n.high : Int) :: ndCells ns := rfl
      rw [e, show (m + 1) * 3 = m * 3 + 1 + 1 + 1 by omega, List.take_succ_cons, List.take_succ_cons, List.take_succ_cons, ih]
      rfl

theorem cut_nil (w : World) (n : Int) : Calls Try.prog 41 #[.pointer none, .int .i64 n] w fun e w' => e = .returned (.tuple #[]) ∧ w = w' := by
  go_enter Try.func41, Try.ntmps41
  go_wp2
  exact bodyPost_ret (v := .tuple #[]) (by simp [results, Try.results41, go_sem]) rfl ⟨rfl, rfl⟩

/-- The arena cut down to its first k nodes. -/
def upTo (A : Arn) (k : Nat) : Arn := { A with nodes := A.nodes.take k }

set_option maxRecDepth 100000 in
set_option maxHeartbeats 1000000 in
theorem cut_calls {w : World} {p g mb : Nat} {A : Arn} (h : ArenaAt w p g mb A) (hOK : A.OK) (n : Int) (m : Nat) (hm : max n 2 = m) : Calls Try.prog 41 #[.pointer (some ⟨p, 0, none⟩), .int .i64 n] w fun e w' =>
    e = .returned (.tuple #[]) ∧ ArenaAt w' p g mb (upTo A m) ∧ Kept [p, g, mb] w w' := by
  have hmax : (if n < 2 then (2 : Int) else n) = (m : Int) := by rw [← hm]; split <;> omega
  go_enter Try.func41, Try.ntmps41
  go_wp2
  have HA := Lib.hid h
  have HO := Lib.hid hOK
  have HM := Lib.hid hm
  clear h hOK hm hmax
  go_loopg [8] A.nodes.length (fun k _ wr => ∃ j, j = k ∧ j ≤ A.nodes.length ∧ min m A.nodes.length ≤ j ∧ ArenaAt wr p g mb (upTo A j) ∧ Kept [p, g, mb] w wr)
  case atStart => exact ⟨A.nodes.length, rfl, Nat.le_refl _, Nat.min_le_right _ _, by simpa [upTo] using HA.out, Kept.refl _ _⟩
  case round =>
    obtain ⟨j, rfl, hj1, hj2, hAr, hK⟩ := hrel
    have HAr := Lib.hid hAr
    have HK := Lib.hid hK
    obtain ⟨cap, nn, b1, b2, b3⟩ := hAr
    have hap := HAr.out.apart
    have hlen : (upTo A j).nodes.length = j := by simp [upTo]; omega
    rw [hlen] at b1 b2
    have hcap : j ≤ cap := by
      rcases b2.2 with ⟨h', _⟩ | ⟨g', cap', cur, hv, _, _, h1, _⟩
      · cases h'
      · injection hv with _ _ e3; omega
    have hcapm : cap ≤ 9223372036854775807 := by
      rcases b2.2 with ⟨h', _⟩ | ⟨g', cap', cur, hv, _, _, _, h1, _⟩
      · cases h'
      · injection hv with _ _ e3; simp only [maxLen] at h1; omega
    by_cases hlt : m < j
    · obtain ⟨i, rfl⟩ : ∃ i, j = i + 1 := ⟨j - 1, by omega⟩
      have hx : (upTo A (i + 1)).nodes[i]? = some (A.nd i) := by
        simp only [upTo]
        rw [List.getElem?_take, if_pos (by omega)]
        exact nd_get (by omega)
      obtain ⟨k0, k1, k2⟩ := HAr.out.nd hx
      have hm2 : 2 ≤ m := by have := HM.out; omega
      have hfind : findF (upTo A (i + 1)).nodes (A.nd i) = some i := findF_of (by simp only [upTo]; rw [List.drop_take]; exact (List.take_sublist _ _).nodup HO.out.nodup) (by omega) hx
      have c0 : wr.cell? ⟨p, 0, none⟩ = some (.slice (some ⟨g, 0, none⟩) (i + 1) cap) := cell_of b1 0
      have c1 : wr.cell? ⟨p, 1, none⟩ = some (.map (some mb)) := cell_of b1 1
      have hml : A.nodes.length ≤ 262144 := Nat.le_trans HO.out.len HO.out.most
      have hw : IntKind.i64.wrap (i : Int) = (i : Int) := IntWalk.i64_in _ (by omega)
      have hidx : (i : Int) < (i : Int) + 1 := by omega
      have hic : i ≤ cap := by omega
      have hF := Lib.hid hfind
      have B1 := Lib.hid b1
      have B2 := Lib.hid b2
      have B3 := Lib.hid b3
      generalize hN : A.nd i = N at *
      have HN := Lib.hid hN
      clear hfind b1 b2 b3 hN hx
      go_wp2
      refine wp_still_tail 16 (by kernel_rfl) (by kernel_rfl) ?_
      simp only [List.take_succ_cons, List.take_zero, List.drop_succ_cons, List.drop_zero]
      repeat still_step
      refine wpStill_nil ?_
      have b3d : IsMapOf Try.prog 94 ndv nat64 wr.drew mb nn (findF (upTo A (i + 1)).nodes) := B3.out.of_block rfl
      have B3d := Lib.hid b3d
      clear b3d
      go_wp2_with (at_delete; go_must (refine wpList_drop _ rfl _ _ 96 3 rfl ndKeyed ndv_inj Try.underlying96 B3d.out N (B3d.out.key hF.out) rfl rfl ?_); intro w1 m1 hg1; have q1 := blk_grown (blk_drew B1.out) hg1 hap.2.1; have h10 : w1.cell? ⟨p, 0, none⟩ = some (.slice (some ⟨g, 0, none⟩) (i + 1) cap) := cell_of q1 0; have f10 := unfrozen_of q1 0; have Q1 := Lib.hid q1; have M1 := Lib.hid m1; have HG1 := Lib.hid hg1; clear q1 m1 hg1)
      refine wp_still_tail 14 (by kernel_rfl) (by kernel_rfl) ?_
      simp only [List.take_succ_cons, List.take_zero, List.drop_succ_cons, List.drop_zero]
      repeat still_step
      refine wpStill_nil ?_
      go_wp2
      go_roundg i
      case measure => omega
      case rel =>
        have k1 : Kept [mb] wr.drew w1 := Kept.of_grown HG1.out
        have b1' := own_kept (S := [mb]) (own_kept (S := []) B2.out (Kept.refl [] wr).drew (by simp)) k1 (by intro g1 hg1; cases hg1; simpa using hap.2.2)
        have b2 := own_shrink b1' (m := i) (by omega)
        have b2' := own_kept b2 ((Kept.refl [p] w1).drew.setCell ⟨p, 0, none⟩ (.slice (some ⟨g, 0, none⟩) i cap) (by simp)) (by intro g1 hg1; cases hg1; simpa using Ne.symm hap.1)
        have hli : (upTo A i).nodes.length = i := by simp [upTo]; omega
        have htk : ((upTo A (i + 1)).nodes.take i) = (upTo A i).nodes := by simp only [upTo, List.take_take]; congr 1; omega
        refine ⟨i, rfl, by omega, by omega, ⟨cap, (if (findF (upTo A (i + 1)).nodes N).isSome = true then nn - 1 else nn), ?_, ?_, ?_⟩, ?_⟩
        · rw [hli]
          exact set_block (blk_drew Q1.out) 0 _
        · rw [hli]
          rw [ndCells_take, htk] at b2'
          exact b2'
        · have m2 := M1.out.of_block (w' := w1.drew.setCell ⟨p, 0, none⟩ (.slice (some ⟨g, 0, none⟩) i cap)) (Below.heap_setCell _ _ _ _ (Ne.symm hap.2.1))
          refine m2.congr (fun y => ?_)
          have hNx : A.nodes[i]? = some N := by rw [← HN.out]; exact nd_get (by omega)
          simp only [upTo]
          rw [findF_take HO.out.nodup (by omega) N hNx]
          rfl
        · exact ((HK.out.drew.trans k1 (by simp)).drew.setCell ⟨p, 0, none⟩ _ (by simp))
    · have c0 : wr.cell? ⟨p, 0, none⟩ = some (.slice (some ⟨g, 0, none⟩) j cap) := cell_of b1 0
      clear b1 b2 b3
      go_wp2
      go_end0
      have e : upTo A m = upTo A j := by
        simp only [upTo]
        congr 1
        rcases Nat.lt_or_ge m A.nodes.length with h' | h'
        · rw [show j = m by omega]
        · rw [List.take_of_length_le h', List.take_of_length_le (by omega)]
      rw [e]
      exact ⟨rfl, HAr.out, HK.out⟩

end Go.Proofs.Ytakgghhmecphmaa
