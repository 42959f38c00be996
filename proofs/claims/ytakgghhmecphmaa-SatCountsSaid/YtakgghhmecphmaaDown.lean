/- The walk of sat.walk, Least, Most. -/
import Derived.Test.YtakgghhmecphmaaLeastP
import Derived.Test.YtakgghhmecphmaaWith
import Derived.Test.YtakgghhmecphmaaCount
namespace Go.Proofs.Ytakgghhmecphmaa
set_option linter.unusedVariables false
set_option linter.unusedSimpArgs false
open Go.RowKit Go.Maps

theorem store5 {w : World} {b : Nat} {t : TypeId} {x0 x1 x2 x3 x4 : Value} (h : w.heap[b]? = some (.cells #[x0, x1, x2, x3, x4] t (0, 0))) (v0 v1 v2 v3 v4 : Value) :
    (((((w.setCell ⟨b, 0, none⟩ v0).setCell ⟨b, 1, none⟩ v1).setCell ⟨b, 2, none⟩ v2).setCell ⟨b, 3, none⟩ v3).setCell ⟨b, 4, none⟩ v4).heap[b]? = some (.cells #[v0, v1, v2, v3, v4] t (0, 0)) := by
  have := set_block (set_block (set_block (set_block (set_block h 0 v0) 1 v1) 2 v2) 3 v3) 4 v4
  simpa using this
theorem kept5 (w : World) (b : Nat) (v0 v1 v2 v3 v4 : Value) : Kept [b] w (((((w.setCell ⟨b, 0, none⟩ v0).setCell ⟨b, 1, none⟩ v1).setCell ⟨b, 2, none⟩ v2).setCell ⟨b, 3, none⟩ v3).setCell ⟨b, 4, none⟩ v4) :=
  (((((Kept.refl [b] w).setCell _ v0 (Or.inl (by simp))).setCell _ v1 (Or.inl (by simp))).setCell _ v2 (Or.inl (by simp))).setCell _ v3 (Or.inl (by simp))).setCell _ v4 (Or.inl (by simp))

set_option maxRecDepth 100000 in
set_option maxHeartbeats 4000000 in
theorem walk_calls {w : World} {p g mb : Nat} {A : Arn} (h : ArenaAt w p g mb A) (hO : A.OK) (f : Nat) (hf : f < A.nodes.length) (h0 : f ≠ 0) (on : Bool) :
    Calls Try.prog 56 #[.pointer (some ⟨p, 0, none⟩), .int .i64 (f : Int), .bool on] w fun e w' => (∃ hd, Least A f on hd ∧ e = .returned (.tuple #[hd.val, .bool true])) ∧ Below w.heap.size w w' := by
  have HA := Lib.hid h
  have HO := Lib.hid hO
  have E0 := Lib.hid (decide_eq_true (show 0 ≤ (f : Int) ∧ (f : Int) < A.nodes.length by omega))
  have HH := Lib.hid (fun w' (k : Below w.heap.size w w') => has_calls (h.below k) (f : Int))
  have t1 : ((f : Int) == 0) = false := by simp; omega
  clear h hO
  go_enter Try.func56, Try.ntmps56
  go_wp2_with (fail)
  have K1 := ((Kept.refl [] w).alloc (.cells #[.int .u32 0, .int .u32 0, .int .u8 0, .int .u16 0, .int .u16 0] 25)).alloc (.cells #[.int .u32 0, .int .u32 0, .int .u8 0, .int .u16 0, .int .u16 0] 25)
  have X1 := blk_alloc (heap_alloc_new w (.cells #[.int .u32 0, .int .u32 0, .int .u8 0, .int .u16 0, .int .u16 0] 25)) (.cells #[.int .u32 0, .int .u32 0, .int .u8 0, .int .u16 0, .int .u16 0] 25)
  have Y1 := heap_alloc_new (w.alloc (.cells #[.int .u32 0, .int .u32 0, .int .u8 0, .int .u16 0, .int .u16 0] 25)) (.cells #[.int .u32 0, .int .u32 0, .int .u8 0, .int .u16 0, .int .u16 0] 25)
  rw [show (w.alloc (.cells #[.int .u32 0, .int .u32 0, .int .u8 0, .int .u16 0, .int .u16 0] 25)).heap.size = w.heap.size + 1 by simp] at Y1
  generalize (w.alloc (.cells #[.int .u32 0, .int .u32 0, .int .u8 0, .int .u16 0, .int .u16 0] 25)).alloc (.cells #[.int .u32 0, .int .u32 0, .int .u8 0, .int .u16 0, .int .u16 0] 25) = w1 at *
  refine (HH.out _ (K1.below (Nat.le_refl _) (by simp))).mono ?_
  rintro e w' ⟨he, hw⟩
  subst he hw
  rw [E0.out]
  have HK1 := Lib.hid K1
  have HX1 := Lib.hid X1
  have HY1 := Lib.hid Y1
  have hz1 : w.heap.size + 1 < w1.heap.size := lt_of_block Y1
  have hps := HA.out.lt
  clear K1 X1 Y1 HH E0
  go_wp2_with (fail)
  go_loopg [1, 25] 104 (fun gk vf vi wr => ∃ (i g' : Nat) (hd : Hd), i + gk = 104 ∧ vf = .int .i64 (g' : Int) ∧ vi = .int .i64 (i : Int) ∧ LInv A f on i g' hd ∧ wr.heap[w.heap.size + 1]? = some (.cells #[.int .u32 (hd.dst : Int), .int .u32 (hd.src : Int), .int .u8 (hd.proto : Int), .int .u16 (hd.sport : Int), .int .u16 (hd.dport : Int)] 25 (0, 0)) ∧ Kept [w.heap.size + 1] w1 wr)
  case atStart => exact ⟨0, f, hdZ, rfl, rfl, rfl, LInv.start on hf h0, HY1.out, Kept.refl _ _⟩
  case round =>
    obtain ⟨i, g', hd, hgk, rfl, rfl, hL, hB, hK⟩ := hrel
    have HB := Lib.hid hB
    have HK := Lib.hid hK
    have HLI := Lib.hid hL
    have hwf := hL.wf
    have hgl := hL.lt
    clear hB hK hL
    have HA4 := Lib.hid ((HA.out.kept HK1.out (by simp) (by simp) (by simp)).kept HK.out (by simp; omega) (by simp; omega) (by simp; omega))
    by_cases hi : i < 104
    · have hN := fun a b c (h : nodeF A (g' : Int) = (a, b, c)) => by have := node_calls HA4.out (g' : Int); rw [h] at this; exact this
      have HN := Lib.hid hN
      clear hN
      by_cases hlv : A.lv g' = i
      · have h2 := two_of HO.out (g := g') (by omega)
        have nf := nodeF_at HO.out hgl h2
        rw [hlv] at nf
        obtain ⟨_, b1, b2, _⟩ := HO.out.at_ hgl h2
        have HF := Lib.hid (HLI.out.first HO.out hi hlv)
        have HS := Lib.hid (HLI.out.second HO.out hi hlv)
        unfold firstF at HF
        unfold firstF secondF at HS
        generalize (A.nd g').low = lo at *
        generalize (A.nd g').high = hh at *
        go_wp2_with (fail)
        refine (HN.out _ _ _ nf).mono ?_
        rintro e w5 ⟨he, k5⟩
        subst he
        have HB5 := Lib.hid ((k5.block _ (lt_of_block HB.out)).trans HB.out)
        have HK5 := Lib.hid (HK.out.trans (Kept.of_below (S := []) k5) (by simp))
        have dx := And.intro (cell_of HB5.out 0) (And.intro (cell_of HB5.out 1) (And.intro (cell_of HB5.out 2) (And.intro (cell_of HB5.out 3) (cell_of HB5.out 4))))
        simp only [List.getElem?_toArray, List.getElem?_cons_zero, List.getElem?_cons_succ] at dx
        have t2 : ((i : Int) != (i : Int)) = false := by simp
        clear k5 nf hlv
        cases on
        · by_cases hz : lo = 0
          · have t3 : ((lo : Int) == 0) = true := by rw [hz]; rfl
            have HK' := Lib.hid (show LInv A f false (i + 1) hh (hd.put i true) from HS.out (by simpa using hz))
            have WC := Lib.hid (fun w' => With_calls w' hd hwf i hi true)
            generalize hh : hd.put i true = h' at *
            unfold Hd.val at WC
            clear hh
            go_wp2_with (fail)
            refine (WC.out _).mono ?_
            rintro e w6 ⟨he, k6⟩
            subst he
            have HB6 := Lib.hid ((k6.block _ (lt_of_block HB5.out)).trans HB5.out)
            have HK6 := Lib.hid (HK5.out.trans (Kept.of_below (S := []) k6) (by simp))
            have dy := And.intro (cell_of HB6.out 0) (And.intro (cell_of HB6.out 1) (And.intro (cell_of HB6.out 2) (And.intro (cell_of HB6.out 3) (cell_of HB6.out 4))))
            simp only [List.getElem?_toArray, List.getElem?_cons_zero, List.getElem?_cons_succ] at dy
            have fy := And.intro (unfrozen_of HB6.out 0) (And.intro (unfrozen_of HB6.out 1) (And.intro (unfrozen_of HB6.out 2) (And.intro (unfrozen_of HB6.out 3) (unfrozen_of HB6.out 4))))
            clear k6 dx
            go_wp2_with (fail)
            go_roundg (gk - 1)
            case measure => omega
            case rel => exact ⟨i + 1, hh, h', by omega, rfl, by go_num, HK'.out, store5 HB6.out _ _ _ _ _, HK6.out.trans (kept5 _ _ _ _ _ _ _) (by simp)⟩

          · have t3 : ((lo : Int) == 0) = false := by simp; omega
            have HK' := Lib.hid (HF.out (by simpa using hz))
            have WC := Lib.hid (fun w' => With_calls w' hd hwf i hi false)
            generalize hh : hd.put i false = h' at *
            unfold Hd.val at WC
            clear hh
            go_wp2_with (fail)
            refine (WC.out _).mono ?_
            rintro e w6 ⟨he, k6⟩
            subst he
            have HB6 := Lib.hid ((k6.block _ (lt_of_block HB5.out)).trans HB5.out)
            have HK6 := Lib.hid (HK5.out.trans (Kept.of_below (S := []) k6) (by simp))
            have dy := And.intro (cell_of HB6.out 0) (And.intro (cell_of HB6.out 1) (And.intro (cell_of HB6.out 2) (And.intro (cell_of HB6.out 3) (cell_of HB6.out 4))))
            simp only [List.getElem?_toArray, List.getElem?_cons_zero, List.getElem?_cons_succ] at dy
            have fy := And.intro (unfrozen_of HB6.out 0) (And.intro (unfrozen_of HB6.out 1) (And.intro (unfrozen_of HB6.out 2) (And.intro (unfrozen_of HB6.out 3) (unfrozen_of HB6.out 4))))
            clear k6 dx
            go_wp2_with (fail)
            go_roundg (gk - 1)
            case measure => omega
            case rel => exact ⟨i + 1, lo, h', by omega, rfl, by go_num, HK'.out, store5 HB6.out _ _ _ _ _, HK6.out.trans (kept5 _ _ _ _ _ _ _) (by simp)⟩

        · by_cases hz : hh = 0
          · have t3 : ((hh : Int) == 0) = true := by rw [hz]; rfl
            have HK' := Lib.hid (show LInv A f true (i + 1) lo (hd.put i false) from HS.out (by simpa using hz))
            have WC := Lib.hid (fun w' => With_calls w' hd hwf i hi false)
            generalize hh : hd.put i false = h' at *
            unfold Hd.val at WC
            clear hh
            go_wp2_with (fail)
            refine (WC.out _).mono ?_
            rintro e w6 ⟨he, k6⟩
            subst he
            have HB6 := Lib.hid ((k6.block _ (lt_of_block HB5.out)).trans HB5.out)
            have HK6 := Lib.hid (HK5.out.trans (Kept.of_below (S := []) k6) (by simp))
            have dy := And.intro (cell_of HB6.out 0) (And.intro (cell_of HB6.out 1) (And.intro (cell_of HB6.out 2) (And.intro (cell_of HB6.out 3) (cell_of HB6.out 4))))
            simp only [List.getElem?_toArray, List.getElem?_cons_zero, List.getElem?_cons_succ] at dy
            have fy := And.intro (unfrozen_of HB6.out 0) (And.intro (unfrozen_of HB6.out 1) (And.intro (unfrozen_of HB6.out 2) (And.intro (unfrozen_of HB6.out 3) (unfrozen_of HB6.out 4))))
            clear k6 dx
            go_wp2_with (fail)
            go_roundg (gk - 1)
            case measure => omega
            case rel => exact ⟨i + 1, lo, h', by omega, rfl, by go_num, HK'.out, store5 HB6.out _ _ _ _ _, HK6.out.trans (kept5 _ _ _ _ _ _ _) (by simp)⟩

          · have t3 : ((hh : Int) == 0) = false := by simp; omega
            have HK' := Lib.hid (HF.out (by simpa using hz))
            have WC := Lib.hid (fun w' => With_calls w' hd hwf i hi true)
            generalize hh : hd.put i true = h' at *
            unfold Hd.val at WC
            clear hh
            go_wp2_with (fail)
            refine (WC.out _).mono ?_
            rintro e w6 ⟨he, k6⟩
            subst he
            have HB6 := Lib.hid ((k6.block _ (lt_of_block HB5.out)).trans HB5.out)
            have HK6 := Lib.hid (HK5.out.trans (Kept.of_below (S := []) k6) (by simp))
            have dy := And.intro (cell_of HB6.out 0) (And.intro (cell_of HB6.out 1) (And.intro (cell_of HB6.out 2) (And.intro (cell_of HB6.out 3) (cell_of HB6.out 4))))
            simp only [List.getElem?_toArray, List.getElem?_cons_zero, List.getElem?_cons_succ] at dy
            have fy := And.intro (unfrozen_of HB6.out 0) (And.intro (unfrozen_of HB6.out 1) (And.intro (unfrozen_of HB6.out 2) (And.intro (unfrozen_of HB6.out 3) (unfrozen_of HB6.out 4))))
            clear k6 dx
            go_wp2_with (fail)
            go_roundg (gk - 1)
            case measure => omega
            case rel => exact ⟨i + 1, hh, h', by omega, rfl, by go_num, HK'.out, store5 HB6.out _ _ _ _ _, HK6.out.trans (kept5 _ _ _ _ _ _ _) (by simp)⟩

      · obtain ⟨na, nb, nf⟩ := nodeF_top HO.out hgl
        have HSK := Lib.hid (HLI.out.skip hi hlv)
        have t2 : ((A.lv g' : Int) != (i : Int)) = true := by simp; omega
        generalize A.lv g' = lv at *
        go_wp2_with (fail)
        refine (HN.out _ _ _ nf).mono ?_
        rintro e w5 ⟨he, k5⟩
        subst he
        have HB5 := Lib.hid ((k5.block _ (lt_of_block HB.out)).trans HB.out)
        have HK5 := Lib.hid (HK.out.trans (Kept.of_below (S := []) k5) (by simp))
        have dx := And.intro (cell_of HB5.out 0) (And.intro (cell_of HB5.out 1) (And.intro (cell_of HB5.out 2) (And.intro (cell_of HB5.out 3) (cell_of HB5.out 4))))
        simp only [List.getElem?_toArray, List.getElem?_cons_zero, List.getElem?_cons_succ] at dx
        clear k5 nf hlv
        have HK' := Lib.hid (HSK.out)
        have WC := Lib.hid (fun w' => With_calls w' hd hwf i hi on)
        generalize hh : hd.put i on = h' at *
        unfold Hd.val at WC
        clear hh
        go_wp2_with (fail)
        refine (WC.out _).mono ?_
        rintro e w6 ⟨he, k6⟩
        subst he
        have HB6 := Lib.hid ((k6.block _ (lt_of_block HB5.out)).trans HB5.out)
        have HK6 := Lib.hid (HK5.out.trans (Kept.of_below (S := []) k6) (by simp))
        have dy := And.intro (cell_of HB6.out 0) (And.intro (cell_of HB6.out 1) (And.intro (cell_of HB6.out 2) (And.intro (cell_of HB6.out 3) (cell_of HB6.out 4))))
        simp only [List.getElem?_toArray, List.getElem?_cons_zero, List.getElem?_cons_succ] at dy
        have fy := And.intro (unfrozen_of HB6.out 0) (And.intro (unfrozen_of HB6.out 1) (And.intro (unfrozen_of HB6.out 2) (And.intro (unfrozen_of HB6.out 3) (unfrozen_of HB6.out 4))))
        clear k6 dx
        go_wp2_with (fail)
        go_roundg (gk - 1)
        case measure => omega
        case rel => exact ⟨i + 1, g', h', by omega, rfl, by go_num, HK'.out, store5 HB6.out _ _ _ _ _, HK6.out.trans (kept5 _ _ _ _ _ _ _) (by simp)⟩
    · obtain rfl : i = 104 := by omega
      have HE := Lib.hid (HLI.out.ends HO.out)
      have dx := And.intro (cell_of HB.out 0) (And.intro (cell_of HB.out 1) (And.intro (cell_of HB.out 2) (And.intro (cell_of HB.out 3) (cell_of HB.out 4))))
      simp only [List.getElem?_toArray, List.getElem?_cons_zero, List.getElem?_cons_succ] at dx
      have X4 := (HK.out.block _ (lt_of_block HX1.out) (by simp)).trans HX1.out
      have dy := And.intro (cell_of X4 0) (And.intro (cell_of X4 1) (And.intro (cell_of X4 2) (And.intro (cell_of X4 3) (cell_of X4 4))))
      simp only [List.getElem?_toArray, List.getElem?_cons_zero, List.getElem?_cons_succ] at dy
      have fy := And.intro (unfrozen_of X4 0) (And.intro (unfrozen_of X4 1) (And.intro (unfrozen_of X4 2) (And.intro (unfrozen_of X4 3) (unfrozen_of X4 4))))
      have HX4 := Lib.hid X4
      clear X4
      go_wp2_with (fail)
      have E0 := set_block HX4.out 0 (.int .u32 (hd.dst : Int))
      have q0 := cell_of E0 0
      have E1 := set_block E0 1 (.int .u32 (hd.src : Int))
      have q1 := cell_of E1 1
      have E2 := set_block E1 2 (.int .u8 (hd.proto : Int))
      have q2 := cell_of E2 2
      have E3 := set_block E2 3 (.int .u16 (hd.sport : Int))
      have q3 := cell_of E3 3
      have E4 := set_block E3 4 (.int .u16 (hd.dport : Int))
      have q4 := cell_of E4 4
      simp at q0 q1 q2 q3 q4
      clear E0 E1 E2 E3 E4
      simp [bodyPost, results, Try.results56, go_sem, q0, q1, q2, q3, q4]
      exact ⟨⟨hd, HE.out, rfl⟩, (((Kept.refl [] w).trans HK1.out (by simp)).trans ((HK.out.mono (S' := [w.heap.size + 1, w.heap.size]) (by simp)).trans (kept5 _ w.heap.size _ _ _ _ _) (by simp)) (by simp)).below (Nat.le_refl _) (by simp)⟩

end Go.Proofs.Ytakgghhmecphmaa
