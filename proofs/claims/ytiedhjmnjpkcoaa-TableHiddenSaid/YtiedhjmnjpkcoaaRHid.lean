/- The document's Hidden. -/
import Derived.Test.YtiedhjmnjpkcoaaHidR
import Derived.Test.YtiedhjmnjpkcoaaPlays
namespace Go.Proofs.Ytiedhjmnjpkcoaa
set_option linter.unusedVariables false
set_option linter.unusedSimpArgs false
open Go.RowKit

def u32C (c : Nat) : Value := .int .u32 (c : Int)
theorem u32_info : (Try.prog.info? 22).map (fun i => (i.zero, i.size, i.bytes)) = some (some (.int .u32 0), 1, 4) := by kernel_rfl

def cand2 (r : Rl) (le : Nat) : List Nat := if le < 4294967295 ∧ hasR (le + 1) r = true then [le + 1] else []
theorem own_in' {w : World} {base : Nat} {e : TypeId} {size : Nat} {v : Value} {n : Nat} {xs : List Value} (h : w.ownsRow base e size v n xs) {g : Nat} (hg : v.ownBlock = some g) : g < w.heap.size := by
  rcases h.2 with ⟨rfl, _⟩ | ⟨g', cap, cur, rfl, h1, h2, _⟩
  · cases hg
  · cases hg
    exact (Array.getElem?_eq_some_iff.1 h2).1
theorem below_app {w w1 : World} {B base size n : Nat} {e : TypeId} {v : Value} {xs : List Value} {ob : Obj} (hO : w.ownsRow base e size v n xs) (hb : B ≤ base) (hz : B ≤ w.heap.size) (h : (w.alloc ob).grownBy w1 v.ownBlock) : Below B w w1 :=
  ((Below.refl B w).alloc hz ob).trans (below_grew h (by simp; omega) (fun k e => by have := own_past hO k e; omega))

set_option maxRecDepth 100000 in
set_option maxHeartbeats 4000000 in
theorem rhidden_calls {w : World} {b : Nat} {v : Value} {l : List Rl} (h : w.ownsRow b 26 6 v l.length (rlCells l)) (hok : ∀ r ∈ l, r.Ok) (hnd : (l.map (·.id)).Nodup) (hl : l.length < 100000) (id : Int) :
    Calls Try.prog 33 #[v, .int .i64 id] w fun e w' => ∃ b : Bool, e = .returned (.bool b) ∧ (b = true ↔ Hidd l id) ∧ Below w.heap.size w w' := by
  obtain ⟨i0, hi, hz0, hz1, hz2⟩ := info_parts u32_info
  obtain ⟨ao, cap, rfl, hcap, hao⟩ := own_shape h
  have H := Lib.hid h
  have HAO := Lib.hid hao
  have HOK := Lib.hid hok
  have HND := Lib.hid hnd
  clear h hao hok hnd
  go_enter Try.func33, Try.ntmps33
  go_wp2_with (fail)
  go_loopg [5] l.length (fun gk vi wr => ∃ i : Nat, i + gk = l.length ∧ vi = .int .i64 (i : Int) ∧ Below w.heap.size w wr ∧ ∀ y ∈ l.take i, y.id ≠ id)
  case atStart => exact ⟨0, by omega, rfl, Below.refl _ _, by simp⟩
  case round =>
    obtain ⟨i, hgk, rfl, hK, hN⟩ := hrel
    have HK := Lib.hid hK
    have HN := Lib.hid hN
    clear hN
    by_cases hlt : i < l.length
    · obtain ⟨g, rfl⟩ := HAO.out i hlt
      have hcc := fun j (hj : j < 6) => ((own_kept H.out (Kept.of_below (S := []) hK) (by simp)).cellAt (i * 6 + j) (by omega)).trans (rlCells_at l i hlt j hj)
      have d0 := hcc 0 (by omega)
      have d2 := hcc 2 (by omega)
      have d3 := hcc 3 (by omega)
      have HSP : Hid (l = l.take i ++ l[i] :: l.drop (i + 1)) := Lib.hid (by rw [← List.drop_eq_getElem_cons hlt, List.take_append_drop])
      have HTK : Hid (l.take (i + 1) = l.take i ++ [l[i]]) := Lib.hid (by rw [List.take_add_one, List.getElem?_eq_getElem hlt]; rfl)
      have HR : Hid (l[i].Ok) := Lib.hid (HOK.out _ (List.getElem_mem hlt))
      clear hcc
      generalize l[i] = r at *
      simp [Rl.cells] at d0 d2 d3
      by_cases hid : r.id = id
      · subst hid
        obtain ⟨_, hm32, hmb⟩ := HR.out.bits
        obtain ⟨m, hm⟩ : ∃ m, m = r.bits.toNat := ⟨_, rfl⟩
        rw [← hm] at hm32 hmb
        rw [← hmb] at d3
        have HM := Lib.hid hm
        have hra := HR.out.1
        have HH := Lib.hid (fun W x hx => rhas_calls W r.addr m x hra hx hm32)
        clear hm hmb
        have HXB := Lib.hid (heap_alloc_new wr (.cells #[.int .u32 (r.addr : Int), .int .i64 (m : Int)] 24))
        have HKB := Lib.hid ((Below.refl wr.heap.size wr).alloc (Nat.le_refl _) (.cells #[.int .u32 (r.addr : Int), .int .i64 (m : Int)] 24))
        go_upto_region 6 with (fail)
        generalize wr.alloc (.cells #[.int .u32 (r.addr : Int), .int .i64 (m : Int)] 24) = w1 at *
        have d4 := cell_of HXB.out 0
        simp only [List.getElem?_toArray, List.getElem?_cons_zero] at d4
        have K1 := Lib.hid (HK.out.trans (HKB.out.mono HK.out.size))
        have HX1 := Lib.hid (heap_alloc_new w1 (.cells #[.int .u32 (r.addr : Int)] 22))
        have HK1 := Lib.hid ((Below.refl w1.heap.size w1).alloc (Nat.le_refl _) (.cells #[.int .u32 (r.addr : Int)] 22))
        clear d0 d2 d3 hK
        go_upto_region 7 with (fail)
        generalize w1.alloc (.cells #[.int .u32 (r.addr : Int)] 22) = w2 at *
        have HO2 : Hid (w2.ownsRow (wr.heap.size + 1) 22 1 (.slice (some ⟨w1.heap.size, 0, none⟩) 1 1) (cand r (l.take 0)).length ((cand r (l.take 0)).map u32C)) := Lib.hid ⟨rfl, Or.inr ⟨_, 1, _, rfl, lt_of_block HXB.out, HX1.out, Nat.le_refl _, by unfold maxLen; omega, rfl, rfl⟩⟩
        have HB2 := Lib.hid ((HK1.out.block _ (lt_of_block HXB.out)).trans HXB.out)
        have K2 := Lib.hid (K1.out.trans (HK1.out.mono K1.out.size))
        have hxw : w.heap.size ≤ wr.heap.size := HK.out.size
        have hil : i < 100000 := by omega
        clear HXB HKB K1 HX1 HK1 d4
        generalize wr.heap.size = xb at *
        generalize w1.heap.size = xa at *
        generalize gk = gko at *
        go_wp2_with (fail)
        go_loopg [7, 8] i (fun gk vo vk w5 => ∃ k : Nat, k + gk = i ∧ vk = .int .i64 (k : Int) ∧ w5.ownsRow (xb + 1) 22 1 vo (cand r (l.take k)).length ((cand r (l.take k)).map u32C) ∧ Below w.heap.size w w5 ∧ w5.heap[xb]? = some (.cells #[.int .u32 (r.addr : Int), .int .i64 (m : Int)] 24 (0, 0)))
        case atStart => exact ⟨0, by omega, rfl, HO2.out, K2.out, HB2.out⟩
        case round =>
          obtain ⟨k, hgk2, rfl, hO, hK, hB⟩ := hrel
          have HO5 := Lib.hid hO
          have HK5 := Lib.hid hK
          have HB5 := Lib.hid hB
          clear hO hB
          by_cases hki : k < i
          · have hkl : k < l.length := by omega
            have hcc := fun j (hj : j < 6) => ((own_kept H.out (Kept.of_below (S := []) hK) (by simp)).cellAt (k * 6 + j) (by omega)).trans (rlCells_at l k hkl j hj)
            have d2 := hcc 2 (by omega)
            have d3 := hcc 3 (by omega)
            have HTK2 : Hid (l.take (k + 1) = l.take k ++ [l[k]]) := Lib.hid (by rw [List.take_add_one, List.getElem?_eq_getElem hkl]; rfl)
            have HY : Hid (l[k].Ok) := Lib.hid (HOK.out _ (List.getElem_mem hkl))
            clear hcc hK
            generalize l[k] = y at *
            simp [Rl.cells] at d2 d3
            obtain ⟨_, hy32, hyb⟩ := HY.out.bits
            obtain ⟨my, hmy⟩ : ∃ my, my = y.bits.toNat := ⟨_, rfl⟩
            rw [← hmy] at hy32 hyb
            rw [← hyb] at d3
            have hya := HY.out.1
            have hcl := cand_len r (l.take k)
            have hctk : (l.take k).length ≤ k := by simp; omega
            obtain ⟨le, hle0⟩ : ∃ le, le = lastR y := ⟨_, rfl⟩
            have HLA := Lib.hid (fun W => rlast_calls W y.addr my hya hy32 (by rw [hmy]; exact ((rtB_iff _).1 HY.out.2.1).2.2))
            rw [show lastN y.addr my = le by rw [hle0, hmy]; rfl] at HLA
            have HMR : Hid (∀ x, hasN r.addr m x = hasR x r) := Lib.hid (fun x => by rw [HM.out]; rfl)
            have HC0 : Hid (candY r y = (if hasR y.addr r = true then [y.addr] else []) ++ (if le < 4294967295 ∧ hasR (le + 1) r = true then [le + 1] else [])) := Lib.hid (by rw [hle0]; rfl)
            clear hmy hyb hle0
            have HXQ := Lib.hid (heap_alloc_new wr (.cells #[.int .u32 (y.addr : Int), .int .i64 (my : Int)] 24))
            have HKQ := Lib.hid ((Below.refl wr.heap.size wr).alloc (Nat.le_refl _) (.cells #[.int .u32 (y.addr : Int), .int .i64 (my : Int)] 24))
            go_upto_region 11 with (fail)
            generalize wr.alloc (.cells #[.int .u32 (y.addr : Int), .int .i64 (my : Int)] 24) = wa at *
            have HVQ : Hid (∀ g, u7.ownBlock = some g → g < wr.heap.size) := Lib.hid (fun g hg => own_in' HO5.out hg)
            have HOA := Lib.hid (own_kept HO5.out (Kept.of_below (S := []) HKQ.out) (by simp))
            have hba := (HKQ.out.block _ (lt_of_block HB5.out)).trans HB5.out
            have HBA := Lib.hid hba
            have HKA := Lib.hid (HK5.out.trans (HKQ.out.mono HK5.out.size))
            have f0 := cell_of HXQ.out 0
            have f1 := cell_of HXQ.out 1
            have p0 := cell_of hba 0
            have p1 := cell_of hba 1
            simp only [List.getElem?_toArray, List.getElem?_cons_zero, List.getElem?_cons_succ] at f0 f1 p0 p1
            clear hba d2 d3
            generalize wr.heap.size = xq at *
            have hhy := fun W => HH.out W y.addr hya
            cases hb1 : hasN r.addr m y.addr with
            | true =>
              rw [hb1] at hhy
              have HHY := Lib.hid hhy
              obtain ⟨C1, hC1⟩ : ∃ C1, C1 = [y.addr] := ⟨_, rfl⟩
              have HCY : Hid (candY r y = C1 ++ cand2 r le) := Lib.hid (by rw [HC0.out, ← HMR.out, hb1, hC1]; rfl)
              have HCC := Lib.hid hC1
              have hC1l : C1.length = 1 := by rw [hC1]; rfl
              clear hhy hb1 hC1
              go_upto_region 13 with (first | (go_at_call 66; refine Calls.mono (HHY.out _) ?_; rintro e w6 ⟨he, k6⟩; subst he; have HK6 := Lib.hid (HKA.out.trans (k6.mono HKA.out.size)); have HO6 := Lib.hid (own_kept HOA.out (Kept.of_below (S := []) k6) (by simp)); have HB6 := Lib.hid ((k6.block _ (lt_of_block HBA.out)).trans HBA.out); have hq6 := (k6.block _ (lt_of_block HXQ.out)).trans HXQ.out; have f0 := cell_of hq6 0; simp only [List.getElem?_toArray, List.getElem?_cons_zero] at f0; have HQ6 := Lib.hid hq6; clear k6 hq6) | (at_builtin; refine wpList_append_lies _ rfl (.tmp 49) (.tmp 52) 129 rfl (xb + 1) 22 i0 _ 1 4 Try.underlying129 hi hz0 hz1 hz2 rfl (by decide) _ (cand r (l.take k)).length ((cand r (l.take k)).map u32C) rfl ?_ ⟨w6.heap.size, 0, none⟩ 1 1 [.int .u32 (y.addr : Int)] rfl rfl ?_ ?_ (by omega) ?_ ?_ ?_ _ rfl ?_; (· exact own_kept HO6.out ((Kept.refl [] _).alloc _) (by simp)); (· exact news_at (by simp)); (· simp [Value.oneCell']); (· unfold maxLen; omega); (· omega); (· have := lt_of_block HB6.out; simp; omega); intro g9 cap9 w9 how9 hgr9 hat9 hlt9; have HOW9 := Lib.hid how9; have HGR9 := Lib.hid hgr9; clear how9 hgr9 hat9 hlt9))
              have K6 := HK6.out.trans (below_app HO6.out (by omega) HK6.out.size HGR9.out)
              have O6 : w9.ownsRow (xb + 1) 22 1 (.slice (some ⟨g9, 0, none⟩) ((cand r (l.take k)).length + 1) cap9) (cand r (l.take k) ++ C1).length ((cand r (l.take k) ++ C1).map u32C) := by
                rw [List.map_append, List.length_append, HCC.out]
                exact HOW9.out
              have B6 := (HGR9.out.block xb (by have := lt_of_block HB6.out; simp; omega) (fun e => by have := own_past HO6.out _ e.symm; omega)).trans (blk_alloc HB6.out _)
              have Q6 := (HGR9.out.block xq (by have := lt_of_block HQ6.out; simp; omega) (fun e => by have := HVQ.out _ e.symm; omega)).trans (blk_alloc HQ6.out _)
              have HK6L := Lib.hid K6
              have hCL : (cand r (l.take k) ++ C1).length < 1000000 := by rw [List.length_append]; omega
              have HO6L := Lib.hid O6
              have HB6L := Lib.hid B6
              have HQ6L := Lib.hid Q6
              have f0 := cell_of Q6 0
              have f1 := cell_of Q6 1
              have p0 := cell_of B6 0
              have p1 := cell_of B6 1
              simp only [List.getElem?_toArray, List.getElem?_cons_zero, List.getElem?_cons_succ] at f0 f1 p0 p1
              clear K6 O6 B6 Q6
              go_wp2_with (fail)
              refine Calls.mono (HLA.out _) ?_
              rintro e w7 ⟨he, k7⟩
              subst he
              have HK7 := Lib.hid (HK6L.out.trans (k7.mono HK6L.out.size))
              have HO7 := Lib.hid (own_kept HO6L.out (Kept.of_below (S := []) k7) (by simp))
              have hb7 := (k7.block _ (lt_of_block HB6L.out)).trans HB6L.out
              have HB7 := Lib.hid hb7
              have p0 := cell_of hb7 0
              have p1 := cell_of hb7 1
              simp only [List.getElem?_toArray, List.getElem?_cons_zero, List.getElem?_cons_succ] at p0 p1
              clear k7 hb7 f0 f1
              by_cases hle : le < 4294967295
              · have hle' : (le : Int) < 4294967295 := by omega
                have hwl : IntKind.u32.wrap ((le : Int) + 1) = (le : Int) + 1 := by rw [IntKind.wrap_u32]; omega
                have hhl := fun W => HH.out W (le + 1) (by omega)
                simp only [Int.natCast_add, Int.natCast_one] at hhl
                cases hb2 : hasN r.addr m (le + 1) with
                | true =>
                  rw [hb2] at hhl
                  have HHL := Lib.hid hhl
                  have HC2 : Hid (candY r y = C1 ++ [le + 1]) := Lib.hid (by rw [HCY.out]; unfold cand2; rw [if_pos ⟨hle, by rw [← HMR.out]; exact hb2⟩])
                  clear hhl hb2 hle
                  go_wp2_with (fail)
                  refine Calls.mono (HHL.out _) ?_
                  rintro e w8 ⟨he, k8⟩
                  subst he
                  have HK8 := Lib.hid (HK7.out.trans (k8.mono HK7.out.size))
                  have HO8 := Lib.hid (own_kept HO7.out (Kept.of_below (S := []) k8) (by simp))
                  have HB8 := Lib.hid ((k8.block _ (lt_of_block HB7.out)).trans HB7.out)
                  clear k8 hle'
                  go_wp2_with (first | (at_builtin; refine wpList_append_lies _ rfl (.tmp 64) (.tmp 67) 129 rfl (xb + 1) 22 i0 _ 1 4 Try.underlying129 hi hz0 hz1 hz2 rfl (by decide) _ (cand r (l.take k) ++ C1).length ((cand r (l.take k) ++ C1).map u32C) rfl ?_ ⟨w8.heap.size, 0, none⟩ 1 1 [.int .u32 ((le : Int) + 1)] rfl rfl ?_ ?_ (by omega) ?_ ?_ ?_ _ rfl ?_; (· exact own_kept HO8.out ((Kept.refl [] _).alloc _) (by simp)); (· exact news_at (by simp)); (· simp [Value.oneCell']); (· unfold maxLen; omega); (· omega); (· have := lt_of_block HB8.out; simp; omega); intro g9 cap9 w9 how9 hgr9 hat9 hlt9; have HOW9 := Lib.hid how9; have HGR9 := Lib.hid hgr9; clear how9 hgr9 hat9 hlt9))
                  go_roundg (gk - 1)
                  case measure => omega
                  case rel =>
                    refine ⟨k + 1, by omega, by go_num, ?_, HK8.out.trans (below_app HO8.out (by omega) HK8.out.size HGR9.out), ?_⟩
                    · have h9 := HOW9.out
                      rw [HTK2.out, cand_snoc, HC2.out, ← List.append_assoc]
                      simp only [List.length_append, hC1l, List.map_append, Nat.add_zero, List.length_cons, List.length_nil, Nat.zero_add] at h9 ⊢
                      exact h9
                    · exact (HGR9.out.block xb (by have := lt_of_block HB8.out; simp; omega) (fun e => by have := own_past HO8.out _ e.symm; omega)).trans (blk_alloc HB8.out _)
                | false =>
                  rw [hb2] at hhl
                  have HHL := Lib.hid hhl
                  have HC2 : Hid (candY r y = C1) := Lib.hid (by rw [HCY.out]; unfold cand2; rw [if_neg (fun hh => by have h2 := hh.2; rw [← HMR.out, hb2] at h2; cases h2), List.append_nil])
                  clear hhl hb2 hle
                  go_wp2_with (fail)
                  refine Calls.mono (HHL.out _) ?_
                  rintro e w8 ⟨he, k8⟩
                  subst he
                  have HK8 := Lib.hid (HK7.out.trans (k8.mono HK7.out.size))
                  have HO8 := Lib.hid (own_kept HO7.out (Kept.of_below (S := []) k8) (by simp))
                  have HB8 := Lib.hid ((k8.block _ (lt_of_block HB7.out)).trans HB7.out)
                  clear k8
                  go_wp2_with (fail)
                  go_roundg (gk - 1)
                  case measure => omega
                  case rel =>
                    refine ⟨k + 1, by omega, by go_num, ?_, HK8.out, HB8.out⟩
                    rw [HTK2.out, cand_snoc, HC2.out]
                    exact HO8.out
              · have hle' : ¬ (le : Int) < 4294967295 := by omega
                have HC2 : Hid (candY r y = C1) := Lib.hid (by rw [HCY.out]; unfold cand2; rw [if_neg (fun hh => hle hh.1), List.append_nil])
                clear hle
                have hle2 : decide ((le : Int) < 4294967295) = false := decide_eq_false hle'
                go_wp2_with (fail)
                go_roundg (gk - 1)
                case measure => omega
                case rel =>
                  refine ⟨k + 1, by omega, by go_num, ?_, HK7.out, HB7.out⟩
                  rw [HTK2.out, cand_snoc, HC2.out]
                  exact HO7.out
            | false =>
              rw [hb1] at hhy
              have HHY := Lib.hid hhy
              obtain ⟨C1, hC1⟩ : ∃ C1 : List Nat, C1 = [] := ⟨_, rfl⟩
              have HCY : Hid (candY r y = C1 ++ cand2 r le) := Lib.hid (by rw [HC0.out, ← HMR.out, hb1, hC1]; rfl)
              have HCC := Lib.hid hC1
              have hC1l : C1.length = 0 := by rw [hC1]; rfl
              clear hhy hb1 hC1
              go_upto_region 13 with (first | (go_at_call 66; refine Calls.mono (HHY.out _) ?_; rintro e w6 ⟨he, k6⟩; subst he; have HK6 := Lib.hid (HKA.out.trans (k6.mono HKA.out.size)); have HO6 := Lib.hid (own_kept HOA.out (Kept.of_below (S := []) k6) (by simp)); have HB6 := Lib.hid ((k6.block _ (lt_of_block HBA.out)).trans HBA.out); have hq6 := (k6.block _ (lt_of_block HXQ.out)).trans HXQ.out; have HQ6 := Lib.hid hq6; clear k6 hq6))
              have K6 := HK6.out
              have O6 : w6.ownsRow (xb + 1) 22 1 u7 (cand r (l.take k) ++ C1).length ((cand r (l.take k) ++ C1).map u32C) := by
                rw [HCC.out, List.append_nil]
                exact HO6.out
              have B6 := HB6.out
              have Q6 := HQ6.out
              have HK6L := Lib.hid K6
              have hCL : (cand r (l.take k) ++ C1).length < 1000000 := by rw [List.length_append]; omega
              have HO6L := Lib.hid O6
              have HB6L := Lib.hid B6
              have HQ6L := Lib.hid Q6
              have f0 := cell_of Q6 0
              have f1 := cell_of Q6 1
              have p0 := cell_of B6 0
              have p1 := cell_of B6 1
              simp only [List.getElem?_toArray, List.getElem?_cons_zero, List.getElem?_cons_succ] at f0 f1 p0 p1
              clear K6 O6 B6 Q6
              go_wp2_with (fail)
              refine Calls.mono (HLA.out _) ?_
              rintro e w7 ⟨he, k7⟩
              subst he
              have HK7 := Lib.hid (HK6L.out.trans (k7.mono HK6L.out.size))
              have HO7 := Lib.hid (own_kept HO6L.out (Kept.of_below (S := []) k7) (by simp))
              have hb7 := (k7.block _ (lt_of_block HB6L.out)).trans HB6L.out
              have HB7 := Lib.hid hb7
              have p0 := cell_of hb7 0
              have p1 := cell_of hb7 1
              simp only [List.getElem?_toArray, List.getElem?_cons_zero, List.getElem?_cons_succ] at p0 p1
              clear k7 hb7 f0 f1
              by_cases hle : le < 4294967295
              · have hle' : (le : Int) < 4294967295 := by omega
                have hwl : IntKind.u32.wrap ((le : Int) + 1) = (le : Int) + 1 := by rw [IntKind.wrap_u32]; omega
                have hhl := fun W => HH.out W (le + 1) (by omega)
                simp only [Int.natCast_add, Int.natCast_one] at hhl
                cases hb2 : hasN r.addr m (le + 1) with
                | true =>
                  rw [hb2] at hhl
                  have HHL := Lib.hid hhl
                  have HC2 : Hid (candY r y = C1 ++ [le + 1]) := Lib.hid (by rw [HCY.out]; unfold cand2; rw [if_pos ⟨hle, by rw [← HMR.out]; exact hb2⟩])
                  clear hhl hb2 hle
                  go_wp2_with (fail)
                  refine Calls.mono (HHL.out _) ?_
                  rintro e w8 ⟨he, k8⟩
                  subst he
                  have HK8 := Lib.hid (HK7.out.trans (k8.mono HK7.out.size))
                  have HO8 := Lib.hid (own_kept HO7.out (Kept.of_below (S := []) k8) (by simp))
                  have HB8 := Lib.hid ((k8.block _ (lt_of_block HB7.out)).trans HB7.out)
                  clear k8 hle'
                  go_wp2_with (first | (at_builtin; refine wpList_append_lies _ rfl (.tmp 64) (.tmp 67) 129 rfl (xb + 1) 22 i0 _ 1 4 Try.underlying129 hi hz0 hz1 hz2 rfl (by decide) _ (cand r (l.take k) ++ C1).length ((cand r (l.take k) ++ C1).map u32C) rfl ?_ ⟨w8.heap.size, 0, none⟩ 1 1 [.int .u32 ((le : Int) + 1)] rfl rfl ?_ ?_ (by omega) ?_ ?_ ?_ _ rfl ?_; (· exact own_kept HO8.out ((Kept.refl [] _).alloc _) (by simp)); (· exact news_at (by simp)); (· simp [Value.oneCell']); (· unfold maxLen; omega); (· omega); (· have := lt_of_block HB8.out; simp; omega); intro g9 cap9 w9 how9 hgr9 hat9 hlt9; have HOW9 := Lib.hid how9; have HGR9 := Lib.hid hgr9; clear how9 hgr9 hat9 hlt9))
                  go_roundg (gk - 1)
                  case measure => omega
                  case rel =>
                    refine ⟨k + 1, by omega, by go_num, ?_, HK8.out.trans (below_app HO8.out (by omega) HK8.out.size HGR9.out), ?_⟩
                    · have h9 := HOW9.out
                      rw [HTK2.out, cand_snoc, HC2.out, ← List.append_assoc]
                      simp only [List.length_append, hC1l, List.map_append, Nat.add_zero, List.length_cons, List.length_nil, Nat.zero_add] at h9 ⊢
                      exact h9
                    · exact (HGR9.out.block xb (by have := lt_of_block HB8.out; simp; omega) (fun e => by have := own_past HO8.out _ e.symm; omega)).trans (blk_alloc HB8.out _)
                | false =>
                  rw [hb2] at hhl
                  have HHL := Lib.hid hhl
                  have HC2 : Hid (candY r y = C1) := Lib.hid (by rw [HCY.out]; unfold cand2; rw [if_neg (fun hh => by have h2 := hh.2; rw [← HMR.out, hb2] at h2; cases h2), List.append_nil])
                  clear hhl hb2 hle
                  go_wp2_with (fail)
                  refine Calls.mono (HHL.out _) ?_
                  rintro e w8 ⟨he, k8⟩
                  subst he
                  have HK8 := Lib.hid (HK7.out.trans (k8.mono HK7.out.size))
                  have HO8 := Lib.hid (own_kept HO7.out (Kept.of_below (S := []) k8) (by simp))
                  have HB8 := Lib.hid ((k8.block _ (lt_of_block HB7.out)).trans HB7.out)
                  clear k8
                  go_wp2_with (fail)
                  go_roundg (gk - 1)
                  case measure => omega
                  case rel =>
                    refine ⟨k + 1, by omega, by go_num, ?_, HK8.out, HB8.out⟩
                    rw [HTK2.out, cand_snoc, HC2.out]
                    exact HO8.out
              · have hle' : ¬ (le : Int) < 4294967295 := by omega
                have HC2 : Hid (candY r y = C1) := Lib.hid (by rw [HCY.out]; unfold cand2; rw [if_neg (fun hh => hle hh.1), List.append_nil])
                clear hle
                have hle2 : decide ((le : Int) < 4294967295) = false := decide_eq_false hle'
                go_wp2_with (fail)
                go_roundg (gk - 1)
                case measure => omega
                case rel =>
                  refine ⟨k + 1, by omega, by go_num, ?_, HK7.out, HB7.out⟩
                  rw [HTK2.out, cand_snoc, HC2.out]
                  exact HO7.out
          · obtain rfl : k = i := by omega
            clear hK
            have hsp := HSP.out
            have HHC := Lib.hid (hidd_cand HND.out HOK.out hsp)
            have HCI := Lib.hid (cand_in HR.out (l.take k) (fun y hy => HOK.out y (List.mem_of_mem_take hy)))
            have hcl := cand_len r (l.take k)
            have hctk : (l.take k).length ≤ k := by simp; omega
            have hc0 : 0 < (cand r (l.take k)).length := by simp [cand]
            clear hsp
            generalize cand r (l.take k) = C at *
            obtain ⟨gc, capc, rfl⟩ : ∃ gc capc, u7 = .slice (some ⟨gc, 0, none⟩) C.length capc := by
              rcases HO5.out.2 with ⟨h0, h1⟩ | ⟨g', cap', cur, h0, _⟩
              · omega
              · exact ⟨g', cap', h0⟩
            have hcb : C.length < 300000 := by omega
            clear hcl hctk
            generalize hgo2 : gko = gko2 at *
            go_wp2_with (fail)
            go_loopg [11] C.length (fun gk vk w5 => ∃ j : Nat, j + gk = C.length ∧ vk = .int .i64 (j : Int) ∧ Below wr.heap.size wr w5 ∧ ∀ c ∈ C.take j, ((l.find? (hasR c)).getD noRule).id ≠ r.id)
            case atStart => exact ⟨0, by omega, rfl, Below.refl _ _, by simp⟩
            case round =>
              obtain ⟨j, hgj, rfl, hKj, hNj⟩ := hrel
              have HKJ := Lib.hid hKj
              have HNJ := Lib.hid hNj
              clear hNj
              by_cases hj : j < C.length
              · have e0 := ((own_kept HO5.out (Kept.of_below (S := []) hKj) (by simp)).cellAt (j * 1) (by omega)).trans (show (C.map u32C)[j * 1]? = some (.int .u32 (C[j] : Int)) from by rw [Nat.mul_one, List.getElem?_map, List.getElem?_eq_getElem hj]; rfl)
                have HTC : Hid (C.take (j + 1) = C.take j ++ [C[j]]) := Lib.hid (by rw [List.take_add_one, List.getElem?_eq_getElem hj]; rfl)
                have HCM : Hid (C[j] ∈ C) := Lib.hid (List.getElem_mem hj)
                generalize C[j] = c at *
                simp only [Nat.mul_one] at e0
                have HKW := Lib.hid (HK5.out.trans (hKj.mono HK5.out.size))
                have HOL := Lib.hid (own_kept H.out (Kept.of_below (S := []) HKW.out) (by simp))
                have hbst := rbest_calls HOL.out HOK.out (by omega) c (HCI.out c HCM.out).1
                obtain ⟨s, hs⟩ : ∃ s, s = (l.find? (hasR c)).getD noRule := ⟨_, rfl⟩
                obtain ⟨bo, hbo⟩ : ∃ bo, bo = (l.find? (hasR c)).isSome := ⟨_, rfl⟩
                rw [← hs, ← hbo] at hbst
                have HBS := Lib.hid hbst
                have HSS := Lib.hid hs
                clear hs hbo hbst hKj
                go_wp2_with (fail)
                refine Calls.mono HBS.out ?_
                rintro e w6 ⟨he, k6⟩
                have he : e = .returned (.tuple #[.agg #[.int .i64 s.id, .int .i64 s.dev, .int .u32 (s.addr : Int), .int .i64 s.bits, .int .i64 s.prio, .int .i64 s.out], .bool bo]) := he
                subst he
                have HXS := Lib.hid (heap_alloc_new w6 (.cells #[.int .i64 s.id, .int .i64 s.dev, .int .u32 (s.addr : Int), .int .i64 s.bits, .int .i64 s.prio, .int .i64 s.out] 26))
                have HKS := Lib.hid ((Below.refl w6.heap.size w6).alloc (Nat.le_refl _) (.cells #[.int .i64 s.id, .int .i64 s.dev, .int .u32 (s.addr : Int), .int .i64 s.bits, .int .i64 s.prio, .int .i64 s.out] 26))
                have HK6 := Lib.hid k6
                clear k6 e0
                go_upto_region 20 with (fail)
                generalize w6.alloc (.cells #[.int .i64 s.id, .int .i64 s.dev, .int .u32 (s.addr : Int), .int .i64 s.bits, .int .i64 s.prio, .int .i64 s.out] 26) = w7 at *
                have d0 := cell_of HXS.out 0
                simp only [List.getElem?_toArray, List.getElem?_cons_zero] at d0
                have HKJ7 := Lib.hid (HKJ.out.trans ((HK6.out.trans (HKS.out.mono HK6.out.size)).mono HKJ.out.size))
                by_cases hsi : s.id = r.id
                · have HNH : Hid (¬ Hidd l r.id) := Lib.hid (fun hh => HHC.out.1 hh c HCM.out (by rw [← HSS.out]; exact hsi))
                  go_wp2_with (fail)
                  exact bodyPost_ret (v := .bool false) (by simp [results, Try.results33, go_sem]) rfl ⟨false, rfl, ⟨fun h => by simp at h, fun h => absurd h HNH.out⟩, HK5.out.trans (HKJ7.out.mono HK5.out.size)⟩
                · go_wp2_with (fail)
                  go_roundg (gk - 1)
                  case measure => omega
                  case rel =>
                    refine ⟨j + 1, by omega, by go_num, HKJ7.out, fun c' hc' => ?_⟩
                    rw [HTC.out] at hc'
                    rcases List.mem_append.1 hc' with hc' | hc'
                    · exact HNJ.out c' hc'
                    · rw [show c' = c by simpa using hc', ← HSS.out]
                      exact hsi
              · obtain rfl : j = C.length := by omega
                have HYH : Hid (Hidd l r.id) := Lib.hid (HHC.out.2 (by simpa using HNJ.out))
                clear hKj
                go_wp2_with (fail)
                exact bodyPost_ret (v := .bool true) (by simp [results, Try.results33, go_sem]) rfl (by first | exact ⟨true, rfl, by simpa using HYH.out, HK5.out.trans (HKJ.out.mono HK5.out.size)⟩ | exact Or.inr ⟨rfl, HYH.out, HK5.out.trans (HKJ.out.mono HK5.out.size)⟩)
      · go_wp2_with (fail)
        go_roundg (gk - 1)
        case measure => omega
        case rel =>
          refine ⟨i + 1, by omega, by go_num, HK.out, fun y hy => ?_⟩
          rw [HTK.out] at hy
          rcases List.mem_append.1 hy with hy | hy
          · exact HN.out y hy
          · rw [show y = r by simpa using hy]
            exact hid
    · obtain rfl : i = l.length := by omega
      have HNO : Hid (¬ Hidd l id) := Lib.hid (hidd_none (by simpa using HN.out))
      clear hK
      go_wp2_with (fail)
      exact bodyPost_ret (v := .bool false) (by simp [results, Try.results33, go_sem]) rfl ⟨false, rfl, ⟨fun h => by simp at h, fun h => absurd h HNO.out⟩, HK.out⟩
end Go.Proofs.Ytiedhjmnjpkcoaa
