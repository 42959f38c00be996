/- The walk of enc.Header: the set of one header. -/
import Derived.Test.YtakgghhmecphmaaEncP
import Derived.Test.YtakgghhmecphmaaMakeA
namespace Go.Proofs.Ytakgghhmecphmaa
set_option linter.unusedVariables false
set_option linter.unusedSimpArgs false
open Go.RowKit Go.Maps

theorem lit_info : (Try.prog.info? 38).map (fun i => (i.zero, i.size, i.bytes)) = some (some (.agg #[.int .i64 0, .bool false]), 2, 16) := by kernel_rfl

def litN (l : List (Nat × Bool)) : List (Int × Bool) := l.map fun x => ((x.1 : Int), x.2)

theorem litN_snoc (l : List (Nat × Bool)) (k : Nat) (x : Bool) : ltCells (litN (l ++ [(k, x)])) = ltCells (litN l) ++ [.int .i64 (k : Int), .bool x] := by
  simp [litN, ltCells]
theorem own_past {w : World} {base : Nat} {e : TypeId} {size : Nat} {v : Value} {n : Nat} {xs : List Value} (h : w.ownsRow base e size v n xs) : ∀ g, v.ownBlock = some g → base ≤ g := by
  intro g hg
  rcases h.2 with ⟨h0, h1⟩ | ⟨g', cap, cur, rfl, hb, _⟩
  · rw [h0] at hg; cases hg
  · cases hg; exact hb
theorem own_lits {w : World} {base s0 k cap : Nat} {l : List (Int × Bool)} (h : w.ownsRow base 38 2 (.slice (some ⟨s0, 0, none⟩) k cap) k (ltCells l)) : LitsAt w s0 0 l := by
  intro j u hu
  rcases h.2 with ⟨h0, _⟩ | ⟨g', cap', cur, e, _, hb, _, _, _, ht⟩
  · cases h0
  · cases e
    rw [cell_of hb, Nat.zero_add]
    rw [← ht, List.getElem?_take] at hu
    split at hu
    · simpa using hu
    · cases hu

set_option maxRecDepth 100000 in
set_option maxHeartbeats 4000000 in
theorem header_calls {w : World} {p g mb : Nat} {A : Arn} (h : ArenaAt w p g mb A) (hOK : A.OK) (hd : Hd) :
    Calls Try.prog 18 #[.pointer (some ⟨p, 0, none⟩), hd.val] w (ArenaPost w p g mb (cubeF A (headN hd 104)).1 (cubeF A (headN hd 104)).2) := by
  obtain ⟨i0, hi, hz0, hz1, hz2⟩ := info_parts lit_info
  have HA := Lib.hid h
  have HO := Lib.hid hOK
  clear h hOK
  unfold Hd.val
  go_enter Try.func18, Try.ntmps18
  go_wp2_with (fail)
  generalize hW1 : w.alloc (.cells #[.int .u32 (hd.dst : Int), .int .u32 (hd.src : Int), .int .u8 (hd.proto : Int), .int .u16 (hd.sport : Int), .int .u16 (hd.dport : Int)] 25) = W1
  have hbox : W1.heap[w.heap.size]? = some (.cells #[.int .u32 (hd.dst : Int), .int .u32 (hd.src : Int), .int .u8 (hd.proto : Int), .int .u16 (hd.sport : Int), .int .u16 (hd.dport : Int)] 25 (0, 0)) := by
    rw [← hW1]; exact heap_alloc_new w _
  have hB1 : Below w.heap.size w W1 := by rw [← hW1]; exact (Below.refl _ _).alloc (Nat.le_refl _) _
  have HA1 := Lib.hid (HA.out.kept (Kept.of_below (S := []) hB1) (by simp) (by simp) (by simp))
  have HB1 := Lib.hid hB1
  have hzz : w.heap.size < W1.heap.size := lt_of_block hbox
  have HBOX := Lib.hid hbox
  clear hW1 hB1 hbox
  go_loopg [6, 8] 104 (fun gk vo vi wr => ∃ k : Nat, k + gk = 104 ∧ vi = .int .i64 (k : Int) ∧ wr.ownsRow W1.heap.size 38 2 vo k (ltCells (litN (headN hd k))) ∧ Kept [] W1 wr)
  case atStart => exact ⟨0, rfl, rfl, World.ownsRow_nil _ _ _ _, Kept.refl _ _⟩
  case round =>
    obtain ⟨k, hk, rfl, how, hK⟩ := hrel
    have HOW := Lib.hid how
    have HK := Lib.hid hK
    have hwr := HK.out.size
    have hzr : w.heap.size < wr.heap.size := by omega
    clear how hK
    by_cases hlt : k < 104
    · have d0 := HK.out.cell (cell_of HBOX.out 0) (by simp)
      have d1 := HK.out.cell (cell_of HBOX.out 1) (by simp)
      have d2 := HK.out.cell (cell_of HBOX.out 2) (by simp)
      have d3 := HK.out.cell (cell_of HBOX.out 3) (by simp)
      have d4 := HK.out.cell (cell_of HBOX.out 4) (by simp)
      simp at d0 d1 d2 d3 d4
      go_wp2_with (fail)
      refine (bit_calls _ hd k hlt).mono ?_
      rintro e w5 ⟨he, k5⟩
      subst he
      have HK5 := Lib.hid (HK.out.trans (Kept.of_below (S := []) k5) (by simp))
      have HOW5 := Lib.hid (own_kept HOW.out (Kept.of_below (S := []) k5) (by simp))
      have hw5 := HK5.out.size
      clear k5 HOW
      go_wp2_with (at_builtin; refine wpList_append_lies _ rfl (.tmp 11) (.tmp 17) 36 rfl W1.heap.size 38 i0 _ 2 16 Try.underlying36 hi hz0 hz1 hz2 rfl (by decide) _ k (ltCells (litN (headN hd k))) rfl ?_ ⟨w5.heap.size, 0, none⟩ 1 1 [.int .i64 (k : Int), .bool (hd.bit k)] rfl rfl ?_ ?_ (by omega) ?_ ?_ ?_ _ rfl ?_; (· exact own_kept HOW5.out ((Kept.refl [] _).alloc _) (by simp)); (· exact news_at (by simp)); (· simp [Value.oneCell']); (· unfold maxLen; omega); (· omega); (· simp; omega); intro g9 cap9 w9 how9 hgr9 hat9 hlt9; have HOW9 := Lib.hid how9; have HGR9 := Lib.hid hgr9; clear how9 hgr9 hat9 hlt9)
      go_roundg (gk - 1)
      case measure => omega
      case rel =>
        refine ⟨k + 1, by omega, by go_num, ?_, ?_⟩
        · have := HOW9.out
          rw [headN_succ, litN_snoc]
          exact this
        · exact Kept.grown_row (HK5.out.alloc _) HGR9.out (fun g hg => Or.inr (own_past HOW5.out g hg))
    · obtain rfl : k = 104 := by omega
      obtain ⟨s0, cap0, rfl, hsb, hs0⟩ := HOW.out.form (by omega)
      have hlt := HA1.out.lt
      have HC := Lib.hid (cube_calls (HA1.out.kept HK.out (by simp) (by simp) (by simp)) HO.out s0 0 cap0 104 (headN hd 104) (headN_length _ _) (Nat.le_refl _) (by omega) (headN_rise hd (Nat.le_refl _)) (own_lits HOW.out) (by omega) (by omega) (by omega))
      clear hlt
      go_wp2_with (fail)
      refine HC.out.mono ?_
      rintro e w6 ⟨he, g6, hg6, hA6, hK6⟩
      subst he
      have H6 := Lib.hid hA6
      have HG6 := Lib.hid hg6
      have HK6 := Lib.hid hK6
      clear hA6 hg6 hK6
      generalize (cubeF A (headN hd 104)).1 = r at *
      generalize (cubeF A (headN hd 104)).2 = A1 at *
      simp only [resV]
      generalize her : (if r.isSome = true then (0 : Int) else 20) = er
      have HER := Lib.hid her
      clear her
      go_wp2_with (fail)
      go_ret2
      refine ⟨by simp only [resV]; rw [HER.out]; rfl, g6, ?_, H6.out, ?_⟩
      · rcases HG6.out with h | h
        · exact Or.inl h
        · have := HK.out.size
          have := HB1.out.size
          exact Or.inr (by omega)
      · exact ((Kept.of_below HB1.out).trans HK.out (by simp)).trans HK6.out (by simp)

end Go.Proofs.Ytakgghhmecphmaa
