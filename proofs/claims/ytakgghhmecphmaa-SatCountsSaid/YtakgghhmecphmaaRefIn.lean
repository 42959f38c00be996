/- The walk of the document's In. -/
import Derived.Test.YtakgghhmecphmaaBack
import Derived.Test.YtakgghhmecphmaaRefInP
import Derived.Test.YtakgghhmecphmaaLight
import Derived.Deep.RegionHeld3
import Derived.Deep.CutRange
import Derived.IntWalk
namespace Go.Proofs.Ytakgghhmecphmaa
set_option linter.unusedVariables false
set_option linter.unusedSimpArgs false
open Go.RowKit Go.Maps

def InPost (w : World) (l : List Ex) (b : Nat → Bool) (e : Ending) (w' : World) : Prop := ∃ vo, e = .returned vo ∧ w'.ownsRow w.heap.size 4 1 vo l.length ((inL l b).map Value.bool) ∧ Below w.heap.size w w'

theorem ExsAt.take {w : World} {b off : Nat} {l : List Ex} (h : ExsAt w b off l) (k : Nat) : ExsAt w b off (l.take k) := by
  intro j u hu
  refine h j u ?_
  have hp : exCells (l.take k) <+: exCells l := by
    obtain ⟨r, hr⟩ := List.take_prefix k l
    refine ⟨exCells r, ?_⟩
    conv => rhs; rw [← hr]
    simp [exCells]
  obtain ⟨r, hr⟩ := hp
  rw [← hr, List.getElem?_append_left (List.getElem?_eq_some_iff.1 hu).1]
  exact hu

theorem own_mono {w : World} {base base' : Nat} {e : TypeId} {size : Nat} {v : Value} {n : Nat} {xs : List Value} (h : w.ownsRow base e size v n xs) (hb : base' ≤ base) : w.ownsRow base' e size v n xs := by
  refine ⟨h.1, ?_⟩
  rcases h.2 with h1 | ⟨g, cap, cur, e, hb', r⟩
  · exact Or.inl h1
  · exact Or.inr ⟨g, cap, cur, e, by omega, r⟩

set_option maxRecDepth 100000 in
set_option maxHeartbeats 8000000 in
theorem refIn_calls : ∀ (N : Nat) (w : World) (b off cap n : Nat) (l : List Ex) (hd : Hd), l.length = n → n ≤ N → N ≤ 60 → n ≤ cap → cap ≤ maxLen → 0 < n → ExsAt w b off l → (∀ i x, l[i]? = some x → ¬ BadE x i) → hd.Wf →
    Calls Try.prog 40 #[.slice (some ⟨b, off, none⟩) n cap, hd.val] w (InPost w l hd.bit) := by
  intro N
  induction N with
  | zero => intro w b off cap n l hd h1 h2 h3 h4 h5 h6; omega
  | succ N ih =>
  intro w b off cap n l hd hn hnN hN hcap hcm h0 hL hR hW
  have IH := Lib.hid ih
  have WITH := Lib.hid with_calls
  obtain ⟨i0, hi, hz0, hz1, hz2⟩ := info_parts bool_info
  have HL := Lib.hid hL
  have HR := Lib.hid hR
  have HN := Lib.hid hn
  have HBT := Lib.hid (bits_calls (w.alloc (.cells #[.int .u32 (hd.dst : Int), .int .u32 (hd.src : Int), .int .u8 (hd.proto : Int), .int .u16 (hd.sport : Int), .int .u16 (hd.dport : Int)] 25)) hd hW)
  have HW := Lib.hid hW
  have hbz : b < w.heap.size := by
    have := hL 0 (.int .i64 (l[0]'(by omega)).kind) (by
      have := exCells_at (l := l) (i := 0) (List.getElem?_eq_getElem (by omega)) 0 _ rfl
      simpa using this)
    exact World.block_lt_of_cell? w _ this
  have k0 := (Below.refl w.heap.size w).alloc (Nat.le_refl _) (.cells #[.int .u32 (hd.dst : Int), .int .u32 (hd.src : Int), .int .u8 (hd.proto : Int), .int .u16 (hd.sport : Int), .int .u16 (hd.dport : Int)] 25)
  have hX := heap_alloc_new w (.cells #[.int .u32 (hd.dst : Int), .int .u32 (hd.src : Int), .int .u8 (hd.proto : Int), .int .u16 (hd.sport : Int), .int .u16 (hd.dport : Int)] 25)
  clear ih hL hR hn hW
  unfold Hd.val at *
  go_enter Try.func40, Try.ntmps40
  go_wp2_with (fail)
  refine HBT.out.mono ?_
  rintro e w1 ⟨vb, he, hob, kb⟩
  subst he
  rw [bitsH_eq] at hob
  obtain ⟨gb, capb, rfl, hgB, hgb, hgz⟩ := own_bools hob (by omega)
  have hX1 := (kb.block _ (by simp)).trans hX
  have HK1 := Lib.hid (k0.trans (kb.mono (by simp)))
  have HL1 := Lib.hid (HL.out.kept (Kept.of_below (S := []) HK1.out) (by simp))
  have HX1 := Lib.hid hX1
  have HGB := Lib.hid hgB
  have hz1' := HK1.out.size
  have hbz1 : b < w1.heap.size := by omega
  have hhb : w.heap.size < w1.heap.size := lt_of_block hX1
  clear k0 hX kb hX1 hgB hob HBT HL
  generalize hwzz : w.heap.size = wz at *
  have HWZ := Lib.hid hwzz
  clear hwzz
  go_wp2_with (fail)
  go_loopg [6, 7] n (fun gk vo vi wr => ∃ k : Nat, k + gk = n ∧ vi = .int .i64 (k : Int) ∧ wr.ownsRow w1.heap.size 4 1 vo k ((inL (l.take k) hd.bit).map Value.bool) ∧ Kept [] w1 wr)
  case atStart => exact ⟨0, by omega, rfl, World.ownsRow_nil _ _ _ _, Kept.refl _ _⟩
  case round =>
    obtain ⟨k, hkg, rfl, how, hK⟩ := hrel
    have HOW := Lib.hid how
    have HK := Lib.hid hK
    have hwz := hK.size
    clear how hK
    by_cases hlt : k < n
    · have hx : l[k]? = some (l[k]'(by have := HN.out; omega)) := List.getElem?_eq_getElem _
      generalize l[k]'(by have := HN.out; omega) = x at hx
      obtain ⟨x0, x1, x2, x3, x4, x5⟩ := (HL1.out.kept HK.out (by simp)).at_ hx
      have hb := HR.out k x hx
      obtain ⟨xk, xa, xb, xc, xv, xo⟩ := x
      simp only at x0 x1 x2 x3 x4 x5
      have HIN := Lib.hid (inL_succ hx hd.bit)
      unfold BadE at hb
      simp only at hb
      clear hx
      have hcases : xk = 0 ∨ xk = 1 ∨ xk = 2 ∨ xk = 3 ∨ xk = 4 ∨ xk = 5 ∨ xk = 6 ∨ xk = 7 ∨ xk = 8 ∨ xk = 9 := by omega
      have hv : ∃ v : Nat, xv = (v : Int) ∧ v < 104 := ⟨xv.toNat, by omega, by omega⟩
      obtain ⟨v, rfl, hv104⟩ := hv
      rcases hcases with rfl | rfl | rfl | rfl | rfl | rfl | rfl | rfl | rfl | rfl
      · as_aux_lemma =>
          go_wp2_with (at_builtin; refine wpList_append_lies _ rfl (.tmp 149) (.tmp 151) 35 rfl w1.heap.size 4 i0 _ 1 1 Try.underlying35 hi hz0 hz1 hz2 rfl (by decide) _ k ((inL (l.take k) hd.bit).map Value.bool) rfl ?_ ⟨wr.heap.size + 1, 0, none⟩ 1 1 [.bool false] rfl rfl ?_ ?_ (by omega) ?_ ?_ ?_ _ rfl ?_; (· exact own_kept HOW.out (((Kept.refl [] _).alloc _).alloc _) (by simp)); (· exact news_at (by simp)); (· simp [Value.oneCell']); (· unfold maxLen; omega); (· omega); (· simp; omega); intro g9 cap9 w9 how9 hgr9 hat9 hlt9; have HOW9 := Lib.hid how9; have HGR9 := Lib.hid hgr9; clear how9 hgr9 hat9 hlt9)
          go_roundg (gk - 1)
          case measure => omega
          case rel =>
            refine ⟨k + 1, by omega, by go_num, ?_, ?_⟩
            · have := HOW9.out
              rw [HIN.out, List.map_append, inL_0]
              exact this
            · exact Kept.grown_row (HK.out.trans (((Kept.refl [] _).alloc _).alloc _) (by simp)) HGR9.out (fun g hg => Or.inr (own_past3 HOW.out g hg))
      · as_aux_lemma =>
          go_wp2_with (at_builtin; refine wpList_append_lies _ rfl (.tmp 149) (.tmp 151) 35 rfl w1.heap.size 4 i0 _ 1 1 Try.underlying35 hi hz0 hz1 hz2 rfl (by decide) _ k ((inL (l.take k) hd.bit).map Value.bool) rfl ?_ ⟨wr.heap.size + 1, 0, none⟩ 1 1 [.bool true] rfl rfl ?_ ?_ (by omega) ?_ ?_ ?_ _ rfl ?_; (· exact own_kept HOW.out (((Kept.refl [] _).alloc _).alloc _) (by simp)); (· exact news_at (by simp)); (· simp [Value.oneCell']); (· unfold maxLen; omega); (· omega); (· simp; omega); intro g9 cap9 w9 how9 hgr9 hat9 hlt9; have HOW9 := Lib.hid how9; have HGR9 := Lib.hid hgr9; clear how9 hgr9 hat9 hlt9)
          go_roundg (gk - 1)
          case measure => omega
          case rel =>
            refine ⟨k + 1, by omega, by go_num, ?_, ?_⟩
            · have := HOW9.out
              rw [HIN.out, List.map_append, inL_1]
              exact this
            · exact Kept.grown_row (HK.out.trans (((Kept.refl [] _).alloc _).alloc _) (by simp)) HGR9.out (fun g hg => Or.inr (own_past3 HOW.out g hg))
      · as_aux_lemma =>
          have cv := HGB.out.kept HK.out (by simp) v (by rw [bitsB_length]; exact hv104)
          rw [Nat.zero_add, List.getD_eq_getElem?_getD, bitsB_at hd hv104, Option.getD_some] at cv
          have hgz2 : gb < wr.heap.size := by omega
          generalize hvb : hd.bit v = bv at *
          have HVB := Lib.hid hvb
          clear hvb
          rcases bv with _ | _ <;> rcases xo with _ | _
          · go_wp2_with (fail)
            go_quiet (fail)
            go_wp2_with (at_builtin; refine wpList_append_lies _ rfl (.tmp 149) (.tmp 151) 35 rfl w1.heap.size 4 i0 _ 1 1 Try.underlying35 hi hz0 hz1 hz2 rfl (by decide) _ k ((inL (l.take k) hd.bit).map Value.bool) rfl ?_ ⟨wr.heap.size + 1, 0, none⟩ 1 1 [.bool true] rfl rfl ?_ ?_ (by omega) ?_ ?_ ?_ _ rfl ?_; (· exact own_kept HOW.out ((((Kept.refl [] _).alloc _).drewN _).alloc _) (by simp)); (· exact news_at (by simp)); (· simp [Value.oneCell']); (· unfold maxLen; omega); (· omega); (· simp; omega); intro g9 cap9 w9 how9 hgr9 hat9 hlt9; have HOW9 := Lib.hid how9; have HGR9 := Lib.hid hgr9; clear how9 hgr9 hat9 hlt9)
            go_roundg (gk - 1)
            case measure => omega
            case rel =>
              refine ⟨k + 1, by omega, by go_num, ?_, ?_⟩
              · have := HOW9.out
                rw [HIN.out, List.map_append, inL_2, Int.toNat_natCast, HVB.out]
                exact this
              · exact Kept.grown_row (HK.out.trans ((((Kept.refl [] _).alloc _).drewN _).alloc _) (by simp)) HGR9.out (fun g hg => Or.inr (own_past3 HOW.out g hg))
          · go_wp2_with (fail)
            go_quiet (fail)
            go_wp2_with (at_builtin; refine wpList_append_lies _ rfl (.tmp 149) (.tmp 151) 35 rfl w1.heap.size 4 i0 _ 1 1 Try.underlying35 hi hz0 hz1 hz2 rfl (by decide) _ k ((inL (l.take k) hd.bit).map Value.bool) rfl ?_ ⟨wr.heap.size + 1, 0, none⟩ 1 1 [.bool false] rfl rfl ?_ ?_ (by omega) ?_ ?_ ?_ _ rfl ?_; (· exact own_kept HOW.out ((((Kept.refl [] _).alloc _).drewN _).alloc _) (by simp)); (· exact news_at (by simp)); (· simp [Value.oneCell']); (· unfold maxLen; omega); (· omega); (· simp; omega); intro g9 cap9 w9 how9 hgr9 hat9 hlt9; have HOW9 := Lib.hid how9; have HGR9 := Lib.hid hgr9; clear how9 hgr9 hat9 hlt9)
            go_roundg (gk - 1)
            case measure => omega
            case rel =>
              refine ⟨k + 1, by omega, by go_num, ?_, ?_⟩
              · have := HOW9.out
                rw [HIN.out, List.map_append, inL_2, Int.toNat_natCast, HVB.out]
                exact this
              · exact Kept.grown_row (HK.out.trans ((((Kept.refl [] _).alloc _).drewN _).alloc _) (by simp)) HGR9.out (fun g hg => Or.inr (own_past3 HOW.out g hg))
          · go_wp2_with (fail)
            go_quiet (fail)
            go_wp2_with (at_builtin; refine wpList_append_lies _ rfl (.tmp 149) (.tmp 151) 35 rfl w1.heap.size 4 i0 _ 1 1 Try.underlying35 hi hz0 hz1 hz2 rfl (by decide) _ k ((inL (l.take k) hd.bit).map Value.bool) rfl ?_ ⟨wr.heap.size + 1, 0, none⟩ 1 1 [.bool false] rfl rfl ?_ ?_ (by omega) ?_ ?_ ?_ _ rfl ?_; (· exact own_kept HOW.out ((((Kept.refl [] _).alloc _).drewN _).alloc _) (by simp)); (· exact news_at (by simp)); (· simp [Value.oneCell']); (· unfold maxLen; omega); (· omega); (· simp; omega); intro g9 cap9 w9 how9 hgr9 hat9 hlt9; have HOW9 := Lib.hid how9; have HGR9 := Lib.hid hgr9; clear how9 hgr9 hat9 hlt9)
            go_roundg (gk - 1)
            case measure => omega
            case rel =>
              refine ⟨k + 1, by omega, by go_num, ?_, ?_⟩
              · have := HOW9.out
                rw [HIN.out, List.map_append, inL_2, Int.toNat_natCast, HVB.out]
                exact this
              · exact Kept.grown_row (HK.out.trans ((((Kept.refl [] _).alloc _).drewN _).alloc _) (by simp)) HGR9.out (fun g hg => Or.inr (own_past3 HOW.out g hg))
          · go_wp2_with (fail)
            go_quiet (fail)
            go_wp2_with (at_builtin; refine wpList_append_lies _ rfl (.tmp 149) (.tmp 151) 35 rfl w1.heap.size 4 i0 _ 1 1 Try.underlying35 hi hz0 hz1 hz2 rfl (by decide) _ k ((inL (l.take k) hd.bit).map Value.bool) rfl ?_ ⟨wr.heap.size + 1, 0, none⟩ 1 1 [.bool true] rfl rfl ?_ ?_ (by omega) ?_ ?_ ?_ _ rfl ?_; (· exact own_kept HOW.out ((((Kept.refl [] _).alloc _).drewN _).alloc _) (by simp)); (· exact news_at (by simp)); (· simp [Value.oneCell']); (· unfold maxLen; omega); (· omega); (· simp; omega); intro g9 cap9 w9 how9 hgr9 hat9 hlt9; have HOW9 := Lib.hid how9; have HGR9 := Lib.hid hgr9; clear how9 hgr9 hat9 hlt9)
            go_roundg (gk - 1)
            case measure => omega
            case rel =>
              refine ⟨k + 1, by omega, by go_num, ?_, ?_⟩
              · have := HOW9.out
                rw [HIN.out, List.map_append, inL_2, Int.toNat_natCast, HVB.out]
                exact this
              · exact Kept.grown_row (HK.out.trans ((((Kept.refl [] _).alloc _).drewN _).alloc _) (by simp)) HGR9.out (fun g hg => Or.inr (own_past3 HOW.out g hg))
      · as_aux_lemma =>
          obtain ⟨go, capo, rfl, hob, hgo0, hgoz⟩ := own_bools HOW.out (show 0 < k by omega)
          have HOB := Lib.hid hob
          clear hob
          obtain ⟨aN, rfl⟩ := Int.eq_ofNat_of_zero_le (show 0 ≤ xa by omega)
          have hak : aN < k := by omega
          have ca := HOB.out aN (by rw [inL_length, List.length_take, HN.out]; omega)
          rw [Nat.zero_add] at ca
          generalize hva : (inL (l.take k) hd.bit).getD aN false = ya at *
          have HVa := Lib.hid hva
          clear hva
          obtain ⟨bN, rfl⟩ := Int.eq_ofNat_of_zero_le (show 0 ≤ xb by omega)
          have hbk : bN < k := by omega
          have cb := HOB.out bN (by rw [inL_length, List.length_take, HN.out]; omega)
          rw [Nat.zero_add] at cb
          generalize hvb : (inL (l.take k) hd.bit).getD bN false = yb at *
          have HVb := Lib.hid hvb
          clear hvb
          rcases ya with _ | _ <;> rcases yb with _ | _
          · go_wp2_with (at_builtin; refine wpList_append_lies _ rfl (.tmp 149) (.tmp 151) 35 rfl w1.heap.size 4 i0 _ 1 1 Try.underlying35 hi hz0 hz1 hz2 rfl (by decide) _ k ((inL (l.take k) hd.bit).map Value.bool) rfl ?_ ⟨wr.heap.size + 1, 0, none⟩ 1 1 [.bool false] rfl rfl ?_ ?_ (by omega) ?_ ?_ ?_ _ rfl ?_; (· exact own_kept HOW.out (((Kept.refl [] _).alloc _).alloc _) (by simp)); (· exact news_at (by simp)); (· simp [Value.oneCell']); (· unfold maxLen; omega); (· omega); (· simp; omega); intro g9 cap9 w9 how9 hgr9 hat9 hlt9; have HOW9 := Lib.hid how9; have HGR9 := Lib.hid hgr9; clear how9 hgr9 hat9 hlt9)
            go_roundg (gk - 1)
            case measure => omega
            case rel =>
              refine ⟨k + 1, by omega, by go_num, ?_, ?_⟩
              · have := HOW9.out
                rw [HIN.out, List.map_append, inL_3]
                simp only [Int.ofNat_eq_natCast, Int.toNat_natCast, HVa.out, HVb.out]
                exact this
              · exact Kept.grown_row (HK.out.trans (((Kept.refl [] _).alloc _).alloc _) (by simp)) HGR9.out (fun g hg => Or.inr (own_past3 HOW.out g hg))
          · go_wp2_with (at_builtin; refine wpList_append_lies _ rfl (.tmp 149) (.tmp 151) 35 rfl w1.heap.size 4 i0 _ 1 1 Try.underlying35 hi hz0 hz1 hz2 rfl (by decide) _ k ((inL (l.take k) hd.bit).map Value.bool) rfl ?_ ⟨wr.heap.size + 1, 0, none⟩ 1 1 [.bool false] rfl rfl ?_ ?_ (by omega) ?_ ?_ ?_ _ rfl ?_; (· exact own_kept HOW.out (((Kept.refl [] _).alloc _).alloc _) (by simp)); (· exact news_at (by simp)); (· simp [Value.oneCell']); (· unfold maxLen; omega); (· omega); (· simp; omega); intro g9 cap9 w9 how9 hgr9 hat9 hlt9; have HOW9 := Lib.hid how9; have HGR9 := Lib.hid hgr9; clear how9 hgr9 hat9 hlt9)
            go_roundg (gk - 1)
            case measure => omega
            case rel =>
              refine ⟨k + 1, by omega, by go_num, ?_, ?_⟩
              · have := HOW9.out
                rw [HIN.out, List.map_append, inL_3]
                simp only [Int.ofNat_eq_natCast, Int.toNat_natCast, HVa.out, HVb.out]
                exact this
              · exact Kept.grown_row (HK.out.trans (((Kept.refl [] _).alloc _).alloc _) (by simp)) HGR9.out (fun g hg => Or.inr (own_past3 HOW.out g hg))
          · go_wp2_with (at_builtin; refine wpList_append_lies _ rfl (.tmp 149) (.tmp 151) 35 rfl w1.heap.size 4 i0 _ 1 1 Try.underlying35 hi hz0 hz1 hz2 rfl (by decide) _ k ((inL (l.take k) hd.bit).map Value.bool) rfl ?_ ⟨wr.heap.size + 1, 0, none⟩ 1 1 [.bool false] rfl rfl ?_ ?_ (by omega) ?_ ?_ ?_ _ rfl ?_; (· exact own_kept HOW.out (((Kept.refl [] _).alloc _).alloc _) (by simp)); (· exact news_at (by simp)); (· simp [Value.oneCell']); (· unfold maxLen; omega); (· omega); (· simp; omega); intro g9 cap9 w9 how9 hgr9 hat9 hlt9; have HOW9 := Lib.hid how9; have HGR9 := Lib.hid hgr9; clear how9 hgr9 hat9 hlt9)
            go_roundg (gk - 1)
            case measure => omega
            case rel =>
              refine ⟨k + 1, by omega, by go_num, ?_, ?_⟩
              · have := HOW9.out
                rw [HIN.out, List.map_append, inL_3]
                simp only [Int.ofNat_eq_natCast, Int.toNat_natCast, HVa.out, HVb.out]
                exact this
              · exact Kept.grown_row (HK.out.trans (((Kept.refl [] _).alloc _).alloc _) (by simp)) HGR9.out (fun g hg => Or.inr (own_past3 HOW.out g hg))
          · go_wp2_with (at_builtin; refine wpList_append_lies _ rfl (.tmp 149) (.tmp 151) 35 rfl w1.heap.size 4 i0 _ 1 1 Try.underlying35 hi hz0 hz1 hz2 rfl (by decide) _ k ((inL (l.take k) hd.bit).map Value.bool) rfl ?_ ⟨wr.heap.size + 1, 0, none⟩ 1 1 [.bool true] rfl rfl ?_ ?_ (by omega) ?_ ?_ ?_ _ rfl ?_; (· exact own_kept HOW.out (((Kept.refl [] _).alloc _).alloc _) (by simp)); (· exact news_at (by simp)); (· simp [Value.oneCell']); (· unfold maxLen; omega); (· omega); (· simp; omega); intro g9 cap9 w9 how9 hgr9 hat9 hlt9; have HOW9 := Lib.hid how9; have HGR9 := Lib.hid hgr9; clear how9 hgr9 hat9 hlt9)
            go_roundg (gk - 1)
            case measure => omega
            case rel =>
              refine ⟨k + 1, by omega, by go_num, ?_, ?_⟩
              · have := HOW9.out
                rw [HIN.out, List.map_append, inL_3]
                simp only [Int.ofNat_eq_natCast, Int.toNat_natCast, HVa.out, HVb.out]
                exact this
              · exact Kept.grown_row (HK.out.trans (((Kept.refl [] _).alloc _).alloc _) (by simp)) HGR9.out (fun g hg => Or.inr (own_past3 HOW.out g hg))
      · as_aux_lemma =>
          obtain ⟨go, capo, rfl, hob, hgo0, hgoz⟩ := own_bools HOW.out (show 0 < k by omega)
          have HOB := Lib.hid hob
          clear hob
          obtain ⟨aN, rfl⟩ := Int.eq_ofNat_of_zero_le (show 0 ≤ xa by omega)
          have hak : aN < k := by omega
          have ca := HOB.out aN (by rw [inL_length, List.length_take, HN.out]; omega)
          rw [Nat.zero_add] at ca
          generalize hva : (inL (l.take k) hd.bit).getD aN false = ya at *
          have HVa := Lib.hid hva
          clear hva
          obtain ⟨bN, rfl⟩ := Int.eq_ofNat_of_zero_le (show 0 ≤ xb by omega)
          have hbk : bN < k := by omega
          have cb := HOB.out bN (by rw [inL_length, List.length_take, HN.out]; omega)
          rw [Nat.zero_add] at cb
          generalize hvb : (inL (l.take k) hd.bit).getD bN false = yb at *
          have HVb := Lib.hid hvb
          clear hvb
          rcases ya with _ | _ <;> rcases yb with _ | _
          · go_wp2_with (at_builtin; refine wpList_append_lies _ rfl (.tmp 149) (.tmp 151) 35 rfl w1.heap.size 4 i0 _ 1 1 Try.underlying35 hi hz0 hz1 hz2 rfl (by decide) _ k ((inL (l.take k) hd.bit).map Value.bool) rfl ?_ ⟨wr.heap.size + 1, 0, none⟩ 1 1 [.bool false] rfl rfl ?_ ?_ (by omega) ?_ ?_ ?_ _ rfl ?_; (· exact own_kept HOW.out (((Kept.refl [] _).alloc _).alloc _) (by simp)); (· exact news_at (by simp)); (· simp [Value.oneCell']); (· unfold maxLen; omega); (· omega); (· simp; omega); intro g9 cap9 w9 how9 hgr9 hat9 hlt9; have HOW9 := Lib.hid how9; have HGR9 := Lib.hid hgr9; clear how9 hgr9 hat9 hlt9)
            go_roundg (gk - 1)
            case measure => omega
            case rel =>
              refine ⟨k + 1, by omega, by go_num, ?_, ?_⟩
              · have := HOW9.out
                rw [HIN.out, List.map_append, inL_4]
                simp only [Int.ofNat_eq_natCast, Int.toNat_natCast, HVa.out, HVb.out]
                exact this
              · exact Kept.grown_row (HK.out.trans (((Kept.refl [] _).alloc _).alloc _) (by simp)) HGR9.out (fun g hg => Or.inr (own_past3 HOW.out g hg))
          · go_wp2_with (at_builtin; refine wpList_append_lies _ rfl (.tmp 149) (.tmp 151) 35 rfl w1.heap.size 4 i0 _ 1 1 Try.underlying35 hi hz0 hz1 hz2 rfl (by decide) _ k ((inL (l.take k) hd.bit).map Value.bool) rfl ?_ ⟨wr.heap.size + 1, 0, none⟩ 1 1 [.bool true] rfl rfl ?_ ?_ (by omega) ?_ ?_ ?_ _ rfl ?_; (· exact own_kept HOW.out (((Kept.refl [] _).alloc _).alloc _) (by simp)); (· exact news_at (by simp)); (· simp [Value.oneCell']); (· unfold maxLen; omega); (· omega); (· simp; omega); intro g9 cap9 w9 how9 hgr9 hat9 hlt9; have HOW9 := Lib.hid how9; have HGR9 := Lib.hid hgr9; clear how9 hgr9 hat9 hlt9)
            go_roundg (gk - 1)
            case measure => omega
            case rel =>
              refine ⟨k + 1, by omega, by go_num, ?_, ?_⟩
              · have := HOW9.out
                rw [HIN.out, List.map_append, inL_4]
                simp only [Int.ofNat_eq_natCast, Int.toNat_natCast, HVa.out, HVb.out]
                exact this
              · exact Kept.grown_row (HK.out.trans (((Kept.refl [] _).alloc _).alloc _) (by simp)) HGR9.out (fun g hg => Or.inr (own_past3 HOW.out g hg))
          · go_wp2_with (at_builtin; refine wpList_append_lies _ rfl (.tmp 149) (.tmp 151) 35 rfl w1.heap.size 4 i0 _ 1 1 Try.underlying35 hi hz0 hz1 hz2 rfl (by decide) _ k ((inL (l.take k) hd.bit).map Value.bool) rfl ?_ ⟨wr.heap.size + 1, 0, none⟩ 1 1 [.bool true] rfl rfl ?_ ?_ (by omega) ?_ ?_ ?_ _ rfl ?_; (· exact own_kept HOW.out (((Kept.refl [] _).alloc _).alloc _) (by simp)); (· exact news_at (by simp)); (· simp [Value.oneCell']); (· unfold maxLen; omega); (· omega); (· simp; omega); intro g9 cap9 w9 how9 hgr9 hat9 hlt9; have HOW9 := Lib.hid how9; have HGR9 := Lib.hid hgr9; clear how9 hgr9 hat9 hlt9)
            go_roundg (gk - 1)
            case measure => omega
            case rel =>
              refine ⟨k + 1, by omega, by go_num, ?_, ?_⟩
              · have := HOW9.out
                rw [HIN.out, List.map_append, inL_4]
                simp only [Int.ofNat_eq_natCast, Int.toNat_natCast, HVa.out, HVb.out]
                exact this
              · exact Kept.grown_row (HK.out.trans (((Kept.refl [] _).alloc _).alloc _) (by simp)) HGR9.out (fun g hg => Or.inr (own_past3 HOW.out g hg))
          · go_wp2_with (at_builtin; refine wpList_append_lies _ rfl (.tmp 149) (.tmp 151) 35 rfl w1.heap.size 4 i0 _ 1 1 Try.underlying35 hi hz0 hz1 hz2 rfl (by decide) _ k ((inL (l.take k) hd.bit).map Value.bool) rfl ?_ ⟨wr.heap.size + 1, 0, none⟩ 1 1 [.bool true] rfl rfl ?_ ?_ (by omega) ?_ ?_ ?_ _ rfl ?_; (· exact own_kept HOW.out (((Kept.refl [] _).alloc _).alloc _) (by simp)); (· exact news_at (by simp)); (· simp [Value.oneCell']); (· unfold maxLen; omega); (· omega); (· simp; omega); intro g9 cap9 w9 how9 hgr9 hat9 hlt9; have HOW9 := Lib.hid how9; have HGR9 := Lib.hid hgr9; clear how9 hgr9 hat9 hlt9)
            go_roundg (gk - 1)
            case measure => omega
            case rel =>
              refine ⟨k + 1, by omega, by go_num, ?_, ?_⟩
              · have := HOW9.out
                rw [HIN.out, List.map_append, inL_4]
                simp only [Int.ofNat_eq_natCast, Int.toNat_natCast, HVa.out, HVb.out]
                exact this
              · exact Kept.grown_row (HK.out.trans (((Kept.refl [] _).alloc _).alloc _) (by simp)) HGR9.out (fun g hg => Or.inr (own_past3 HOW.out g hg))
      · as_aux_lemma =>
          obtain ⟨go, capo, rfl, hob, hgo0, hgoz⟩ := own_bools HOW.out (show 0 < k by omega)
          have HOB := Lib.hid hob
          clear hob
          obtain ⟨aN, rfl⟩ := Int.eq_ofNat_of_zero_le (show 0 ≤ xa by omega)
          have hak : aN < k := by omega
          have ca := HOB.out aN (by rw [inL_length, List.length_take, HN.out]; omega)
          rw [Nat.zero_add] at ca
          generalize hva : (inL (l.take k) hd.bit).getD aN false = ya at *
          have HVa := Lib.hid hva
          clear hva
          obtain ⟨bN, rfl⟩ := Int.eq_ofNat_of_zero_le (show 0 ≤ xb by omega)
          have hbk : bN < k := by omega
          have cb := HOB.out bN (by rw [inL_length, List.length_take, HN.out]; omega)
          rw [Nat.zero_add] at cb
          generalize hvb : (inL (l.take k) hd.bit).getD bN false = yb at *
          have HVb := Lib.hid hvb
          clear hvb
          rcases ya with _ | _ <;> rcases yb with _ | _
          · go_wp2_with (fail)
            go_quiet (fail)
            go_wp2_with (at_builtin; refine wpList_append_lies _ rfl (.tmp 149) (.tmp 151) 35 rfl w1.heap.size 4 i0 _ 1 1 Try.underlying35 hi hz0 hz1 hz2 rfl (by decide) _ k ((inL (l.take k) hd.bit).map Value.bool) rfl ?_ ⟨wr.heap.size + 1, 0, none⟩ 1 1 [.bool false] rfl rfl ?_ ?_ (by omega) ?_ ?_ ?_ _ rfl ?_; (· exact own_kept HOW.out ((((Kept.refl [] _).alloc _).drewN _).alloc _) (by simp)); (· exact news_at (by simp)); (· simp [Value.oneCell']); (· unfold maxLen; omega); (· omega); (· simp; omega); intro g9 cap9 w9 how9 hgr9 hat9 hlt9; have HOW9 := Lib.hid how9; have HGR9 := Lib.hid hgr9; clear how9 hgr9 hat9 hlt9)
            go_roundg (gk - 1)
            case measure => omega
            case rel =>
              refine ⟨k + 1, by omega, by go_num, ?_, ?_⟩
              · have := HOW9.out
                rw [HIN.out, List.map_append, inL_5]
                simp only [Int.ofNat_eq_natCast, Int.toNat_natCast, HVa.out, HVb.out]
                exact this
              · exact Kept.grown_row (HK.out.trans ((((Kept.refl [] _).alloc _).drewN _).alloc _) (by simp)) HGR9.out (fun g hg => Or.inr (own_past3 HOW.out g hg))
          · go_wp2_with (fail)
            go_quiet (fail)
            go_wp2_with (at_builtin; refine wpList_append_lies _ rfl (.tmp 149) (.tmp 151) 35 rfl w1.heap.size 4 i0 _ 1 1 Try.underlying35 hi hz0 hz1 hz2 rfl (by decide) _ k ((inL (l.take k) hd.bit).map Value.bool) rfl ?_ ⟨wr.heap.size + 1, 0, none⟩ 1 1 [.bool true] rfl rfl ?_ ?_ (by omega) ?_ ?_ ?_ _ rfl ?_; (· exact own_kept HOW.out ((((Kept.refl [] _).alloc _).drewN _).alloc _) (by simp)); (· exact news_at (by simp)); (· simp [Value.oneCell']); (· unfold maxLen; omega); (· omega); (· simp; omega); intro g9 cap9 w9 how9 hgr9 hat9 hlt9; have HOW9 := Lib.hid how9; have HGR9 := Lib.hid hgr9; clear how9 hgr9 hat9 hlt9)
            go_roundg (gk - 1)
            case measure => omega
            case rel =>
              refine ⟨k + 1, by omega, by go_num, ?_, ?_⟩
              · have := HOW9.out
                rw [HIN.out, List.map_append, inL_5]
                simp only [Int.ofNat_eq_natCast, Int.toNat_natCast, HVa.out, HVb.out]
                exact this
              · exact Kept.grown_row (HK.out.trans ((((Kept.refl [] _).alloc _).drewN _).alloc _) (by simp)) HGR9.out (fun g hg => Or.inr (own_past3 HOW.out g hg))
          · go_wp2_with (fail)
            go_quiet (fail)
            go_wp2_with (at_builtin; refine wpList_append_lies _ rfl (.tmp 149) (.tmp 151) 35 rfl w1.heap.size 4 i0 _ 1 1 Try.underlying35 hi hz0 hz1 hz2 rfl (by decide) _ k ((inL (l.take k) hd.bit).map Value.bool) rfl ?_ ⟨wr.heap.size + 1, 0, none⟩ 1 1 [.bool true] rfl rfl ?_ ?_ (by omega) ?_ ?_ ?_ _ rfl ?_; (· exact own_kept HOW.out ((((Kept.refl [] _).alloc _).drewN _).alloc _) (by simp)); (· exact news_at (by simp)); (· simp [Value.oneCell']); (· unfold maxLen; omega); (· omega); (· simp; omega); intro g9 cap9 w9 how9 hgr9 hat9 hlt9; have HOW9 := Lib.hid how9; have HGR9 := Lib.hid hgr9; clear how9 hgr9 hat9 hlt9)
            go_roundg (gk - 1)
            case measure => omega
            case rel =>
              refine ⟨k + 1, by omega, by go_num, ?_, ?_⟩
              · have := HOW9.out
                rw [HIN.out, List.map_append, inL_5]
                simp only [Int.ofNat_eq_natCast, Int.toNat_natCast, HVa.out, HVb.out]
                exact this
              · exact Kept.grown_row (HK.out.trans ((((Kept.refl [] _).alloc _).drewN _).alloc _) (by simp)) HGR9.out (fun g hg => Or.inr (own_past3 HOW.out g hg))
          · go_wp2_with (fail)
            go_quiet (fail)
            go_wp2_with (at_builtin; refine wpList_append_lies _ rfl (.tmp 149) (.tmp 151) 35 rfl w1.heap.size 4 i0 _ 1 1 Try.underlying35 hi hz0 hz1 hz2 rfl (by decide) _ k ((inL (l.take k) hd.bit).map Value.bool) rfl ?_ ⟨wr.heap.size + 1, 0, none⟩ 1 1 [.bool false] rfl rfl ?_ ?_ (by omega) ?_ ?_ ?_ _ rfl ?_; (· exact own_kept HOW.out ((((Kept.refl [] _).alloc _).drewN _).alloc _) (by simp)); (· exact news_at (by simp)); (· simp [Value.oneCell']); (· unfold maxLen; omega); (· omega); (· simp; omega); intro g9 cap9 w9 how9 hgr9 hat9 hlt9; have HOW9 := Lib.hid how9; have HGR9 := Lib.hid hgr9; clear how9 hgr9 hat9 hlt9)
            go_roundg (gk - 1)
            case measure => omega
            case rel =>
              refine ⟨k + 1, by omega, by go_num, ?_, ?_⟩
              · have := HOW9.out
                rw [HIN.out, List.map_append, inL_5]
                simp only [Int.ofNat_eq_natCast, Int.toNat_natCast, HVa.out, HVb.out]
                exact this
              · exact Kept.grown_row (HK.out.trans ((((Kept.refl [] _).alloc _).drewN _).alloc _) (by simp)) HGR9.out (fun g hg => Or.inr (own_past3 HOW.out g hg))
      · as_aux_lemma =>
          obtain ⟨go, capo, rfl, hob, hgo0, hgoz⟩ := own_bools HOW.out (show 0 < k by omega)
          have HOB := Lib.hid hob
          clear hob
          obtain ⟨aN, rfl⟩ := Int.eq_ofNat_of_zero_le (show 0 ≤ xa by omega)
          have hak : aN < k := by omega
          have ca := HOB.out aN (by rw [inL_length, List.length_take, HN.out]; omega)
          rw [Nat.zero_add] at ca
          generalize hva : (inL (l.take k) hd.bit).getD aN false = ya at *
          have HVa := Lib.hid hva
          clear hva
          obtain ⟨bN, rfl⟩ := Int.eq_ofNat_of_zero_le (show 0 ≤ xb by omega)
          have hbk : bN < k := by omega
          have cb := HOB.out bN (by rw [inL_length, List.length_take, HN.out]; omega)
          rw [Nat.zero_add] at cb
          generalize hvb : (inL (l.take k) hd.bit).getD bN false = yb at *
          have HVb := Lib.hid hvb
          clear hvb
          rcases ya with _ | _ <;> rcases yb with _ | _
          · go_wp2_with (at_builtin; refine wpList_append_lies _ rfl (.tmp 149) (.tmp 151) 35 rfl w1.heap.size 4 i0 _ 1 1 Try.underlying35 hi hz0 hz1 hz2 rfl (by decide) _ k ((inL (l.take k) hd.bit).map Value.bool) rfl ?_ ⟨wr.heap.size + 1, 0, none⟩ 1 1 [.bool false] rfl rfl ?_ ?_ (by omega) ?_ ?_ ?_ _ rfl ?_; (· exact own_kept HOW.out (((Kept.refl [] _).alloc _).alloc _) (by simp)); (· exact news_at (by simp)); (· simp [Value.oneCell']); (· unfold maxLen; omega); (· omega); (· simp; omega); intro g9 cap9 w9 how9 hgr9 hat9 hlt9; have HOW9 := Lib.hid how9; have HGR9 := Lib.hid hgr9; clear how9 hgr9 hat9 hlt9)
            go_roundg (gk - 1)
            case measure => omega
            case rel =>
              refine ⟨k + 1, by omega, by go_num, ?_, ?_⟩
              · have := HOW9.out
                rw [HIN.out, List.map_append, inL_6]
                simp only [Int.ofNat_eq_natCast, Int.toNat_natCast, HVa.out, HVb.out]
                exact this
              · exact Kept.grown_row (HK.out.trans (((Kept.refl [] _).alloc _).alloc _) (by simp)) HGR9.out (fun g hg => Or.inr (own_past3 HOW.out g hg))
          · go_wp2_with (at_builtin; refine wpList_append_lies _ rfl (.tmp 149) (.tmp 151) 35 rfl w1.heap.size 4 i0 _ 1 1 Try.underlying35 hi hz0 hz1 hz2 rfl (by decide) _ k ((inL (l.take k) hd.bit).map Value.bool) rfl ?_ ⟨wr.heap.size + 1, 0, none⟩ 1 1 [.bool false] rfl rfl ?_ ?_ (by omega) ?_ ?_ ?_ _ rfl ?_; (· exact own_kept HOW.out (((Kept.refl [] _).alloc _).alloc _) (by simp)); (· exact news_at (by simp)); (· simp [Value.oneCell']); (· unfold maxLen; omega); (· omega); (· simp; omega); intro g9 cap9 w9 how9 hgr9 hat9 hlt9; have HOW9 := Lib.hid how9; have HGR9 := Lib.hid hgr9; clear how9 hgr9 hat9 hlt9)
            go_roundg (gk - 1)
            case measure => omega
            case rel =>
              refine ⟨k + 1, by omega, by go_num, ?_, ?_⟩
              · have := HOW9.out
                rw [HIN.out, List.map_append, inL_6]
                simp only [Int.ofNat_eq_natCast, Int.toNat_natCast, HVa.out, HVb.out]
                exact this
              · exact Kept.grown_row (HK.out.trans (((Kept.refl [] _).alloc _).alloc _) (by simp)) HGR9.out (fun g hg => Or.inr (own_past3 HOW.out g hg))
          · go_wp2_with (at_builtin; refine wpList_append_lies _ rfl (.tmp 149) (.tmp 151) 35 rfl w1.heap.size 4 i0 _ 1 1 Try.underlying35 hi hz0 hz1 hz2 rfl (by decide) _ k ((inL (l.take k) hd.bit).map Value.bool) rfl ?_ ⟨wr.heap.size + 1, 0, none⟩ 1 1 [.bool true] rfl rfl ?_ ?_ (by omega) ?_ ?_ ?_ _ rfl ?_; (· exact own_kept HOW.out (((Kept.refl [] _).alloc _).alloc _) (by simp)); (· exact news_at (by simp)); (· simp [Value.oneCell']); (· unfold maxLen; omega); (· omega); (· simp; omega); intro g9 cap9 w9 how9 hgr9 hat9 hlt9; have HOW9 := Lib.hid how9; have HGR9 := Lib.hid hgr9; clear how9 hgr9 hat9 hlt9)
            go_roundg (gk - 1)
            case measure => omega
            case rel =>
              refine ⟨k + 1, by omega, by go_num, ?_, ?_⟩
              · have := HOW9.out
                rw [HIN.out, List.map_append, inL_6]
                simp only [Int.ofNat_eq_natCast, Int.toNat_natCast, HVa.out, HVb.out]
                exact this
              · exact Kept.grown_row (HK.out.trans (((Kept.refl [] _).alloc _).alloc _) (by simp)) HGR9.out (fun g hg => Or.inr (own_past3 HOW.out g hg))
          · go_wp2_with (at_builtin; refine wpList_append_lies _ rfl (.tmp 149) (.tmp 151) 35 rfl w1.heap.size 4 i0 _ 1 1 Try.underlying35 hi hz0 hz1 hz2 rfl (by decide) _ k ((inL (l.take k) hd.bit).map Value.bool) rfl ?_ ⟨wr.heap.size + 1, 0, none⟩ 1 1 [.bool false] rfl rfl ?_ ?_ (by omega) ?_ ?_ ?_ _ rfl ?_; (· exact own_kept HOW.out (((Kept.refl [] _).alloc _).alloc _) (by simp)); (· exact news_at (by simp)); (· simp [Value.oneCell']); (· unfold maxLen; omega); (· omega); (· simp; omega); intro g9 cap9 w9 how9 hgr9 hat9 hlt9; have HOW9 := Lib.hid how9; have HGR9 := Lib.hid hgr9; clear how9 hgr9 hat9 hlt9)
            go_roundg (gk - 1)
            case measure => omega
            case rel =>
              refine ⟨k + 1, by omega, by go_num, ?_, ?_⟩
              · have := HOW9.out
                rw [HIN.out, List.map_append, inL_6]
                simp only [Int.ofNat_eq_natCast, Int.toNat_natCast, HVa.out, HVb.out]
                exact this
              · exact Kept.grown_row (HK.out.trans (((Kept.refl [] _).alloc _).alloc _) (by simp)) HGR9.out (fun g hg => Or.inr (own_past3 HOW.out g hg))
      · as_aux_lemma =>
          obtain ⟨go, capo, rfl, hob, hgo0, hgoz⟩ := own_bools HOW.out (show 0 < k by omega)
          have HOB := Lib.hid hob
          clear hob
          obtain ⟨aN, rfl⟩ := Int.eq_ofNat_of_zero_le (show 0 ≤ xa by omega)
          have hak : aN < k := by omega
          have ca := HOB.out aN (by rw [inL_length, List.length_take, HN.out]; omega)
          rw [Nat.zero_add] at ca
          generalize hva : (inL (l.take k) hd.bit).getD aN false = ya at *
          have HVa := Lib.hid hva
          clear hva
          rcases ya with _ | _
          · go_wp2_with (at_builtin; refine wpList_append_lies _ rfl (.tmp 149) (.tmp 151) 35 rfl w1.heap.size 4 i0 _ 1 1 Try.underlying35 hi hz0 hz1 hz2 rfl (by decide) _ k ((inL (l.take k) hd.bit).map Value.bool) rfl ?_ ⟨wr.heap.size + 1, 0, none⟩ 1 1 [.bool true] rfl rfl ?_ ?_ (by omega) ?_ ?_ ?_ _ rfl ?_; (· exact own_kept HOW.out (((Kept.refl [] _).alloc _).alloc _) (by simp)); (· exact news_at (by simp)); (· simp [Value.oneCell']); (· unfold maxLen; omega); (· omega); (· simp; omega); intro g9 cap9 w9 how9 hgr9 hat9 hlt9; have HOW9 := Lib.hid how9; have HGR9 := Lib.hid hgr9; clear how9 hgr9 hat9 hlt9)
            go_roundg (gk - 1)
            case measure => omega
            case rel =>
              refine ⟨k + 1, by omega, by go_num, ?_, ?_⟩
              · have := HOW9.out
                rw [HIN.out, List.map_append, inL_7]
                simp only [Int.ofNat_eq_natCast, Int.toNat_natCast, HVa.out]
                exact this
              · exact Kept.grown_row (HK.out.trans (((Kept.refl [] _).alloc _).alloc _) (by simp)) HGR9.out (fun g hg => Or.inr (own_past3 HOW.out g hg))
          · go_wp2_with (at_builtin; refine wpList_append_lies _ rfl (.tmp 149) (.tmp 151) 35 rfl w1.heap.size 4 i0 _ 1 1 Try.underlying35 hi hz0 hz1 hz2 rfl (by decide) _ k ((inL (l.take k) hd.bit).map Value.bool) rfl ?_ ⟨wr.heap.size + 1, 0, none⟩ 1 1 [.bool false] rfl rfl ?_ ?_ (by omega) ?_ ?_ ?_ _ rfl ?_; (· exact own_kept HOW.out (((Kept.refl [] _).alloc _).alloc _) (by simp)); (· exact news_at (by simp)); (· simp [Value.oneCell']); (· unfold maxLen; omega); (· omega); (· simp; omega); intro g9 cap9 w9 how9 hgr9 hat9 hlt9; have HOW9 := Lib.hid how9; have HGR9 := Lib.hid hgr9; clear how9 hgr9 hat9 hlt9)
            go_roundg (gk - 1)
            case measure => omega
            case rel =>
              refine ⟨k + 1, by omega, by go_num, ?_, ?_⟩
              · have := HOW9.out
                rw [HIN.out, List.map_append, inL_7]
                simp only [Int.ofNat_eq_natCast, Int.toNat_natCast, HVa.out]
                exact this
              · exact Kept.grown_row (HK.out.trans (((Kept.refl [] _).alloc _).alloc _) (by simp)) HGR9.out (fun g hg => Or.inr (own_past3 HOW.out g hg))
      · as_aux_lemma =>
          obtain ⟨aN, rfl⟩ := Int.eq_ofNat_of_zero_le (show 0 ≤ xa by omega)
          have hak : aN < k := by omega
          have ka := (Kept.refl [] wr).alloc (.cells #[.int .i64 8, .int .i64 (aN : Int), .int .i64 xb, .int .i64 xc, .int .i64 (v : Int), .bool xo] 105)
          have hbx := heap_alloc_new wr (.cells #[.int .i64 8, .int .i64 (aN : Int), .int .i64 xb, .int .i64 xc, .int .i64 (v : Int), .bool xo] 105)
          have hsz := ka.size
          go_wp2_with (fail)
          generalize wr.alloc (.cells #[.int .i64 8, .int .i64 (aN : Int), .int .i64 xb, .int .i64 xc, .int .i64 (v : Int), .bool xo] 105) = wa at *
          have hwrz : w1.heap.size ≤ wr.heap.size := by omega
          generalize hbxn : wr.heap.size = bx at *
          have HBXN := Lib.hid hbxn
          have HWA := Lib.hid ka
          have HKA := Lib.hid (HK.out.trans ka (by simp))
          have HHA := Lib.hid ((HKA.out.block _ hhb (by simp)).trans HX1.out)
          have HLA := Lib.hid (HL1.out.kept HKA.out (by simp))
          have HBA := Lib.hid hbx
          have SK : ∀ w', Hid (Kept [] wa w') → (w'.cell? ⟨bx, 1, none⟩ = some (.int .i64 (aN : Int)) ∧ w'.cell? ⟨bx, 4, none⟩ = some (.int .i64 (v : Int)) ∧ w'.cell? ⟨bx, 5, none⟩ = some (.bool xo)) ∧
              (w'.cell? ⟨wz, 0, none⟩ = some (.int .u32 (hd.dst : Int)) ∧ w'.cell? ⟨wz, 1, none⟩ = some (.int .u32 (hd.src : Int)) ∧ w'.cell? ⟨wz, 2, none⟩ = some (.int .u8 (hd.proto : Int)) ∧ w'.cell? ⟨wz, 3, none⟩ = some (.int .u16 (hd.sport : Int)) ∧ w'.cell? ⟨wz, 4, none⟩ = some (.int .u16 (hd.dport : Int))) := fun w' R => by
            have h1 := (R.out.block _ (lt_of_block HBA.out) (by simp)).trans HBA.out
            have h2 := (R.out.block _ (lt_of_block HHA.out) (by simp)).trans HHA.out
            exact ⟨⟨cell_of h1 1, cell_of h1 4, cell_of h1 5⟩, cell_of h2 0, cell_of h2 1, cell_of h2 2, cell_of h2 3, cell_of h2 4⟩
          have CW : ∀ w', Hid (Kept [] wa w') → Calls Try.prog 62 #[hd.val, .int .i64 (v : Int), .bool xo] w' fun e w'' => e = .returned (backH ((bitsB hd).set v xo)).val ∧ Hid (Kept [] wa w'') :=
            fun w' R => (WITH.out w' hd HW.out v hv104 xo).mono fun e w'' ⟨he, k⟩ => ⟨he, Lib.hid (R.out.trans (Kept.of_below (S := []) k) (by simp))⟩
          have CI : ∀ w', Hid (Kept [] wa w') → Calls Try.prog 40 #[.slice (some ⟨b, off, none⟩) (aN + 1) cap, (backH ((bitsB hd).set v xo)).val] w' fun e w'' => ∃ vo2, e = .returned vo2 ∧
              Hid (w''.ownsRow 0 4 1 vo2 (aN + 1) ((inL (l.take (aN + 1)) (updB hd.bit v xo)).map Value.bool)) ∧ Hid (Kept [] wa w'') := fun w' R => by
            have hlt1 : (l.take (aN + 1)).length = aN + 1 := by rw [List.length_take, HN.out]; omega
            refine (IH.out w' b off cap (aN + 1) (l.take (aN + 1)) (backH ((bitsB hd).set v xo)) hlt1 (by omega) (by omega) (by omega) hcm (by omega) ((HLA.out.kept R.out (by simp)).take _) ?_ (backH_wf (by simp [bitsB_length]))).mono ?_
            · intro i x hx
              rw [List.getElem?_take] at hx
              split at hx
              · exact HR.out i x hx
              · cases hx
            · rintro e w'' ⟨vo2, he, ho2, kb2⟩
              rw [hlt1, updB_bits hd v hv104] at ho2
              exact ⟨vo2, he, Lib.hid (own_mono ho2 (Nat.zero_le _)), Lib.hid (R.out.trans (Kept.of_below (S := []) kb2) (by simp))⟩
          generalize hHV : (backH ((bitsB hd).set v xo)).val = HV at *
          unfold Hd.val at CW
          have HSK := Lib.hid SK
          have HCW := Lib.hid CW
          have HCI := Lib.hid CI
          have HSD := Lib.hid ((Kept.refl [] wa).drew)
          have q1 : IntKind.i64.wrap ((aN : Int) + 1) = (aN : Int) + 1 := IntWalk.i64_in _ (by omega)
          have q2 : (0 : Int) ≤ (aN : Int) + 1 := by omega
          have q3 : ((aN : Int) + 1).toNat = aN + 1 := by omega
          have q4 : (aN : Int) + 1 ≤ (cap : Int) := by omega
          clear SK CW CI ka hbx hHV hbxn
          go_cut [10] from 103 to 114 (fun vq wx => Hid (wx.ownsRow 0 4 1 vq (aN + 1) ((inL (l.take (aN + 1)) (updB hd.bit v xo)).map Value.bool)) ∧ Hid (Kept [] wa wx))
          case first =>
            as_aux_lemma =>
              go_region_held3 (fun w' => (w'.cell? ⟨bx, 1, none⟩ = some (.int .i64 (aN : Int)) ∧ w'.cell? ⟨bx, 4, none⟩ = some (.int .i64 (v : Int)) ∧ w'.cell? ⟨bx, 5, none⟩ = some (.bool xo)) ∧
                (w'.cell? ⟨wz, 0, none⟩ = some (.int .u32 (hd.dst : Int)) ∧ w'.cell? ⟨wz, 1, none⟩ = some (.int .u32 (hd.src : Int)) ∧ w'.cell? ⟨wz, 2, none⟩ = some (.int .u8 (hd.proto : Int)) ∧ w'.cell? ⟨wz, 3, none⟩ = some (.int .u16 (hd.sport : Int)) ∧ w'.cell? ⟨wz, 4, none⟩ = some (.int .u16 (hd.dport : Int)))) (first | exact HSK.out _ (by assumption))
                (first | (go_at_call 62; refine Calls.mono (HCW.out _ (by assumption)) ?_; rintro e wk ⟨he, HSK5⟩; subst he) | (go_at_call 40; refine Calls.mono (HCI.out _ (by assumption)) ?_; rintro e wk ⟨vo2, he, HO2, HSK5⟩; subst he))
              go_wp2_with (fail)
              go_meet
              case rel => exact ⟨by assumption, by assumption⟩
          case rest =>
            obtain ⟨HO2, HKX⟩ := hcut
            obtain ⟨g2, cap2, rfl, hob2, _, hg2z⟩ := own_bools HO2.out (by omega)
            have c2 := hob2 aN (by rw [inL_length, List.length_take, HN.out]; omega)
            rw [Nat.zero_add, inL_take l _ aN (aN + 1) (by omega) (by rw [HN.out]; omega)] at c2
            have hval : (inL l (updB hd.bit v xo)).getD aN false = (inL (l.take k) (updB hd.bit v xo)).getD aN false := (inL_take l _ aN k (by omega) (by rw [HN.out]; omega)).symm
            rw [hval] at c2
            clear hval hob2
            generalize hy8 : (inL (l.take k) (updB hd.bit v xo)).getD aN false = y8 at *
            have HY8 := Lib.hid hy8
            clear hy8
            have ca8 := (HSK.out _ HKX).1.1
            have hwx := HKX.out.size
            have hbz8 : bx < wc.heap.size := Nat.lt_of_lt_of_le (lt_of_block HBA.out) hwx
            go_wp2_with (at_builtin; refine wpList_append_lies _ rfl (.tmp 149) (.tmp 151) 35 rfl w1.heap.size 4 i0 _ 1 1 Try.underlying35 hi hz0 hz1 hz2 rfl (by decide) _ k ((inL (l.take k) hd.bit).map Value.bool) rfl ?_ ⟨wc.heap.size, 0, none⟩ 1 1 [.bool y8] rfl rfl ?_ ?_ (by omega) ?_ ?_ ?_ _ rfl ?_; (· exact own_kept HOW.out (((HWA.out.trans HKX.out (by simp)).alloc _)) (by simp)); (· exact news_at (by simp)); (· simp [Value.oneCell']); (· unfold maxLen; omega); (· omega); (· simp; omega); intro g9 cap9 w9 how9 hgr9 hat9 hlt9; have HOW9 := Lib.hid how9; have HGR9 := Lib.hid hgr9; clear how9 hgr9 hat9 hlt9)
            go_roundg (gk - 1)
            case measure => omega
            case rel =>
              refine ⟨k + 1, by omega, by go_num, ?_, ?_⟩
              · have := HOW9.out
                rw [HIN.out, List.map_append, inL_8]
                simp only [Int.ofNat_eq_natCast, Int.toNat_natCast, HY8.out]
                exact this
              · exact Kept.grown_row (HK.out.trans (((HWA.out.trans HKX.out (by simp)).alloc _)) (by simp)) HGR9.out (fun g hg => Or.inr (own_past3 HOW.out g hg))
      · as_aux_lemma =>
          obtain ⟨go, capo, rfl, hob, hgo0, hgoz⟩ := own_bools HOW.out (show 0 < k by omega)
          have HOB := Lib.hid hob
          clear hob
          obtain ⟨aN, rfl⟩ := Int.eq_ofNat_of_zero_le (show 0 ≤ xa by omega)
          have hak : aN < k := by omega
          have ca := HOB.out aN (by rw [inL_length, List.length_take, HN.out]; omega)
          rw [Nat.zero_add] at ca
          generalize hva : (inL (l.take k) hd.bit).getD aN false = ya at *
          have HVa := Lib.hid hva
          clear hva
          obtain ⟨bN, rfl⟩ := Int.eq_ofNat_of_zero_le (show 0 ≤ xb by omega)
          have hbk : bN < k := by omega
          have cb := HOB.out bN (by rw [inL_length, List.length_take, HN.out]; omega)
          rw [Nat.zero_add] at cb
          generalize hvb : (inL (l.take k) hd.bit).getD bN false = yb at *
          have HVb := Lib.hid hvb
          clear hvb
          obtain ⟨cN, rfl⟩ := Int.eq_ofNat_of_zero_le (show 0 ≤ xc by omega)
          have hck : cN < k := by omega
          have cc := HOB.out cN (by rw [inL_length, List.length_take, HN.out]; omega)
          rw [Nat.zero_add] at cc
          generalize hvc : (inL (l.take k) hd.bit).getD cN false = yc at *
          have HVc := Lib.hid hvc
          clear hvc
          rcases ya with _ | _ <;> rcases yb with _ | _ <;> rcases yc with _ | _
          · go_wp2_with (at_builtin; refine wpList_append_lies _ rfl (.tmp 149) (.tmp 151) 35 rfl w1.heap.size 4 i0 _ 1 1 Try.underlying35 hi hz0 hz1 hz2 rfl (by decide) _ k ((inL (l.take k) hd.bit).map Value.bool) rfl ?_ ⟨wr.heap.size + 1, 0, none⟩ 1 1 [.bool false] rfl rfl ?_ ?_ (by omega) ?_ ?_ ?_ _ rfl ?_; (· exact own_kept HOW.out (((Kept.refl [] _).alloc _).alloc _) (by simp)); (· exact news_at (by simp)); (· simp [Value.oneCell']); (· unfold maxLen; omega); (· omega); (· simp; omega); intro g9 cap9 w9 how9 hgr9 hat9 hlt9; have HOW9 := Lib.hid how9; have HGR9 := Lib.hid hgr9; clear how9 hgr9 hat9 hlt9)
            go_roundg (gk - 1)
            case measure => omega
            case rel =>
              refine ⟨k + 1, by omega, by go_num, ?_, ?_⟩
              · have := HOW9.out
                rw [HIN.out, List.map_append, inL_9]
                simp only [Int.ofNat_eq_natCast, Int.toNat_natCast, HVa.out, HVb.out, HVc.out]
                exact this
              · exact Kept.grown_row (HK.out.trans (((Kept.refl [] _).alloc _).alloc _) (by simp)) HGR9.out (fun g hg => Or.inr (own_past3 HOW.out g hg))
          · go_wp2_with (at_builtin; refine wpList_append_lies _ rfl (.tmp 149) (.tmp 151) 35 rfl w1.heap.size 4 i0 _ 1 1 Try.underlying35 hi hz0 hz1 hz2 rfl (by decide) _ k ((inL (l.take k) hd.bit).map Value.bool) rfl ?_ ⟨wr.heap.size + 1, 0, none⟩ 1 1 [.bool true] rfl rfl ?_ ?_ (by omega) ?_ ?_ ?_ _ rfl ?_; (· exact own_kept HOW.out (((Kept.refl [] _).alloc _).alloc _) (by simp)); (· exact news_at (by simp)); (· simp [Value.oneCell']); (· unfold maxLen; omega); (· omega); (· simp; omega); intro g9 cap9 w9 how9 hgr9 hat9 hlt9; have HOW9 := Lib.hid how9; have HGR9 := Lib.hid hgr9; clear how9 hgr9 hat9 hlt9)
            go_roundg (gk - 1)
            case measure => omega
            case rel =>
              refine ⟨k + 1, by omega, by go_num, ?_, ?_⟩
              · have := HOW9.out
                rw [HIN.out, List.map_append, inL_9]
                simp only [Int.ofNat_eq_natCast, Int.toNat_natCast, HVa.out, HVb.out, HVc.out]
                exact this
              · exact Kept.grown_row (HK.out.trans (((Kept.refl [] _).alloc _).alloc _) (by simp)) HGR9.out (fun g hg => Or.inr (own_past3 HOW.out g hg))
          · go_wp2_with (at_builtin; refine wpList_append_lies _ rfl (.tmp 149) (.tmp 151) 35 rfl w1.heap.size 4 i0 _ 1 1 Try.underlying35 hi hz0 hz1 hz2 rfl (by decide) _ k ((inL (l.take k) hd.bit).map Value.bool) rfl ?_ ⟨wr.heap.size + 1, 0, none⟩ 1 1 [.bool false] rfl rfl ?_ ?_ (by omega) ?_ ?_ ?_ _ rfl ?_; (· exact own_kept HOW.out (((Kept.refl [] _).alloc _).alloc _) (by simp)); (· exact news_at (by simp)); (· simp [Value.oneCell']); (· unfold maxLen; omega); (· omega); (· simp; omega); intro g9 cap9 w9 how9 hgr9 hat9 hlt9; have HOW9 := Lib.hid how9; have HGR9 := Lib.hid hgr9; clear how9 hgr9 hat9 hlt9)
            go_roundg (gk - 1)
            case measure => omega
            case rel =>
              refine ⟨k + 1, by omega, by go_num, ?_, ?_⟩
              · have := HOW9.out
                rw [HIN.out, List.map_append, inL_9]
                simp only [Int.ofNat_eq_natCast, Int.toNat_natCast, HVa.out, HVb.out, HVc.out]
                exact this
              · exact Kept.grown_row (HK.out.trans (((Kept.refl [] _).alloc _).alloc _) (by simp)) HGR9.out (fun g hg => Or.inr (own_past3 HOW.out g hg))
          · go_wp2_with (at_builtin; refine wpList_append_lies _ rfl (.tmp 149) (.tmp 151) 35 rfl w1.heap.size 4 i0 _ 1 1 Try.underlying35 hi hz0 hz1 hz2 rfl (by decide) _ k ((inL (l.take k) hd.bit).map Value.bool) rfl ?_ ⟨wr.heap.size + 1, 0, none⟩ 1 1 [.bool true] rfl rfl ?_ ?_ (by omega) ?_ ?_ ?_ _ rfl ?_; (· exact own_kept HOW.out (((Kept.refl [] _).alloc _).alloc _) (by simp)); (· exact news_at (by simp)); (· simp [Value.oneCell']); (· unfold maxLen; omega); (· omega); (· simp; omega); intro g9 cap9 w9 how9 hgr9 hat9 hlt9; have HOW9 := Lib.hid how9; have HGR9 := Lib.hid hgr9; clear how9 hgr9 hat9 hlt9)
            go_roundg (gk - 1)
            case measure => omega
            case rel =>
              refine ⟨k + 1, by omega, by go_num, ?_, ?_⟩
              · have := HOW9.out
                rw [HIN.out, List.map_append, inL_9]
                simp only [Int.ofNat_eq_natCast, Int.toNat_natCast, HVa.out, HVb.out, HVc.out]
                exact this
              · exact Kept.grown_row (HK.out.trans (((Kept.refl [] _).alloc _).alloc _) (by simp)) HGR9.out (fun g hg => Or.inr (own_past3 HOW.out g hg))
          · go_wp2_with (at_builtin; refine wpList_append_lies _ rfl (.tmp 149) (.tmp 151) 35 rfl w1.heap.size 4 i0 _ 1 1 Try.underlying35 hi hz0 hz1 hz2 rfl (by decide) _ k ((inL (l.take k) hd.bit).map Value.bool) rfl ?_ ⟨wr.heap.size + 1, 0, none⟩ 1 1 [.bool false] rfl rfl ?_ ?_ (by omega) ?_ ?_ ?_ _ rfl ?_; (· exact own_kept HOW.out (((Kept.refl [] _).alloc _).alloc _) (by simp)); (· exact news_at (by simp)); (· simp [Value.oneCell']); (· unfold maxLen; omega); (· omega); (· simp; omega); intro g9 cap9 w9 how9 hgr9 hat9 hlt9; have HOW9 := Lib.hid how9; have HGR9 := Lib.hid hgr9; clear how9 hgr9 hat9 hlt9)
            go_roundg (gk - 1)
            case measure => omega
            case rel =>
              refine ⟨k + 1, by omega, by go_num, ?_, ?_⟩
              · have := HOW9.out
                rw [HIN.out, List.map_append, inL_9]
                simp only [Int.ofNat_eq_natCast, Int.toNat_natCast, HVa.out, HVb.out, HVc.out]
                exact this
              · exact Kept.grown_row (HK.out.trans (((Kept.refl [] _).alloc _).alloc _) (by simp)) HGR9.out (fun g hg => Or.inr (own_past3 HOW.out g hg))
          · go_wp2_with (at_builtin; refine wpList_append_lies _ rfl (.tmp 149) (.tmp 151) 35 rfl w1.heap.size 4 i0 _ 1 1 Try.underlying35 hi hz0 hz1 hz2 rfl (by decide) _ k ((inL (l.take k) hd.bit).map Value.bool) rfl ?_ ⟨wr.heap.size + 1, 0, none⟩ 1 1 [.bool false] rfl rfl ?_ ?_ (by omega) ?_ ?_ ?_ _ rfl ?_; (· exact own_kept HOW.out (((Kept.refl [] _).alloc _).alloc _) (by simp)); (· exact news_at (by simp)); (· simp [Value.oneCell']); (· unfold maxLen; omega); (· omega); (· simp; omega); intro g9 cap9 w9 how9 hgr9 hat9 hlt9; have HOW9 := Lib.hid how9; have HGR9 := Lib.hid hgr9; clear how9 hgr9 hat9 hlt9)
            go_roundg (gk - 1)
            case measure => omega
            case rel =>
              refine ⟨k + 1, by omega, by go_num, ?_, ?_⟩
              · have := HOW9.out
                rw [HIN.out, List.map_append, inL_9]
                simp only [Int.ofNat_eq_natCast, Int.toNat_natCast, HVa.out, HVb.out, HVc.out]
                exact this
              · exact Kept.grown_row (HK.out.trans (((Kept.refl [] _).alloc _).alloc _) (by simp)) HGR9.out (fun g hg => Or.inr (own_past3 HOW.out g hg))
          · go_wp2_with (at_builtin; refine wpList_append_lies _ rfl (.tmp 149) (.tmp 151) 35 rfl w1.heap.size 4 i0 _ 1 1 Try.underlying35 hi hz0 hz1 hz2 rfl (by decide) _ k ((inL (l.take k) hd.bit).map Value.bool) rfl ?_ ⟨wr.heap.size + 1, 0, none⟩ 1 1 [.bool true] rfl rfl ?_ ?_ (by omega) ?_ ?_ ?_ _ rfl ?_; (· exact own_kept HOW.out (((Kept.refl [] _).alloc _).alloc _) (by simp)); (· exact news_at (by simp)); (· simp [Value.oneCell']); (· unfold maxLen; omega); (· omega); (· simp; omega); intro g9 cap9 w9 how9 hgr9 hat9 hlt9; have HOW9 := Lib.hid how9; have HGR9 := Lib.hid hgr9; clear how9 hgr9 hat9 hlt9)
            go_roundg (gk - 1)
            case measure => omega
            case rel =>
              refine ⟨k + 1, by omega, by go_num, ?_, ?_⟩
              · have := HOW9.out
                rw [HIN.out, List.map_append, inL_9]
                simp only [Int.ofNat_eq_natCast, Int.toNat_natCast, HVa.out, HVb.out, HVc.out]
                exact this
              · exact Kept.grown_row (HK.out.trans (((Kept.refl [] _).alloc _).alloc _) (by simp)) HGR9.out (fun g hg => Or.inr (own_past3 HOW.out g hg))
          · go_wp2_with (at_builtin; refine wpList_append_lies _ rfl (.tmp 149) (.tmp 151) 35 rfl w1.heap.size 4 i0 _ 1 1 Try.underlying35 hi hz0 hz1 hz2 rfl (by decide) _ k ((inL (l.take k) hd.bit).map Value.bool) rfl ?_ ⟨wr.heap.size + 1, 0, none⟩ 1 1 [.bool true] rfl rfl ?_ ?_ (by omega) ?_ ?_ ?_ _ rfl ?_; (· exact own_kept HOW.out (((Kept.refl [] _).alloc _).alloc _) (by simp)); (· exact news_at (by simp)); (· simp [Value.oneCell']); (· unfold maxLen; omega); (· omega); (· simp; omega); intro g9 cap9 w9 how9 hgr9 hat9 hlt9; have HOW9 := Lib.hid how9; have HGR9 := Lib.hid hgr9; clear how9 hgr9 hat9 hlt9)
            go_roundg (gk - 1)
            case measure => omega
            case rel =>
              refine ⟨k + 1, by omega, by go_num, ?_, ?_⟩
              · have := HOW9.out
                rw [HIN.out, List.map_append, inL_9]
                simp only [Int.ofNat_eq_natCast, Int.toNat_natCast, HVa.out, HVb.out, HVc.out]
                exact this
              · exact Kept.grown_row (HK.out.trans (((Kept.refl [] _).alloc _).alloc _) (by simp)) HGR9.out (fun g hg => Or.inr (own_past3 HOW.out g hg))
    · obtain rfl : k = n := by omega
      go_wp2_with (fail)
      go_ret
      have hot := HOW.out
      rw [List.take_of_length_le (by have := HN.out; omega)] at hot
      rw [show k = l.length from HN.out.symm] at hot
      refine ⟨_, rfl, ⟨hot.1, ?_⟩, by rw [HWZ.out]; exact HK1.out.trans (HK.out.below (by omega) (by simp))⟩
      rcases hot.2 with h | ⟨g, cap, cur, e, hb, r⟩
      · exact Or.inl h
      · exact Or.inr ⟨g, cap, cur, e, by have := HWZ.out; omega, r⟩

end Go.Proofs.Ytakgghhmecphmaa
