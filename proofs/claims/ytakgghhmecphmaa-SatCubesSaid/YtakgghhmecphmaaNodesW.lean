/- The walk of sat.Nodes. -/
import Derived.Test.YtakgghhmecphmaaReachP
import Derived.Test.YtakgghhmecphmaaWithin
namespace Go.Proofs.Ytakgghhmecphmaa
set_option linter.unusedVariables false
set_option linter.unusedSimpArgs false
open Go.RowKit Go.Maps

def ntCells (l : List Nat) : List Value := l.map nat64
def okS (A : Arn) : List Int → List Nat
  | [] => []
  | f :: r => if 0 ≤ f ∧ f < A.nodes.length then f.toNat :: okS A r else okS A r

theorem okS_snoc (A : Arn) (l : List Int) (x : Int) : okS A (l ++ [x]) = okS A l ++ (if 0 ≤ x ∧ x < A.nodes.length then [x.toNat] else []) := by
  induction l with
  | nil => rfl
  | cons y r ih =>
    rw [List.cons_append]
    simp only [okS]
    split
    · rw [ih]; rfl
    · exact ih
theorem okS_lt (A : Arn) (l : List Int) : ∀ x ∈ okS A l, x < A.nodes.length := by
  induction l with
  | nil => intro x hx; simp [okS] at hx
  | cons y r ih =>
    intro x hx
    simp only [okS] at hx
    split at hx
    · rcases List.mem_cons.1 hx with rfl | hx
      · omega
      · exact ih x hx
    · exact ih x hx
theorem okS_len (A : Arn) (l : List Int) : (okS A l).length ≤ l.length := by
  induction l with
  | nil => simp [okS]
  | cons y r ih =>
    simp only [okS]
    split <;> simp <;> omega
theorem below_grown2 {base : Nat} {w w1 w2 : World} {row : Option Nat} (h : Below base w w1) (hg : w1.grownBy w2 row) (hr : ∀ g, row = some g → base ≤ g) (hb : base ≤ w1.heap.size) : Below base w w2 :=
  ⟨hg.os.trans h.os, hg.tape.trans h.tape, hg.output.trans h.output, Nat.le_trans h.size hg.size, fun k hk => (hg.block k (by omega) (fun e => by have := hr k e.symm; omega)).trans (h.block k hk)⟩

set_option maxRecDepth 100000 in
set_option maxHeartbeats 4000000 in
theorem Nodes_calls {w : World} {p g mb : Nat} {A : Arn} (h : ArenaAt w p g mb A) (hO : A.OK) (b c : Nat) (fs : List Int) (n : Nat) (hn : fs.length = n) (hn2 : n ≤ 2) (hc : ∀ i x, fs[i]? = some x → w.cell? ⟨b, i, none⟩ = some (.int .i64 x)) (hbw : b < w.heap.size) :
    Calls Try.prog 26 #[.pointer (some ⟨p, 0, none⟩), .slice (some ⟨b, 0, none⟩) n c] w fun e w' => (∃ L, NodesOf A (okS A fs) L ∧ e = .returned (.int .i64 (L.length : Int))) ∧ Below w.heap.size w w' := by
  have hmm := @run_makeMap Try.prog
  have HA := Lib.hid h
  have HO := Lib.hid hO
  have HC := Lib.hid hc
  have HN := Lib.hid hn
  have hN18 := Nat.le_trans hO.len hO.most
  obtain ⟨hpz, hgz, hmz⟩ := h.lt
  clear h hO hc hn
  go_enter Try.func26, Try.ntmps26
  go_wp2_with (fail)
  have B1 := (Below.refl w.heap.size w).alloc (Nat.le_refl _) (.map #[] 0)
  have hM1 := (IsMapOf.made w Try.prog 3 nat64 boolW).congr (g := inL []) (fun x => by simp [inL])
  have hO1 : ((w.alloc (.map #[] 0)).alloc (.cells #[] 3)).ownsRow (w.heap.size + 1) 3 1 (.slice (some ⟨w.heap.size + 1, 0, none⟩) 0 0) 0 ((okS A (fs.take 0)).map nat64) := by
    refine ⟨rfl, Or.inr ⟨w.heap.size + 1, 0, #[], rfl, by omega, ?_, Nat.le_refl _, by simp [maxLen], rfl, rfl⟩⟩
    have := heap_alloc_new (w.alloc (.map #[] 0)) (.cells #[] 3)
    rwa [show (w.alloc (.map #[] 0)).heap.size = w.heap.size + 1 by simp] at this
  have hM2 := hM1.of_block (Below.heap_alloc (w.alloc (.map #[] 0)) (.cells #[] 3) w.heap.size (by simp))
  have hB2 := B1.alloc (by simp) (.cells #[] 3)
  have HB2 := Lib.hid hB2
  have HM2 := Lib.hid hM2
  have HO2 := Lib.hid hO1
  obtain ⟨i0, hi, hz0, hz1, hz2⟩ := info_parts int_info
  clear B1 hM1 hO1 hM2 hB2
  generalize (w.alloc (.map #[] 0)).alloc (.cells #[] 3) = w1 at *
  go_loopg [6, 17] n (fun gk vo vi wr => ∃ (k g2 cap : Nat), k + gk = n ∧ vi = .int .i64 (k : Int) ∧ vo = .slice (some ⟨g2, 0, none⟩) (okS A (fs.take k)).length cap ∧ wr.ownsRow (w.heap.size + 1) 3 1 vo (okS A (fs.take k)).length ((okS A (fs.take k)).map nat64) ∧
      IsMapOf Try.prog 3 nat64 boolW wr w.heap.size 0 (inL []) ∧ Below w.heap.size w wr)
  case atStart => exact ⟨0, _, 0, by omega, rfl, rfl, HO2.out, HM2.out, HB2.out⟩
  case round =>
    obtain ⟨k, g2, cap, hk, rfl, rfl, hOw, hMp, hB⟩ := hrel
    have hg2 : w.heap.size + 1 ≤ g2 := own_past2 hOw g2 rfl
    have HOW := Lib.hid hOw
    have HMP := Lib.hid hMp
    have HB := Lib.hid hB
    have hwz := hB.size
    have hsb := hMp.lt
    have hlk := Nat.le_trans (okS_len A (fs.take k)) (List.length_take_le k fs)
    clear hOw hMp hB
    by_cases hlt : k < n
    · have hx : fs[k]? = some (fs[k]'(by have := HN.out; omega)) := List.getElem?_eq_getElem _
      have hd : fs.take (k + 1) = fs.take k ++ [fs[k]'(by have := HN.out; omega)] := by rw [List.take_add_one, hx]; rfl
      generalize fs[k]'(by have := HN.out; omega) = x at hx hd
      have cx := (World.cell?_of_block (HB.out.block b hbw)).trans (HC.out k x hx)
      have hok := okS_snoc A (fs.take k) x
      rw [← hd] at hok
      have HOK := Lib.hid hok
      have HH := Lib.hid (has_calls (HA.out.below HB.out) x)
      clear hx hd hok
      generalize okS A (fs.take k) = st at *
      by_cases hv : 0 ≤ x ∧ x < A.nodes.length
      · have HV := Lib.hid hv
        have hh := HH.out
        rw [decide_eq_true hv] at hh
        have HH := Lib.hid hh
        clear hh
        obtain ⟨y, rfl⟩ := Int.eq_ofNat_of_zero_le hv.1
        clear hv
        go_wp2_with (fail)
        refine HH.out.mono ?_
        rintro e w5 ⟨he, hw⟩
        subst he hw
        go_wp2_with (at_builtin; refine wpList_append_lies _ rfl (.tmp 24) (.tmp 26) 53 rfl (w.heap.size + 1) 3 i0 _ 1 8 Try.underlying53 hi hz0 hz1 hz2 rfl (by decide) _ st.length (st.map nat64) rfl ?_ ⟨wr.heap.size, 0, none⟩ 1 1 [.int .i64 (y : Int)] rfl rfl ?_ ?_ (by omega) ?_ ?_ ?_ _ rfl ?_; (· exact own_kept HOW.out ((Kept.refl [] _).alloc _) (by simp)); (· exact news_at (by simp)); (· simp [Value.oneCell']); (· unfold maxLen; omega); (· omega); (· simp; omega); intro g9 cap9 w9 how9 hgr9 hat9 hlt9; have HOW9 := Lib.hid how9; have HGR9 := Lib.hid hgr9; clear how9 hgr9 hat9 hlt9)
        go_roundg (gk - 1)
        case measure => omega
        case rel =>
          have hok := HOK.out
          rw [if_pos HV.out, Int.toNat_natCast] at hok
          refine ⟨k + 1, g9, cap9, by omega, by go_num, by rw [hok]; simp, ?_, ?_, ?_⟩
          · have := HOW9.out
            rw [hok, List.map_append, List.length_append]
            exact this
          · exact HMP.out.of_block ((HGR9.out.block _ (by simp; omega) (fun e => absurd (show w.heap.size + 1 ≤ w.heap.size from by injection e with e; exact e ▸ hg2) (by omega))).trans (Below.heap_alloc wr _ _ hsb))
          · exact below_grown2 (HB.out.alloc hwz _) HGR9.out (fun g' hg' => by have := own_past2 HOW.out g' hg'; omega) (by simp; omega)
      · have HV := Lib.hid hv
        have hh := HH.out
        rw [decide_eq_false hv] at hh
        have HH := Lib.hid hh
        clear hh hv
        go_wp2_with (fail)
        refine HH.out.mono ?_
        rintro e w5 ⟨he, hw⟩
        subst he hw
        go_wp2_with (fail)
        go_roundg (gk - 1)
        case measure => omega
        case rel =>
          have hok := HOK.out
          rw [if_neg HV.out, List.append_nil] at hok
          exact ⟨k + 1, g2, cap, by omega, by go_num, by rw [hok], by rw [hok]; exact HOW.out, HMP.out, HB.out⟩
    · obtain rfl : k = n := by omega
      have htk : fs.take k = fs := List.take_of_length_le (by have := HN.out; omega)
      rw [htk] at HOW hlk ⊢
      -- LOOP2
      have HK0 := Lib.hid HMP.out
      have hS0 := NInv.start (A := A) (okS_lt A fs)
      have hSl : (okS A fs).length ≤ 2 := by omega
      have HS0 := Lib.hid hS0
      have hgg := hg2
      clear hS0 hg2
      generalize hSS : okS A fs = S at *
      have HSS := Lib.hid hSS
      clear hSS
      go_wp2_with (fail)
      go_loopg [6] (3 * A.nodes.length + S.length) (fun gk vo wr' => ∃ (st L : List Nat) (g2 cap : Nat), gk = 3 * (A.nodes.length - L.length) + st.length ∧ st.length ≤ L.length + 2 ∧ vo = .slice (some ⟨g2, 0, none⟩) st.length cap ∧
        wr'.ownsRow (w.heap.size + 1) 3 1 vo st.length (st.map nat64) ∧ IsMapOf Try.prog 3 nat64 boolW wr' w.heap.size L.length (inL L) ∧ NInv A S L st ∧ Below w.heap.size w wr')
      case atStart => exact ⟨S, [], g2, cap, by simp, by simpa using hSl, rfl, HOW.out, HK0.out, HS0.out, HB.out⟩
      case round =>
        clear HOW HMP HB HK0 HS0 hlk hlt htk hsb hwz
        obtain ⟨st, L, g2, cap, hgk, hst, rfl, hOw, hMp, hI, hB⟩ := hrel
        have hg2 : w.heap.size + 1 ≤ g2 := own_past2 hOw g2 rfl
        obtain ⟨hc1, hc2⟩ := own_cap hOw
        have hLN := hI.len
        have HOW := Lib.hid hOw
        have HMP := Lib.hid hMp
        have HI := Lib.hid hI
        have HB := Lib.hid hB
        have HGK := Lib.hid hgk
        have hwz := hB.size
        have hsb := hMp.lt
        clear hOw hMp hI hB hgk
        rcases nil_or_snoc st with rfl | ⟨st', x, rfl⟩
        · have hlen := HMP.out.len Try.underlying103 3
          go_wp2_with (fail)
          go_ret
          exact ⟨⟨L, ⟨HI.out.nodup, by rw [HSS.out]; exact HI.out.ends, fun x hx => HI.out.lt x (Or.inl hx)⟩, rfl⟩, HB.out⟩
        · have hx := HI.out.lt x (Or.inr (by simp))
          have cx : wr.cell? ⟨g2, st'.length, none⟩ = some (nat64 x) := own_at HOW.out (j := st'.length) (u := nat64 x) (by simp)
          unfold nat64 at cx
          simp only [List.length_append, List.length_cons, List.length_nil, Nat.zero_add] at *
          have hm1 : IntKind.i64.wrap (((st'.length : Int) + 1) - 1) = (st'.length : Int) := by rw [IntKind.wrap_i64]; omega
          have hs := own_shrink HOW.out (Nat.le_succ st'.length)
          rw [Nat.mul_one, List.map_append, show st'.length = (st'.map nat64).length by simp, List.take_left] at hs
          rw [show (st'.map nat64).length = st'.length by simp] at hs
          have HOS := Lib.hid hs
          have hkey := nat64_key (x := x) (by omega)
          have hlk : (Instr.lookup 103 (.map (some w.heap.size)) (.int .i64 (x : Int)) false).run Try.prog wr = .ok (.bool (decide (x ∈ L))) wr := by
            have := HMP.out.look intKeyed nat64_inj Try.underlying103 (z := .bool false) (by kernel_rfl) x hkey false
            unfold inL at this
            by_cases hm : x ∈ L
            · rw [if_pos hm] at this
              rw [decide_eq_true hm]
              exact this
            · rw [if_neg hm] at this
              rw [decide_eq_false hm]
              exact this
          generalize hmm2 : st'.length = m at *
          have HMM := Lib.hid hmm2
          clear hmm2 hs
          by_cases hx1 : x ≤ 1
          · have t1 : decide ((x : Int) ≤ 1) = true := decide_eq_true (by omega)
            clear hlk
            go_wp2_with (fail)
            go_roundg (3 * (A.nodes.length - L.length) + m)
            case measure => have := HGK.out; omega
            case rel =>
              have hm' := HMM.out
              subst hm'
              exact ⟨st', L, g2, cap, rfl, by omega, rfl, HOS.out, HMP.out, HI.out.skip (Or.inl (by omega)), HB.out⟩
          · have t1 : decide ((x : Int) ≤ 1) = false := decide_eq_false (by omega)
            by_cases hin : x ∈ L
            · rw [decide_eq_true hin] at hlk
              have HIN := Lib.hid hin
              clear hin
              go_wp2_with (fail)
              go_roundg (3 * (A.nodes.length - L.length) + m)
              case measure => have := HGK.out; omega
              case rel =>
                have hm' := HMM.out
                subst hm'
                exact ⟨st', L, g2, cap, rfl, by omega, rfl, HOS.out, HMP.out, HI.out.skip (Or.inr HIN.out), HB.out⟩
            · rw [decide_eq_false hin] at hlk
              have HIN := Lib.hid hin
              have HST := Lib.hid (HI.out.step HO.out (by omega) hin)
              have hL1 : L.length + 1 ≤ A.nodes.length := by have := HST.out.len; simpa using this
              have nx := nodeF_at HO.out hx (by omega)
              obtain ⟨_, xa, xb, _, _, _⟩ := HO.out.at_ hx (by omega)
              have hlv := HO.out.lv_le x
              generalize A.lv x = lx at *
              generalize (A.nd x).low = x0 at *
              generalize (A.nd x).high = x1 at *
              have HNX := Lib.hid (fun w' (k : Below w.heap.size w w') => by have := node_calls (HA.out.below k) (x : Int); rw [nx] at this; exact this)
              clear nx hin
              go_wp2_with (at_mapUpdate; refine wpList_put _ rfl _ _ _ 103 4 rfl intKeyed nat64_inj Try.underlying103 HMP.out x true hkey rfl rfl rfl ?_; intro w5 M5 hg5; have HM5 := Lib.hid M5; have HG5 := Lib.hid hg5; have HB5 := Lib.hid (below_grown2 HB.out hg5 (fun g' hg' => by cases hg'; omega) hwz); have HO5 := Lib.hid (own_kept HOS.out (Kept.of_grown hg5) (by intro g' hg'; cases hg'; simp; omega)); clear M5 hg5)
              refine (HNX.out _ HB5.out).mono ?_
              rintro e w6 ⟨he, k6⟩
              subst he
              have HB6 := Lib.hid (HB5.out.trans (k6.mono HB5.out.size))
              have HO6 := Lib.hid (own_kept HO5.out (Kept.of_below (S := []) k6) (by simp))
              have HM6 := Lib.hid (HM5.out.of_block (k6.block _ HM5.out.lt))
              have hsb6 := HM6.out.lt
              clear k6 HB5 HO5 HM5 HG5
              go_wp2_with (at_builtin; refine wpList_append_lies _ rfl (.tmp 59) (.tmp 62) 53 rfl (w.heap.size + 1) 3 i0 _ 1 8 Try.underlying53 hi hz0 hz1 hz2 rfl (by decide) _ m (st'.map nat64) rfl ?_ ⟨w6.heap.size, 0, none⟩ 2 2 [.int .i64 (x0 : Int), .int .i64 (x1 : Int)] rfl rfl ?_ ?_ (by omega) ?_ ?_ ?_ _ rfl ?_; (· exact own_kept HO6.out ((Kept.refl [] _).alloc _) (by simp)); (· exact news_at (by first | rfl | simp)); (· simp [Value.oneCell']); (· unfold maxLen; omega); (· omega); (· simp; omega); intro g9 cap9 w9 how9 hgr9 hat9 hlt9; have HOW9 := Lib.hid how9; have HGR9 := Lib.hid hgr9; clear how9 hgr9 hat9 hlt9)
              go_roundg (3 * (A.nodes.length - (L.length + 1)) + (m + 2))
              case measure => have := HGK.out; omega
              case rel =>
                have hm' := HMM.out
                subst hm'
                refine ⟨st' ++ [x0, x1], x :: L, g9, cap9, by simp, by simp; omega, by simp, ?_, ?_, HST.out, ?_⟩
                · have := HOW9.out
                  rw [show (st' ++ [x0, x1]).length = st'.length + 2 by simp, List.map_append]
                  exact this
                · have hm := HM6.out
                  rw [if_neg (by unfold inL; rw [if_neg HIN.out]; simp)] at hm
                  exact (hm.of_block ((HGR9.out.block _ (by simp; omega) (fun e => absurd (show w.heap.size + 1 ≤ w.heap.size from by injection e with e; exact e ▸ hg2) (by omega))).trans (Below.heap_alloc w6 _ _ hsb6))).congr (fun z => inL_cons L x z)
                · exact below_grown2 (HB6.out.alloc HB6.out.size _) HGR9.out (fun g' hg' => by have := own_past2 HO6.out g' hg'; omega) (by have := HB6.out.size; simp; omega)

set_option maxRecDepth 100000 in
theorem Nodes_nil (w : World) (b c : Nat) (x : Int) (hc : w.cell? ⟨b, 0, none⟩ = some (.int .i64 x)) (hbw : b < w.heap.size) :
    Calls Try.prog 26 #[.pointer none, .slice (some ⟨b, 0, none⟩) 1 c] w fun e w' => e = .returned (.int .i64 0) ∧ Below w.heap.size w w' := by
  have hmm := @run_makeMap Try.prog
  go_enter Try.func26, Try.ntmps26
  go_wp2_with (refine wp_loop_rounds 2 ?_)
  rw [rounds_succ]
  go_wp2_with (fail)
  have hM1 := (IsMapOf.made w Try.prog 3 nat64 boolW)
  have hM2 := hM1.of_block (Below.heap_alloc (w.alloc (.map #[] 0)) (.cells #[] 3) w.heap.size (by simp))
  have hlen := hM2.len Try.underlying103 3
  have hB2 := ((Below.refl w.heap.size w).alloc (Nat.le_refl _) (.map #[] 0)).alloc (by simp) (.cells #[] 3)
  generalize (w.alloc (.map #[] 0)).alloc (.cells #[] 3) = w1 at *
  refine (has_nil_calls _ x).mono ?_
  rintro e w' ⟨he, hw⟩
  subst he hw
  have HB2 := Lib.hid hB2
  clear hM1 hM2 hB2
  go_wp2_with (fail)
  rw [rounds_succ]
  go_wp2_with (refine wp_loop_rounds 1 ?_)
  rw [rounds_succ]
  go_wp2_with (fail)
  go_ret
  exact ⟨rfl, HB2.out⟩

end Go.Proofs.Ytakgghhmecphmaa
