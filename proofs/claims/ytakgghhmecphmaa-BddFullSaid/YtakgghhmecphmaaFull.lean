/- The walk of BddFull. -/
import Derived.Test.YtakgghhmecphmaaHeld
import Derived.Test.YtakgghhmecphmaaFullP
import Derived.Test.YtakgghhmecphmaaArgsH
namespace Go.Proofs.Ytakgghhmecphmaa
set_option linter.unusedVariables false
set_option linter.unusedSimpArgs false
open Go.RowKit Go.Maps

theorem exCells_append (a b : List Ex) : exCells (a ++ b) = exCells a ++ exCells b := by simp [exCells]
theorem ArgL.take {N : Nat} {w : World} {ao : Option Addr} {m cap : Nat} {l : List Ex} (h : ArgL N w (.slice ao m cap) l) {n : Nat} (hn : n ≤ m) (c : Nat) : ArgL N w (.slice ao n c) (l.take n) := by
  obtain ⟨hw, ⟨rfl, ao', cap', e⟩ | ⟨b, off, n', cap', h0, e, h1, h2, h3, h4⟩⟩ := h
  · cases e
    obtain rfl : n = 0 := by omega
    exact ⟨by simpa using hw, Or.inl ⟨rfl, _, _, rfl⟩⟩
  · cases e
    rcases Nat.eq_zero_or_pos n with h | h
    · subst h
      exact ⟨fun x hx => by simp at hx, Or.inl ⟨rfl, _, _, rfl⟩⟩
    · refine ⟨fun x hx => hw x (List.mem_of_mem_take hx), Or.inr ⟨b, off, n, c, h, rfl, by rw [List.length_take]; omega, by omega, fun j u hu => h3 j u ?_, h4⟩⟩
      have e := exCells_append (l.take n) (l.drop n)
      rw [List.take_append_drop] at e
      rw [e, List.getElem?_append_left (List.getElem?_eq_some_iff.1 hu).1]
      exact hu

/-- Two arenas that share no block. -/
def Apart (p g mb q h nb : Nat) : Prop := (p ≠ q ∧ p ≠ h ∧ p ≠ nb) ∧ (g ≠ q ∧ g ≠ h ∧ g ≠ nb) ∧ (mb ≠ q ∧ mb ≠ h ∧ mb ≠ nb)
theorem Apart.symm {p g mb q h nb : Nat} (a : Apart p g mb q h nb) : Apart q h nb p g mb := by unfold Apart at *; omega
theorem two_post {W w w' : World} {p g mb q h nb : Nat} {A A0 B : Arn} (HA : AR W w p g mb A0) (HB : AR W w q h nb B) (ap : Apart p g mb q h nb) (HP : APost W w p g mb A w') :
    ∃ g', AR W w' p g' mb A ∧ AR W w' q h nb B ∧ Apart p g' mb q h nb := by
  obtain ⟨g', hg', H, K⟩ := HP
  have hl := HB.2.2.2.1.lt
  have a1 := HA.1
  have a2 := HA.2.1
  have a3 := HA.2.2.1
  refine ⟨g', H, HB.kept K ?_ ?_ ?_ ?_, ?_⟩
  · unfold Apart at ap; simp; omega
  · unfold Apart at ap; simp; omega
  · unfold Apart at ap; simp; omega
  · simp; omega
  · unfold Apart at *; omega
theorem two_new {W w w' : World} {p g mb q h nb : Nat} {A B : Arn} (HA : AR W w p g mb A) (HB : AR w w' q h nb B) : AR W w' p g mb A ∧ AR W w' q h nb B ∧ Apart p g mb q h nb := by
  have hl := HA.2.2.2.1.lt
  obtain ⟨b1, b2, b3, b4, b5, b6⟩ := HB
  have hs := HA.2.2.2.2.2.size
  exact ⟨HA.below b6, ⟨by omega, by omega, by omega, b4, b5, HA.2.2.2.2.2.trans (b6.mono hs)⟩, by unfold Apart; omega⟩

theorem row_any {w : World} {base n : Nat} {vo : Value} {out : List Nat} (h : w.ownsRow base 3 1 vo n (out.map nat64)) : ∃ ao cap, vo = .slice ao n cap := by
  rcases h.2 with ⟨h0, h1⟩ | ⟨g, cap, cur, rfl, _⟩
  · subst h1
    exact ⟨none, 0, h0⟩
  · exact ⟨_, cap, rfl⟩

set_option maxRecDepth 100000 in
theorem full_dark {W : World} {v : Value} {l : List Ex} (h : ArgL W.heap.size W v l) (i : Int) (hl : ¬ LightP l) :
    Calls Try.prog 5 #[v, .int .u8 i] W fun e w' => e = .returned (.bool true) ∧ Below W.heap.size W w' := by
  have HL := Lib.hid (light_no h hl)
  obtain ⟨ao, cap, rfl, hlen⟩ := h.slice
  go_enter Try.func5, Try.ntmps5
  go_wp2_with (fail)
  refine HL.out.mono ?_
  rintro e w1 ⟨he, k1⟩
  subst he
  have k1 := Lib.hid k1
  go_wp2_with (go_at_call 29; refine (awake06_calls _).mono ?_; rintro e w' ⟨rfl, k8⟩; have k8 := Lib.hid k8)
  go_ret
  exact ⟨rfl, k1.out.trans (k8.out.mono k1.out.size)⟩

set_option maxRecDepth 100000 in
theorem full_small {W : World} {v : Value} {l : List Ex} (h : ArgL W.heap.size W v l) (r : Nat) (hr : r < 2) (hl : LightP l) :
    Calls Try.prog 5 #[v, .int .u8 (r : Int)] W fun e w' => e = .returned (.bool true) ∧ Below W.heap.size W w' := by
  have HL := Lib.hid (light_yes h hl)
  obtain ⟨ao, cap, rfl, hlen⟩ := h.slice
  go_enter Try.func5, Try.ntmps5
  go_wp2_with (fail)
  refine HL.out.mono ?_
  rintro e w1 ⟨he, k1⟩
  subst he
  have k1 := Lib.hid k1
  have t1 : decide ((r : Int) < 2) = true := decide_eq_true (by omega)
  go_wp2_with (first | (go_at_call 17; refine (new_bad _ _ (Or.inl (by omega))).mono ?_; rintro e w' ⟨rfl, rfl⟩) | (go_at_call 29; refine (awake06_calls _).mono ?_; rintro e w' ⟨rfl, k8⟩; have k8 := Lib.hid k8))
  go_ret
  exact ⟨rfl, k1.out.trans (k8.out.mono k1.out.size)⟩

set_option maxRecDepth 100000 in
set_option maxHeartbeats 4000000 in
theorem full_main {W : World} {ao : Option Addr} {n cap : Nat} {l : List Ex} (h : ArgL W.heap.size W (.slice ao n cap) l) (hnl : l.length = n) (hcap : n ≤ cap) (r : Nat) (hr : 2 ≤ r) (hr2 : r < 256) (hl : LightP l) :
    Calls Try.prog 5 #[.slice ao n cap, .int .u8 (r : Int)] W fun e w' => e = .returned (.bool true) ∧ Below W.heap.size W w' := by
  have HL := Lib.hid (light_yes h hl)
  have HV := Lib.hid h
  have h60 := hl.1
  have HLP := Lib.hid hl
  clear h hl
  go_enter Try.func5, Try.ntmps5
  go_wp2_with (fail)
  refine HL.out.mono ?_
  rintro e w1 ⟨he, k1⟩
  subst he
  have k1 := Lib.hid k1
  go_wp2_with (fail)
  refine (AR.new k1.out r (by omega) (by omega)).mono ?_
  rintro e w2 ⟨p, g, mb, he, H2⟩
  subst he
  have H2 := Lib.hid H2
  have t1 : decide ((r : Int) < 2) = false := decide_eq_false (by omega)
  go_wp2_with (fail)
  refine (AR.new (Below.refl _ _) 262144 (by omega) (by omega)).mono ?_
  rintro e w3 ⟨q, g2, nb, he, H3⟩
  subst he
  obtain ⟨HA, HB, hap⟩ := two_new H2.out H3
  have HA := Lib.hid HA
  have HB := Lib.hid HB
  have HP := Lib.hid hap
  clear H2 H3 hap
  go_wp2_with (fail)
  have hO0 := newF_ok (most := r) (by omega) (by omega)
  have hO1 := newF_ok (most := 262144) (by omega) (by omega)
  have hroom := (light_room HLP.out rfl).1
  go_loopw [50] (fun vi wr => ∃ (k g' h' : Nat) (A B : Arn), k ≤ n ∧ vi = .int .i64 (k : Int) ∧ AR W wr p g' mb A ∧ AR W wr q h' nb B ∧ Apart p g' mb q h' nb ∧
      (makeGo (newF r) [] (l.take k)).2.1 = true ∧ (makeGo (newF r) [] (l.take k)).2.2 = A ∧ (makeGo (newF 262144) [] (l.take k)).2.2 = B) (fun vi _ => n - (intOf vi).toNat)
  case atStart => exact ⟨0, g, g2, newF r, newF 262144, Nat.zero_le _, rfl, HA.out, HB.out, HP.out, rfl, rfl, rfl⟩
  case round =>
    obtain ⟨k, g', h', A, B, hk, rfl, hA, hB, hap, hok, hma, hmb⟩ := hrel
    by_cases hlt : k < n
    · obtain ⟨fo, fm, s, ok, A', hmk, fo', fm', hyes, hno⟩ := full_step hO0 HLP.out.2.2.1 (by omega) hok hma
      obtain ⟨bo, bm, t, ok2, B', hmk2, bo', bm', hyes2, hno2⟩ := full_step hO1 HLP.out.2.2.1 (by omega) (makeGo_take k hroom) hmb
      have hb2 : ok2 = true := by
        cases ok2
        · have := (hno2 rfl).2.2.2
          rw [makeGo_take (k + 1) hroom] at this
          cases this
        · rfl
      subst hb2
      obtain ⟨ht, hmb2⟩ := hyes2 rfl
      clear hno2 hyes2 hmb
      have HA := Lib.hid hA
      have HB := Lib.hid hB
      have HAP := Lib.hid hap
      have HMK := Lib.hid hmk
      have HMK2 := Lib.hid hmk2
      have HY := Lib.hid hyes
      have HN := Lib.hid hno
      have HB2 := Lib.hid hmb2
      have HT := Lib.hid ht
      have hAlen := Nat.le_trans fo.len (Nat.le_of_eq fm)
      have hAlen' := Nat.le_trans fo'.len (Nat.le_of_eq fm')
      clear hA hB hap hmk hmk2 hyes hno hmb2 ht hok hma
      go_wp2_with (fail)
      refine (len_calls HA.out.2.2.2.1).mono ?_
      rintro e w4 ⟨he, hw4⟩
      subst he hw4
      go_wp2_with (fail)
      have hv1 := HV.out.take (n := k + 1) (by omega) cap
      refine (make_arg HA.out hv1 (by rw [List.length_take]; omega) (take_bad HLP.out.2.2.1 (k + 1))).mono ?_
      rw [HMK.out]
      simp only
      generalize her : (if ok = true then (0 : Int) else 20) = er
      rintro e w5 ⟨vo, he, how, hpost⟩
      subst he
      have HER := Lib.hid her
      clear her
      obtain ⟨g5, HA5, HB5, hap5⟩ := two_post HA.out HB.out HAP.out hpost
      have HA5 := Lib.hid HA5
      have HB5 := Lib.hid HB5
      have HP5 := Lib.hid hap5
      obtain ⟨so, scap, rfl⟩ := row_any how
      clear hpost hap5 how
      go_wp2_with (fail)
      refine (make_arg HB5.out hv1 (by rw [List.length_take]; omega) (take_bad HLP.out.2.2.1 (k + 1))).mono ?_
      rw [HMK2.out]
      rintro e w6 ⟨vo, he, how, hpost⟩
      subst he
      obtain ⟨g6, HB6, HA6, hap6⟩ := two_post HB5.out HA5.out HP5.out.symm hpost
      have HA6 := Lib.hid HA6
      have HB6 := Lib.hid HB6
      have HP6 := Lib.hid hap6.symm
      obtain ⟨to, tcap, rfl⟩ := row_any how
      clear hpost hap6 how HA5 HB5 HP5
      go_wp2_with (fail)
      refine (len_calls HA6.out.2.2.2.1).mono ?_
      rintro e w7 ⟨he, hw7⟩
      subst he hw7
      have t2 : decide (r < A'.nodes.length) = false := decide_eq_false (by have : (newF r).most = r := rfl; omega)
      cases ok
      · obtain ⟨rfl, hsl, hag, _⟩ := HN.out rfl
        have HAG := Lib.hid hag
        have HSL := Lib.hid hsl
        have her := HER.out
        simp only [Bool.false_eq_true, if_false] at her
        subst her
        clear hsl hag HN HY HMK HER
        go_wp2_with (fail)
        have hv0 := HV.out.take (n := k) (by omega) cap
        refine (make_arg HA6.out hv0 (by rw [List.length_take]; omega) (take_bad HLP.out.2.2.1 k)).mono ?_
        rw [HAG.out]
        simp only [if_true]
        rintro e w8 ⟨vo, he, how, hpost⟩
        subst he
        obtain ⟨go, gcap, rfl⟩ := row_any how
        obtain ⟨g8, HA8, HB8, hap8⟩ := two_post HA6.out HB6.out HP6.out hpost
        have HA8 := Lib.hid HA8
        clear hpost hap8 HB8 how
        go_wp2_with (fail)
        refine (awake06_calls _).mono ?_
        rintro e w9 ⟨he, k9⟩
        subst he
        have HA9 := Lib.hid (HA8.out.below k9)
        clear k9
        go_wp2_with (fail)
        refine (len_calls HA9.out.2.2.2.1).mono ?_
        rintro e w10 ⟨he, hw10⟩
        subst he hw10
        have t3 : ((s.length : Int) == (k : Int)) = true := by rw [HSL.out]; simp
        go_wp2_with (fail)
        go_ret
        exact ⟨rfl, HA9.out.2.2.2.2.2⟩
      · obtain ⟨hsl, hgo⟩ := HY.out rfl
        have HSL := Lib.hid hsl
        have HGO := Lib.hid hgo
        have her := HER.out
        simp only [if_true] at her
        subst her
        have t3 : ((s.length : Int) != (t.length : Int)) = false := by rw [hsl, HT.out]; simp
        clear hsl hgo HN HY HMK HER
        go_wp2_with (fail)
        go_roundw
        case rel => exact ⟨k + 1, g5, g6, A', B', by omega, by go_num, HA6.out, HB6.out, HP6.out, by rw [HGO.out], by rw [HGO.out], by rw [HB2.out]⟩
        case measure => simp [intOf]; omega
    · have HA := Lib.hid hA
      clear hA hB hap hma hmb hok
      obtain rfl : k = n := by omega
      go_wp2_with (fail)
      refine (awake06_calls _).mono ?_
      rintro e w9 ⟨he, k9⟩
      subst he
      have HA9 := Lib.hid (HA.out.below k9)
      clear k9
      go_wp2_with (fail)
      go_ret
      exact ⟨rfl, HA9.out.2.2.2.2.2⟩

theorem full_row (v : Value) (i : Int) {W : World} (hv : ArgExC W v) (wi : (Lit.int .u8 i).wf = true) :
    Calls Try.prog 5 #[v, .int .u8 i] W fun e w' => e = .returned (.bool true) ∧ Below W.heap.size W w' := by
  obtain ⟨hv, hc⟩ := hv
  obtain ⟨l, hl⟩ := hv.list
  obtain ⟨n, rfl, hn⟩ := u8_nat wi
  by_cases h : LightP l
  · rcases Nat.lt_or_ge n 2 with h2 | h2
    · exact full_small hl n h2 h
    · obtain ⟨ao, cap, rfl, _⟩ := hl.slice
      exact full_main hl rfl (hc _ _ _ rfl).1 n h2 hn h
  · exact full_dark hl _ h

end Go.Proofs.Ytakgghhmecphmaa
