/- The table's questions, told by the document's sorted list. -/
import Derived.Test.YtjoblahedgpgbaaGreatRMeet
namespace Go.Proofs.YtjoblahedgpgbaaGreat
set_option linter.unusedVariables false
set_option linter.unusedSimpArgs false
open Go.RowKit

set_option maxRecDepth 100000 in
theorem tmeet_bad {w : World} {p : Nat} (a : Nat) (n : Int) (ha : a < 2 ^ 32) (hr : rtB ⟨a, n⟩ = false) :
    Calls Tryz.prog 262 #[.pointer (some ⟨p, 1, none⟩), .agg #[.int .u32 (a : Int), .int .i64 n]] w fun e w' => e = .returned (.slice none 0 0) ∧ Below w.heap.size w w' := by
  have HR : Hid (∀ W, Calls Tryz.prog 149 #[.agg #[.int .u32 (a : Int), .int .i64 n]] W fun e w' => e = .returned (.bool false) ∧ Below W.heap.size W w') := Lib.hid (fun W => by rw [← hr]; exact cright_calls W ⟨a, n⟩ ha)
  have k0 := (Below.refl w.heap.size w).alloc (Nat.le_refl _) (.cells #[.int .u32 (a : Int), .int .i64 n] 48)
  have K0 := Lib.hid k0
  clear k0
  go_enter Tryz.func262, Tryz.ntmps262
  go_wp2_with (fail)
  generalize w.alloc (.cells #[.int .u32 (a : Int), .int .i64 n] 48) = w1 at *
  refine (HR.out _).mono ?_
  rintro e w2 ⟨he, k2⟩
  subst he
  have K2 := Lib.hid (K0.out.trans (k2.mono K0.out.size))
  clear k2
  go_wp2_with (fail)
  exact bodyPost_ret (v := .slice none 0 0) (by simp [results, Tryz.results262, go_sem]) rfl ⟨rfl, K2.out⟩

set_option maxRecDepth 100000 in
set_option maxHeartbeats 2000000 in
theorem tmeeting_bad {w : World} {p mb : Nat} {F : List Nat} {L : List Rl} (h : TabAt w p mb F L) (hl : L.length < 100000) (a : Nat) (n : Int) (ha : a < 2 ^ 32) (hr : rtB ⟨a, n⟩ = false) :
    Calls Tryz.prog 231 #[.pointer (some ⟨p, 0, none⟩), .agg #[.int .u32 (a : Int), .int .i64 n]] w fun e w' => ∃ vr : Value, e = .returned vr ∧ w'.ownsRow w.heap.size 89 6 vr 0 [] ∧ Below w.heap.size w w' := by
  have k0 := (Kept.refl [] w).alloc (.cells #[.int .u32 (a : Int), .int .i64 n] 48)
  have hX := blk_drew (heap_alloc_new w (.cells #[.int .u32 (a : Int), .int .i64 n] 48))
  have dx := And.intro (cell_of hX 0) (cell_of hX 1)
  simp only [List.getElem?_toArray, List.getElem?_cons_zero, List.getElem?_cons_succ] at dx
  have HK0 := Lib.hid k0.drew
  have H0 := Lib.hid h
  go_enter Tryz.func231, Tryz.ntmps231
  go_wp2_with (fail)
  clear h hX k0
  generalize w.alloc (.cells #[.int .u32 (a : Int), .int .i64 n] 48) = w1 at *
  generalize hwd : w1.drew = wd at *
  have HM := Lib.hid (tmeet_bad (w := wd) (p := p) a n ha hr)
  have HD0 := Lib.hid dx
  go_region_law (first | (go_simp; go_at_call 262; refine HM.out.mono ?_; rintro e w2 ⟨he, hk2⟩; subst he; have HK2 := Lib.hid (HK0.out.trans (Kept.of_below (S := []) hk2) (by simp)); have HC := Lib.hid (tsorted_calls (es := []) (H0.out.kept HK2.out (by simp) (by simp)) (World.ownsRow_nil w2 0 _ _) (by decide) (by simp)); clear hk2) | (go_simp; go_at_call 210; refine HC.out.mono ?_; rintro e w3 ⟨vr, l', he, hp, hs, how3, hk3⟩; subst he; have H3 := Lib.hid (And.intro hp (And.intro hs (And.intro how3 hk3))); clear hp hs how3 hk3))
  all_goals (
    go_wp2_with (fail)
    obtain ⟨hp, hs, how3, hk3⟩ := H3.out
    obtain rfl : l' = [] := List.perm_nil.1 hp
    refine bodyPost_ret (v := vr) (by simp [results, Tryz.results231, go_sem]) rfl ⟨vr, rfl, ⟨how3.1, ?_⟩, (HK2.out.trans (Kept.of_below (S := []) hk3) (by simp)).below (Nat.le_refl _) (by simp)⟩
    rcases how3.2 with h1 | ⟨g', cap, cur, h1, h2, r⟩
    · exact Or.inl h1
    · exact Or.inr ⟨g', cap, cur, h1, Nat.le_trans HK2.out.size h2, r⟩)

theorem Pf.nat {q : Pf} (hr : rtB q = true) : ∃ n : Nat, q.bits = n ∧ n ≤ 32 := by
  obtain ⟨h0, h1, _⟩ := (rtB_iff _).1 hr
  exact ⟨q.bits.toNat, by omega, by omega⟩

variable {w : World} {p mb b : Nat} {v : Value} {F : List Nat} {L l : List Rl}

/-- Meeting. -/
theorem tmeetL_calls (h : TabAt w p mb F L) (hp : Pair L l) (hl : L.length < 100000) (q : Pf) (ha : q.addr < 2 ^ 32) :
    Calls Tryz.prog 231 #[.pointer (some ⟨p, 0, none⟩), q.val] w fun e w' => ∃ vr : Value, e = .returned vr ∧ w'.ownsRow w.heap.size 89 6 vr (meetL l q).length (rlCells (meetL l q)) ∧ Below w.heap.size w w' := by
  obtain ⟨a, n⟩ := q
  unfold meetL
  cases hr : rtB ⟨a, n⟩ with
  | false => exact tmeeting_bad h hl a n ha hr
  | true =>
    obtain ⟨m, rfl, hm⟩ : ∃ m : Nat, n = m ∧ m ≤ 32 := Pf.nat hr
    refine (tmeeting_calls h hl a m ha hm hr).mono ?_
    rintro e w' ⟨vr, l', h1, h2, he, how, hk⟩
    obtain rfl : l' = l.filter (meetR a m) := sorted_filter hp (fun r hr => meetsW_meet (h.ok r hr) ha hm) h1 h2
    exact ⟨vr, he, how, hk⟩

/-- Rules. -/
theorem trulesL_calls (h : TabAt w p mb F L) (hp : Pair L l) (hl : L.length < 100000) :
    Calls Tryz.prog 147 #[.pointer (some ⟨p, 0, none⟩)] w fun e w' => ∃ vr : Value, e = .returned vr ∧ w'.ownsRow w.heap.size 89 6 vr l.length (rlCells l) ∧ Below w.heap.size w w' := by
  refine (trules_calls h hl).mono ?_
  rintro e w' ⟨vr, l', h1, h2, he, how, hk⟩
  obtain rfl : l' = l := sorted_one (h1.trans hp.perm.symm) (((h1.trans hp.perm.symm).map _).nodup_iff.2 hp.ids) h2 hp.sorted
  exact ⟨vr, he, how, hk⟩

/-- Best. -/
theorem tbestL_calls (h : TabAt w p mb F L) (hp : Pair L l) (hl : L.length < 100000) (a : Nat) (ha : a < 2 ^ 32) :
    Calls Tryz.prog 205 #[.pointer (some ⟨p, 0, none⟩), .int .u32 (a : Int)] w fun e w' => e = .returned (.tuple #[((l.find? (hasR a)).getD noRule).val, .bool (l.find? (hasR a)).isSome]) ∧ Below w.heap.size w w' := by
  refine (tbest_calls h hl a ha).mono ?_
  rintro e w' ⟨l', h1, h2, he, hk⟩
  obtain rfl : l' = l.filter (hasR a) := sorted_filter hp (fun r hr => onWay_has (h.ok r hr) ha) h1 h2
  refine ⟨?_, hk⟩
  rw [he, ← head_filter]
  cases l.filter (hasR a) <;> rfl
end Go.Proofs.YtjoblahedgpgbaaGreat
