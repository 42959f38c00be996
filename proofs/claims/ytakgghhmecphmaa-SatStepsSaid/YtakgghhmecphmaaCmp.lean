/- The walk of hdr.Compare. -/
import Derived.Test.YtakgghhmecphmaaEncP
import Derived.Test.YtakgghhmecphmaaWide
namespace Go.Proofs.Ytakgghhmecphmaa
set_option linter.unusedVariables false
set_option linter.unusedSimpArgs false
open Go.RowKit

/-- Two numbers compared. -/
def cmpN (x y : Nat) : Int := if x < y then -1 else if y < x then 1 else 0
def firstNZ : List Int → Int
  | [] => 0
  | c :: r => if c = 0 then firstNZ r else c
def cmpH (h g : Hd) : Int := firstNZ [cmpN h.dst g.dst, cmpN h.src g.src, cmpN h.proto g.proto, cmpN h.sport g.sport, cmpN h.dport g.dport]

set_option maxRecDepth 100000 in
theorem nan32 (w : World) (x : Int) : Calls Try.prog 91 #[.int .u32 x] w fun e w' => e = .returned (.bool false) ∧ w = w' := by
  go_enter Try.func91, Try.ntmps91
  go_wp2
  go_ret
  exact ⟨by simp, rfl⟩
set_option maxRecDepth 100000 in
theorem nan16 (w : World) (x : Int) : Calls Try.prog 93 #[.int .u16 x] w fun e w' => e = .returned (.bool false) ∧ w = w' := by
  go_enter Try.func93, Try.ntmps93
  go_wp2
  go_ret
  exact ⟨by simp, rfl⟩
set_option maxRecDepth 100000 in
theorem nan8 (w : World) (x : Int) : Calls Try.prog 92 #[.int .u8 x] w fun e w' => e = .returned (.bool false) ∧ w = w' := by
  go_enter Try.func92, Try.ntmps92
  go_wp2
  go_ret
  exact ⟨by simp, rfl⟩

set_option maxRecDepth 100000 in
theorem cmp32 (w : World) (x y : Nat) : Calls Try.prog 79 #[.int .u32 (x : Int), .int .u32 (y : Int)] w fun e w' => e = .returned (.int .i64 (cmpN x y)) ∧ w = w' := by
  unfold cmpN
  rcases Nat.lt_trichotomy x y with h | h | h
  · rw [if_pos h]
    have t1 : decide (x < y) = true := decide_eq_true h
    go_enter Try.func79, Try.ntmps79
    go_wp2_with (go_at_call 91; refine (nan32 _ _).mono ?_; rintro e w' ⟨rfl, rfl⟩)
    go_ret
    exact ⟨rfl, rfl⟩
  · subst h
    rw [if_neg (by omega), if_neg (by omega)]
    go_enter Try.func79, Try.ntmps79
    go_wp2_with (go_at_call 91; refine (nan32 _ _).mono ?_; rintro e w' ⟨rfl, rfl⟩)
    go_ret
    exact ⟨rfl, rfl⟩
  · rw [if_neg (by omega), if_pos h]
    have t1 : decide (x < y) = false := decide_eq_false (by omega)
    have t2 : decide (y < x) = true := decide_eq_true h
    go_enter Try.func79, Try.ntmps79
    go_wp2_with (go_at_call 91; refine (nan32 _ _).mono ?_; rintro e w' ⟨rfl, rfl⟩)
    go_ret
    exact ⟨rfl, rfl⟩

set_option maxRecDepth 100000 in
theorem cmp16 (w : World) (x y : Nat) : Calls Try.prog 81 #[.int .u16 (x : Int), .int .u16 (y : Int)] w fun e w' => e = .returned (.int .i64 (cmpN x y)) ∧ w = w' := by
  unfold cmpN
  rcases Nat.lt_trichotomy x y with h | h | h
  · rw [if_pos h]
    have t1 : decide (x < y) = true := decide_eq_true h
    go_enter Try.func81, Try.ntmps81
    go_wp2_with (go_at_call 93; refine (nan16 _ _).mono ?_; rintro e w' ⟨rfl, rfl⟩)
    go_ret
    exact ⟨rfl, rfl⟩
  · subst h
    rw [if_neg (by omega), if_neg (by omega)]
    go_enter Try.func81, Try.ntmps81
    go_wp2_with (go_at_call 93; refine (nan16 _ _).mono ?_; rintro e w' ⟨rfl, rfl⟩)
    go_ret
    exact ⟨rfl, rfl⟩
  · rw [if_neg (by omega), if_pos h]
    have t1 : decide (x < y) = false := decide_eq_false (by omega)
    have t2 : decide (y < x) = true := decide_eq_true h
    go_enter Try.func81, Try.ntmps81
    go_wp2_with (go_at_call 93; refine (nan16 _ _).mono ?_; rintro e w' ⟨rfl, rfl⟩)
    go_ret
    exact ⟨rfl, rfl⟩

set_option maxRecDepth 100000 in
theorem cmp8 (w : World) (x y : Nat) : Calls Try.prog 80 #[.int .u8 (x : Int), .int .u8 (y : Int)] w fun e w' => e = .returned (.int .i64 (cmpN x y)) ∧ w = w' := by
  unfold cmpN
  rcases Nat.lt_trichotomy x y with h | h | h
  · rw [if_pos h]
    have t1 : decide (x < y) = true := decide_eq_true h
    go_enter Try.func80, Try.ntmps80
    go_wp2_with (go_at_call 92; refine (nan8 _ _).mono ?_; rintro e w' ⟨rfl, rfl⟩)
    go_ret
    exact ⟨rfl, rfl⟩
  · subst h
    rw [if_neg (by omega), if_neg (by omega)]
    go_enter Try.func80, Try.ntmps80
    go_wp2_with (go_at_call 92; refine (nan8 _ _).mono ?_; rintro e w' ⟨rfl, rfl⟩)
    go_ret
    exact ⟨rfl, rfl⟩
  · rw [if_neg (by omega), if_pos h]
    have t1 : decide (x < y) = false := decide_eq_false (by omega)
    have t2 : decide (y < x) = true := decide_eq_true h
    go_enter Try.func80, Try.ntmps80
    go_wp2_with (go_at_call 92; refine (nan8 _ _).mono ?_; rintro e w' ⟨rfl, rfl⟩)
    go_ret
    exact ⟨rfl, rfl⟩

set_option maxRecDepth 100000 in
theorem or_calls (w : World) (b c : Nat) (l : List Int) (n : Nat) (hn : l.length = n) (h5 : n ≤ 100) (hc : ∀ i x, l[i]? = some x → w.cell? ⟨b, i, none⟩ = some (.int .i64 x)) :
    Calls Try.prog 78 #[.slice (some ⟨b, 0, none⟩) n c] w fun e w' => e = .returned (.int .i64 (firstNZ l)) ∧ w = w' := by
  have HC := Lib.hid hc
  have HN := Lib.hid hn
  clear hc hn
  go_enter Try.func78, Try.ntmps78
  go_wp2
  go_loopw [8] (fun vi wr => ∃ k : Nat, k ≤ n ∧ vi = .int .i64 (k : Int) ∧ wr = w ∧ firstNZ (l.drop k) = firstNZ l) (fun vi _ => n - (intOf vi).toNat)
  case atStart => exact ⟨0, Nat.zero_le _, rfl, rfl, rfl⟩
  case round =>
    obtain ⟨k, hk, rfl, rfl, hf⟩ := hrel
    have HF := Lib.hid hf
    clear hf
    by_cases hlt : k < n
    · have hx : l[k]? = some (l[k]'(by have := HN.out; omega)) := List.getElem?_eq_getElem _
      have hd : l.drop k = l[k]'(by have := HN.out; omega) :: l.drop (k + 1) := List.drop_eq_getElem_cons _
      generalize l[k]'(by have := HN.out; omega) = x at hx hd
      have cx := HC.out k x hx
      have HD := Lib.hid hd
      clear hx hd
      by_cases h0 : x = 0
      · have t1 : (x != 0) = false := by simp [h0]
        have HX := Lib.hid h0
        clear h0
        go_wp2
        go_roundw
        case rel => exact ⟨k + 1, by omega, by first | go_num | trivial, by first | rfl | trivial, by rw [← HF.out, HD.out]; simp [firstNZ, HX.out]⟩
        case measure => simp [intOf]; omega
      · have t1 : (x != 0) = true := by simp [h0]
        have HX := Lib.hid h0
        clear h0
        go_wp2
        go_ret
        exact ⟨by rw [← HF.out, HD.out]; simp [firstNZ, HX.out], rfl⟩
    · obtain rfl : k = n := by omega
      have hd : l.drop k = [] := List.drop_eq_nil_of_le (by have := HN.out; omega)
      have HD := Lib.hid hd
      clear hd
      go_wp2
      go_ret
      exact ⟨by rw [← HF.out, HD.out]; rfl, rfl⟩

set_option maxRecDepth 100000 in
set_option maxHeartbeats 1000000 in
theorem compare_calls (w : World) (h g : Hd) : Calls Try.prog 50 #[h.val, g.val] w fun e w' => e = .returned (.int .i64 (cmpH h g)) ∧ Below w.heap.size w w' := by
  obtain ⟨d, s, p, sp, dp⟩ := h
  obtain ⟨d', s', p', sp', dp'⟩ := g
  unfold Hd.val cmpH
  simp only
  go_enter Try.func50, Try.ntmps50
  go_wp2_with (fail)
  have K1 := ((Kept.refl [] w).alloc (.cells #[.int .u32 (d : Int), .int .u32 (s : Int), .int .u8 (p : Int), .int .u16 (sp : Int), .int .u16 (dp : Int)] 25)).alloc (.cells #[.int .u32 (d' : Int), .int .u32 (s' : Int), .int .u8 (p' : Int), .int .u16 (sp' : Int), .int .u16 (dp' : Int)] 25)
  have X1 := blk_alloc (heap_alloc_new w (.cells #[.int .u32 (d : Int), .int .u32 (s : Int), .int .u8 (p : Int), .int .u16 (sp : Int), .int .u16 (dp : Int)] 25)) (.cells #[.int .u32 (d' : Int), .int .u32 (s' : Int), .int .u8 (p' : Int), .int .u16 (sp' : Int), .int .u16 (dp' : Int)] 25)
  have Y1 := heap_alloc_new (w.alloc (.cells #[.int .u32 (d : Int), .int .u32 (s : Int), .int .u8 (p : Int), .int .u16 (sp : Int), .int .u16 (dp : Int)] 25)) (.cells #[.int .u32 (d' : Int), .int .u32 (s' : Int), .int .u8 (p' : Int), .int .u16 (sp' : Int), .int .u16 (dp' : Int)] 25)
  rw [show (w.alloc (.cells #[.int .u32 (d : Int), .int .u32 (s : Int), .int .u8 (p : Int), .int .u16 (sp : Int), .int .u16 (dp : Int)] 25)).heap.size = w.heap.size + 1 by simp] at Y1
  generalize (w.alloc (.cells #[.int .u32 (d : Int), .int .u32 (s : Int), .int .u8 (p : Int), .int .u16 (sp : Int), .int .u16 (dp : Int)] 25)).alloc (.cells #[.int .u32 (d' : Int), .int .u32 (s' : Int), .int .u8 (p' : Int), .int .u16 (sp' : Int), .int .u16 (dp' : Int)] 25) = w1 at *
  have X1 : w1.drew.heap[w.heap.size]? = _ := X1
  have Y1 : w1.drew.heap[w.heap.size + 1]? = _ := Y1
  have dx := And.intro (cell_of X1 0) (And.intro (cell_of X1 1) (And.intro (cell_of X1 2) (And.intro (cell_of X1 3) (cell_of X1 4))))
  simp only [List.getElem?_toArray, List.getElem?_cons_zero, List.getElem?_cons_succ] at dx
  have dy := And.intro (cell_of Y1 0) (And.intro (cell_of Y1 1) (And.intro (cell_of Y1 2) (And.intro (cell_of Y1 3) (cell_of Y1 4))))
  simp only [List.getElem?_toArray, List.getElem?_cons_zero, List.getElem?_cons_succ] at dy
  have HK := Lib.hid K1
  clear X1 Y1 K1
  refine wp_still_tail 25 (by kernel_rfl) (by kernel_rfl) ?_
  simp only [List.take_succ_cons, List.take_zero, List.drop_succ_cons, List.drop_zero]
  have HK2 := Lib.hid (HK.out.drew)
  generalize w1.drew = w2 at *
  iterate 4 still_step
  still_call ((cmp32 w2 d d').mono fun _ _ k => ⟨k.1, k.2.symm⟩)
  iterate 4 still_step
  still_call ((cmp32 w2 s s').mono fun _ _ k => ⟨k.1, k.2.symm⟩)
  iterate 4 still_step
  still_call ((cmp8 w2 p p').mono fun _ _ k => ⟨k.1, k.2.symm⟩)
  iterate 4 still_step
  still_call ((cmp16 w2 sp sp').mono fun _ _ k => ⟨k.1, k.2.symm⟩)
  iterate 4 still_step
  still_call ((cmp16 w2 dp dp').mono fun _ _ k => ⟨k.1, k.2.symm⟩)
  refine wpStill_nil ?_
  go_wp2_with (fail)
  have hcs : ∀ i x, [cmpN d d', cmpN s s', cmpN p p', cmpN sp sp', cmpN dp dp'][i]? = some x → (w2.alloc (.cells #[.int .i64 (cmpN d d'), .int .i64 (cmpN s s'), .int .i64 (cmpN p p'), .int .i64 (cmpN sp sp'), .int .i64 (cmpN dp dp')] 3)).cell? ⟨w2.heap.size, i, none⟩ = some (.int .i64 x) := by
    intro i x hi
    rw [cell_of (heap_alloc_new w2 _) i]
    match i, hi with
    | 0, hi => simpa using hi
    | 1, hi => simpa using hi
    | 2, hi => simpa using hi
    | 3, hi => simpa using hi
    | 4, hi => simpa using hi
    | i + 5, hi => simp at hi
  refine (or_calls _ w2.heap.size 5 _ 5 rfl (by omega) hcs).mono ?_
  rintro e w3 ⟨he, hw⟩
  subst he hw
  clear hcs
  go_wp2_with (fail)
  go_ret
  exact ⟨rfl, (HK2.out.alloc _).below (Nat.le_refl _) (by simp)⟩

end Go.Proofs.Ytakgghhmecphmaa
