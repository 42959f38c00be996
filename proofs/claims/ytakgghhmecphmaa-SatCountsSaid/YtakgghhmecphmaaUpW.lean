/- The document's counts: Add and Up. -/
import Derived.Test.YtakgghhmecphmaaWide
import Derived.Test.YtakgghhmecphmaaHeap
import Derived.IntWalk
import Derived.Deep.CutRange
namespace Go.Proofs.Ytakgghhmecphmaa
set_option linter.unusedVariables false
set_option linter.unusedSimpArgs false
open Go.RowKit

set_option maxRecDepth 100000 in
set_option maxHeartbeats 2000000 in
theorem dadd_calls (w : World) (n m : Nat) (hnm : n + m < 2 ^ 128) : Calls Try.prog 90 #[cval n, cval m] w fun e w' => e = .returned (cval (n + m)) ∧ Below w.heap.size w w' := by
  obtain ⟨a, ha⟩ : ∃ a, a = n % 18446744073709551616 := ⟨_, rfl⟩
  obtain ⟨b, hb⟩ : ∃ b, b = m % 18446744073709551616 := ⟨_, rfl⟩
  obtain ⟨c, hc⟩ : ∃ c, c = n / 18446744073709551616 := ⟨_, rfl⟩
  obtain ⟨d, hd⟩ : ∃ d, d = m / 18446744073709551616 := ⟨_, rfl⟩
  have ha2 : a < 18446744073709551616 := by omega
  have hb2 : b < 18446744073709551616 := by omega
  have hcd : c + d < 18446744073709551616 := by
    have : (2 : Nat) ^ 128 = 18446744073709551616 * 18446744073709551616 := by decide
    omega
  have e1 : cval n = .agg #[.int .u64 (c : Int), .int .u64 (a : Int)] := by unfold cval; rw [← ha, ← hc]
  have e2 : cval m = .agg #[.int .u64 (d : Int), .int .u64 (b : Int)] := by unfold cval; rw [← hb, ← hd]
  rw [e1, e2]
  by_cases hcar : a + b < 18446744073709551616
  · have e3 : cval (n + m) = .agg #[.int .u64 ((c + d : Nat) : Int), .int .u64 ((a + b : Nat) : Int)] := by
      unfold cval
      rw [show (n + m) / 18446744073709551616 = c + d by omega, show (n + m) % 18446744073709551616 = a + b by omega]
    rw [e3]
    have w1 : IntKind.u64.wrap ((a : Int) + (b : Int)) = (a : Int) + (b : Int) := by rw [← Int.natCast_add, wrap64, Nat.mod_eq_of_lt hcar]
    have w2 : IntKind.u64.wrap ((c : Int) + (d : Int)) = (c : Int) + (d : Int) := by rw [← Int.natCast_add, wrap64, Nat.mod_eq_of_lt hcd]
    have hlt : decide ((a : Int) + (b : Int) < (a : Int)) = false := decide_eq_false (by omega)
    clear e1 e2 e3 ha hb hc hd hnm
    go_enter Try.func90, Try.ntmps90
    go_wp2_with (fail)
    simp [bodyPost, results, Try.results90, go_sem]
    exact (((Below.refl _ _).alloc (Nat.le_refl _) _).alloc (by simp) _).alloc (by simp; omega) _
  · have hcd1 : c + d + 1 < 18446744073709551616 := by
      have : (2 : Nat) ^ 128 = 18446744073709551616 * 18446744073709551616 := by decide
      omega
    have e3 : cval (n + m) = .agg #[.int .u64 ((c : Int) + (d : Int) + 1), .int .u64 ((a : Int) + (b : Int) - 18446744073709551616)] := by
      unfold cval
      rw [show (n + m) / 18446744073709551616 = c + d + 1 by omega, show (n + m) % 18446744073709551616 = a + b - 18446744073709551616 by omega]
      rw [show ((c + d + 1 : Nat) : Int) = (c : Int) + (d : Int) + 1 by omega, show ((a + b - 18446744073709551616 : Nat) : Int) = (a : Int) + (b : Int) - 18446744073709551616 by omega]
    rw [e3]
    have w1 : IntKind.u64.wrap ((a : Int) + (b : Int)) = (a : Int) + (b : Int) - 18446744073709551616 := by
      rw [← Int.natCast_add, wrap64, show (a + b) % 18446744073709551616 = a + b - 18446744073709551616 by omega]
      omega
    have w2 : IntKind.u64.wrap ((c : Int) + (d : Int)) = (c : Int) + (d : Int) := by rw [← Int.natCast_add, wrap64, Nat.mod_eq_of_lt hcd]
    have w3 : IntKind.u64.wrap ((c : Int) + (d : Int) + 1) = (c : Int) + (d : Int) + 1 := by
      rw [show (c : Int) + (d : Int) + 1 = ((c + d + 1 : Nat) : Int) by omega, wrap64, Nat.mod_eq_of_lt hcd1]
    have hlt : decide ((a : Int) + (b : Int) - 18446744073709551616 < (a : Int)) = true := decide_eq_true (by omega)
    clear e1 e2 e3 ha hb hc hd hnm
    go_enter Try.func90, Try.ntmps90
    go_wp2_with (fail)
    simp [bodyPost, results, Try.results90, go_sem]
    exact (((Below.refl _ _).alloc (Nat.le_refl _) _).alloc (by simp) _).alloc (by simp; omega) _

/-- A box with a count. -/
def CtAt (w : World) (b x : Nat) : Prop := w.heap[b]? = some (.cells #[.int .u64 ((x / 18446744073709551616 : Nat) : Int), .int .u64 ((x % 18446744073709551616 : Nat) : Int)] 85 (0, 0))
theorem two_newU (w : World) (a b : Obj) : ((w.alloc a).alloc b).heap[w.heap.size]? = some a ∧ ((w.alloc a).alloc b).heap[w.heap.size + 1]? = some b ∧ Below w.heap.size w ((w.alloc a).alloc b) := by
  have e1 : (w.alloc a).heap.size = w.heap.size + 1 := by simp
  have h2 := heap_alloc_new (w.alloc a) b
  rw [e1] at h2
  exact ⟨blk_alloc (heap_alloc_new w a) b, h2, ((Below.refl w.heap.size w).alloc (Nat.le_refl _) _).alloc (by omega) _⟩
theorem set2_ct {w : World} {b : Nat} {x0 x1 : Value} {t : TypeId} (h : w.heap[b]? = some (.cells #[x0, x1] t (0, 0))) (y z : Value) : ((w.setCell ⟨b, 0, none⟩ y).setCell ⟨b, 1, none⟩ z).heap[b]? = some (.cells #[y, z] t (0, 0)) := set_block (set_block h 0 y) 1 z
set_option maxRecDepth 100000 in
set_option maxHeartbeats 4000000 in
theorem dup_calls (w : World) (n k : Nat) (hk : k < 128) (hn : n * 2 ^ k < 2 ^ 128) : Calls Try.prog 76 #[cval n, .int .i64 (k : Int)] w fun e w' => e = .returned (cval (n * 2 ^ k)) ∧ Below w.heap.size w w' := by
  have H2 := Lib.hid (two_newU w (.cells #[.int .u64 ((n / 18446744073709551616 : Nat) : Int), .int .u64 ((n % 18446744073709551616 : Nat) : Int)] 85) (.cells #[.int .u64 0, .int .u64 0] 85))
  have HN := Lib.hid hn
  have HR := Lib.hid (fun x (e : x = n * 2 ^ k) => show cval x = cval (n * 2 ^ k) by rw [e])
  have hc0 : CtAt ((w.alloc (.cells #[.int .u64 ((n / 18446744073709551616 : Nat) : Int), .int .u64 ((n % 18446744073709551616 : Nat) : Int)] 85)).alloc (.cells #[.int .u64 0, .int .u64 0] 85)) w.heap.size n := H2.out.1
  have HC0 := Lib.hid hc0
  generalize hres : cval (n * 2 ^ k) = res at *
  have HRES := Lib.hid hres
  have hcv : cval n = .agg #[.int .u64 ((n / 18446744073709551616 : Nat) : Int), .int .u64 ((n % 18446744073709551616 : Nat) : Int)] := rfl
  rw [hcv]
  clear hn hc0 hres hcv
  generalize hhi : ((n / 18446744073709551616 : Nat) : Int) = hi at *
  generalize hlo : ((n % 18446744073709551616 : Nat) : Int) = lo at *
  clear hhi hlo
  go_enter Try.func76, Try.ntmps76
  go_upto_region 1 with (fail)
  generalize (w.alloc (.cells #[.int .u64 hi, .int .u64 lo] 85)).alloc (.cells #[.int .u64 0, .int .u64 0] 85) = w1 at *
  have hkk : decide ((128 : Int) ≤ (k : Int)) = false := decide_eq_false (by omega)
  have hkk2 : decide ((k : Int) < 0) = false := decide_eq_false (by omega)
  go_wp2_with (fail)
  go_loopg [5] k (fun gk vi wr => ∃ t x : Nat, t + gk = k ∧ vi = .int .i64 (t : Int) ∧ x = n * 2 ^ t ∧ CtAt wr w.heap.size x ∧ Kept [w.heap.size] w1 wr)
  case atStart => exact ⟨0, n, by omega, rfl, by simp, HC0.out, Kept.refl _ _⟩
  case round =>
    obtain ⟨t, x, hgk, rfl, hx, hc, hK⟩ := hrel
    have HX := Lib.hid hx
    have HC := Lib.hid hc
    have HK := Lib.hid hK
    unfold CtAt at hc
    have z0 := cell_of hc 0
    have z1 := cell_of hc 1
    simp only [List.getElem?_toArray, List.getElem?_cons_zero, List.getElem?_cons_succ] at z0 z1
    clear hx hc hK
    by_cases hlt : t < k
    · have hti : (t : Int) < (k : Int) := by omega
      have hxx : x + x = n * 2 ^ (t + 1) := by rw [HX.out, Nat.pow_succ, ← Nat.mul_assoc]; omega
      have hle : n * 2 ^ (t + 1) ≤ n * 2 ^ k := Nat.mul_le_mul_left _ (Nat.pow_le_pow_right (by omega) (by omega))
      have HAD := Lib.hid (dadd_calls wr x x (by have := HN.out; omega))
      have HXX := Lib.hid hxx
      unfold cval at HAD
      clear hxx hle
      go_wp2_with (fail)
      refine Calls.mono HAD.out ?_
      rintro e w5 ⟨he, k5⟩
      subst he
      have hc5 := (k5.block _ (lt_of_block HC.out)).trans HC.out
      have u0 := And.intro (cell_of hc5 0) (unfrozen_of hc5 0)
      have u1 := And.intro (cell_of hc5 1) (unfrozen_of hc5 1)
      simp only [List.getElem?_toArray, List.getElem?_cons_zero, List.getElem?_cons_succ] at u0 u1
      have HC5 := Lib.hid hc5
      have HK5 := Lib.hid (HK.out.trans (Kept.of_below (S := [w.heap.size]) k5) (fun x hx => Or.inl hx))
      clear z0 z1 hc5 k5 HAD
      go_wp2_with (fail)
      go_roundg (gk - 1)
      case measure => omega
      case rel => exact ⟨t + 1, x + x, by omega, by go_num, HXX.out, set2_ct HC5.out _ _, HK5.out.trans (((Kept.refl [w.heap.size] w5).setCell _ _ (by simp)).setCell _ _ (by simp)) (fun x hx => Or.inl hx)⟩
    · obtain rfl : t = k := by omega
      have hti : decide ((t : Int) < (t : Int)) = false := decide_eq_false (by omega)
      have hne : w.heap.size + 1 ∉ [w.heap.size] := by simp
      have hr := (HK.out.block _ (lt_of_block H2.out.2.1) hne).trans H2.out.2.1
      have u0 := And.intro (cell_of hr 0) (unfrozen_of hr 0)
      have u1 := And.intro (cell_of hr 1) (unfrozen_of hr 1)
      simp only [List.getElem?_toArray, List.getElem?_cons_zero, List.getElem?_cons_succ] at u0 u1
      have HE := Lib.hid (HR.out x HX.out)
      clear hr hne
      go_wp2_with (fail)
      refine bodyPost_ret (v := cval x) (by simp [results, Try.results76, go_sem, u0, u1, cval]) rfl ⟨by rw [HE.out], ?_⟩
      have hk1 : Kept [w.heap.size, w.heap.size + 1] w1 wr := HK.out.mono (fun i hi => Or.inl (by simp at hi; simp [hi]))
      exact (Kept.trans (S := []) (Kept.of_below H2.out.2.2) ((hk1.setCell _ _ (by simp)).setCell _ _ (by simp)) (by simp)).below (Nat.le_refl _) (by simp)
end Go.Proofs.Ytakgghhmecphmaa
