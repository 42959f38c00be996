/- All ways to hold the bits that sets ask, plainly. -/
import Derived.Test.YtakgghhmecphmaaRefInP
import Derived.Test.YtakgghhmecphmaaLeastP
import Derived.Test.YtakgghhmecphmaaBack
namespace Go.Proofs.Ytakgghhmecphmaa
set_option linter.unusedVariables false
set_option linter.unusedSimpArgs false

def askB (l : List Ex) (i : Nat) : Bool := l.any fun x => decide (x.kind = 2 ∧ x.var.toNat = i)
/-- Bits that no set asks change nothing. -/
def Free1 (F : Fn) (q : Nat → Bool) : Prop := ∀ b i x, q i = false → F (updB b i x) = F b
theorem updB_comm (b : Nat → Bool) {i j : Nat} (h : i ≠ j) (x y : Bool) : updB (updB b i x) j y = updB (updB b j y) i x := by
  funext v
  unfold updB
  by_cases h1 : v = i <;> by_cases h2 : v = j <;> simp_all
theorem Free1.upd {F : Fn} {q : Nat → Bool} (h : Free1 F q) (i : Nat) (x : Bool) : Free1 (fun b => F (updB b i x)) q := by
  intro b j y hj
  by_cases e : i = j
  · subst e
    show F (updB (updB b i y) i x) = F (updB b i x)
    rw [updB_updB]
  · show F (updB (updB b j y) i x) = F (updB b i x)
    rw [updB_comm b (fun h => e h.symm), h _ _ _ hj]
theorem inL_free (l : List Ex) : ∀ i, Free1 (fun b => (inL l b).getD i false) (askB l) := by
  have : ∀ k, k ≤ l.length → ∀ i, Free1 (fun b => (inL (l.take k) b).getD i false) (askB l) := by
    intro k
    induction k with
    | zero => intro _ i b j x _; simp [inL, fnsGo]
    | succ k ih =>
      intro hk i b j x hj
      have hx : l[k]? = some l[k] := List.getElem?_eq_getElem (by omega)
      have hall := ih (by omega)
      have hlen : ∀ b, (inL (l.take k) b).length = k := fun b => by rw [inL_length, List.length_take]; omega
      show (inL (l.take (k + 1)) (updB b j x)).getD i false = (inL (l.take (k + 1)) b).getD i false
      rw [inL_succ hx, inL_succ hx]
      rcases Nat.lt_trichotomy i k with h1 | h1 | h1
      · rw [List.getD_eq_getElem?_getD, List.getD_eq_getElem?_getD, List.getElem?_append_left (by rw [hlen]; exact h1), List.getElem?_append_left (by rw [hlen]; exact h1), ← List.getD_eq_getElem?_getD, ← List.getD_eq_getElem?_getD]
        exact hall i b j x hj
      · subst h1
        rw [List.getD_eq_getElem?_getD, List.getD_eq_getElem?_getD, List.getElem?_append_right (by rw [hlen]; omega), List.getElem?_append_right (by rw [hlen]; omega), hlen, hlen]
        simp only [Nat.sub_self, List.getElem?_cons_zero, Option.getD_some]
        have hfs : ∀ t, ∀ b j x, askB l j = false → (fnsGo [] (l.take i)).getD t (fun _ => false) (updB b j x) = (fnsGo [] (l.take i)).getD t (fun _ => false) b := fun t b j x hj => by
          rw [inL_at, inL_at]
          exact hall t b j x hj
        have hm := List.getElem_mem (l := l) (n := i) (by omega)
        generalize l[i] = y at *
        have hA : ∀ t, (fnsGo [] (l.take i)).getD t (fun _ => false) (updB b j x) = (fnsGo [] (l.take i)).getD t (fun _ => false) b := fun t => hfs t b j x hj
        have h8 : (fnsGo [] (l.take i)).getD y.a.toNat (fun _ => false) (updB (updB b j x) y.var.toNat y.on) = (fnsGo [] (l.take i)).getD y.a.toNat (fun _ => false) (updB b y.var.toNat y.on) := by
          by_cases e : j = y.var.toNat
          · subst e
            rw [updB_updB]
          · rw [updB_comm b e, hfs _ _ _ _ hj]
        unfold fnE
        by_cases hk2 : y.kind = 2
        · have h2 : updB b j x y.var.toNat = b y.var.toNat := by
            rw [updB_other]
            intro e2
            have : askB l j = true := List.any_eq_true.2 ⟨y, hm, decide_eq_true ⟨hk2, e2⟩⟩
            rw [this] at hj
            cases hj
          simp only [hA, h8, h2]
        · simp only [hA, h8, if_neg hk2]
      · rw [List.getD_eq_getElem?_getD, List.getD_eq_getElem?_getD, List.getElem?_eq_none (by rw [List.length_append, hlen]; simp; omega), List.getElem?_eq_none (by rw [List.length_append, hlen]; simp; omega)]
  intro i
  have h := this l.length (Nat.le_refl _) i
  rwa [List.take_length] at h

/-- Sets over some bits, all others not set. -/
def cnt : List Nat → Fn → Nat
  | [], F => (F (fun _ => false)).toNat
  | x :: v, F => cnt v (fun b => F (updB b x false)) + cnt v (fun b => F (updB b x true))
def varsF (q : Nat → Bool) (d : Nat) : List Nat := (List.range' (104 - d) d).filter q
theorem varsF_succ (q : Nat → Bool) {d : Nat} (h : d < 104) : varsF q (d + 1) = if q (103 - d) then (103 - d) :: varsF q d else varsF q d := by
  unfold varsF
  rw [List.range'_succ, show 104 - (d + 1) = 103 - d by omega, show 103 - d + 1 = 104 - d by omega, List.filter_cons]
theorem varsF_len (q : Nat → Bool) (d : Nat) : (varsF q d).length ≤ d := by
  unfold varsF
  have := List.length_filter_le q (List.range' (104 - d) d)
  simpa using this
theorem ways_cnt (q : Nat → Bool) : ∀ (d : Nat) (F : Fn), d ≤ 104 → Free1 F q → ways d F = cnt (varsF q d) F * 2 ^ (d - (varsF q d).length)
  | 0, F, _, _ => by simp [varsF, cnt, ways]
  | d + 1, F, h, hF => by
    have hl := varsF_len q d
    rw [varsF_succ q (by omega)]
    cases hq : q (103 - d) with
    | true =>
      simp only [if_true]
      rw [ways_succ, ways_cnt q d _ (by omega) (hF.upd _ _), ways_cnt q d _ (by omega) (hF.upd _ _), cnt, List.length_cons, show d + 1 - ((varsF q d).length + 1) = d - (varsF q d).length by omega, Nat.add_mul]
    | false =>
      simp only [Bool.false_eq_true, if_false]
      rw [ways_skip d (fun b x => hF b _ x hq), ways_cnt q d F (by omega) hF, show d + 1 - (varsF q d).length = (d - (varsF q d).length) + 1 by omega, Nat.pow_succ]
      rw [Nat.mul_left_comm, Nat.mul_comm 2]

/-- The bits of a way to hold them: the first bit is the number's highest. -/
def asgF : List Nat → Nat → Nat → Bool
  | [], _ => fun _ => false
  | x :: v, w => updB (asgF v w) x (w.testBit v.length)
theorem asgF_mod : ∀ (v : List Nat) (w w' : Nat), (∀ i, i < v.length → w.testBit i = w'.testBit i) → asgF v w = asgF v w'
  | [], _, _, _ => rfl
  | x :: v, w, w', h => by
    rw [asgF, asgF, asgF_mod v w w' (fun i hi => h i (by simp; omega)), h v.length (by simp)]
theorem asgF_off : ∀ (v : List Nat) (w i : Nat), i ∉ v → asgF v w i = false
  | [], _, _, _ => rfl
  | x :: v, w, i, h => by
    rw [asgF, updB_other _ _ (fun e => h (by rw [e]; exact List.mem_cons_self))]
    exact asgF_off v w i (fun hm => h (List.mem_cons_of_mem _ hm))
theorem asgF_at : ∀ (v : List Nat) (w i : Nat) (hi : i < v.length), v.Nodup → asgF v w v[i] = w.testBit (v.length - 1 - i)
  | x :: v, w, 0, _, _ => by
    rw [asgF]
    simp [updB_same]
  | x :: v, w, i + 1, hi, hn => by
    have hi' : i < v.length := by simpa using hi
    have hn' := List.nodup_cons.1 hn
    rw [asgF, List.getElem_cons_succ, updB_other _ _ (fun e => hn'.1 (by rw [← e]; exact List.getElem_mem hi')), asgF_at v w i hi' hn'.2, List.length_cons]
    congr 1
    omega
theorem cnt_sum : ∀ (v : List Nat) (F : Fn), cnt v F = (List.range (2 ^ v.length)).countP fun w => F (asgF v w)
  | [], F => by
    have : List.range (2 ^ ([] : List Nat).length) = [0] := rfl
    rw [this, cnt, List.countP_singleton]
    cases h : F (fun _ => false)
    · simp [asgF, h]
    · simp [asgF, h]
  | x :: v, F => by
    rw [cnt, cnt_sum v, cnt_sum v, List.length_cons, Nat.pow_succ, Nat.mul_two, List.range_add, List.countP_append, List.countP_map]
    congr 1
    · refine List.countP_congr fun w hw => ?_
      have := List.mem_range.1 hw
      rw [asgF, Nat.testBit_lt_two_pow this]
    · refine List.countP_congr fun w hw => ?_
      have hw := List.mem_range.1 hw
      show F (updB (asgF v w) x true) = true ↔ F (asgF (x :: v) (2 ^ v.length + w)) = true
      rw [asgF, Nat.testBit_two_pow_add_eq, Nat.testBit_lt_two_pow hw, asgF_mod v (2 ^ v.length + w) w (fun i hi => Nat.testBit_two_pow_add_gt hi w)]
      rfl
end Go.Proofs.Ytakgghhmecphmaa
