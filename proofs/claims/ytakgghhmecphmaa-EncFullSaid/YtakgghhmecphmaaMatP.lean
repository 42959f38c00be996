/- A filter's set has the headers that match. Plainly. -/
import Derived.Test.YtakgghhmecphmaaFiltW
namespace Go.Proofs.Ytakgghhmecphmaa
set_option linter.unusedVariables false
set_option linter.unusedSimpArgs false

def Hd.hv (h : Hd) : Hv := ⟨h.dst, h.src, h.proto, h.sport, h.dport⟩
theorem fieldN_is {b : Nat → Bool} {s k z : Nat} (hz : z < 2 ^ k) (h : ∀ i, i < k → b (s + i) = z.testBit (k - 1 - i)) : fieldN b s k = z := by
  refine bits_eq (fieldN_lt b s k) hz fun i hi => ?_
  have h1 := fieldN_bit b s k (i := k - 1 - i) (by omega)
  have h2 := h (k - 1 - i) (by omega)
  rw [show k - 1 - (k - 1 - i) = i by omega] at h1 h2
  rw [h1, h2]
theorem hd_dst {h : Hd} (w : h.Wf) : fieldN h.bit 0 32 = h.dst := fieldN_is w.dst fun i hi => by
  unfold Hd.bit
  rw [if_pos (by omega)]
  congr 1
  omega
theorem hd_src {h : Hd} (w : h.Wf) : fieldN h.bit 32 32 = h.src := fieldN_is w.src fun i hi => by
  unfold Hd.bit
  rw [if_neg (by omega), if_pos (by omega)]
  congr 1
  omega
theorem hd_proto {h : Hd} (w : h.Wf) : fieldN h.bit 64 8 = h.proto := fieldN_is w.proto fun i hi => by
  unfold Hd.bit
  rw [if_neg (by omega), if_neg (by omega), if_pos (by omega)]
  congr 1
  omega
theorem hd_sport {h : Hd} (w : h.Wf) : fieldN h.bit 72 16 = h.sport := fieldN_is w.sport fun i hi => by
  unfold Hd.bit
  rw [if_neg (by omega), if_neg (by omega), if_neg (by omega), if_pos (by omega)]
  congr 1
  omega
theorem hd_dport {h : Hd} (w : h.Wf) : fieldN h.bit 88 16 = h.dport := fieldN_is w.dport fun i hi => by
  unfold Hd.bit
  rw [if_neg (by omega), if_neg (by omega), if_neg (by omega), if_neg (by omega), if_pos (by omega)]
  congr 1
  omega
theorem pre_has (b : Nat → Bool) (s q n : Nat) (hn : n ≤ 32) (hq : q < 2 ^ 32) {z : Nat} (hz : fieldN b s 32 = z) : agree b (litL s q 32 n) = hasN q n z := by
  rw [agree_lit b s q 32 n hn hq, hz]
  unfold hasN
  rw [Bool.eq_iff_iff, decide_eq_true_iff, beq_iff_eq]
theorem match_law {f : Fl} (hf : f.Wf) (hs : f.s2 < 65536 ∧ f.d2 < 65536) (hc : checkF f = 0) {h : Hd} (w : h.Wf) : ((List.range 5).all fun j => FM f.fv j h.bit) = matchF f h.hv := by
  obtain ⟨ok, hdn, hsn⟩ := Fl.ok hf hs hc
  have e5 : List.range 5 = [0, 1, 2, 3, 4] := rfl
  have hp := ok.pr
  rw [e5]
  simp only [List.all_cons, List.all_nil, Bool.and_true]
  have a0 : FM f.fv 0 h.bit = hasN f.da f.dn.toNat h.dst := pre_has h.bit 0 f.da f.fv.dn ok.dn hf.da (hd_dst w)
  have a1 : FM f.fv 1 h.bit = hasN f.sa f.sn.toNat h.src := pre_has h.bit 32 f.sa f.fv.sn ok.sn hf.sa (hd_src w)
  have a2 : FM f.fv 2 h.bit = protoF f h.hv := by
    show (f.proto == -1 || agree h.bit (litL 64 f.proto.toNat 8 8)) = decide (f.proto = -1 ∨ f.proto = (h.proto : Int))
    have hp : -1 ≤ f.proto ∧ f.proto ≤ 255 := hp
    rw [agree_lit h.bit 64 f.proto.toNat 8 8 (by omega) (by omega), hd_proto w]
    simp only [Nat.sub_self, Nat.pow_zero, Nat.div_one]
    have hpw := w.proto
    rw [Bool.eq_iff_iff, Bool.or_eq_true, decide_eq_true_iff, decide_eq_true_iff, beq_iff_eq]
    omega
  have a3 : FM f.fv 3 h.bit = inR f.s1 f.s2 h.sport := by
    show decide (f.s1 ≤ fieldN h.bit 72 16 ∧ fieldN h.bit 72 16 < f.s2 + 1) = (decide (f.s1 ≤ h.sport) && decide (h.sport ≤ f.s2))
    rw [hd_sport w, Bool.eq_iff_iff, Bool.and_eq_true, decide_eq_true_iff, decide_eq_true_iff, decide_eq_true_iff]
    omega
  have a4 : FM f.fv 4 h.bit = inR f.d1 f.d2 h.dport := by
    show decide (f.d1 ≤ fieldN h.bit 88 16 ∧ fieldN h.bit 88 16 < f.d2 + 1) = (decide (f.d1 ≤ h.dport) && decide (h.dport ≤ f.d2))
    rw [hd_dport w, Bool.eq_iff_iff, Bool.and_eq_true, decide_eq_true_iff, decide_eq_true_iff, decide_eq_true_iff]
    omega
  rw [a0, a1, a2, a3, a4]
  rfl
end Go.Proofs.Ytakgghhmecphmaa
