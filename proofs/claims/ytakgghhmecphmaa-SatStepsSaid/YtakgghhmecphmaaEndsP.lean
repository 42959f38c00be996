/- Headers in their order, bit by bit. -/
import Derived.Test.YtakgghhmecphmaaLeastP
import Derived.Test.YtakgghhmecphmaaCmp
namespace Go.Proofs.Ytakgghhmecphmaa
set_option linter.unusedVariables false
set_option linter.unusedSimpArgs false

theorem lt_bit {n x y i : Nat} (hx : x < 2 ^ n) (hy : y < 2 ^ n) (h0 : x.testBit i = false) (h1 : y.testBit i = true) (h : ∀ j, i < j → j < n → x.testBit j = y.testBit j) : x < y := by
  have hall : ∀ j, i < j → x.testBit j = y.testBit j := fun j hj => by
    by_cases hn : j < n
    · exact h j hj hn
    · have hp : 2 ^ n ≤ 2 ^ j := Nat.pow_le_pow_right (by omega) (by omega)
      rw [Nat.testBit_lt_two_pow (by omega), Nat.testBit_lt_two_pow (by omega)]
  have hd : x / 2 ^ (i + 1) = y / 2 ^ (i + 1) := Nat.eq_of_testBit_eq fun j => by
    rw [Nat.testBit_div_two_pow, Nat.testBit_div_two_pow]
    exact hall _ (by omega)
  rw [Nat.testBit_eq_decide_div_mod_eq] at h0 h1
  have e0 : x / 2 ^ i % 2 = 0 := by have := Nat.mod_two_eq_zero_or_one (x / 2 ^ i); simp at h0; omega
  have e1 : y / 2 ^ i % 2 = 1 := by simpa using h1
  have dx : x / 2 ^ i / 2 = y / 2 ^ i / 2 := by rw [Nat.div_div_eq_div_mul, Nat.div_div_eq_div_mul, ← Nat.pow_succ]; exact hd
  have hlt : x / 2 ^ i < y / 2 ^ i := by omega
  exact Nat.lt_of_div_lt_div hlt

theorem cmpN_self (x : Nat) : cmpN x x = 0 := by unfold cmpN; rw [if_neg (by omega), if_neg (by omega)]
theorem cmpN_lt {x y : Nat} (h : x < y) : cmpN x y = -1 := by unfold cmpN; rw [if_pos h]

theorem bit_dst (h : Hd) {i : Nat} (hi : i < 32) : h.dst.testBit i = h.bit (31 - i) := by
  unfold Hd.bit; rw [if_pos (by omega), show 31 - (31 - i) = i by omega]
theorem bit_src (h : Hd) {i : Nat} (hi : i < 32) : h.src.testBit i = h.bit (63 - i) := by
  unfold Hd.bit; rw [if_neg (by omega), if_pos (by omega), show 63 - (63 - i) = i by omega]
theorem bit_proto (h : Hd) {i : Nat} (hi : i < 8) : h.proto.testBit i = h.bit (71 - i) := by
  unfold Hd.bit; rw [if_neg (by omega), if_neg (by omega), if_pos (by omega), show 71 - (71 - i) = i by omega]
theorem bit_sport (h : Hd) {i : Nat} (hi : i < 16) : h.sport.testBit i = h.bit (87 - i) := by
  unfold Hd.bit; rw [if_neg (by omega), if_neg (by omega), if_neg (by omega), if_pos (by omega), show 87 - (87 - i) = i by omega]
theorem bit_dport (h : Hd) {i : Nat} (hi : i < 16) : h.dport.testBit i = h.bit (103 - i) := by
  unfold Hd.bit; rw [if_neg (by omega), if_neg (by omega), if_neg (by omega), if_neg (by omega), if_pos (by omega), show 103 - (103 - i) = i by omega]

theorem cmp_less {h g : Hd} (hw : h.Wf) (gw : g.Wf) {j : Nat} (hj : j < 104) (hs : ∀ v, v < j → h.bit v = g.bit v) (h0 : h.bit j = false) (h1 : g.bit j = true) : cmpH h g = -1 := by
  have hc : j < 32 ∨ (32 ≤ j ∧ j < 64) ∨ (64 ≤ j ∧ j < 72) ∨ (72 ≤ j ∧ j < 88) ∨ (88 ≤ j ∧ j < 104) := by omega
  have ed : 32 ≤ j → h.dst = g.dst := fun hle => bits_eq hw.dst gw.dst fun i hi => by rw [bit_dst h hi, bit_dst g hi]; exact hs _ (by omega)
  have es : 64 ≤ j → h.src = g.src := fun hle => bits_eq hw.src gw.src fun i hi => by rw [bit_src h hi, bit_src g hi]; exact hs _ (by omega)
  have ep : 72 ≤ j → h.proto = g.proto := fun hle => bits_eq hw.proto gw.proto fun i hi => by rw [bit_proto h hi, bit_proto g hi]; exact hs _ (by omega)
  have eq : 88 ≤ j → h.sport = g.sport := fun hle => bits_eq hw.sport gw.sport fun i hi => by rw [bit_sport h hi, bit_sport g hi]; exact hs _ (by omega)
  unfold cmpH
  rcases hc with k1 | ⟨k0, k1⟩ | ⟨k0, k1⟩ | ⟨k0, k1⟩ | ⟨k0, k1⟩
  · have hl : h.dst < g.dst := lt_bit (i := 31 - j) hw.dst gw.dst (by rw [bit_dst h (by omega), show 31 - (31 - j) = j by omega]; exact h0) (by rw [bit_dst g (by omega), show 31 - (31 - j) = j by omega]; exact h1)
      (fun i hi hi2 => by rw [bit_dst h hi2, bit_dst g hi2]; exact hs _ (by omega))
    rw [cmpN_lt hl]
    rfl
  · have hl : h.src < g.src := lt_bit (i := 63 - j) hw.src gw.src (by rw [bit_src h (by omega), show 63 - (63 - j) = j by omega]; exact h0) (by rw [bit_src g (by omega), show 63 - (63 - j) = j by omega]; exact h1)
      (fun i hi hi2 => by rw [bit_src h hi2, bit_src g hi2]; exact hs _ (by omega))
    rw [ed (by omega), cmpN_self, cmpN_lt hl]
    rfl
  · have hl : h.proto < g.proto := lt_bit (i := 71 - j) hw.proto gw.proto (by rw [bit_proto h (by omega), show 71 - (71 - j) = j by omega]; exact h0) (by rw [bit_proto g (by omega), show 71 - (71 - j) = j by omega]; exact h1)
      (fun i hi hi2 => by rw [bit_proto h hi2, bit_proto g hi2]; exact hs _ (by omega))
    rw [ed (by omega), es (by omega), cmpN_self, cmpN_self, cmpN_lt hl]
    rfl
  · have hl : h.sport < g.sport := lt_bit (i := 87 - j) hw.sport gw.sport (by rw [bit_sport h (by omega), show 87 - (87 - j) = j by omega]; exact h0) (by rw [bit_sport g (by omega), show 87 - (87 - j) = j by omega]; exact h1)
      (fun i hi hi2 => by rw [bit_sport h hi2, bit_sport g hi2]; exact hs _ (by omega))
    rw [ed (by omega), es (by omega), ep (by omega), cmpN_self, cmpN_self, cmpN_self, cmpN_lt hl]
    rfl
  · have hl : h.dport < g.dport := lt_bit (i := 103 - j) hw.dport gw.dport (by rw [bit_dport h (by omega), show 103 - (103 - j) = j by omega]; exact h0) (by rw [bit_dport g (by omega), show 103 - (103 - j) = j by omega]; exact h1)
      (fun i hi hi2 => by rw [bit_dport h hi2, bit_dport g hi2]; exact hs _ (by omega))
    rw [ed (by omega), es (by omega), ep (by omega), eq (by omega), cmpN_self, cmpN_self, cmpN_self, cmpN_self, cmpN_lt hl]
    rfl
theorem cmp_same {h g : Hd} (hw : h.Wf) (gw : g.Wf) (hs : ∀ v, v < 104 → h.bit v = g.bit v) : cmpH h g = 0 := by
  rw [Hd.eq_of hw gw hs]
  unfold cmpH
  simp [cmpN_self, firstNZ]

theorem least_le {A : Arn} {f : Nat} {x h : Hd} (hx : Least A f false x) (hw : h.Wf) (hin : inA A h.bit f = true) : cmpH x h ≤ 0 := by
  obtain ⟨xw, _, hp⟩ := hx
  rcases hp h.bit hin with p | ⟨j, hj, p, p1, p2⟩
  · rw [cmp_same xw hw fun v hv => (p v hv).symm]; decide
  · rw [cmp_less xw hw hj (fun v hv => (p v hv).symm) p1 (by rw [p2]; rfl)]; decide
theorem most_ge {A : Arn} {f : Nat} {y h : Hd} (hy : Least A f true y) (hw : h.Wf) (hin : inA A h.bit f = true) : cmpH h y ≤ 0 := by
  obtain ⟨yw, _, hp⟩ := hy
  rcases hp h.bit hin with p | ⟨j, hj, p, p1, p2⟩
  · rw [cmp_same hw yw p]; decide
  · rw [cmp_less hw yw hj p (by rw [p2]; rfl) p1]; decide

end Go.Proofs.Ytakgghhmecphmaa
