/- The best rule, and the one behind it: plain. -/
import Derived.Test.YtiedhjmnjpkcoaaPlaysA
namespace Go.Proofs.Ytiedhjmnjpkcoaa
set_option linter.unusedVariables false
set_option linter.unusedSimpArgs false
open Go.RowKit

variable {L l : List Rl} {a : Nat} {r s : Rl} {rest : List Rl}

theorem right32 {a : Nat} (ha : a < 2 ^ 32) : rtB ⟨a, 32⟩ = true := by
  rw [rtB_iff]
  refine ⟨by simp, by simp, ?_⟩
  simp [Nat.mod_one]

theorem meet32 {r : Rl} (h : r.Ok) (a : Nat) : meetR a 32 r = hasR a r := by
  obtain ⟨h0, h1, h2⟩ := h.bits
  unfold meetR
  rw [Bool.eq_iff_iff]
  simp only [Bool.or_eq_true, Bool.and_eq_true, decide_eq_true_eq]
  constructor
  · rintro (⟨_, h⟩ | ⟨h3, h4⟩)
    · exact h
    · have e : r.bits.toNat = 32 := by omega
      unfold hasR hasN at *
      rw [e]
      simpa using (beq_iff_eq.1 h4).symm
  · exact fun h => Or.inl ⟨h1, h⟩

theorem meetL32 (hok : ∀ r ∈ l, r.Ok) (ha : a < 2 ^ 32) : meetL l ⟨a, 32⟩ = l.filter (hasR a) := by
  unfold meetL
  rw [if_pos (right32 ha)]
  exact List.filter_congr fun r hr => meet32 (hok r hr) a

theorem best_none (h : l.filter (hasR a) = []) : l.find? (hasR a) = none := by rw [← head_filter, h]; rfl
theorem best_some (h : l.filter (hasR a) = r :: rest) : l.find? (hasR a) = some r := by rw [← head_filter, h]; rfl
theorem best_mem (h : l.filter (hasR a) = r :: rest) : r ∈ l := by
  have : r ∈ l.filter (hasR a) := by rw [h]; simp
  exact (List.mem_filter.1 this).1

theorem second (hp : Pair L l) (h : l.filter (hasR a) = r :: rest) : (dropT l r.id).1.find? (hasR a) = rest.head? := by
  have hm := best_mem h
  unfold dropT
  rw [if_pos (findR_isSome.2 ⟨r, hm, rfl⟩), ← head_filter]
  simp only [List.filter_filter]
  have e : l.filter (fun x => hasR a x && decide (x.id ≠ r.id)) = (l.filter (hasR a)).filter (fun x => decide (x.id ≠ r.id)) := by
    rw [List.filter_filter]
    exact List.filter_congr fun x _ => Bool.and_comm _ _
  rw [e, h, List.filter_cons_of_neg (by simp)]
  have hn : ((r :: rest).map (·.id)).Nodup := by
    rw [← h]
    exact hp.ids.sublist (List.filter_sublist.map _)
  rw [List.map_cons, List.nodup_cons] at hn
  rw [List.filter_eq_self.2 fun x hx => ?_]
  have : x.id ≠ r.id := fun e => hn.1 (e ▸ List.mem_map_of_mem hx)
  simp [this]

theorem second_ahead (hp : Pair L l) (h : l.filter (hasR a) = r :: s :: rest) : cmpR r s < 0 := by
  have h1 : Sorted (l.filter (hasR a)) := hp.sorted.sublist List.filter_sublist
  rw [h] at h1
  have h2 := (List.pairwise_cons.1 h1).1 s (by simp)
  have := cmpR_ahead r s
  rw [h2] at this
  exact of_decide_eq_true this

theorem drop_there (hp : Pair L l) (hm : r ∈ l) : (dropT L r.id).2 = 0 ∧ L.Perm (r :: (dropT L r.id).1) := by
  have hL : r ∈ L := hp.perm.mem_iff.1 hm
  unfold dropT
  rw [if_pos (findR_isSome.2 ⟨r, hL, rfl⟩)]
  exact ⟨rfl, drop_perm ((hp.perm.map _).nodup_iff.1 hp.ids) hL⟩

theorem add_back (hp : Pair L l) (hm : r ∈ l) (hok : r.Ok) : addT (dropT L r.id).1 r = (r :: (dropT L r.id).1, 0) := by
  have hL : r ∈ L := hp.perm.mem_iff.1 hm
  have hd : (dropT L r.id).1 = L.filter fun x => decide (x.id ≠ r.id) := by
    unfold dropT
    rw [if_pos (findR_isSome.2 ⟨r, hL, rfl⟩)]
  unfold addT
  rw [if_pos hok.2.1, if_neg]
  rw [findR_isSome, hd]
  rintro ⟨x, hx, e⟩
  have := (List.mem_filter.1 hx).2
  simp [e] at this

theorem back_pair (hp : Pair L l) (hm : r ∈ l) : Pair (r :: (dropT L r.id).1) l := ⟨hp.perm.trans (drop_there hp hm).2, hp.sorted, hp.ids⟩
end Go.Proofs.Ytiedhjmnjpkcoaa
