/- The walks of enc's lits and of cidr's Blocks. -/
import Derived.Test.YtakgghhmecphmaaFiltP
import Derived.Test.YtakgghhmecphmaaEnc
import Derived.Test.YtakgghhmecphmaaMakeA
import Derived.Deep.CutRange
import Derived.Deep.QuietTactic
import Derived.BigQuiet
import Derived.IntWalk
namespace Go.Proofs.Ytakgghhmecphmaa
set_option linter.unusedVariables false
set_option linter.unusedSimpArgs false
open Go.RowKit

def LitsPost (w : World) (L : List (Nat × Bool)) (e : Ending) (w' : World) : Prop := ∃ vo, e = .returned vo ∧ w'.ownsRow w.heap.size 38 2 vo L.length (ltCells (litN L)) ∧ Below w.heap.size w w'
set_option maxRecDepth 100000 in
set_option maxHeartbeats 4000000 in
theorem lits_calls (w : World) (first n long m : Nat) (hf : first + m ≤ 104) (hl : m ≤ long) (hl2 : long ≤ 32) (hn : n < 2 ^ 32) :
    Calls Try.prog 69 #[.int .i64 (first : Int), .int .u32 (n : Int), .int .i64 (long : Int), .int .i64 (m : Int)] w (LitsPost w (litL first n long m)) := by
  obtain ⟨i0, hi, hz0, hz1, hz2⟩ := info_parts lit_info
  go_enter Try.func69, Try.ntmps69
  go_wp2_with (fail)
  go_loopg [9, 12] m (fun gk vo vi wr => ∃ i : Nat, i + gk = m ∧ vi = .int .i64 (i : Int) ∧ wr.ownsRow w.heap.size 38 2 vo (litL first n long i).length (ltCells (litN (litL first n long i))) ∧ Below w.heap.size w wr)
  case atStart => exact ⟨0, by omega, rfl, World.ownsRow_nil _ _ _ _, Below.refl _ _⟩
  case round =>
    obtain ⟨i, hgk, rfl, how, hK⟩ := hrel
    have HOW := Lib.hid how
    have HK := Lib.hid hK
    have HGK := Lib.hid hgk
    clear how hK
    by_cases hlt : i < m
    · have hii : (i : Int) < (m : Int) := by omega
      have hi1 : IntKind.i64.wrap ((i : Int) + 1) = (i : Int) + 1 := IntWalk.i64_in _ (by omega)
      have hfi : IntKind.i64.wrap ((first : Int) + (i : Int)) = ((first + i : Nat) : Int) := by rw [IntWalk.i64_in _ (by omega)]; omega
      have hl1 : IntKind.i64.wrap ((long : Int) - 1) = (long : Int) - 1 := IntWalk.i64_in _ (by omega)
      obtain ⟨s, hs⟩ : ∃ s : Nat, s = long - 1 - i := ⟨_, rfl⟩
      have hl3 : IntKind.i64.wrap ((long : Int) - 1 - (i : Int)) = (s : Int) := by rw [IntWalk.i64_in _ (by omega)]; omega
      have hLS := litL_succ first n long i
      rw [← hs] at hLS
      have HLS := Lib.hid hLS
      have hlen := litL_length first n long i
      have HLEN := Lib.hid hlen
      have hs32 : s < 32 := by omega
      clear hs hLS hlen hgk
      have hbv : (bits .and .u32 ((n : Int) / 2 ^ s) 1 == 1) = n.testBit s := bit_val rfl (by decide) n s
      have HBV := Lib.hid hbv
      clear hbv
      go_wp2_with (at_builtin; refine wpList_append_lies _ rfl (.tmp 15) (.tmp 28) 36 rfl w.heap.size 38 i0 _ 2 16 Try.underlying36 hi hz0 hz1 hz2 rfl (by decide) _ (litL first n long i).length (ltCells (litN (litL first n long i))) rfl ?_ ⟨wr.heap.size, 0, none⟩ 1 1 [.int .i64 ((first : Int) + (i : Int)), .bool (bits .and .u32 ((n : Int) / 2 ^ s) 1 == 1)] rfl rfl ?_ ?_ (by omega) ?_ ?_ ?_ _ rfl ?_; (· exact own_kept HOW.out ((Kept.refl [] _).alloc _) (by simp)); (· exact news_at (by simp)); (· simp [Value.oneCell']); (· rw [HLEN.out]; unfold maxLen; omega); (· rw [HLEN.out]; omega); (· simp; have := HK.out.size; omega); intro g9 cap9 w9 how9 hgr9 hat9 hlt9; have HOW9 := Lib.hid how9; have HGR9 := Lib.hid hgr9; clear how9 hgr9 hat9 hlt9)
      go_roundg (gk - 1)
      case measure => have := HGK.out; omega
      case rel =>
        refine ⟨i + 1, by have := HGK.out; omega, by go_num, ?_, (Kept.grown_row (S := []) ((Kept.of_below (S := []) HK.out).alloc _) HGR9.out (fun g hg => Or.inr (own_past HOW.out g hg))).below (Nat.le_refl _) (by simp)⟩
        have h9 := HOW9.out
        rw [HBV.out] at h9
        rw [HLS.out, litN_snoc, List.length_append]
        exact h9
    · obtain rfl : i = m := by omega
      have hret := HOW.out
      have HRET := Lib.hid hret
      clear hret
      go_wp2_with (fail)
      exact bodyPost_ret (v := u9) (by simp [results, Try.results69, go_sem]) rfl ⟨u9, rfl, HRET.out, HK.out⟩
end Go.Proofs.Ytakgghhmecphmaa
