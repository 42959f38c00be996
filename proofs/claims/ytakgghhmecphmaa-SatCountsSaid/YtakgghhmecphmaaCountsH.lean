/- Helps for the walk of the document's Counts: rows that are made; In at no sets. -/
import Derived.Test.YtakgghhmecphmaaRowK
import Derived.Test.YtakgghhmecphmaaRefIn
import Derived.Test.YtakgghhmecphmaaUpW
import Derived.BigQuiet
import Derived.Deep.QuietTactic
namespace Go.Proofs.Ytakgghhmecphmaa
set_option linter.unusedVariables false
set_option linter.unusedSimpArgs false
open Go.RowKit Go.Maps

set_option maxRecDepth 100000 in
set_option maxHeartbeats 2000000 in
theorem refIn_nil (w : World) (ao : Option Addr) (cap : Nat) (hd : Hd) (hW : hd.Wf) : Calls Try.prog 40 #[.slice ao 0 cap, hd.val] w (InPost w [] hd.bit) := by
  have k0 := (Below.refl w.heap.size w).alloc (Nat.le_refl _) (.cells #[.int .u32 (hd.dst : Int), .int .u32 (hd.src : Int), .int .u8 (hd.proto : Int), .int .u16 (hd.sport : Int), .int .u16 (hd.dport : Int)] 25)
  have HBT := Lib.hid (bits_calls (w.alloc (.cells #[.int .u32 (hd.dst : Int), .int .u32 (hd.src : Int), .int .u8 (hd.proto : Int), .int .u16 (hd.sport : Int), .int .u16 (hd.dport : Int)] 25)) hd hW)
  have HK0 := Lib.hid k0
  clear k0 hW
  unfold Hd.val at *
  go_enter Try.func40, Try.ntmps40
  go_wp2_with (fail)
  refine HBT.out.mono ?_
  rintro e w1 ⟨vb, he, hob, kb⟩
  subst he
  have HK1 := Lib.hid (HK0.out.trans (kb.mono HK0.out.size))
  clear hob kb HBT
  go_wp2_with (fail)
  go_loopg [6, 7] 0 (fun gk vo vi wr => vi = .int .i64 0 ∧ vo = .slice none 0 0 ∧ wr = w1)
  case atStart => exact ⟨rfl, rfl, rfl⟩
  case round =>
    obtain ⟨rfl, rfl, rfl⟩ := hrel
    go_wp2_with (fail)
    exact bodyPost_ret (v := .slice none 0 0) (by simp [results, Try.results40, go_sem]) rfl ⟨_, rfl, World.ownsRow_nil _ _ _ _, HK1.out⟩
theorem refInV_calls (w : World) (ao : Option Addr) (cap : Nat) (l : List Ex) (hd : Hd) (hv : ExsV w ao l) (hcap : 0 < l.length → l.length ≤ cap ∧ cap ≤ maxLen) (hR : ∀ i x, l[i]? = some x → ¬ BadE x i) (hl : l.length ≤ 60) (hW : hd.Wf) :
    Calls Try.prog 40 #[.slice ao l.length cap, hd.val] w (InPost w l hd.bit) := by
  rcases Nat.eq_zero_or_pos l.length with h0 | h0
  · obtain rfl := List.length_eq_zero_iff.1 h0
    exact refIn_nil w ao cap hd hW
  · obtain ⟨b, off, rfl, hat⟩ := hv 0 _ (List.getElem?_eq_getElem h0)
    exact refIn_calls 60 w b off cap l.length l hd rfl hl (Nat.le_refl _) (hcap h0).1 (hcap h0).2 h0 hat hR hW

theorem make_ints (n : Nat) (hn : n ≤ 1000) (W : World) : (Instr.makeSlice 53 (.int .i64 (n : Int)) (.int .i64 (n : Int))).run Try.prog W = .ok (.slice (some ⟨W.heap.size, 0, none⟩) n n) (W.alloc (.cells (madeCells (intC 0).toArray (n * 1)) 3)) := by
  obtain ⟨i0, hi, hz0, hz1, hz2⟩ := info_parts int_info
  have := run_make (P := Try.prog) W 53 3 i0 _ Try.underlying53 hi hz0 .i64 .i64 n n (by omega) (Int.le_refl _) (by rw [hz2]; omega) (by omega)
  rw [this, hz1]
  rfl
theorem make_bools (n : Nat) (hn : n ≤ 1000) (W : World) : (Instr.makeSlice 35 (.int .i64 (n : Int)) (.int .i64 (n : Int))).run Try.prog W = .ok (.slice (some ⟨W.heap.size, 0, none⟩) n n) (W.alloc (.cells (madeCells (boolC false).toArray (n * 1)) 4)) := by
  obtain ⟨i0, hi, hz0, hz1, hz2⟩ := info_parts bool_info
  have := run_make (P := Try.prog) W 35 4 i0 _ Try.underlying35 hi hz0 .i64 .i64 n n (by omega) (Int.le_refl _) (by rw [hz2]; omega) (by omega)
  rw [this, hz1]
  rfl
theorem hd_info8 : (Try.prog.info? 25).map (fun i => (i.zero, i.size, i.bytes)) = some (some (.agg #[.int .u32 0, .int .u32 0, .int .u8 0, .int .u16 0, .int .u16 0]), 5, 16) := by kernel_rfl
theorem make_hds (n : Nat) (hn : n ≤ 1000) (W : World) : (Instr.makeSlice 67 (.int .i64 (n : Int)) (.int .i64 (n : Int))).run Try.prog W = .ok (.slice (some ⟨W.heap.size, 0, none⟩) n n) (W.alloc (.cells (madeCells (hdC hdZ).toArray (n * 5)) 25)) := by
  obtain ⟨i0, hi, hz0, hz1, hz2⟩ := info_parts hd_info8
  have := run_make (P := Try.prog) W 67 25 i0 _ Try.underlying67 hi hz0 .i64 .i64 n n (by omega) (Int.le_refl _) (by rw [hz2]; omega) (by omega)
  rw [this, hz1]
  rfl
theorem ct_info8 : (Try.prog.info? 85).map (fun i => (i.zero, i.size, i.bytes)) = some (some (.agg #[.int .u64 0, .int .u64 0]), 2, 16) := by kernel_rfl
theorem make_cts (n : Nat) (hn : n ≤ 1000) (W : World) : (Instr.makeSlice 82 (.int .i64 (n : Int)) (.int .i64 (n : Int))).run Try.prog W = .ok (.slice (some ⟨W.heap.size, 0, none⟩) n n) (W.alloc (.cells (madeCells (ctC 0).toArray (n * 2)) 85)) := by
  obtain ⟨i0, hi, hz0, hz1, hz2⟩ := info_parts ct_info8
  have := run_make (P := Try.prog) W 82 85 i0 _ Try.underlying82 hi hz0 .i64 .i64 n n (by omega) (Int.le_refl _) (by rw [hz2]; omega) (by omega)
  rw [this, hz1]
  rfl
end Go.Proofs.Ytakgghhmecphmaa
