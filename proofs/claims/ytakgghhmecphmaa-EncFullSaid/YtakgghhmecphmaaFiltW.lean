/- The walk of enc's Filter. -/
import Derived.Test.YtakgghhmecphmaaAllW
import Derived.Test.YtakgghhmecphmaaFilA
namespace Go.Proofs.Ytakgghhmecphmaa
set_option linter.unusedVariables false
set_option linter.unusedSimpArgs false
open Go.RowKit

def Fl.fv (f : Fl) : Fv := ⟨f.da, f.dn.toNat, f.sa, f.sn.toNat, f.proto, f.s1, f.s2, f.d1, f.d2⟩
theorem Fl.ok {f : Fl} (hf : f.Wf) (hs : f.s2 < 65536 ∧ f.d2 < 65536) (hc : checkF f = 0) : f.fv.Ok ∧ f.dn = (f.fv.dn : Int) ∧ f.sn = (f.fv.sn : Int) := by
  obtain ⟨n, m, hn, hm, hn32, hm32⟩ := okF hc
  unfold checkF at hc
  split at hc
  · cases hc
  · rename_i h1
    split at hc
    · cases hc
    · rename_i h2
      split at hc
      · cases hc
      · rename_i h3
        have h1 : (rtB ⟨f.da, f.dn⟩ && rtB ⟨f.sa, f.sn⟩) = true := by simpa using h1
        rw [Bool.and_eq_true] at h1
        have e1 : ((f.dn.toNat : Nat) : Int) = f.dn := by omega
        have e2 : ((f.sn.toNat : Nat) : Int) = f.sn := by omega
        refine ⟨⟨hf.da, ?_, ?_, hf.sa, ?_, ?_, ?_, ?_, hs.1, ?_, hs.2⟩, e1.symm, e2.symm⟩
        · show f.dn.toNat ≤ 32
          omega
        · show rtB ⟨f.da, ((f.dn.toNat : Nat) : Int)⟩ = true
          rw [e1]
          exact h1.1
        · show f.sn.toNat ≤ 32
          omega
        · show rtB ⟨f.sa, ((f.sn.toNat : Nat) : Int)⟩ = true
          rw [e2]
          exact h1.2
        · show -1 ≤ f.proto ∧ f.proto ≤ 255
          omega
        · show f.s1 ≤ f.s2
          omega
        · show f.d1 ≤ f.d2
          omega
theorem MakPost.from {w w1 : World} {p g mb : Nat} {F : Fn} {A : Arn} {e : Ending} {w' : World} (k : Below w.heap.size w w1) (h : MakPost w1 p g mb F A e w') : MakPost w p g mb F A e w' := by
  obtain ⟨r, A', h1, h2⟩ := h
  exact ⟨r, A', h1.from k, h2⟩
theorem two_newF (w : World) (a b : Obj) : ((w.alloc a).alloc b).heap[w.heap.size]? = some a ∧ ((w.alloc a).alloc b).heap[w.heap.size + 1]? = some b ∧ Below w.heap.size w ((w.alloc a).alloc b) := by
  have e1 : (w.alloc a).heap.size = w.heap.size + 1 := by simp
  have h2 := heap_alloc_new (w.alloc a) b
  rw [e1] at h2
  exact ⟨blk_alloc (heap_alloc_new w a) b, h2, ((Below.refl w.heap.size w).alloc (Nat.le_refl _) _).alloc (by omega) _⟩
variable {w : World} {p g mb : Nat} {A : Arn}
set_option maxRecDepth 100000 in
set_option maxHeartbeats 4000000 in
theorem encFilter_calls (h : ArenaAt w p g mb A) (hOK : A.OK) (fl : Fl) (hf : fl.Wf) (hs : fl.s2 < 65536 ∧ fl.d2 < 65536) (hc : checkF fl = 0) :
    Calls Try.prog 43 #[.pointer (some ⟨p, 0, none⟩), fl.val] w (MakPost w p g mb (fun b => (List.range 5).all fun j => FM fl.fv j b) A) := by
  obtain ⟨hok, hdn, hsn⟩ := Fl.ok hf hs hc
  have HFC := Lib.hid (fun W => fcheck_calls W hf)
  rw [hc] at HFC
  have HA := Lib.hid h
  have HO := Lib.hid hOK
  have HOK := Lib.hid hok
  have HLT := Lib.hid h.lt
  have H2 := Lib.hid (two_newF w (.cells #[.pointer (some ⟨p, 0, none⟩)] 26) fl.obj)
  have HFB : Hid (∀ X, X.heap[w.heap.size + 1]? = some fl.obj → FBox X (w.heap.size + 1) fl.fv) := Lib.hid (fun X hX => by
    unfold FBox
    rw [← hdn, ← hsn]
    exact hX)
  clear h hOK hok hdn hsn hc
  unfold Fl.val Fl.obj at *
  go_enter Try.func43, Try.ntmps43
  go_upto_region 1 with (fail)
  generalize (w.alloc (.cells #[.pointer (some ⟨p, 0, none⟩)] 26)).alloc (.cells #[.int .u32 (fl.da : Int), .int .i64 fl.dn, .int .u32 (fl.sa : Int), .int .i64 fl.sn, .int .i64 fl.proto, .int .u16 (fl.s1 : Int), .int .u16 (fl.s2 : Int), .int .u16 (fl.d1 : Int), .int .u16 (fl.d2 : Int)] 77) = w1 at *
  have z0 := cell_of H2.out.1 0
  simp only [List.getElem?_toArray, List.getElem?_cons_zero, List.getElem?_cons_succ] at z0
  have c0 := cell_of H2.out.2.1 0
  have c1 := cell_of H2.out.2.1 1
  have c2 := cell_of H2.out.2.1 2
  have c3 := cell_of H2.out.2.1 3
  have c4 := cell_of H2.out.2.1 4
  have c5 := cell_of H2.out.2.1 5
  have c6 := cell_of H2.out.2.1 6
  have c7 := cell_of H2.out.2.1 7
  have c8 := cell_of H2.out.2.1 8
  simp only [List.getElem?_toArray, List.getElem?_cons_zero, List.getElem?_cons_succ] at c0 c1 c2 c3 c4 c5 c6 c7 c8
  go_wp2_with (fail)
  refine Calls.mono (HFC.out _) ?_
  rintro e w2 ⟨he, k2⟩
  subst he
  have hx2 := (k2.block _ (lt_of_block H2.out.1)).trans H2.out.1
  have hy2 := (k2.block _ (lt_of_block H2.out.2.1)).trans H2.out.2.1
  have HK2 := Lib.hid (H2.out.2.2.trans (k2.mono H2.out.2.2.size))
  have hka := (Below.refl w2.heap.size w2).alloc (Nat.le_refl _) (.cells #[.func (.func 66) #[] #[.pointer (some ⟨w.heap.size, 0, none⟩), .pointer (some ⟨w.heap.size + 1, 0, none⟩)], .func (.func 67) #[] #[.pointer (some ⟨w.heap.size, 0, none⟩), .pointer (some ⟨w.heap.size + 1, 0, none⟩)], .func (.func 68) #[] #[.pointer (some ⟨w.heap.size + 1, 0, none⟩), .pointer (some ⟨w.heap.size, 0, none⟩)], .func (.func 70) #[] #[.pointer (some ⟨w.heap.size, 0, none⟩), .pointer (some ⟨w.heap.size + 1, 0, none⟩)], .func (.func 72) #[] #[.pointer (some ⟨w.heap.size, 0, none⟩), .pointer (some ⟨w.heap.size + 1, 0, none⟩)]] 114)
  have HAL := Lib.hid (all_calls (ab := w.heap.size) (fb := w.heap.size + 1) (mk := w2.heap.size) ((HA.out.kept (Kept.of_below (S := []) HK2.out) (by simp) (by simp) (by simp)).below hka) HO.out ((hka.block _ (lt_of_block hx2)).trans hx2) (HFB.out _ ((hka.block _ (lt_of_block hy2)).trans hy2)) (heap_alloc_new w2 (.cells #[.func (.func 66) #[] #[.pointer (some ⟨w.heap.size, 0, none⟩), .pointer (some ⟨w.heap.size + 1, 0, none⟩)], .func (.func 67) #[] #[.pointer (some ⟨w.heap.size, 0, none⟩), .pointer (some ⟨w.heap.size + 1, 0, none⟩)], .func (.func 68) #[] #[.pointer (some ⟨w.heap.size + 1, 0, none⟩), .pointer (some ⟨w.heap.size, 0, none⟩)], .func (.func 70) #[] #[.pointer (some ⟨w.heap.size, 0, none⟩), .pointer (some ⟨w.heap.size + 1, 0, none⟩)], .func (.func 72) #[] #[.pointer (some ⟨w.heap.size, 0, none⟩), .pointer (some ⟨w.heap.size + 1, 0, none⟩)]] 114)) HOK.out (by have := HLT.out; simp; omega) (by have := HLT.out; have := HK2.out.size; simp; omega))
  have HK3 := Lib.hid (HK2.out.trans (hka.mono HK2.out.size))
  clear z0 c0 c1 c2 c3 c4 c5 c6 c7 c8
  have z0 := cell_of hx2 0
  simp only [List.getElem?_toArray, List.getElem?_cons_zero, List.getElem?_cons_succ] at z0
  clear hx2 hy2 hka k2 HFC
  go_wp2_with (fail)
  refine Calls.mono HAL.out ?_
  rintro e w4 hm
  have HM := Lib.hid (hm.from HK3.out)
  obtain ⟨r, A', ⟨he, _⟩, _⟩ := hm
  have he : e = .returned (.tuple #[.int .i64 ((r.getD 0 : Nat) : Int), .int .i64 (if r.isSome then 0 else 20)]) := he
  subst he
  generalize hx : ((r.getD 0 : Nat) : Int) = x at *
  generalize hy : (if r.isSome then (0 : Int) else 20) = y at *
  clear hx hy
  go_wp2_with (fail)
  exact bodyPost_ret (v := .tuple #[.int .i64 x, .int .i64 y]) (by simp [results, Try.results43, go_sem]) rfl HM.out
end Go.Proofs.Ytakgghhmecphmaa
