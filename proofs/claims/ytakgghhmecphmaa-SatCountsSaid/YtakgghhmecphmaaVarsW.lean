/- The document's Vars: which bits sets ask. -/
import Derived.Test.YtakgghhmecphmaaCntQ
import Derived.Test.YtakgghhmecphmaaLight
import Derived.Test.YtakgghhmecphmaaLaw
import Derived.Test.YtakgghhmecphmaaMakeA
import Derived.Deep.CutRange
import Derived.IntWalk
namespace Go.Proofs.Ytakgghhmecphmaa
set_option linter.unusedVariables false
set_option linter.unusedSimpArgs false
open Go.RowKit

/-- Expressions that a slice shows, maybe none. -/
def ExsV (w : World) (ao : Option Addr) (l : List Ex) : Prop := ∀ (k : Nat) (x : Ex), l[k]? = some x → ∃ b off, ao = some ⟨b, off, none⟩ ∧ ExsAt w b off l
theorem ExsV.kept {w w' : World} {ao : Option Addr} {l : List Ex} (h : ExsV w ao l) (k : Kept [] w w') : ExsV w' ao l := fun i x hx => by
  obtain ⟨b, off, h1, h2⟩ := h i x hx
  exact ⟨b, off, h1, h2.kept k (by simp)⟩
theorem askB_at {l : List Ex} (hR : ∀ i x, l[i]? = some x → ¬ BadE x i) (i : Nat) : askB l i = true ↔ ∃ (k : Nat) (x : Ex), l[k]? = some x ∧ x.kind = 2 ∧ x.var = (i : Int) := by
  unfold askB
  rw [List.any_eq_true]
  constructor
  · rintro ⟨x, hx, h⟩
    obtain ⟨h1, h2⟩ := of_decide_eq_true h
    obtain ⟨k, hk⟩ := List.mem_iff_getElem?.1 hx
    have hb := hR k x hk
    unfold BadE at hb
    refine ⟨k, x, hk, h1, ?_⟩
    omega
  · rintro ⟨k, x, hk, h1, h2⟩
    exact ⟨x, List.mem_of_getElem? hk, decide_eq_true ⟨h1, by rw [h2]; exact Int.toNat_natCast i⟩⟩
theorem varsF_range (q : Nat → Bool) : varsF q 104 = (List.range 104).filter q := by
  unfold varsF
  rw [show 104 - 104 = 0 from rfl, List.range_eq_range']

def VarsPost (w : World) (q : Nat → Bool) (k : Nat) (e : Ending) (w' : World) : Prop := ∃ vo, e = .returned vo ∧ w'.ownsRow w.heap.size 3 1 vo ((List.range k).filter q).length (((List.range k).filter q).map nat64) ∧ Below w.heap.size w w'
set_option maxRecDepth 100000 in
set_option maxHeartbeats 4000000 in
theorem vars_calls (w : World) (ao : Option Addr) (cap : Nat) (l : List Ex) (hv : ExsV w ao l) (hR : ∀ i x, l[i]? = some x → ¬ BadE x i) (hl : l.length ≤ 60) :
    Calls Try.prog 74 #[.slice ao l.length cap] w (VarsPost w (askB l) 104) := by
  obtain ⟨i0, hi, hz0, hz1, hz2⟩ := info_parts int_info
  have HV := Lib.hid hv
  have HQ := Lib.hid (askB_at hR)
  clear hv hR
  go_enter Try.func74, Try.ntmps74
  go_wp2_with (fail)
  go_loopg [3, 4] 104 (fun gk vo vi wr => ∃ i : Nat, i + gk = 104 ∧ vi = .int .i64 (i : Int) ∧ wr.ownsRow w.heap.size 3 1 vo ((List.range i).filter (askB l)).length (((List.range i).filter (askB l)).map nat64) ∧ Below w.heap.size w wr)
  case atStart => exact ⟨0, by omega, rfl, World.ownsRow_nil _ _ _ _, Below.refl _ _⟩
  case round =>
    obtain ⟨i, hgk, rfl, how, hK⟩ := hrel
    have HOW := Lib.hid how
    have HK := Lib.hid hK
    have HGK := Lib.hid hgk
    clear how hK
    by_cases hlt : i < 104
    · have hii : (i : Int) < 104 := by omega
      have hi1 : IntKind.i64.wrap ((i : Int) + 1) = (i : Int) + 1 := IntWalk.i64_in _ (by omega)
      have HI := Lib.hid hlt
      have HFS : Hid ((List.range (i + 1)).filter (askB l) = (List.range i).filter (askB l) ++ if askB l i then [i] else []) := Lib.hid (by
        rw [List.range_succ, List.filter_append]
        cases h : askB l i <;> simp [h])
      have hfl : ((List.range i).filter (askB l)).length ≤ 104 := by
        have := List.length_filter_le (askB l) (List.range i)
        rw [List.length_range] at this
        omega
      generalize hF : (List.range i).filter (askB l) = F at *
      clear hF hgk
      generalize wr = wo at *
      generalize gk = go at *
      generalize u3 = vo at *
      go_wp2_with (fail)
      go_loopg [3, 5] l.length (fun gk v3 vk wr => ∃ k : Nat, k + gk = l.length ∧ vk = .int .i64 (k : Int) ∧ vo = v3 ∧ wo = wr ∧ ∀ (j : Nat) (x : Ex), j < k → l[j]? = some x → ¬ (x.kind = 2 ∧ x.var = (i : Int)))
      case atStart => exact ⟨0, by omega, rfl, rfl, rfl, fun j x hj => by omega⟩
      case round =>
        obtain ⟨k, hgj, rfl, rfl, rfl, hno⟩ := hrel
        have HNO := Lib.hid hno
        have HGJ := Lib.hid hgj
        clear hno
        by_cases hlj : k < l.length
        · have hx : l[k]? = some l[k] := List.getElem?_eq_getElem hlj
          obtain ⟨b, off, rfl, hat⟩ := HV.out k _ hx
          have hlk : (k : Int) < (l.length : Int) := by omega
          have hk1 : IntKind.i64.wrap ((k : Int) + 1) = (k : Int) + 1 := IntWalk.i64_in _ (by omega)
          generalize l[k] = x at *
          have HXX := Lib.hid hx
          obtain ⟨x0, x1, x2, x3, x4, x5⟩ := (hat.kept (Kept.of_below (S := []) HK.out) (by simp)).at_ hx
          clear hat hx x1 x2 x3 x5
          obtain ⟨xk, xa, xb, xc, xv, xo⟩ := x
          simp only at x0 x4
          by_cases h2 : xk = 2
          · subst h2
            by_cases hvi : xv = (i : Int)
            · subst hvi
              have hask : askB l i = true := (HQ.out i).2 ⟨k, _, HXX.out, rfl, rfl⟩
              have hfs := HFS.out
              rw [hask] at hfs
              simp only [if_true] at hfs
              have HF2 := Lib.hid hfs
              clear hask hfs
              go_wp2_with (at_builtin; refine wpList_append_lies _ rfl (.tmp 31) (.tmp 33) 53 rfl w.heap.size 3 i0 _ 1 8 Try.underlying53 hi hz0 hz1 hz2 rfl (by decide) _ F.length (F.map nat64) rfl ?_ ⟨wo.heap.size, 0, none⟩ 1 1 [.int .i64 (i : Int)] rfl rfl ?_ ?_ (by omega) ?_ ?_ ?_ _ rfl ?_; (· exact own_kept HOW.out ((Kept.refl [] _).alloc _) (by simp)); (· exact news_at (by simp)); (· simp [Value.oneCell']); (· unfold maxLen; omega); (· omega); (· simp; have := HK.out.size; omega); intro g9 cap9 w9 how9 hgr9 hat9 hlt9; have HOW9 := Lib.hid how9; have HGR9 := Lib.hid hgr9; clear how9 hgr9 hat9 hlt9)
              go_roundg (go - 1)
              case measure => have := HGK.out; omega
              case rel =>
                refine ⟨i + 1, by have := HGK.out; omega, by go_num, ?_, ?_⟩
                · have := HOW9.out
                  rw [HF2.out, List.map_append, List.length_append]
                  exact this
                · exact (Kept.grown_row (S := []) ((Kept.of_below (S := []) HK.out).alloc _) HGR9.out (fun g hg => Or.inr (own_past3 HOW.out g hg))).below (Nat.le_refl _) (by simp)
            · have hvi2 : (xv == (i : Int)) = false := beq_eq_false_iff_ne.2 hvi
              go_wp2_with (fail)
              go_roundg (gk - 1)
              case measure => have := HGJ.out; omega
              case rel =>
                refine ⟨k + 1, by have := HGJ.out; omega, by go_num, rfl, rfl, fun j x hj hx => ?_⟩
                by_cases e : j = k
                · subst e
                  rw [HXX.out] at hx
                  cases hx
                  exact fun h => hvi h.2
                · exact HNO.out j x (by omega) hx
          · have h22 : (xk == (2 : Int)) = false := beq_eq_false_iff_ne.2 h2
            go_wp2_with (fail)
            go_roundg (gk - 1)
            case measure => have := HGJ.out; omega
            case rel =>
              refine ⟨k + 1, by have := HGJ.out; omega, by go_num, rfl, rfl, fun j x hj hx => ?_⟩
              by_cases e : j = k
              · subst e
                rw [HXX.out] at hx
                cases hx
                exact fun h => h2 h.1
              · exact HNO.out j x (by omega) hx
        · have hask : askB l i = false := by
            cases e : askB l i with
            | false => rfl
            | true =>
              obtain ⟨j, x, hx, h1, h2⟩ := (HQ.out i).1 e
              exact absurd ⟨h1, h2⟩ (HNO.out j x (by have := (List.getElem?_eq_some_iff.1 hx).1; omega) hx)
          have hfs := HFS.out
          rw [hask] at hfs
          simp only [Bool.false_eq_true, if_false, List.append_nil] at hfs
          have HF2 := Lib.hid hfs
          obtain rfl : k = l.length := by omega
          clear hask hfs
          go_wp2_with (fail)
          go_roundg (go - 1)
          case measure => have := HGK.out; omega
          case rel => exact ⟨i + 1, by have := HGK.out; omega, by go_num, by rw [HF2.out]; exact HOW.out, HK.out⟩
    · obtain rfl : i = 104 := by omega
      have hret := HOW.out
      have HRET := Lib.hid hret
      clear hret
      go_wp2_with (fail)
      exact bodyPost_ret (v := u3) (by simp [results, Try.results74, go_sem]) rfl ⟨u3, rfl, HRET.out, HK.out⟩
end Go.Proofs.Ytakgghhmecphmaa
