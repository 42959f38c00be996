/- Topologies in memory, and their ports. · Topologies: too many ports, and the ends of links. -/
import Derived.Test.YtjoblahedgpgbaaGreatFil2
namespace Go.Proofs.YtjoblahedgpgbaaGreat
set_option linter.unusedVariables false
set_option linter.unusedSimpArgs false
open Go.RowKit

/-- A row that a caller handed in (below B). -/
def RowIn (B : Nat) (w : World) (v : Value) (n : Nat) (xs : List Value) : Prop := ∃ ao cap, v = .slice ao n cap ∧ ∀ j u, xs[j]? = some u → ∃ b off, ao = some ⟨b, off, none⟩ ∧ b < B ∧ w.cell? ⟨b, off + j, none⟩ = some u
theorem RowIn.kept {B : Nat} {w w' : World} {v : Value} {n : Nat} {xs : List Value} (h : RowIn B w v n xs) (k : Below B w w') : RowIn B w' v n xs := by
  obtain ⟨ao, cap, hv, hc⟩ := h
  refine ⟨ao, cap, hv, fun j u hu => ?_⟩
  obtain ⟨b, off, h1, h2, h3⟩ := hc j u hu
  exact ⟨b, off, h1, h2, (World.cell?_of_block (k.block b h2)).trans h3⟩

structure Lk where
  dev : Int
  port : Int
  peer : Int
  far : Int
def Lk.cells (l : Lk) : List Value := [.int .i64 l.dev, .int .i64 l.port, .int .i64 l.peer, .int .i64 l.far]
structure Ac where
  dev : Int
  port : Int
  inn : Bool
  permit : Bool
  f : Fl
def Ac.cells (a : Ac) : List Value := .int .i64 a.dev :: .int .i64 a.port :: .bool a.inn :: .bool a.permit :: a.f.cells
structure Tp where
  ports : List Int
  links : List Lk
  aces : List Ac
def i64v (x : Int) : Value := .int .i64 x
def lkCells (l : List Lk) : List Value := l.flatMap Lk.cells
def acCells (l : List Ac) : List Value := l.flatMap Ac.cells
structure TpIn (B : Nat) (w : World) (vp vl va : Value) (T : Tp) : Prop where
  ports : RowIn B w vp T.ports.length (T.ports.map i64v)
  links : RowIn B w vl T.links.length (lkCells T.links)
  aces : RowIn B w va T.aces.length (acCells T.aces)
  wf : ∀ a ∈ T.aces, a.f.Wf
theorem TpIn.kept {B : Nat} {w w' : World} {vp vl va : Value} {T : Tp} (h : TpIn B w vp vl va T) (k : Below B w w') : TpIn B w' vp vl va T := ⟨h.ports.kept k, h.links.kept k, h.aces.kept k, h.wf⟩
theorem TpIn.next {B : Nat} {w w' : World} {vp vl va : Value} {T : Tp} (h : TpIn B w vp vl va T) (hB : B ≤ w.heap.size) (k : Below w.heap.size w w') : TpIn B w' vp vl va T := h.kept (k.mono hB)

/-- What is wrong with a port. -/
def portT (ports : List Int) (dev port : Int) : Int := if dev < 0 ∨ (ports.length : Int) ≤ dev then 10 else if port < 0 ∨ ports[dev.toNat]! ≤ port then 11 else 0

variable {B : Nat} {w : World} {vp vl va : Value} {T : Tp}
set_option maxRecDepth 100000 in
set_option maxHeartbeats 2000000 in
theorem tport_calls (h : TpIn B w vp vl va T) (hB : B ≤ w.heap.size) (dev port : Int) : Calls Tryz.prog 159 #[.agg #[vp, vl, va], .int .i64 dev, .int .i64 port] w fun e w' => e = .returned (.int .i64 (portT T.ports dev port)) ∧ Below w.heap.size w w' := by
  obtain ⟨ao, cap, rfl, hcp⟩ := h.ports
  obtain ⟨al, cl, rfl, _⟩ := h.links
  obtain ⟨aa, ca, rfl, _⟩ := h.aces
  have HX := Lib.hid (heap_alloc_new w (.cells #[.slice ao T.ports.length cap, .slice al T.links.length cl, .slice aa T.aces.length ca] 26))
  have HK := Lib.hid ((Below.refl w.heap.size w).alloc (Nat.le_refl _) (.cells #[.slice ao T.ports.length cap, .slice al T.links.length cl, .slice aa T.aces.length ca] 26))
  have HC := Lib.hid hcp
  obtain ⟨r, hr⟩ : ∃ r, r = portT T.ports dev port := ⟨_, rfl⟩
  rw [← hr]
  unfold portT at hr
  clear h hcp
  go_enter Tryz.func159, Tryz.ntmps159
  go_upto_region 1 with (fail)
  generalize w.alloc (.cells #[.slice ao T.ports.length cap, .slice al T.links.length cl, .slice aa T.aces.length ca] 26) = w1 at *
  have c0 := cell_of HX.out 0
  simp only [List.getElem?_toArray, List.getElem?_cons_zero] at c0
  by_cases h1 : dev < 0
  · rw [if_pos (Or.inl h1)] at hr
    subst hr
    go_wp2_with (fail)
    go_ret
    exact ⟨rfl, HK.out⟩
  · by_cases h2 : (T.ports.length : Int) ≤ dev
    · rw [if_pos (Or.inr h2)] at hr
      subst hr
      go_wp2_with (fail)
      go_ret
      exact ⟨rfl, HK.out⟩
    · rw [if_neg (by omega)] at hr
      by_cases h3 : port < 0
      · rw [if_pos (Or.inl h3)] at hr
        subst hr
        go_wp2_with (fail)
        go_ret
        exact ⟨rfl, HK.out⟩
      · obtain ⟨k, rfl⟩ : ∃ k : Nat, dev = k := ⟨dev.toNat, by omega⟩
        have hk : k < T.ports.length := by omega
        obtain ⟨b, off, rfl, hb, hcell⟩ := HC.out k (i64v T.ports[k]) (by rw [List.getElem?_map, List.getElem?_eq_getElem hk]; rfl)
        have hg : T.ports[((k : Nat) : Int).toNat]! = T.ports[k] := by rw [Int.toNat_natCast, getElem!_pos T.ports k hk]
        simp only [hg] at hr
        clear hg
        have e0 := (World.cell?_of_block (HK.out.block b (by omega))).trans hcell
        unfold i64v at e0
        clear hcell
        generalize T.ports[k] = y at *
        by_cases h4 : y ≤ port
        · rw [if_pos (Or.inr h4)] at hr
          subst hr
          go_wp2_with (fail)
          go_ret
          exact ⟨rfl, HK.out⟩
        · rw [if_neg (by omega)] at hr
          subst hr
          go_wp2_with (fail)
          go_ret
          exact ⟨rfl, HK.out⟩
set_option maxRecDepth 100000 in
set_option maxHeartbeats 2000000 in
theorem rport_calls (h : TpIn B w vp vl va T) (hB : B ≤ w.heap.size) (dev port : Int) : Calls Tryz.prog 143 #[.agg #[vp, vl, va], .int .i64 dev, .int .i64 port] w fun e w' => e = .returned (.int .i64 (portT T.ports dev port)) ∧ Below w.heap.size w w' := by
  obtain ⟨ao, cap, rfl, hcp⟩ := h.ports
  obtain ⟨al, cl, rfl, _⟩ := h.links
  obtain ⟨aa, ca, rfl, _⟩ := h.aces
  have HX := Lib.hid (heap_alloc_new w (.cells #[.slice ao T.ports.length cap, .slice al T.links.length cl, .slice aa T.aces.length ca] 26))
  have HK := Lib.hid ((Below.refl w.heap.size w).alloc (Nat.le_refl _) (.cells #[.slice ao T.ports.length cap, .slice al T.links.length cl, .slice aa T.aces.length ca] 26))
  have HC := Lib.hid hcp
  obtain ⟨r, hr⟩ : ∃ r, r = portT T.ports dev port := ⟨_, rfl⟩
  rw [← hr]
  unfold portT at hr
  clear h hcp
  go_enter Tryz.func143, Tryz.ntmps143
  go_upto_region 1 with (fail)
  generalize w.alloc (.cells #[.slice ao T.ports.length cap, .slice al T.links.length cl, .slice aa T.aces.length ca] 26) = w1 at *
  have c0 := cell_of HX.out 0
  simp only [List.getElem?_toArray, List.getElem?_cons_zero] at c0
  by_cases h1 : dev < 0
  · rw [if_pos (Or.inl h1)] at hr
    subst hr
    go_wp2_with (fail)
    go_ret
    exact ⟨rfl, HK.out⟩
  · by_cases h2 : (T.ports.length : Int) ≤ dev
    · rw [if_pos (Or.inr h2)] at hr
      subst hr
      go_wp2_with (fail)
      go_ret
      exact ⟨rfl, HK.out⟩
    · rw [if_neg (by omega)] at hr
      by_cases h3 : port < 0
      · rw [if_pos (Or.inl h3)] at hr
        subst hr
        go_wp2_with (fail)
        go_ret
        exact ⟨rfl, HK.out⟩
      · obtain ⟨k, rfl⟩ : ∃ k : Nat, dev = k := ⟨dev.toNat, by omega⟩
        have hk : k < T.ports.length := by omega
        obtain ⟨b, off, rfl, hb, hcell⟩ := HC.out k (i64v T.ports[k]) (by rw [List.getElem?_map, List.getElem?_eq_getElem hk]; rfl)
        have hg : T.ports[((k : Nat) : Int).toNat]! = T.ports[k] := by rw [Int.toNat_natCast, getElem!_pos T.ports k hk]
        simp only [hg] at hr
        clear hg
        have e0 := (World.cell?_of_block (HK.out.block b (by omega))).trans hcell
        unfold i64v at e0
        clear hcell
        generalize T.ports[k] = y at *
        by_cases h4 : y ≤ port
        · rw [if_pos (Or.inr h4)] at hr
          subst hr
          go_wp2_with (fail)
          go_ret
          exact ⟨rfl, HK.out⟩
        · rw [if_neg (by omega)] at hr
          subst hr
          go_wp2_with (fail)
          go_ret
          exact ⟨rfl, HK.out⟩
end Go.Proofs.YtjoblahedgpgbaaGreat

namespace Go.Proofs.YtjoblahedgpgbaaGreat
open Go.RowKit

def badP (n : Int) : Bool := decide (n < 0 ∨ 8 < n)
set_option maxRecDepth 100000 in
theorem badP_calls (w : World) (n : Int) : Calls Tryz.prog 157 #[.int .i64 n] w fun e w' => e = .returned (.bool (badP n)) ∧ Below w.heap.size w w' := by
  have hk := Below.refl w.heap.size w
  obtain ⟨r, hr⟩ : ∃ r, r = badP n := ⟨_, rfl⟩
  rw [← hr]
  unfold badP at hr
  go_enter Tryz.func157, Tryz.ntmps157
  by_cases h1 : n < 0
  · rw [decide_eq_true (Or.inl h1)] at hr
    subst hr
    go_wp2_with (fail)
    go_ret
    exact ⟨rfl, hk⟩
  · by_cases h2 : 8 < n
    · rw [decide_eq_true (Or.inr h2)] at hr
      subst hr
      go_wp2_with (fail)
      go_ret
      exact ⟨rfl, hk⟩
    · rw [decide_eq_false (by omega)] at hr
      subst hr
      go_wp2_with (fail)
      go_ret
      exact ⟨rfl, hk⟩

variable {B : Nat} {w : World} {v : Value}
set_option maxRecDepth 100000 in
set_option maxHeartbeats 2000000 in
theorem index_calls {l : List Int} (h : RowIn B w v l.length (l.map i64v)) (hB : B ≤ w.heap.size) (hl : l.length < 1000000) : Calls Tryz.prog 215 #[v, .func (.func 157) #[] #[]] w fun e w' => ∃ k : Int, e = .returned (.int .i64 k) ∧ (0 ≤ k ↔ l.any badP = true) ∧ Below w.heap.size w w' := by
  have H := Lib.hid h
  obtain ⟨ao, cap, rfl, hcp⟩ := h
  clear hcp
  go_enter Tryz.func215, Tryz.ntmps215
  go_wp2_with (fail)
  go_loopg [8] l.length (fun gk vi wr => ∃ i : Nat, i + gk = l.length ∧ vi = .int .i64 (i : Int) ∧ Below w.heap.size w wr ∧ (l.take i).any badP = false)
  case atStart => exact ⟨0, by omega, rfl, Below.refl _ _, by simp⟩
  case round =>
    obtain ⟨i, hgk, rfl, hK, hN⟩ := hrel
    have HK := Lib.hid hK
    have HN := Lib.hid hN
    clear hN
    by_cases hlt : i < l.length
    · obtain ⟨ao', cap', he, hc⟩ := H.out.kept (hK.mono hB)
      cases he
      obtain ⟨b, off, rfl, hb, hcell⟩ := hc i (i64v l[i]) (by rw [List.getElem?_map, List.getElem?_eq_getElem hlt]; rfl)
      have HTK : Hid (l.take (i + 1) = l.take i ++ [l[i]]) := Lib.hid (by rw [List.take_add_one, List.getElem?_eq_getElem hlt]; rfl)
      have HAL : Hid (l[i] ∈ l) := Lib.hid (List.getElem_mem hlt)
      clear hc hK
      generalize l[i] = y at *
      unfold i64v at hcell
      go_wp2_with (fail)
      refine (badP_calls _ y).mono ?_
      rintro e w2 ⟨he, k2⟩
      have HK2 := Lib.hid (HK.out.trans (k2.mono HK.out.size))
      clear k2
      cases hbp : badP y with
      | true =>
        rw [hbp] at he
        subst he
        have HAN : Hid (l.any badP = true) := Lib.hid (List.any_eq_true.2 ⟨y, HAL.out, hbp⟩)
        clear hbp
        go_wp2_with (fail)
        exact bodyPost_ret (v := .int .i64 (i : Int)) (by simp [results, Tryz.results215, go_sem]) rfl ⟨_, rfl, ⟨fun _ => HAN.out, fun _ => by omega⟩, HK2.out⟩
      | false =>
        rw [hbp] at he
        subst he
        have HBP := Lib.hid hbp
        clear hbp
        go_wp2_with (fail)
        go_roundg (gk - 1)
        case measure => omega
        case rel =>
          refine ⟨i + 1, by omega, by go_num, HK2.out, ?_⟩
          rw [HTK.out, List.any_append, HN.out]
          simp [HBP.out]
    · obtain rfl : i = l.length := by omega
      have hn := HN.out
      rw [List.take_length] at hn
      have HN2 := Lib.hid hn
      clear hn hK
      go_wp2_with (fail)
      exact bodyPost_ret (v := .int .i64 (-1)) (by simp [results, Tryz.results215, go_sem]) rfl ⟨_, rfl, ⟨fun h => by omega, fun h => by rw [HN2.out] at h; cases h⟩, HK.out⟩

set_option maxRecDepth 100000 in
theorem contains_calls {l : List Int} (h : RowIn B w v l.length (l.map i64v)) (hB : B ≤ w.heap.size) (hl : l.length < 1000000) : Calls Tryz.prog 156 #[v, .func (.func 157) #[] #[]] w fun e w' => e = .returned (.bool (l.any badP)) ∧ Below w.heap.size w w' := by
  have H := Lib.hid (index_calls h hB hl)
  obtain ⟨ao, cap, rfl, _⟩ := h
  obtain ⟨r, hr⟩ : ∃ r, r = l.any badP := ⟨_, rfl⟩
  rw [← hr] at H ⊢
  clear hr
  go_enter Tryz.func156, Tryz.ntmps156
  go_wp2_with (fail)
  refine Calls.mono H.out ?_
  rintro e w2 ⟨k, he, hk, k2⟩
  subst he
  have K2 := Lib.hid k2
  clear k2
  by_cases h0 : 0 ≤ k
  · obtain rfl : r = true := hk.1 h0
    clear hk
    go_wp2_with (fail)
    go_ret
    exact ⟨rfl, K2.out⟩
  · obtain rfl : r = false := by
      cases r with
      | false => rfl
      | true => exact absurd (hk.2 rfl) h0
    clear hk
    go_wp2_with (fail)
    go_ret
    exact ⟨by simp [h0], K2.out⟩
end Go.Proofs.YtjoblahedgpgbaaGreat
