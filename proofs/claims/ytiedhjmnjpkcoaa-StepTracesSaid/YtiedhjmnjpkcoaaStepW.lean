/- A step of a net: the walk. -/
import Derived.Test.YtiedhjmnjpkcoaaMadeW
import Derived.Test.YtiedhjmnjpkcoaaWayP
import Derived.Test.YtiedhjmnjpkcoaaTopX
namespace Go.Proofs.Ytiedhjmnjpkcoaa
set_option linter.unusedVariables false
set_option linter.unusedSimpArgs false
open Go.RowKit

/-- What the walks of steps ask. -/
structure Fine (T : Tp) : Prop where
  light : lightT T = true
  check : checkT T = 0
theorem Fine.small {T : Tp} (h : Fine T) : T.ports.length ≤ 40 ∧ T.links.length ≤ 100 ∧ T.aces.length ≤ 60 := (lightT_iff T).1 h.light
theorem Fine.pos {T : Tp} (h : Fine T) : 0 < T.ports.length := by
  have := h.check
  unfold checkT at this
  split at this
  · cases this
  · omega
theorem acesT_ok {ports : List Int} : ∀ {l : List Ac}, acesT ports l = 0 → ∀ a ∈ l, checkF a.f = 0
  | [], _, a, h => by cases h
  | x :: l, h, a, ha => by
    unfold acesT at h
    by_cases h1 : portT ports x.dev x.port ≠ 0
    · rw [if_pos h1] at h
      exact absurd h h1
    · rw [if_neg h1] at h
      by_cases h2 : checkF x.f ≠ 0
      · rw [if_pos h2] at h
        exact absurd h h2
      · rw [if_neg h2] at h
        rcases List.mem_cons.1 ha with rfl | ha
        · exact Decidable.not_not.1 h2
        · exact acesT_ok h a ha
theorem Fine.parts {T : Tp} (h : Fine T) : linksT T.ports [] (ends T.links) = 0 ∧ ∀ a ∈ T.aces, checkF a.f = 0 := by
  have := h.check
  unfold checkT at this
  split at this
  · cases this
  · split at this
    · cases this
    · by_cases h1 : linksT T.ports [] (ends T.links) ≠ 0
      · rw [if_pos h1] at this
        exact absurd this h1
      · rw [if_neg h1] at this
        exact ⟨Decidable.not_not.1 h1, acesT_ok this⟩
def stepV (s : Int × Ed × Bool) : Value := .tuple #[.int .i64 s.1, .agg #[.int .i64 s.2.1.kind, .int .i64 s.2.1.dev, .int .i64 s.2.1.port], .bool s.2.2]
def edZ : Obj := .cells #[.int .i64 0, .int .i64 0, .int .i64 0] 91
theorem two_new (w : World) (a b : Obj) : ((w.alloc a).alloc b).heap[w.heap.size]? = some a ∧ ((w.alloc a).alloc b).heap[w.heap.size + 1]? = some b ∧ Below w.heap.size w ((w.alloc a).alloc b) := by
  have e1 : (w.alloc a).heap.size = w.heap.size + 1 := by simp
  have h2 := heap_alloc_new (w.alloc a) b
  rw [e1] at h2
  exact ⟨blk_alloc (heap_alloc_new w a) b, h2, ((Below.refl w.heap.size w).alloc (Nat.le_refl _) _).alloc (by omega) _⟩

def set6 (w : World) (b : Nat) (x0 x1 x2 x3 x4 x5 : Value) : World := (((((w.setCell ⟨b, 0, none⟩ x0).setCell ⟨b, 1, none⟩ x1).setCell ⟨b, 2, none⟩ x2).setCell ⟨b, 3, none⟩ x3).setCell ⟨b, 4, none⟩ x4).setCell ⟨b, 5, none⟩ x5
theorem kept_set6 (w : World) (b : Nat) (x0 x1 x2 x3 x4 x5 : Value) : Kept [b] w (set6 w b x0 x1 x2 x3 x4 x5) := ((((((Kept.refl [b] w).setCell _ _ (by simp)).setCell _ _ (by simp)).setCell _ _ (by simp)).setCell _ _ (by simp)).setCell _ _ (by simp)).setCell _ _ (by simp)
theorem set6_block {w : World} {b : Nat} {t : TypeId} {y0 y1 y2 y3 y4 y5 : Value} (h : w.heap[b]? = some (.cells #[y0, y1, y2, y3, y4, y5] t (0, 0))) (x0 x1 x2 x3 x4 x5 : Value) : (set6 w b x0 x1 x2 x3 x4 x5).heap[b]? = some (.cells #[x0, x1, x2, x3, x4, x5] t (0, 0)) := by
  unfold set6
  exact set_block (set_block (set_block (set_block (set_block (set_block h 0 x0) 1 x1) 2 x2) 3 x3) 4 x4) 5 x5
def set3 (w : World) (b : Nat) (x0 x1 x2 : Value) : World := ((w.setCell ⟨b, 0, none⟩ x0).setCell ⟨b, 1, none⟩ x1).setCell ⟨b, 2, none⟩ x2
theorem kept_set3 (w : World) (b : Nat) (x0 x1 x2 : Value) : Kept [b] w (set3 w b x0 x1 x2) := (((Kept.refl [b] w).setCell _ _ (by simp)).setCell _ _ (by simp)).setCell _ _ (by simp)
/-- A rule in a box of its own. -/
def RBox (w1 wq : World) (rb : Nat) (r : Rl) : Prop := wq.heap[rb]? = some (.cells #[.int .i64 r.id, .int .i64 r.dev, .int .u32 (r.addr : Int), .int .i64 r.bits, .int .i64 r.prio, .int .i64 r.out] 26 (0, 0)) ∧ Below w1.heap.size w1 wq
theorem RBox.mk6 {w1 w5 : World} {b : Nat} {y0 y1 y2 y3 y4 y5 : Value} {r : Rl} (h : w5.heap[b]? = some (.cells #[y0, y1, y2, y3, y4, y5] 26 (0, 0))) (k : Below w1.heap.size w1 w5) (hb : w1.heap.size ≤ b) : RBox w1 (set6 w5 b (.int .i64 r.id) (.int .i64 r.dev) (.int .u32 (r.addr : Int)) (.int .i64 r.bits) (.int .i64 r.prio) (.int .i64 r.out)) b r :=
  ⟨set6_block h _ _ _ _ _ _, k.trans ((kept_set6 _ _ _ _ _ _ _ _).below k.size (fun x hx => (List.mem_singleton.1 hx).symm ▸ hb))⟩

theorem RBox.new {w1 w5 : World} {r : Rl} (k : Below w1.heap.size w1 w5) : RBox w1 (w5.alloc (.cells #[.int .i64 r.id, .int .i64 r.dev, .int .u32 (r.addr : Int), .int .i64 r.bits, .int .i64 r.prio, .int .i64 r.out] 26)) w5.heap.size r :=
  ⟨heap_alloc_new w5 _, k.alloc k.size _⟩
variable {w : World} {B B0 nb : Nat} {vp vl va vt : Value} {ts : List TD} {ls : List (List Rl)} {T : Tp}
set_option maxRecDepth 100000 in
set_option maxHeartbeats 8000000 in
theorem sstep_calls (hN : NetAt w B nb vp vl va vt ts) (hP : Pairs (TD.Ls ts) ls) (hT : TpIn B0 w vp vl va T) (hB0 : B0 ≤ w.heap.size) (hF : Fine T) (hok : NetOk T.ports (TD.Ls ts)) (hL : lenT (TD.Ls ts) < 100000) (d : Nat) (hd : d < T.ports.length) (hv : Hv) (hh : hv.Wf) :
    Calls Try.prog 47 #[.pointer (some ⟨nb, 0, none⟩), .int .i64 (d : Int), hv.val] w fun e w' => e = .returned (stepV (stepS T ls hv d)) ∧ Below w.heap.size w w' := by
  have hln : ts.length = T.ports.length := by have := hok.len; simpa [TD.Ls] using this
  have hdt : d < ts.length := by omega
  have hdl : d < ls.length := by rw [← hP.len, hok.len]; exact hd
  have hpr := hP.get d (by rw [hok.len]; exact hd) hdl
  have hLi : (TD.Ls ts)[d]'(by rw [hok.len]; exact hd) = ts[d].L := by simp [TD.Ls]
  rw [hLi] at hpr
  have HOUT : Hid (∀ r ∈ ls[d], -1 ≤ r.out ∧ r.out < T.ports[d]) := Lib.hid (fun r hr => by
    have h1 := hok.dev d _ (by rw [List.getElem?_eq_getElem (by rw [hok.len]; exact hd), hLi]) r (hpr.perm.mem_iff.1 hr)
    rw [getElem!_pos T.ports d hd] at h1
    exact ⟨h1.2.1, h1.2.2⟩)
  obtain ⟨sv, hsv⟩ : ∃ sv, sv = stepS T ls hv d := ⟨_, rfl⟩
  rw [← hsv]
  unfold stepS at hsv
  rw [Int.toNat_natCast, getElem!_pos ls d hdl] at hsv
  have hcr := fun W (kW : Below w.heap.size w W) o => tcross_calls (hT.kept (kW.mono hB0)) (Nat.le_trans hB0 kW.size) hF.small.2.1 hF.small.2.2 hF.parts.2 (d : Int) o hv hh
  have HCR := Lib.hid hcr
  have HTAB := Lib.hid (hN.tab _ (List.getElem_mem hdt))
  have HLEN : Hid (ts[d].L.length < 100000) := Lib.hid (by
    have := lenT_mem (Ls := TD.Ls ts) (L := ts[d].L) (List.mem_map_of_mem (List.getElem_mem hdt))
    omega)
  obtain ⟨g, cap, rfl, e0⟩ := hN.at hdt
  obtain ⟨bp, op, cp, rfl, hpc⟩ := hT.portAt hd
  obtain ⟨al, cl, rfl, _⟩ := hT.links
  obtain ⟨aa, ca, rfl, _⟩ := hT.aces
  have HE0 := Lib.hid e0
  have HPC := Lib.hid hpc
  have HNH := Lib.hid hN.head
  have HPR := Lib.hid hpr
  have HSV := Lib.hid hsv
  have hdst := hh.dst
  have hdi : (d : Int) < (ts.length : Int) := by omega
  have hdi2 : (d : Int) < (T.ports.length : Int) := by omega
  generalize ts[d] = t at *
  generalize ls[d] = l at *
  generalize T.ports[d] = y at *
  clear hN hP hT hok hL hLi hpr hcr e0 hpc hsv hln hF hdt hdl hd
  unfold Hv.val at *
  have h2n := two_new w (.cells #[.int .u32 (hv.dst : Int), .int .u32 (hv.src : Int), .int .u8 (hv.proto : Int), .int .u16 (hv.sport : Int), .int .u16 (hv.dport : Int)] 89) edZ
  unfold edZ at h2n
  have H2 := Lib.hid h2n
  clear h2n
  go_enter Try.func47, Try.ntmps47
  go_upto_region 1 with (fail)
  generalize (w.alloc (.cells #[.int .u32 (hv.dst : Int), .int .u32 (hv.src : Int), .int .u8 (hv.proto : Int), .int .u16 (hv.sport : Int), .int .u16 (hv.dport : Int)] 89)).alloc (.cells #[.int .i64 0, .int .i64 0, .int .i64 0] 91) = w1 at *
  have HCELL : Hid (∀ W, Below w1.heap.size w1 W → W.cell? ⟨nb, 3, none⟩ = some (.slice (some ⟨g, 0, none⟩) ts.length cap) ∧ W.cell? ⟨g, d, none⟩ = some (.pointer (some ⟨t.p, 0, none⟩)) ∧ W.cell? ⟨w.heap.size, 0, none⟩ = some (.int .u32 (hv.dst : Int))) := Lib.hid (fun W kW => by
    have k := H2.out.2.2.trans (kW.mono H2.out.2.2.size)
    have hn := (k.block _ (lt_of_block HNH.out)).trans HNH.out
    have hx := (kW.block _ (lt_of_block H2.out.1)).trans H2.out.1
    exact ⟨cell_of hn 3, (Kept.of_below (S := []) k).cell HE0.out (by simp), cell_of hx 0⟩)
  obtain ⟨rv, hrv⟩ : ∃ rv, rv = (l.find? (hasR hv.dst)).getD noRule := ⟨_, rfl⟩
  obtain ⟨bv, hbv⟩ : ∃ bv, bv = (l.find? (hasR hv.dst)).isSome := ⟨_, rfl⟩
  have HBEST : Hid (∀ W, Below w1.heap.size w1 W → Calls Try.prog 21 #[.pointer (some ⟨t.p, 0, none⟩), .int .u32 (hv.dst : Int)] W fun e w' => e = .returned (.tuple #[.agg #[.int .i64 rv.id, .int .i64 rv.dev, .int .u32 (rv.addr : Int), .int .i64 rv.bits, .int .i64 rv.prio, .int .i64 rv.out], .bool bv]) ∧ Below W.heap.size W w') := Lib.hid (fun W kW => (tbestL_calls (HTAB.out.kept (Kept.of_below (S := []) (H2.out.2.2.trans (kW.mono H2.out.2.2.size))) (by simp) (by simp)) HPR.out HLEN.out hv.dst hdst).mono (by
    rintro e w' ⟨he, k⟩
    rw [← hrv, ← hbv] at he
    exact ⟨he, k⟩))
  have HRV := Lib.hid hrv
  have HBV := Lib.hid hbv
  clear hrv hbv
  have hBW := (Below.refl w1.heap.size w1).drew
  have hBZ0 := (Below.refl w1.heap.size w1).alloc (Nat.le_refl _) (.cells #[.int .i64 0, .int .i64 0, .int .u32 0, .int .i64 0, .int .i64 0, .int .i64 0] 26)
  have hBZ : Below w1.heap.size w1 (w1.alloc (.cells #[.int .i64 0, .int .i64 0, .int .u32 0, .int .i64 0, .int .i64 0, .int .i64 0] 26)).drew := hBZ0.drew
  have hS := HCELL.out _ (Below.refl _ _)
  have hS2 := HCELL.out _ hBZ0
  have HZN := Lib.hid (heap_alloc_new w1 (.cells #[.int .i64 0, .int .i64 0, .int .u32 0, .int .i64 0, .int .i64 0, .int .i64 0] 26))
  clear hBZ0
  refine (have KEY : ∀ (rb : Nat) (wq : World), RBox w1 wq rb rv → (?PP : Nat → World → Prop) rb wq := ?hkey; ?main)
  case main =>
    go_region_law (first | (go_simp; go_at_call 21; with_reducible refine Calls.mono (HBEST.out w1.drew hBW) ?_; rintro e w5 ⟨he, hB5⟩; subst he; have hz := heap_alloc_new w5 (.cells #[.int .i64 0, .int .i64 0, .int .u32 0, .int .i64 0, .int .i64 0, .int .i64 0] 26); have b0 := And.intro (cell_of hz 0) (unfrozen_of hz 0); have b1 := And.intro (cell_of hz 1) (unfrozen_of hz 1); have b2 := And.intro (cell_of hz 2) (unfrozen_of hz 2); have b3 := And.intro (cell_of hz 3) (unfrozen_of hz 3); have b4 := And.intro (cell_of hz 4) (unfrozen_of hz 4); have b5 := And.intro (cell_of hz 5) (unfrozen_of hz 5); simp only [List.getElem?_toArray, List.getElem?_cons_zero, List.getElem?_cons_succ] at b0 b1 b2 b3 b4 b5; have hb6 := hBW.trans (hB5.mono hBW.size); have hrb := RBox.new (r := rv) hb6; have HRB := Lib.hid hrb; clear hB5 hz hb6 hrb) | (go_simp; go_at_call 21; refine Calls.mono (HBEST.out _ hBZ) ?_; rintro e w5 ⟨he, hB5⟩; subst he; have hz : w5.heap[w1.heap.size]? = some (.cells #[.int .i64 0, .int .i64 0, .int .u32 0, .int .i64 0, .int .i64 0, .int .i64 0] 26 (0, 0)) := (hB5.block w1.heap.size (lt_of_block HZN.out)).trans HZN.out; have b0 := And.intro (cell_of hz 0) (unfrozen_of hz 0); have b1 := And.intro (cell_of hz 1) (unfrozen_of hz 1); have b2 := And.intro (cell_of hz 2) (unfrozen_of hz 2); have b3 := And.intro (cell_of hz 3) (unfrozen_of hz 3); have b4 := And.intro (cell_of hz 4) (unfrozen_of hz 4); have b5 := And.intro (cell_of hz 5) (unfrozen_of hz 5); simp only [List.getElem?_toArray, List.getElem?_cons_zero, List.getElem?_cons_succ] at b0 b1 b2 b3 b4 b5; have hb6 := hBZ.trans (hB5.mono hBZ.size); have hrb := RBox.mk6 (r := rv) hz hb6 (Nat.le_refl _); unfold set6 at hrb; have HRB := Lib.hid hrb; clear hB5 hz hb6 hrb))
    all_goals
      go_simp
      first
        | (have hrb : RBox w1 (w5.alloc (.cells #[.int .i64 rv.id, .int .i64 rv.dev, .int .u32 (rv.addr : Int), .int .i64 rv.bits, .int .i64 rv.prio, .int .i64 rv.out] 26)) w5.heap.size rv := by with_reducible exact HRB.out
           clear HRB
           revert hrb
           generalize (w5.alloc (.cells #[.int .i64 rv.id, .int .i64 rv.dev, .int .u32 (rv.addr : Int), .int .i64 rv.bits, .int .i64 rv.prio, .int .i64 rv.out] 26)) = wq
           generalize w5.heap.size = rb
           intro hrb
           exact KEY rb wq hrb)
        | (have hrb : RBox w1 ((((((w5.setCell ⟨w1.heap.size, 0, none⟩ (.int .i64 rv.id)).setCell ⟨w1.heap.size, 1, none⟩ (.int .i64 rv.dev)).setCell ⟨w1.heap.size, 2, none⟩ (.int .u32 (rv.addr : Int))).setCell ⟨w1.heap.size, 3, none⟩ (.int .i64 rv.bits)).setCell ⟨w1.heap.size, 4, none⟩ (.int .i64 rv.prio)).setCell ⟨w1.heap.size, 5, none⟩ (.int .i64 rv.out)) w1.heap.size rv := by with_reducible exact HRB.out
           clear HRB
           revert hrb
           generalize ((((((w5.setCell ⟨w1.heap.size, 0, none⟩ (.int .i64 rv.id)).setCell ⟨w1.heap.size, 1, none⟩ (.int .i64 rv.dev)).setCell ⟨w1.heap.size, 2, none⟩ (.int .u32 (rv.addr : Int))).setCell ⟨w1.heap.size, 3, none⟩ (.int .i64 rv.bits)).setCell ⟨w1.heap.size, 4, none⟩ (.int .i64 rv.prio)).setCell ⟨w1.heap.size, 5, none⟩ (.int .i64 rv.out)) = wq
           generalize w1.heap.size = rb
           intro hrb
           exact KEY rb wq hrb)
  case hkey =>
    intro rb wq hq
    obtain ⟨hrb, hkq⟩ := hq
    have HRB := Lib.hid hrb
    have HKQ := Lib.hid (H2.out.2.2.trans (hkq.mono H2.out.2.2.size))
    have HXQ := Lib.hid ((hkq.block _ (lt_of_block H2.out.1)).trans H2.out.1)
    have HEQ := Lib.hid ((hkq.block _ (lt_of_block H2.out.2.1)).trans H2.out.2.1)
    have HNQ := Lib.hid ((HKQ.out.block _ (lt_of_block HNH.out)).trans HNH.out)
    clear hrb hkq hS hS2 hBW hBZ HBEST HCELL
    cases hfo : l.find? (hasR hv.dst) with
    | none =>
      have hsv := HSV.out
      rw [hfo] at hsv
      simp only at hsv
      subst hsv
      obtain rfl : bv = false := by rw [HBV.out, hfo]; rfl
      clear hfo
      have e0 := And.intro (cell_of HEQ.out 0) (unfrozen_of HEQ.out 0)
      have e1 := And.intro (cell_of HEQ.out 1) (unfrozen_of HEQ.out 1)
      have e2 := And.intro (cell_of HEQ.out 2) (unfrozen_of HEQ.out 2)
      simp only [List.getElem?_toArray, List.getElem?_cons_zero, List.getElem?_cons_succ] at e0 e1 e2
      go_wp2_with (fail)
      exact bodyPost_ret (v := .tuple #[.int .i64 0, .agg #[.int .i64 1, .int .i64 (d : Int), .int .i64 (-1)], .bool false]) (by simp [results, Try.results47, go_sem, e0, e1, e2]) rfl ⟨rfl, HKQ.out.trans ((kept_set3 wq (w.heap.size + 1) (.int .i64 1) (.int .i64 (d : Int)) (.int .i64 (-1))).below HKQ.out.size (by simp))⟩
    | some r =>
      have hsv := HSV.out
      rw [hfo] at hsv
      simp only at hsv
      obtain rfl : bv = true := by rw [HBV.out, hfo]; rfl
      obtain rfl : rv = r := by rw [HRV.out, hfo]; rfl
      have hout := HOUT.out rv (List.mem_of_find?_eq_some hfo)
      have hrb := HRB.out
      have r5 := cell_of hrb 5
      have c0 := cell_of HNQ.out 0
      have p0 := (Kept.of_below (S := []) HKQ.out).cell HPC.out (by simp)
      simp only [List.getElem?_toArray, List.getElem?_cons_zero, List.getElem?_cons_succ] at r5 c0
      obtain ⟨rout, hro⟩ : ∃ rout, rout = rv.out := ⟨_, rfl⟩
      rw [← hro] at hsv hout r5 hrb
      have HRB := Lib.hid hrb
      clear hfo hro hrb
      have e0 := And.intro (cell_of HEQ.out 0) (unfrozen_of HEQ.out 0)
      have e1 := And.intro (cell_of HEQ.out 1) (unfrozen_of HEQ.out 1)
      have e2 := And.intro (cell_of HEQ.out 2) (unfrozen_of HEQ.out 2)
      simp only [List.getElem?_toArray, List.getElem?_cons_zero, List.getElem?_cons_succ] at e0 e1 e2
      by_cases h1 : rout < 0
      · rw [if_pos h1] at hsv
        subst hsv
        have h1' : decide (rout < 0) = true := decide_eq_true h1
        clear h1 hout
        go_wp2_with (fail)
        go_region
        clear r5 c0 p0 e0 e1 e2
        have HKD := Lib.hid HKQ.out.drew
        have HED := Lib.hid (blk_drew HEQ.out)
        generalize wq.drew = wd at *
        have e0 := And.intro (cell_of HED.out 0) (unfrozen_of HED.out 0)
        have e1 := And.intro (cell_of HED.out 1) (unfrozen_of HED.out 1)
        have e2 := And.intro (cell_of HED.out 2) (unfrozen_of HED.out 2)
        simp only [List.getElem?_toArray, List.getElem?_cons_zero, List.getElem?_cons_succ] at e0 e1 e2
        go_wp2_with (fail)
        exact bodyPost_ret (v := .tuple #[.int .i64 0, .agg #[.int .i64 2, .int .i64 (d : Int), .int .i64 (-1)], .bool false]) (by simp [results, Try.results47, go_sem, e0, e1, e2]) rfl ⟨rfl, HKD.out.trans ((kept_set3 wd (w.heap.size + 1) (.int .i64 2) (.int .i64 (d : Int)) (.int .i64 (-1))).below HKD.out.size (by simp))⟩
      · rw [if_neg h1] at hsv
        have h1' : decide (rout < 0) = false := decide_eq_false h1
        have h2' : decide (y ≤ rout) = false := decide_eq_false (by omega)
        clear h1 hout
        go_wp2_with (fail)
        go_region
        clear r5 c0 p0 e0 e1 e2 h1' h2'
        have HKD := Lib.hid HKQ.out.drew
        have HCELL : Hid (∀ w', Below wq.heap.size wq w' → w'.cell? ⟨nb, 0, none⟩ = some (.slice (some ⟨bp, op, none⟩) T.ports.length cp) ∧ w'.cell? ⟨nb, 1, none⟩ = some (.slice al T.links.length cl) ∧ w'.cell? ⟨nb, 2, none⟩ = some (.slice aa T.aces.length ca) ∧ w'.cell? ⟨rb, 5, none⟩ = some (.int .i64 rout) ∧ w'.cell? ⟨w.heap.size, 0, none⟩ = some (.int .u32 (hv.dst : Int)) ∧ w'.cell? ⟨w.heap.size, 1, none⟩ = some (.int .u32 (hv.src : Int)) ∧ w'.cell? ⟨w.heap.size, 2, none⟩ = some (.int .u8 (hv.proto : Int)) ∧ w'.cell? ⟨w.heap.size, 3, none⟩ = some (.int .u16 (hv.sport : Int)) ∧ w'.cell? ⟨w.heap.size, 4, none⟩ = some (.int .u16 (hv.dport : Int))) := Lib.hid (fun w' kW => by
          have hx := (kW.block _ (lt_of_block HXQ.out)).trans HXQ.out
          have hn := (kW.block _ (lt_of_block HNQ.out)).trans HNQ.out
          have hr := (kW.block _ (lt_of_block HRB.out)).trans HRB.out
          exact ⟨cell_of hn 0, cell_of hn 1, cell_of hn 2, cell_of hr 5, cell_of hx 0, cell_of hx 1, cell_of hx 2, cell_of hx 3, cell_of hx 4⟩)
        obtain ⟨c1, c2, c3, hcx⟩ : ∃ c1 c2 c3, crossT T (d : Int) rout hv = (c1, c2, c3) := ⟨_, _, _, rfl⟩
        have HCALL : Hid (∀ W, Below wq.heap.size wq W → Calls Try.prog 74 #[.agg #[.slice (some ⟨bp, op, none⟩) T.ports.length cp, .slice al T.links.length cl, .slice aa T.aces.length ca], .int .i64 (d : Int), .int .i64 rout, .agg #[.int .u32 (hv.dst : Int), .int .u32 (hv.src : Int), .int .u8 (hv.proto : Int), .int .u16 (hv.sport : Int), .int .u16 (hv.dport : Int)]] W fun e w' => e = .returned (.tuple #[.int .i64 c1, .bool c2, .bool c3]) ∧ Below wq.heap.size wq w') := Lib.hid (fun W kW => (HCR.out W (HKQ.out.trans (kW.mono HKQ.out.size)) rout).mono (by
          rintro e w' ⟨he, k⟩
          rw [hcx] at he
          exact ⟨he, kW.trans (k.mono kW.size)⟩))
        unfold outS at hsv
        rw [hcx] at hsv
        simp only at hsv
        have HSV2 := Lib.hid hsv
        clear hsv hcx
        have hBD : Below wq.heap.size wq wq.drew := (Below.refl _ _).drew
        go_upto_region 6 with (fail)
        have hBW : Below wq.heap.size wq wq.drew.drew := (Below.refl _ _).drew.drew
        have hS := HCELL.out _ hBW
        go_region_held3 (fun w' => w'.cell? ⟨nb, 0, none⟩ = some (.slice (some ⟨bp, op, none⟩) T.ports.length cp) ∧ w'.cell? ⟨nb, 1, none⟩ = some (.slice al T.links.length cl) ∧ w'.cell? ⟨nb, 2, none⟩ = some (.slice aa T.aces.length ca) ∧ w'.cell? ⟨rb, 5, none⟩ = some (.int .i64 rout) ∧ w'.cell? ⟨w.heap.size, 0, none⟩ = some (.int .u32 (hv.dst : Int)) ∧ w'.cell? ⟨w.heap.size, 1, none⟩ = some (.int .u32 (hv.src : Int)) ∧ w'.cell? ⟨w.heap.size, 2, none⟩ = some (.int .u8 (hv.proto : Int)) ∧ w'.cell? ⟨w.heap.size, 3, none⟩ = some (.int .u16 (hv.sport : Int)) ∧ w'.cell? ⟨w.heap.size, 4, none⟩ = some (.int .u16 (hv.dport : Int))) (first | assumption) (first | (go_at_call 74; refine Calls.mono (HCALL.out _ (by assumption)) ?_; rintro e w' ⟨rfl, hB'⟩; have hS' := HCELL.out _ hB'))
        have HK7 := Lib.hid (HKQ.out.trans (hB'.mono HKQ.out.size))
        have HE7 := Lib.hid ((hB'.block _ (lt_of_block HEQ.out)).trans HEQ.out)
        have hr7 := (hB'.block _ (lt_of_block HRB.out)).trans HRB.out
        have r5 := cell_of hr7 5
        simp only [List.getElem?_toArray, List.getElem?_cons_zero, List.getElem?_cons_succ] at r5
        clear hB' hS' hBW hS hBD hr7
        have hsv := HSV2.out
        have e0 := And.intro (cell_of HE7.out 0) (unfrozen_of HE7.out 0)
        have e1 := And.intro (cell_of HE7.out 1) (unfrozen_of HE7.out 1)
        have e2 := And.intro (cell_of HE7.out 2) (unfrozen_of HE7.out 2)
        simp only [List.getElem?_toArray, List.getElem?_cons_zero, List.getElem?_cons_succ] at e0 e1 e2
        cases c3 with
        | true =>
          rw [if_pos rfl] at hsv
          subst hsv
          go_wp2_with (fail)
          exact bodyPost_ret (v := .tuple #[.int .i64 c1, .agg #[.int .i64 0, .int .i64 0, .int .i64 0], .bool true]) (by simp [results, Try.results47, go_sem, e0, e1, e2]) rfl ⟨rfl, HK7.out.trans ((kept_set3 w' (w.heap.size + 1) (.int .i64 0) (.int .i64 0) (.int .i64 0)).below HK7.out.size (by simp))⟩
        | false =>
          rw [if_neg (by simp)] at hsv
          cases c2 with
          | true =>
            rw [if_pos rfl] at hsv
            subst hsv
            go_wp2_with (fail)
            have HKD7 := Lib.hid HK7.out.drew
            go_region
            all_goals
              go_wp2_with (fail)
              exact bodyPost_ret (v := .tuple #[.int .i64 0, .agg #[.int .i64 4, .int .i64 (d : Int), .int .i64 rout], .bool false]) (by simp [results, Try.results47, go_sem, e0, e1, e2]) rfl ⟨rfl, HKD7.out.trans ((kept_set3 w'.drew (w.heap.size + 1) (.int .i64 4) (.int .i64 (d : Int)) (.int .i64 rout)).below HKD7.out.size (by simp))⟩
          | false =>
            rw [if_neg (by simp)] at hsv
            subst hsv
            go_wp2_with (fail)
            have HKD7 := Lib.hid HK7.out.drew
            go_region
            all_goals
              go_wp2_with (fail)
              exact bodyPost_ret (v := .tuple #[.int .i64 0, .agg #[.int .i64 3, .int .i64 (d : Int), .int .i64 rout], .bool false]) (by simp [results, Try.results47, go_sem, e0, e1, e2]) rfl ⟨rfl, HKD7.out.trans ((kept_set3 w'.drew (w.heap.size + 1) (.int .i64 3) (.int .i64 (d : Int)) (.int .i64 rout)).below HKD7.out.size (by simp))⟩
end Go.Proofs.Ytiedhjmnjpkcoaa
