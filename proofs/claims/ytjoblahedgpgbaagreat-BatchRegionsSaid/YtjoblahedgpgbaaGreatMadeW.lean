/- The law's Made: a net and the document's, behind changes. · The law's Made: the walk. -/
import Derived.Test.YtjoblahedgpgbaaGreatAlike
import Derived.Test.YtjoblahedgpgbaaGreatNetW
import Derived.Test.YtjoblahedgpgbaaGreatMade
import Derived.Test.YtjoblahedgpgbaaGreatTopG
namespace Go.Proofs.YtjoblahedgpgbaaGreat
set_option linter.unusedVariables false
set_option linter.unusedSimpArgs false
open Go.RowKit

/-- The rules of each device behind changes. -/
def madeS (ports : List Int) (ops : List Op) : List (List Rl) := ops.foldl (fun Ls o => (chgS ports Ls o).1) (List.replicate ports.length [])
theorem madeS_snoc (ports : List Int) (ops : List Op) (o : Op) : madeS ports (ops ++ [o]) = (chgS ports (madeS ports ops) o).1 := by simp [madeS]
theorem madeS_ind (ports : List Int) (P : List (List Rl) → Nat → Prop) (h0 : P (List.replicate ports.length []) 0) (h1 : ∀ Ls n o, P Ls n → P (chgS ports Ls o).1 (n + 1)) : ∀ ops : List Op, P (madeS ports ops) ops.length := by
  intro ops
  have : ∀ k, k ≤ ops.length → P (madeS ports (ops.take k)) k := by
    intro k
    induction k with
    | zero => intro _; exact h0
    | succ k ih =>
      intro hk
      rw [List.take_add_one, List.getElem?_eq_getElem (by omega)]
      exact (madeS_snoc ports (ops.take k) ops[k]) ▸ h1 _ _ _ (ih (by omega))
  have h := this ops.length (Nat.le_refl _)
  rwa [List.take_length] at h
theorem madeS_ok (ports : List Int) (ops : List Op) : NetOk ports (madeS ports ops) := madeS_ind ports (fun Ls _ => NetOk ports Ls) (NetOk.empty ports) (fun _ _ o h => h.chg o) ops
theorem madeS_len (ports : List Int) (ops : List Op) : lenT (madeS ports ops) ≤ ops.length := by
  refine madeS_ind ports (fun Ls n => lenT Ls ≤ n) ?_ (fun Ls n o h => ?_) ops
  · have : ∀ n : Nat, lenT (List.replicate n []) = 0 := fun n => by simp [lenT]
    rw [this]
    exact Nat.le_refl _
  · have := chg_lenT ports Ls o
    omega

/-- A block that neither net has a part in. -/
structure Free (x nb : Nat) (vt vr : Value) (ts : List TD) (rs : List Value) : Prop where
  feet : x ∉ feet ts
  doc : x ∉ rfoot vr rs
  head : nb ≠ x
  row : ∀ g, vt.ownBlock = some g → g ≠ x
variable {w w' w2 : World} {B nb x : Nat} {vp vl va vt vr vr' : Value} {ts ts' : List TD} {rs rs' : List Value} {ls ls' : List (List Rl)}
theorem DuoAt.kept {S : List Nat} (h : DuoAt w B nb vp vl va vt vr ts rs ls) (k : Kept S w w') (hs : ∀ x ∈ S, Free x nb vt vr ts rs) : DuoAt w' B nb vp vl va vt vr ts rs ls :=
  ⟨h.net.kept k (fun hm => (hs nb hm).head rfl) (fun g hg hm => (hs g hm).row g hg rfl) (fun x hx hm => (hs x hm).feet hx), h.doc.kept k (fun x hx hm => (hs x hm).doc hx), h.off, h.pair⟩
theorem Free.step (h : Free x nb vt vr ts rs) (hx : x < w.heap.size) (hx2 : x < w'.heap.size) (hT : Turn (_root_.Go.Proofs.YtjoblahedgpgbaaGreat.feet ts) (_root_.Go.Proofs.YtjoblahedgpgbaaGreat.feet ts') w w') (hf : ∀ y ∈ rfoot vr' rs', y ∈ rfoot vr rs ∨ w'.heap.size ≤ y) : Free x nb vt vr' ts' rs' := by
  refine ⟨fun hm => ?_, fun hm => ?_, h.head, h.row⟩
  · rcases hT.feet x hm with h1 | h1
    · exact h.feet h1
    · omega
  · rcases hf x hm with h1 | h1
    · exact h.doc h1
    · omega
/-- A block that was not there when the nets were made, and came behind them. -/
theorem DuoAt.fresh (h : DuoAt w B nb vp vl va vt vr ts rs ls) (hx : w.heap.size ≤ x) : Free x nb vt vr ts rs :=
  ⟨fun hm => by have := h.net.feet_lt x hm; omega, fun hm => by have := (h.doc.lo x hm).2; omega, fun e => by have := lt_of_block h.net.head; omega, fun g hg e => by have := own_inN h.net.row hg; omega⟩
theorem DuoAt.elder (h : DuoAt w B nb vp vl va vt vr ts rs ls) (hx : x < B) : Free x nb vt vr ts rs :=
  ⟨fun hm => by have := h.net.feet_lo x hm; omega, fun hm => by have := (h.doc.lo x hm).1; omega, fun e => by have := h.net.lo.1; omega, fun g hg e => by have := own_pastT h.net.row g hg; omega⟩

theorem OpsIn.next {v : Value} {ops : List Op} (h : OpsIn w v ops) (k : Below w.heap.size w w') : OpsIn w' v ops := by
  obtain ⟨hwf, ao, cap, hv, hc⟩ := h
  refine ⟨hwf, ao, cap, hv, fun i hi => ?_⟩
  obtain ⟨b, off, h1, h2, h3⟩ := hc i hi
  refine ⟨b, off, h1, fun i o ho j u hu => ?_, Nat.lt_of_lt_of_le h3 k.size⟩
  rw [World.cell?_of_block (k.block b h3)]
  exact h2 i o ho j u hu
end Go.Proofs.YtjoblahedgpgbaaGreat

namespace Go.Proofs.YtjoblahedgpgbaaGreat
set_option linter.unusedVariables false
set_option linter.unusedSimpArgs false
open Go.RowKit

def MadePost (T : Tp) (ops : List Op) (w : World) (vp vl va : Value) (e : Ending) (w' : World) : Prop :=
  ∃ nb vt vr ts rs ls, e = .returned (.tuple #[.pointer (some ⟨nb, 0, none⟩), .agg #[vp, vl, va, vr], .bool true]) ∧ DuoAt w' w.heap.size nb vp vl va vt vr ts rs ls ∧ TD.Ls ts = madeS T.ports ops ∧ Below w.heap.size w w'
variable {w w' : World} {B B' nb : Nat} {vp vl va vt vr v0 : Value} {ts : List TD} {rs : List Value} {ls : List (List Rl)} {T : Tp} {ops : List Op}
theorem set4_block {b : Nat} {t : TypeId} {x0 x1 x2 x3 : Value} (h : w.heap[b]? = some (.cells #[x0, x1, x2, x3] t (0, 0))) (x y z u : Value) : (set4 w b x y z u).heap[b]? = some (.cells #[x, y, z, u] t (0, 0)) := by
  unfold set4
  exact set_block (set_block (set_block (set_block h 0 x) 1 y) 2 z) 3 u
theorem NetAt.low (h : NetAt w B nb vp vl va vt ts) (hb : B' ≤ B) : NetAt w B' nb vp vl va vt ts := ⟨h.head, h.row.mono hb, h.tab, h.apart, h.far, ⟨Nat.le_trans hb h.lo.1, fun t ht x hx => Nat.le_trans hb (h.lo.2 t ht x hx)⟩, Nat.le_trans hb h.size⟩
theorem DuoAt.low_ (h : DuoAt w B nb vp vl va vt vr ts rs ls) (h1 : NetAt w B' nb vp vl va vt ts) (h2 : RNetAt w B' vr rs ls) : DuoAt w B' nb vp vl va vt vr ts rs ls := ⟨h1, h2, h.off, h.pair⟩
theorem RNetAt.low (h : RNetAt w B vr rs ls) (hb : B' ≤ B) : RNetAt w B' vr rs ls := ⟨h.len, h.row.mono hb, fun i h1 h2 => (h.each i h1 h2).mono hb⟩

set_option maxRecDepth 100000 in
set_option maxHeartbeats 16000000 in
theorem made13_calls (h : TpIn B w vp vl va T) (hB : B ≤ w.heap.size) (hl : lightT T = true) (hc : checkT T = 0) (ho : OpsIn w v0 ops) (hn : ops.length ≤ 60) :
    Calls Tryz.prog 18 #[.agg #[vp, vl, va], v0] w fun e w' => MadePost T ops w vp vl va e w' := by
  have H := Lib.hid h
  obtain ⟨ap, cp, rfl, _⟩ := h.ports
  obtain ⟨al, cl, rfl, _⟩ := h.links
  obtain ⟨aa, ca, rfl, _⟩ := h.aces
  obtain ⟨hwf, ao, cap, rfl, hop⟩ := ho
  have HWF := Lib.hid hwf
  have HOP := Lib.hid hop
  have HLT := Lib.hid hl
  have HCT := Lib.hid hc
  have HPL : Hid (0 < T.ports.length ∧ T.ports.length ≤ 40) := Lib.hid (by
    refine ⟨?_, ((lightT_iff T).1 hl).1⟩
    unfold checkT at hc
    split at hc
    · cases hc
    · omega)
  clear h hwf hop hl hc
  have HX : Hid (((w.alloc (.cells #[.slice ap T.ports.length cp, .slice al T.links.length cl, .slice aa T.aces.length ca] 26)).alloc netZ).heap[w.heap.size]? = some (.cells #[.slice ap T.ports.length cp, .slice al T.links.length cl, .slice aa T.aces.length ca] 26 (0, 0))) := Lib.hid (blk_alloc (heap_alloc_new w _) _)
  have HZ : Hid (((w.alloc (.cells #[.slice ap T.ports.length cp, .slice al T.links.length cl, .slice aa T.aces.length ca] 26)).alloc netZ).heap[w.heap.size + 1]? = some (.cells #[.slice none 0 0, .slice none 0 0, .slice none 0 0, .slice none 0 0] 38 (0, 0))) := Lib.hid (by
    have := heap_alloc_new (w.alloc (.cells #[.slice ap T.ports.length cp, .slice al T.links.length cl, .slice aa T.aces.length ca] 26)) netZ
    rwa [show (w.alloc (.cells #[.slice ap T.ports.length cp, .slice al T.links.length cl, .slice aa T.aces.length ca] 26)).heap.size = w.heap.size + 1 by simp] at this)
  have HK : Hid (Below w.heap.size w ((w.alloc (.cells #[.slice ap T.ports.length cp, .slice al T.links.length cl, .slice aa T.aces.length ca] 26)).alloc netZ)) := Lib.hid (((Below.refl w.heap.size w).alloc (Nat.le_refl _) _).alloc (by simp) _)
  unfold netZ at *
  go_enter Tryz.func18, Tryz.ntmps18
  go_upto_region 1 with (fail)
  generalize (w.alloc (.cells #[.slice ap T.ports.length cp, .slice al T.links.length cl, .slice aa T.aces.length ca] 26)).alloc (.cells #[.slice none 0 0, .slice none 0 0, .slice none 0 0, .slice none 0 0] 38) = w1 at *
  have HTP : Hid (∀ W, Below w1.heap.size w1 W → TpIn B W (.slice ap T.ports.length cp) (.slice al T.links.length cl) (.slice aa T.aces.length ca) T ∧ B ≤ W.heap.size) := Lib.hid (fun W kW => by
    have k := HK.out.trans (kW.mono HK.out.size)
    exact ⟨H.out.kept (k.mono hB), Nat.le_trans hB k.size⟩)
  have hBR := Below.refl w1.heap.size w1
  have HNN := Lib.hid (nnew_calls (HTP.out _ hBR).1 (HTP.out _ hBR).2 HLT.out HCT.out)
  have z0 := cell_of HX.out 0
  have z1 := cell_of HX.out 1
  have z2 := cell_of HX.out 2
  simp only [List.getElem?_toArray, List.getElem?_cons_zero, List.getElem?_cons_succ] at z0 z1 z2
  go_wp2_with (fail)
  refine Calls.mono HNN.out ?_
  rintro e w2 ⟨nb, vt, ts0, he, hN, hLs, k2⟩
  subst he
  have HN := Lib.hid hN
  have HLS := Lib.hid hLs
  have HK2 := Lib.hid k2
  have hx2 := (k2.block _ (lt_of_block HX.out)).trans HX.out
  clear hN hLs k2 z0 z1 z2 hBR HNN
  have z0 := cell_of hx2 0
  have z1 := cell_of hx2 1
  have z2 := cell_of hx2 2
  simp only [List.getElem?_toArray, List.getElem?_cons_zero, List.getElem?_cons_succ] at z0 z1 z2
  clear hx2
  have HRN := Lib.hid (rnew_calls (HTP.out _ HK2.out).1 (HTP.out _ HK2.out).2 HPL.out.2)
  go_wp2_with (fail)
  refine Calls.mono HRN.out ?_
  rintro e w3 ⟨vr0, he, hD, k3⟩
  subst he
  have HK3 := Lib.hid (HK2.out.trans (k3.mono HK2.out.size))
  have HDUO : Hid (DuoAt w3 w1.heap.size nb (.slice ap T.ports.length cp) (.slice al T.links.length cl) (.slice aa T.aces.length ca) vt vr0 ts0 (List.replicate T.ports.length (.slice none 0 0)) (List.replicate T.ports.length [])) := Lib.hid (by
    refine ⟨HN.out.below k3, hD.low HK2.out.size, fun x hx hm => ?_, by rw [HLS.out]; exact Pairs.empty _⟩
    have h1 := (hD.lo x hx).1
    have h2 := HN.out.feet_lt x hm
    omega)
  clear hD k3 z0 z1 z2 HRN
  obtain ⟨ar, cr, rfl, _, _⟩ := HDUO.out.doc.shape
  have HX4 := Lib.hid (heap_alloc_new w3 (.cells #[.slice ap T.ports.length cp, .slice al T.links.length cl, .slice aa T.aces.length ca, .slice ar (List.replicate T.ports.length ([] : List Rl)).length cr] 38))
  have HK4 := Lib.hid (HK3.out.alloc HK3.out.size (.cells #[.slice ap T.ports.length cp, .slice al T.links.length cl, .slice aa T.aces.length ca, .slice ar (List.replicate T.ports.length ([] : List Rl)).length cr] 38))
  have HD4 := Lib.hid (HDUO.out.below ((Below.refl w3.heap.size w3).alloc (Nat.le_refl _) (.cells #[.slice ap T.ports.length cp, .slice al T.links.length cl, .slice aa T.aces.length ca, .slice ar (List.replicate T.ports.length ([] : List Rl)).length cr] 38)))
  have HFM := Lib.hid (HDUO.out.fresh (Nat.le_refl w3.heap.size))
  have hrl : (List.replicate T.ports.length ([] : List Rl)).length = T.ports.length := by simp
  rw [hrl] at HX4 HK4 HD4 HFM
  clear hrl
  go_upto_region 5 with (fail)
  generalize w3.alloc (.cells #[.slice ap T.ports.length cp, .slice al T.links.length cl, .slice aa T.aces.length ca, .slice ar T.ports.length cr] 38) = w4 at *
  have HM1 : Hid (w1.heap.size ≤ w3.heap.size) := Lib.hid HK3.out.size
  generalize w3.heap.size = M at *
  go_wp2_with (fail)
  go_loopg [30] ops.length (fun gk vi wr => ∃ (i : Nat) (vr : Value) (ts : List TD) (rs : List Value) (ls : List (List Rl)), i + gk = ops.length ∧ vi = .int .i64 (i : Int) ∧ wr.heap[M]? = some (.cells #[.slice ap T.ports.length cp, .slice al T.links.length cl, .slice aa T.aces.length ca, vr] 38 (0, 0)) ∧ DuoAt wr w1.heap.size nb (.slice ap T.ports.length cp) (.slice al T.links.length cl) (.slice aa T.aces.length ca) vt vr ts rs ls ∧ Free M nb vt vr ts rs ∧ TD.Ls ts = madeS T.ports (ops.take i) ∧ Below w1.heap.size w1 wr)
  case atStart => exact ⟨0, _, ts0, _, _, by omega, rfl, HX4.out, HD4.out, HFM.out, HLS.out, HK4.out⟩
  case round =>
    obtain ⟨i, vr, ts, rs, ls, hgk, rfl, hM, hD, hFM, hLs, hK⟩ := hrel
    have HM := Lib.hid hM
    have HD := Lib.hid hD
    have HFR := Lib.hid hFM
    have HLR := Lib.hid hLs
    have HKR := Lib.hid hK
    have HOK : Hid (NetOk T.ports (TD.Ls ts) ∧ lenT (TD.Ls ts) ≤ 60) := Lib.hid (by
      rw [hLs]
      refine ⟨madeS_ok _ _, Nat.le_trans (madeS_len _ _) ?_⟩
      rw [List.length_take]
      omega)
    by_cases hlt : i < ops.length
    · obtain ⟨b, off, rfl, hat, hb⟩ := HOP.out i hlt
      have hcx := hat.cells hb (HK.out.trans (hK.mono HK.out.size)) i hlt
      have HTK : Hid (madeS T.ports (ops.take (i + 1)) = (chgS T.ports (madeS T.ports (ops.take i)) ops[i]).1) := Lib.hid (by rw [List.take_add_one, List.getElem?_eq_getElem hlt]; exact madeS_snoc _ _ _)
      have hw := HWF.out _ (List.getElem_mem hlt)
      generalize ops[i] = o at *
      obtain ⟨del, r⟩ := o
      simp only at hcx hw
      have HWR := Lib.hid hw
      have HXC := Lib.hid (heap_alloc_new wr (.cells #[.bool del, .int .i64 r.id, .int .i64 r.dev, .int .u32 (r.addr : Int), .int .i64 r.bits, .int .i64 r.prio, .int .i64 r.out] 91))
      have hka := (Below.refl wr.heap.size wr).alloc (Nat.le_refl _) (.cells #[.bool del, .int .i64 r.id, .int .i64 r.dev, .int .u32 (r.addr : Int), .int .i64 r.bits, .int .i64 r.prio, .int .i64 r.out] 91)
      have HKA := Lib.hid (hK.trans (hka.mono hK.size))
      have HDA := Lib.hid (hD.below hka)
      have HMA := Lib.hid ((hka.block _ (lt_of_block hM)).trans hM)
      have HML := Lib.hid (lt_of_block hM)
      have HFX := Lib.hid (hD.fresh (Nat.le_refl _))
      clear hat hw hM hD hFM hLs hK hka hb
      go_upto_region 9 with (fail)
      generalize hwa : wr.alloc (.cells #[.bool del, .int .i64 r.id, .int .i64 r.dev, .int .u32 (r.addr : Int), .int .i64 r.bits, .int .i64 r.prio, .int .i64 r.out] 91) = wa at *
      generalize hxb : wr.heap.size = xb at *
      clear hcx hwa hxb
      have y0 := cell_of HXC.out 0
      have y1 := cell_of HXC.out 1
      have y2 := cell_of HXC.out 2
      have y3 := cell_of HXC.out 3
      have y4 := cell_of HXC.out 4
      have y5 := cell_of HXC.out 5
      have y6 := cell_of HXC.out 6
      simp only [List.getElem?_toArray, List.getElem?_cons_zero, List.getElem?_cons_succ] at y0 y1 y2 y3 y4 y5 y6
      have HC1 := Lib.hid (nchange_calls HDA.out.net (HTP.out _ HKA.out).1 (Nat.le_trans hB HK.out.size) HOK.out.1 HPL.out.2 (by have := HOK.out.2; omega) ⟨del, r⟩ HWR.out)
      unfold Op.val at HC1
      go_wp2_with (fail)
      refine Calls.mono HC1.out ?_
      rintro e w5 ⟨ts', he, hN5, hL5, hT5⟩
      subst he
      have hmlt := lt_of_block HMA.out
      have hm5 := (hT5.kept.block M hmlt HFR.out.feet).trans HMA.out
      have HXC5 := Lib.hid ((hT5.kept.block xb (lt_of_block HXC.out) HFX.out.feet).trans HXC.out)
      have HK5 := Lib.hid (HKA.out.trans (hT5.below HKA.out.size (fun x hx => HDA.out.net.feet_lo x hx)))
      have HM5 := Lib.hid hm5
      have HN5 := Lib.hid hN5
      have HL5 := Lib.hid hL5
      have HT5 := Lib.hid hT5
      have HC2 := Lib.hid (rnchange_calls (HDA.out.doc_turn hT5) HDA.out.pair (HTP.out _ HK5.out).1 (HTP.out _ HK5.out).2 HK5.out.size HOK.out.1 HPL.out.1 HPL.out.2 (by have := HOK.out.2; omega) ⟨del, r⟩ HWR.out)
      unfold Op.val at HC2
      clear hN5 hL5 hT5 hmlt hm5 y0 y1 y2 y3 y4 y5 y6
      have y0 := cell_of HXC5.out 0
      have y1 := cell_of HXC5.out 1
      have y2 := cell_of HXC5.out 2
      have y3 := cell_of HXC5.out 3
      have y4 := cell_of HXC5.out 4
      have y5 := cell_of HXC5.out 5
      have y6 := cell_of HXC5.out 6
      have m0 := cell_of HM5.out 0
      have m1 := cell_of HM5.out 1
      have m2 := cell_of HM5.out 2
      have m3 := cell_of HM5.out 3
      simp only [List.getElem?_toArray, List.getElem?_cons_zero, List.getElem?_cons_succ] at y0 y1 y2 y3 y4 y5 y6 m0 m1 m2 m3
      go_wp2_with (fail)
      refine Calls.mono HC2.out ?_
      rintro e w6 ⟨vr', rs', ls', he, hR6, hP6, hf6, hk6⟩
      obtain ⟨ar', cr', rfl, _, _⟩ := hR6.shape
      subst he
      have HD6 := Lib.hid (HDA.out.step HN5.out HT5.out hR6 hk6 hf6 (by rw [HL5.out]; exact hP6))
      have HF6 := Lib.hid (HFR.out.step (lt_of_block HMA.out) (lt_of_block HM5.out) HT5.out hf6)
      have hm6 := (hk6.block _ (lt_of_block HM5.out)).trans HM5.out
      have HK6 := Lib.hid (HK5.out.trans (hk6.mono HK5.out.size))
      have HM6 := Lib.hid hm6
      clear y0 y1 y2 y3 y4 y5 y6 m0 m1 m2 m3 hR6 hP6 hf6 hk6 hm6 HC1 HC2
      have m0 := And.intro (cell_of HM6.out 0) (unfrozen_of HM6.out 0)
      have m1 := And.intro (cell_of HM6.out 1) (unfrozen_of HM6.out 1)
      have m2 := And.intro (cell_of HM6.out 2) (unfrozen_of HM6.out 2)
      have m3 := And.intro (cell_of HM6.out 3) (unfrozen_of HM6.out 3)
      simp only [List.getElem?_toArray, List.getElem?_cons_zero, List.getElem?_cons_succ] at m0 m1 m2 m3
      generalize hee : (chgS T.ports (TD.Ls ts) ⟨del, r⟩).2 = ee at *
      clear hee
      go_wp2_with (fail)
      have hk7 := kept_set4 w6 M (.slice ap T.ports.length cp) (.slice al T.links.length cl) (.slice aa T.aces.length ca) (.slice ar' ls'.length cr')
      have hM1 : w1.heap.size ≤ M := HM1.out
      go_roundg (gk - 1)
      case measure => omega
      case rel => exact ⟨i + 1, _, ts', rs', ls', by omega, by go_num, set4_block HM6.out _ _ _ _, HD6.out.kept hk7 (fun x hx => (List.mem_singleton.1 hx).symm ▸ HF6.out), HF6.out, by rw [HTK.out, ← HLR.out, ← HL5.out], HK6.out.trans (hk7.below HK6.out.size (fun x hx => (List.mem_singleton.1 hx).symm ▸ hM1))⟩
    · obtain rfl : i = ops.length := by omega
      obtain ⟨ar9, cr9, rfl, _, _⟩ := hD.doc.shape
      rw [List.take_length] at hLs
      have hrb1 : w.heap.size + 1 < w1.heap.size := lt_of_block HZ.out
      have hZr := (hK.block _ hrb1).trans HZ.out
      have HFB := Lib.hid (hD.elder hrb1)
      have HMADE := Lib.hid hLs
      have hMn : w.heap.size + 1 ≠ M := by have := HM1.out; omega
      have hK0 : Kept [w.heap.size + 1] wr wr.drew := (Kept.refl _ _).drew
      have hK1 : Kept [w.heap.size + 1] wr ((((wr.drew.setCell ⟨w.heap.size + 1, 0, none⟩ (.slice ap T.ports.length cp)).setCell ⟨w.heap.size + 1, 1, none⟩ (.slice al T.links.length cl)).setCell ⟨w.heap.size + 1, 2, none⟩ (.slice aa T.aces.length ca)).setCell ⟨w.heap.size + 1, 3, none⟩ (.slice ar9 ls.length cr9)) := ((((hK0.setCell _ _ (by simp)).setCell _ _ (by simp)).setCell _ _ (by simp)).setCell _ _ (by simp))
      have hZ1 : ((((wr.drew.setCell ⟨w.heap.size + 1, 0, none⟩ (.slice ap T.ports.length cp)).setCell ⟨w.heap.size + 1, 1, none⟩ (.slice al T.links.length cl)).setCell ⟨w.heap.size + 1, 2, none⟩ (.slice aa T.aces.length ca)).setCell ⟨w.heap.size + 1, 3, none⟩ (.slice ar9 ls.length cr9)).heap[w.heap.size + 1]? = some (.cells #[.slice ap T.ports.length cp, .slice al T.links.length cl, .slice aa T.aces.length ca, .slice ar9 ls.length cr9] 38 (0, 0)) := set4_block (w := wr.drew) hZr _ _ _ _
      have hM0 : wr.drew.heap[M]? = some (.cells #[.slice ap T.ports.length cp, .slice al T.links.length cl, .slice aa T.aces.length ca, .slice ar9 ls.length cr9] 38 (0, 0)) := hM
      have hM1 : ((((wr.drew.setCell ⟨w.heap.size + 1, 0, none⟩ (.slice ap T.ports.length cp)).setCell ⟨w.heap.size + 1, 1, none⟩ (.slice al T.links.length cl)).setCell ⟨w.heap.size + 1, 2, none⟩ (.slice aa T.aces.length ca)).setCell ⟨w.heap.size + 1, 3, none⟩ (.slice ar9 ls.length cr9)).heap[M]? = some (.cells #[.slice ap T.ports.length cp, .slice al T.links.length cl, .slice aa T.aces.length ca, .slice ar9 ls.length cr9] 38 (0, 0)) := (hK1.block M (lt_of_block hM) (by simpa using Ne.symm hMn)).trans hM
      have HAL : Hid (∀ W, Kept [w.heap.size + 1] wr W → Calls Tryz.prog 75 #[.pointer (some ⟨nb, 0, none⟩), .agg #[.slice ap T.ports.length cp, .slice al T.links.length cl, .slice aa T.aces.length ca, .slice ar9 ls.length cr9]] W fun e w' => e = .returned (.bool true) ∧ Below W.heap.size W w') := Lib.hid (fun W kW => alike_calls (HD.out.kept kW (fun x hx => (List.mem_singleton.1 hx).symm ▸ HFB.out)) (by rw [← HD.out.tlen]; have := HOK.out.1.len; have h2 := HPL.out.2; simp [TD.Ls] at this; omega) (by have := HOK.out.2; rw [HD.out.pair.lens] at this; omega))
      have HFIN : Hid (∀ W, Kept [w.heap.size + 1] wr W → MadePost T ops w (.slice ap T.ports.length cp) (.slice al T.links.length cl) (.slice aa T.aces.length ca) (.returned (.tuple #[.pointer (some ⟨nb, 0, none⟩), .agg #[.slice ap T.ports.length cp, .slice al T.links.length cl, .slice aa T.aces.length ca, .slice ar9 ls.length cr9], .bool true])) W) := Lib.hid (fun W kW => by
        have hd := HD.out.kept kW (fun x hx => (List.mem_singleton.1 hx).symm ▸ HFB.out)
        have hk : Below w.heap.size w W := (HK.out.trans (HKR.out.mono HK.out.size)).trans (kW.below (Nat.le_trans HK.out.size HKR.out.size) (fun x hx => by rw [List.mem_singleton.1 hx]; omega))
        exact ⟨nb, vt, _, ts, rs, ls, rfl, hd.low_ (hd.net.low HK.out.size) (hd.doc.low HK.out.size), HMADE.out, hk⟩)
      have HFIN0 : Hid (∀ w7, Below wr.drew.heap.size wr.drew w7 → MadePost T ops w (.slice ap T.ports.length cp) (.slice al T.links.length cl) (.slice aa T.aces.length ca) (.returned (.tuple #[.pointer (some ⟨nb, 0, none⟩), .agg #[.slice ap T.ports.length cp, .slice al T.links.length cl, .slice aa T.aces.length ca, .slice ar9 ls.length cr9], .bool true])) (set4 w7 (w.heap.size + 1) (.slice ap T.ports.length cp) (.slice al T.links.length cl) (.slice aa T.aces.length ca) (.slice ar9 ls.length cr9))) := Lib.hid (fun w7 k7 => HFIN.out _ ((hK0.trans (Kept.of_below (S := [w.heap.size + 1]) k7) (fun x hx => Or.inl hx)).trans (kept_set4 _ _ _ _ _ _) (fun x hx => Or.inl hx)))
      have HFIN1 : Hid (∀ w7, Below ((((wr.drew.setCell ⟨w.heap.size + 1, 0, none⟩ (.slice ap T.ports.length cp)).setCell ⟨w.heap.size + 1, 1, none⟩ (.slice al T.links.length cl)).setCell ⟨w.heap.size + 1, 2, none⟩ (.slice aa T.aces.length ca)).setCell ⟨w.heap.size + 1, 3, none⟩ (.slice ar9 ls.length cr9)).heap.size ((((wr.drew.setCell ⟨w.heap.size + 1, 0, none⟩ (.slice ap T.ports.length cp)).setCell ⟨w.heap.size + 1, 1, none⟩ (.slice al T.links.length cl)).setCell ⟨w.heap.size + 1, 2, none⟩ (.slice aa T.aces.length ca)).setCell ⟨w.heap.size + 1, 3, none⟩ (.slice ar9 ls.length cr9)) w7 → MadePost T ops w (.slice ap T.ports.length cp) (.slice al T.links.length cl) (.slice aa T.aces.length ca) (.returned (.tuple #[.pointer (some ⟨nb, 0, none⟩), .agg #[.slice ap T.ports.length cp, .slice al T.links.length cl, .slice aa T.aces.length ca, .slice ar9 ls.length cr9], .bool true])) w7) := Lib.hid (fun w7 k7 => HFIN.out _ (hK1.trans (Kept.of_below (S := [w.heap.size + 1]) k7) (fun x hx => Or.inl hx)))
      have HK0 := Lib.hid (And.intro hK0 (And.intro hM0 hZr))
      have HK1 := Lib.hid (And.intro hK1 (And.intro hM1 hZ1))
      have m0 := cell_of hM 0
      have m1 := cell_of hM 1
      have m2 := cell_of hM 2
      have m3 := cell_of hM 3
      have x0 := And.intro (cell_of hZr 0) (unfrozen_of hZr 0)
      have x1 := And.intro (cell_of hZr 1) (unfrozen_of hZr 1)
      have x2 := And.intro (cell_of hZr 2) (unfrozen_of hZr 2)
      have x3 := And.intro (cell_of hZr 3) (unfrozen_of hZr 3)
      have n0 := cell_of hM1 0
      have n1 := cell_of hM1 1
      have n2 := cell_of hM1 2
      have n3 := cell_of hM1 3
      simp only [List.getElem?_toArray, List.getElem?_cons_zero, List.getElem?_cons_succ] at m0 m1 m2 m3 x0 x1 x2 x3 n0 n1 n2 n3
      clear hM hD hFM hLs hK hZr hK0 hK1 hZ1 hM0 hM1 hrb1
      go_upto_region 14 with (fail)
      go_region_law (first | (go_simp; go_at_call 75; refine Calls.mono (HAL.out _ HK0.out.1) ?_; rintro e w7 ⟨he, k7⟩; subst he; have hm7 := (k7.block _ (lt_of_block HK0.out.2.1)).trans HK0.out.2.1; have hz7 := (k7.block _ (lt_of_block HK0.out.2.2)).trans HK0.out.2.2; have p0 := cell_of hm7 0; have p1 := cell_of hm7 1; have p2 := cell_of hm7 2; have p3 := cell_of hm7 3; have q0 := And.intro (cell_of hz7 0) (unfrozen_of hz7 0); have q1 := And.intro (cell_of hz7 1) (unfrozen_of hz7 1); have q2 := And.intro (cell_of hz7 2) (unfrozen_of hz7 2); have q3 := And.intro (cell_of hz7 3) (unfrozen_of hz7 3); simp only [List.getElem?_toArray, List.getElem?_cons_zero, List.getElem?_cons_succ] at p0 p1 p2 p3 q0 q1 q2 q3; have HK7 := Lib.hid k7; clear hm7 hz7 k7) | (go_simp; go_at_call 75; refine Calls.mono (HAL.out _ HK1.out.1) ?_; rintro e w7 ⟨he, k7⟩; subst he; have hm7 := (k7.block _ (lt_of_block HK1.out.2.1)).trans HK1.out.2.1; have hz7 := (k7.block _ (lt_of_block HK1.out.2.2)).trans HK1.out.2.2; have p0 := cell_of hm7 0; have p1 := cell_of hm7 1; have p2 := cell_of hm7 2; have p3 := cell_of hm7 3; have q0 := And.intro (cell_of hz7 0) (unfrozen_of hz7 0); have q1 := And.intro (cell_of hz7 1) (unfrozen_of hz7 1); have q2 := And.intro (cell_of hz7 2) (unfrozen_of hz7 2); have q3 := And.intro (cell_of hz7 3) (unfrozen_of hz7 3); simp only [List.getElem?_toArray, List.getElem?_cons_zero, List.getElem?_cons_succ] at p0 p1 p2 p3 q0 q1 q2 q3; have HK7 := Lib.hid k7; clear hm7 hz7 k7))
      all_goals
        go_wp2_with (fail)
        first
          | exact bodyPost_ret (v := (.tuple #[.pointer (some ⟨nb, 0, none⟩), .agg #[.slice ap T.ports.length cp, .slice al T.links.length cl, .slice aa T.aces.length ca, .slice ar9 ls.length cr9], .bool true])) (by simp [results, Tryz.results18, go_sem, q0, q1, q2, q3]) rfl (HFIN0.out _ HK7.out)
          | exact bodyPost_ret (v := (.tuple #[.pointer (some ⟨nb, 0, none⟩), .agg #[.slice ap T.ports.length cp, .slice al T.links.length cl, .slice aa T.aces.length ca, .slice ar9 ls.length cr9], .bool true])) (by simp [results, Tryz.results18, go_sem, q0, q1, q2, q3]) rfl (HFIN1.out _ HK7.out)
end Go.Proofs.YtjoblahedgpgbaaGreat
