/- A way through the document's net: the walk. -/
import Derived.Test.YtiedhjmnjpkcoaaTraceW
namespace Go.Proofs.Ytiedhjmnjpkcoaa
set_option linter.unusedVariables false
set_option linter.unusedSimpArgs false
open Go.RowKit

theorem three_new (w : World) (a b c : Obj) : (((w.alloc a).alloc b).alloc c).heap[w.heap.size]? = some a ∧ (((w.alloc a).alloc b).alloc c).heap[w.heap.size + 1]? = some b ∧ (((w.alloc a).alloc b).alloc c).heap[w.heap.size + 1 + 1]? = some c ∧ Below w.heap.size w (((w.alloc a).alloc b).alloc c) := by
  have e1 : (w.alloc a).heap.size = w.heap.size + 1 := by simp
  have e2 : ((w.alloc a).alloc b).heap.size = w.heap.size + 1 + 1 := by simp
  have h2 := heap_alloc_new (w.alloc a) b
  have h3 := heap_alloc_new ((w.alloc a).alloc b) c
  rw [e1] at h2
  rw [e2] at h3
  exact ⟨blk_alloc (blk_alloc (heap_alloc_new w a) b) c, blk_alloc h2 c, h3, (((Below.refl w.heap.size w).alloc (Nat.le_refl _) _).alloc (by omega) _).alloc (by omega) _⟩
def RTracePost (T : Tp) (ls : List (List Rl)) (hv : Hv) (d : Nat) (w : World) (e : Ending) (w' : World) : Prop :=
  ∃ vw, e = .returned (.tuple #[vw, .agg #[.int .i64 (wayS T ls hv (T.ports.length + 1) [] d).2.kind, .int .i64 (wayS T ls hv (T.ports.length + 1) [] d).2.dev, .int .i64 (wayS T ls hv (T.ports.length + 1) [] d).2.port]]) ∧
    w'.ownsRow w.heap.size 3 1 vw (wayS T ls hv (T.ports.length + 1) [] d).1.length ((wayS T ls hv (T.ports.length + 1) [] d).1.map i64v) ∧ Below w.heap.size w w'

variable {w : World} {B B0 : Nat} {vp vl va vr : Value} {rs : List Value} {ls : List (List Rl)} {T : Tp}
set_option maxRecDepth 100000 in
set_option maxHeartbeats 16000000 in
theorem rtrace_calls (hR : RNetAt w B vr rs ls) (hlen : ls.length = T.ports.length) (hrok : ∀ l ∈ ls, (∀ r ∈ l, r.Ok) ∧ l.length < 1000000) (hT : TpIn B0 w vp vl va T) (hB0 : B0 ≤ w.heap.size) (hF : Fine T) (d : Nat) (hd : d < T.ports.length) (hv : Hv) (hh : hv.Wf) :
    Calls Try.prog 46 #[.agg #[vp, vl, va, vr], .int .i64 (d : Int), hv.val] w fun e w' => RTracePost T ls hv d w e w' := by
  obtain ⟨i0, hi, hz0, hz1, hz2⟩ := info_parts int_inf3
  have HSI : Hid (∀ x : Int, (stepS T ls hv x).2.2 = true → ∃ y : Nat, (stepS T ls hv x).1 = y ∧ y < T.ports.length) := Lib.hid (fun x hx => by
    have := step_in hF.parts.1 hx
    exact ⟨(stepS T ls hv x).1.toNat, by omega, by omega⟩)
  have HCR := Lib.hid (fun W (kW : Below w.heap.size w W) (x : Nat) o => rcross_calls (hT.kept (kW.mono hB0)) (Nat.le_trans hB0 kW.size) hF.small.2.1 hF.small.2.2 hF.parts.2 (x : Int) o hv hh)
  have HROK := Lib.hid hrok
  have hn40 := hF.small.1
  obtain ⟨ap, cp, rfl, _⟩ := hT.ports
  obtain ⟨al, cl, rfl, _⟩ := hT.links
  obtain ⟨aa, ca, rfl, _⟩ := hT.aces
  obtain ⟨ar, cr, rfl, _, har⟩ := hR.shape
  have HR := Lib.hid hR
  have HLEN := Lib.hid hlen
  have hdst := hh.dst
  obtain ⟨res, hres⟩ : ∃ res, res = wayS T ls hv (T.ports.length + 1) [] d := ⟨_, rfl⟩
  unfold RTracePost
  rw [← hres]
  have HRES := Lib.hid hres
  have H3 := Lib.hid (three_new w (.cells #[.slice ap T.ports.length cp, .slice al T.links.length cl, .slice aa T.aces.length ca, .slice ar ls.length cr] 69) (.cells #[.int .u32 (hv.dst : Int), .int .u32 (hv.src : Int), .int .u8 (hv.proto : Int), .int .u16 (hv.sport : Int), .int .u16 (hv.dport : Int)] 89) (.cells #[.int .i64 0, .int .i64 0, .int .i64 0] 94))
  clear hR hlen hrok hT hF hres har hB0
  unfold Hv.val at *
  go_enter Try.func46, Try.ntmps46
  go_upto_region 1 with (fail)
  generalize ((w.alloc (.cells #[.slice ap T.ports.length cp, .slice al T.links.length cl, .slice aa T.aces.length ca, .slice ar ls.length cr] 69)).alloc (.cells #[.int .u32 (hv.dst : Int), .int .u32 (hv.src : Int), .int .u8 (hv.proto : Int), .int .u16 (hv.sport : Int), .int .u16 (hv.dport : Int)] 89)).alloc (.cells #[.int .i64 0, .int .i64 0, .int .i64 0] 94) = w1 at *
  go_wp2_with (fail)
  go_loopg [1, 8] (T.ports.length + 1) (fun gk vd vw wr => ∃ (way : List Int) (x : Nat), gk + way.length = T.ports.length + 1 ∧ vd = .int .i64 (x : Int) ∧ x < T.ports.length ∧ way.Nodup ∧ (∀ y ∈ way, InD T y) ∧ wr.ownsRow (w.heap.size + 1 + 1 + 1) 3 1 vw way.length (way.map i64v) ∧ res = wayS T ls hv gk way x ∧ Below w.heap.size w wr ∧ (wr.heap[w.heap.size]? = some (.cells #[.slice ap T.ports.length cp, .slice al T.links.length cl, .slice aa T.aces.length ca, .slice ar ls.length cr] 69 (0, 0)) ∧ wr.heap[w.heap.size + 1]? = some (.cells #[.int .u32 (hv.dst : Int), .int .u32 (hv.src : Int), .int .u8 (hv.proto : Int), .int .u16 (hv.sport : Int), .int .u16 (hv.dport : Int)] 89 (0, 0)) ∧ wr.heap[w.heap.size + 1 + 1]? = some (.cells #[.int .i64 0, .int .i64 0, .int .i64 0] 94 (0, 0))))
  case atStart => exact ⟨[], d, by simp, rfl, hd, List.nodup_nil, by simp, World.ownsRow_nil _ _ _ _, HRES.out, H3.out.2.2.2, H3.out.1, H3.out.2.1, H3.out.2.2.1⟩
  case round =>
    obtain ⟨way, x, hgk, rfl, hx, hnd, hin, how, hr, hK, hX⟩ := hrel
    have hwl := few T.ports.length way hnd hin
    obtain ⟨gk, rfl⟩ : ∃ g, gk = g + 1 := ⟨gk - 1, by omega⟩
    unfold wayS at hr
    have HW := Lib.hid how
    have HKR := Lib.hid hK
    have HXR := Lib.hid hX
    have HND := Lib.hid (And.intro hnd hin)
    have HXI := Lib.hid hx
    have HRR := Lib.hid hr
    obtain ⟨aw, cw, rfl, haw⟩ : ∃ aw cw, u8 = .slice aw way.length cw ∧ ∀ i, i < way.length → ∃ g, aw = some ⟨g, 0, none⟩ := by
      rcases how.2 with ⟨h0, h1⟩ | ⟨g', cap', cur, h0, _⟩
      · exact ⟨none, 0, by rw [h0, h1], fun i hi => by omega⟩
      · exact ⟨_, cap', h0, fun i _ => ⟨g', rfl⟩⟩
    have HAW := Lib.hid haw
    clear how hK hX hnd hin hr haw
    generalize gk = gko at *
    go_wp2_with (fail)
    go_loopg [9] way.length (fun gk vi wz => ∃ i : Nat, i + gk = way.length ∧ vi = .int .i64 (i : Int) ∧ (x : Int) ∉ way.take i ∧ wz = wr)
    case atStart => exact ⟨0, by omega, rfl, by simp, rfl⟩
    case round =>
      obtain ⟨i, hgk2, rfl, hni, rfl⟩ := hrel
      have HNI := Lib.hid hni
      clear hni
      by_cases hil : i < way.length
      · obtain ⟨g, rfl⟩ := HAW.out i hil
        have d0 := HW.out.cellAt (i * 1) (by omega)
        rw [Nat.mul_one, List.getElem?_map, List.getElem?_eq_getElem hil] at d0
        simp only [Option.map_some, i64v] at d0
        have HTK : Hid (way.take (i + 1) = way.take i ++ [way[i]]) := Lib.hid (by rw [List.take_add_one, List.getElem?_eq_getElem hil]; rfl)
        have HME : Hid (way[i] ∈ way) := Lib.hid (List.getElem_mem hil)
        generalize way[i] = wi at *
        by_cases he : wi = (x : Int)
        · subst he
          have hr := HRR.out
          rw [if_pos HME.out] at hr
          subst hr
          have e0 := And.intro (cell_of HXR.out.2.2 0) (unfrozen_of HXR.out.2.2 0)
          have e1 := And.intro (cell_of HXR.out.2.2 1) (unfrozen_of HXR.out.2.2 1)
          have e2 := And.intro (cell_of HXR.out.2.2 2) (unfrozen_of HXR.out.2.2 2)
          simp only [List.getElem?_toArray, List.getElem?_cons_zero, List.getElem?_cons_succ] at e0 e1 e2
          go_wp2_with (fail)
          have hk := kept_set3 wr (w.heap.size + 1 + 1) (.int .i64 0) (.int .i64 (x : Int)) (.int .i64 (-1))
          exact bodyPost_ret (v := .tuple #[.slice (some ⟨g, 0, none⟩) way.length cw, .agg #[.int .i64 0, .int .i64 (x : Int), .int .i64 (-1)]]) (by simp [results, Try.results46, go_sem, e0, e1, e2]) rfl ⟨_, rfl, (own_kept HW.out hk (fun g hg hc => by have := own_past HW.out g hg; have := List.mem_singleton.1 hc; omega)).mono (by omega), HKR.out.trans (hk.below HKR.out.size (by simp; omega))⟩
        · have hne : (wi == (x : Int)) = false := beq_eq_false_iff_ne.2 he
          have HNE := Lib.hid he
          clear he
          go_wp2_with (fail)
          go_roundg (gk - 1)
          case measure => omega
          case rel =>
            refine ⟨i + 1, by omega, by go_num, fun hm => ?_, rfl⟩
            rw [HTK.out] at hm
            rcases List.mem_append.1 hm with hm | hm
            · exact HNI.out hm
            · exact HNE.out (List.mem_singleton.1 hm).symm
      · obtain rfl : i = way.length := by omega
        have hm := HNI.out
        rw [List.take_length] at hm
        have hr := HRR.out
        rw [if_neg hm] at hr
        have HM := Lib.hid hm
        have HR2 := Lib.hid hr
        clear hm hr HNI
        have hz3 := HKR.out.size
        have hz4 := lt_of_block HXR.out.2.2
        go_upto_region 8 with (at_builtin; go_must (refine wpList_append_lies _ rfl (.tmp 30) (.tmp 32) 60 rfl (w.heap.size + 1 + 1 + 1) 3 i0 _ 1 8 Try.underlying60 hi hz0 hz1 hz2 rfl (by decide) (.slice aw way.length cw) way.length (way.map i64v) rfl ?_ ⟨wr.heap.size, 0, none⟩ 1 1 [.int .i64 (x : Int)] rfl rfl ?_ ?_ (by omega) ?_ ?_ ?_ _ rfl ?_); (· exact own_kept HW.out ((Kept.refl [] _).alloc _) (by simp)); (· exact news_at (by simp)); (· simp [Value.oneCell']); (· unfold maxLen; omega); (· omega); (· simp; omega); intro g9 cap9 w9 how9 hgr9 hat9 hlt9; have HOW9 := Lib.hid how9; have HGR9 := Lib.hid hgr9; clear how9 hgr9 hat9 hlt9)
        have hx9 : ∀ (y : Nat) (o : Obj), y < w.heap.size + 1 + 1 + 1 → wr.heap[y]? = some o → w9.heap[y]? = some o := fun y o hy ho => (HGR9.out.block y (by have := lt_of_block ho; simp; omega) (fun e => by have := own_past HW.out y e.symm; omega)).trans (blk_alloc ho _)
        have hX9 := And.intro (hx9 w.heap.size _ (by omega) HXR.out.1) (And.intro (hx9 (w.heap.size + 1) _ (by omega) HXR.out.2.1) (hx9 (w.heap.size + 1 + 1) _ (by omega) HXR.out.2.2))
        have hk9 : Kept (Value.slice aw way.length cw).ownBlock.toList wr w9 := ((Kept.refl _ wr).alloc (.cells #[.int .i64 (x : Int)] 3)).grown_row (show (wr.alloc (.cells #[.int .i64 (x : Int)] 3)).grownBy w9 (Value.slice aw way.length cw).ownBlock from HGR9.out) (fun k e => Or.inl (by rw [e]; simp))
        have HK9 := Lib.hid (HKR.out.trans (hk9.below HKR.out.size (fun y hy => by have := own_past HW.out y (Option.mem_toList.1 hy); omega)))
        have HW9 : Hid (w9.ownsRow (w.heap.size + 1 + 1 + 1) 3 1 (.slice (some ⟨g9, 0, none⟩) (way.length + 1) cap9) (way ++ [(x : Int)]).length ((way ++ [(x : Int)]).map i64v)) := Lib.hid (by
          rw [List.length_append, List.map_append]
          exact HOW9.out)
        have HXX := Lib.hid hX9
        clear hx9 hX9 hk9 HOW9 HGR9 hz3 hz4
        have hxl : x < ls.length := by have := HLEN.out; omega
        have hdoc := HR.out.below HK9.out
        obtain ⟨g, capz, aoz, cz, he, e0, hrsi, hO, haz⟩ := hdoc.rowAt hxl
        cases he
        obtain ⟨hrk, hrl⟩ := HROK.out _ (List.getElem_mem hxl)
        have hsv : stepS T ls hv (x : Int) = _ := rfl
        unfold stepS at hsv
        rw [Int.toNat_natCast, getElem!_pos ls x hxl] at hsv
        obtain ⟨sv, hsv2⟩ : ∃ sv, sv = stepS T ls hv (x : Int) := ⟨_, rfl⟩
        have HSV : Hid (sv = match (ls[x]).find? (hasR hv.dst) with
          | none => (0, ⟨1, (x : Int), -1⟩, false)
          | some r => if r.out < 0 then (0, ⟨2, (x : Int), -1⟩, false) else outS T hv (x : Int) r.out) := Lib.hid (by
          rw [hsv2]
          unfold stepS
          rw [Int.toNat_natCast, getElem!_pos ls x hxl]
          cases (ls[x]).find? (hasR hv.dst) <;> rfl)
        have hsi := HSI.out x
        have hr := HR2.out
        rw [← hsv2] at hr hsi
        have HR4 := Lib.hid hr
        have HSI2 := Lib.hid hsi
        have HO := Lib.hid hO
        have HRK := Lib.hid hrk
        have hxi : (x : Int) < (ls.length : Int) := by omega
        generalize ls[x] = l at *
        clear hdoc hrsi hO haz hsv hsv2 hr hsi HR2 hrk
        have HCELL : Hid (∀ X, Below w9.heap.size w9 X → X.cell? ⟨w.heap.size, 3, none⟩ = some (.slice (some ⟨g, 0, none⟩) ls.length cr) ∧ X.cell? ⟨g, x, none⟩ = some (.slice aoz l.length cz) ∧ X.cell? ⟨w.heap.size + 1, 0, none⟩ = some (.int .u32 (hv.dst : Int))) := Lib.hid (fun X kX => by
          have hm := (kX.block _ (lt_of_block HXX.out.1)).trans HXX.out.1
          have hh2 := (kX.block _ (lt_of_block HXX.out.2.1)).trans HXX.out.2.1
          exact ⟨cell_of hm 3, (Kept.of_below (S := []) kX).cell e0 (by simp), cell_of hh2 0⟩)
        obtain ⟨rv, hrv⟩ : ∃ rv, rv = (l.find? (hasR hv.dst)).getD noRule := ⟨_, rfl⟩
        obtain ⟨bv, hbv⟩ : ∃ bv, bv = (l.find? (hasR hv.dst)).isSome := ⟨_, rfl⟩
        have HBEST : Hid (∀ X, Below w9.heap.size w9 X → Calls Try.prog 30 #[.slice aoz l.length cz, .int .u32 (hv.dst : Int)] X fun e w' => e = .returned (.tuple #[.agg #[.int .i64 rv.id, .int .i64 rv.dev, .int .u32 (rv.addr : Int), .int .i64 rv.bits, .int .i64 rv.prio, .int .i64 rv.out], .bool bv]) ∧ Below X.heap.size X w') := Lib.hid (fun X kX => (rbest_calls (own_kept HO.out (Kept.of_below (S := []) kX) (by simp)) HRK.out hrl hv.dst hdst).mono (by
          rintro e w' ⟨he, k⟩
          rw [← hrv, ← hbv] at he
          exact ⟨he, k⟩))
        have HRV := Lib.hid hrv
        have HBV := Lib.hid hbv
        clear hrv hbv e0
        have hBW := (Below.refl w9.heap.size w9).drew
        have hBZ0 := (Below.refl w9.heap.size w9).alloc (Nat.le_refl _) (.cells #[.int .i64 0, .int .i64 0, .int .u32 0, .int .i64 0, .int .i64 0, .int .i64 0] 26)
        have hBZ : Below w9.heap.size w9 (w9.alloc (.cells #[.int .i64 0, .int .i64 0, .int .u32 0, .int .i64 0, .int .i64 0, .int .i64 0] 26)).drew := hBZ0.drew
        have hS := HCELL.out _ (Below.refl _ _)
        have hS2 := HCELL.out _ hBZ0
        have HZN := Lib.hid (heap_alloc_new w9 (.cells #[.int .i64 0, .int .i64 0, .int .u32 0, .int .i64 0, .int .i64 0, .int .i64 0] 26))
        clear hBZ0
        refine (have KEY : ∀ (rb : Nat) (wq : World), RBox w9 wq rb rv → (?PP : Nat → World → Prop) rb wq := ?hkey; ?main)
        case main =>
          go_region_law (first | (go_simp; go_at_call 30; with_reducible refine Calls.mono (HBEST.out w9.drew hBW) ?_; rintro e w5z ⟨he, hB5⟩; subst he; have hz := heap_alloc_new w5z (.cells #[.int .i64 0, .int .i64 0, .int .u32 0, .int .i64 0, .int .i64 0, .int .i64 0] 26); have b0 := And.intro (cell_of hz 0) (unfrozen_of hz 0); have b1 := And.intro (cell_of hz 1) (unfrozen_of hz 1); have b2 := And.intro (cell_of hz 2) (unfrozen_of hz 2); have b3 := And.intro (cell_of hz 3) (unfrozen_of hz 3); have b4 := And.intro (cell_of hz 4) (unfrozen_of hz 4); have b5 := And.intro (cell_of hz 5) (unfrozen_of hz 5); simp only [List.getElem?_toArray, List.getElem?_cons_zero, List.getElem?_cons_succ] at b0 b1 b2 b3 b4 b5; have hb6 := hBW.trans (hB5.mono hBW.size); have hrb := RBox.new (r := rv) hb6; have HRB := Lib.hid hrb; clear hB5 hz hb6 hrb) | (go_simp; go_at_call 30; refine Calls.mono (HBEST.out _ hBZ) ?_; rintro e w5z ⟨he, hB5⟩; subst he; have hz : w5z.heap[w9.heap.size]? = some (.cells #[.int .i64 0, .int .i64 0, .int .u32 0, .int .i64 0, .int .i64 0, .int .i64 0] 26 (0, 0)) := (hB5.block w9.heap.size (lt_of_block HZN.out)).trans HZN.out; have b0 := And.intro (cell_of hz 0) (unfrozen_of hz 0); have b1 := And.intro (cell_of hz 1) (unfrozen_of hz 1); have b2 := And.intro (cell_of hz 2) (unfrozen_of hz 2); have b3 := And.intro (cell_of hz 3) (unfrozen_of hz 3); have b4 := And.intro (cell_of hz 4) (unfrozen_of hz 4); have b5 := And.intro (cell_of hz 5) (unfrozen_of hz 5); simp only [List.getElem?_toArray, List.getElem?_cons_zero, List.getElem?_cons_succ] at b0 b1 b2 b3 b4 b5; have hb6 := hBZ.trans (hB5.mono hBZ.size); have hrb := RBox.mk6 (r := rv) hz hb6 (Nat.le_refl _); unfold set6 at hrb; have HRB := Lib.hid hrb; clear hB5 hz hb6 hrb))
          all_goals
            go_simp
            first
              | (have hrb : RBox w9 (w5z.alloc (.cells #[.int .i64 rv.id, .int .i64 rv.dev, .int .u32 (rv.addr : Int), .int .i64 rv.bits, .int .i64 rv.prio, .int .i64 rv.out] 26)) w5z.heap.size rv := by with_reducible exact HRB.out
                 clear HRB
                 revert hrb
                 generalize w5z.alloc (.cells #[.int .i64 rv.id, .int .i64 rv.dev, .int .u32 (rv.addr : Int), .int .i64 rv.bits, .int .i64 rv.prio, .int .i64 rv.out] 26) = wq
                 generalize w5z.heap.size = rb
                 intro hrb
                 exact KEY rb wq hrb)
              | (have hrb : RBox w9 ((((((w5z.setCell ⟨w9.heap.size, 0, none⟩ (.int .i64 rv.id)).setCell ⟨w9.heap.size, 1, none⟩ (.int .i64 rv.dev)).setCell ⟨w9.heap.size, 2, none⟩ (.int .u32 (rv.addr : Int))).setCell ⟨w9.heap.size, 3, none⟩ (.int .i64 rv.bits)).setCell ⟨w9.heap.size, 4, none⟩ (.int .i64 rv.prio)).setCell ⟨w9.heap.size, 5, none⟩ (.int .i64 rv.out)) w9.heap.size rv := by with_reducible exact HRB.out
                 clear HRB
                 revert hrb
                 generalize ((((((w5z.setCell ⟨w9.heap.size, 0, none⟩ (.int .i64 rv.id)).setCell ⟨w9.heap.size, 1, none⟩ (.int .i64 rv.dev)).setCell ⟨w9.heap.size, 2, none⟩ (.int .u32 (rv.addr : Int))).setCell ⟨w9.heap.size, 3, none⟩ (.int .i64 rv.bits)).setCell ⟨w9.heap.size, 4, none⟩ (.int .i64 rv.prio)).setCell ⟨w9.heap.size, 5, none⟩ (.int .i64 rv.out)) = wq
                 generalize w9.heap.size = rb
                 intro hrb
                 exact KEY rb wq hrb)
        case hkey =>
          intro rb wq hq
          obtain ⟨hrb, hkq⟩ := hq
          have HRB := Lib.hid hrb
          have HKQ := Lib.hid (HK9.out.trans (hkq.mono HK9.out.size))
          have HXQ := Lib.hid (And.intro ((hkq.block _ (lt_of_block HXX.out.1)).trans HXX.out.1) (And.intro ((hkq.block _ (lt_of_block HXX.out.2.1)).trans HXX.out.2.1) ((hkq.block _ (lt_of_block HXX.out.2.2)).trans HXX.out.2.2)))
          have HWQ := Lib.hid (own_kept HW9.out (Kept.of_below (S := []) hkq) (by simp))
          clear hrb hkq hS hS2 hBW hBZ HBEST HCELL
          cases hfo : l.find? (hasR hv.dst) with
          | none =>
            have hsv := HSV.out
            rw [hfo] at hsv
            simp only at hsv
            have hr := HR4.out
            rw [hsv] at hr
            simp only at hr
            rw [if_neg (by simp)] at hr
            subst hr
            obtain rfl : bv = false := by rw [HBV.out, hfo]; rfl
            clear hfo hsv
            have e0 := And.intro (cell_of HXQ.out.2.2 0) (unfrozen_of HXQ.out.2.2 0)
            have e1 := And.intro (cell_of HXQ.out.2.2 1) (unfrozen_of HXQ.out.2.2 1)
            have e2 := And.intro (cell_of HXQ.out.2.2 2) (unfrozen_of HXQ.out.2.2 2)
            simp only [List.getElem?_toArray, List.getElem?_cons_zero, List.getElem?_cons_succ] at e0 e1 e2
            go_wp2_with (fail)
            have hk : Kept [w.heap.size + 1 + 1] wq (set3 wq (w.heap.size + 1 + 1) (.int .i64 1) (.int .i64 (x : Int)) (.int .i64 (-1))) := kept_set3 wq (w.heap.size + 1 + 1) (.int .i64 1) (.int .i64 (x : Int)) (.int .i64 (-1))
            have hfin : (set3 wq (w.heap.size + 1 + 1) (.int .i64 1) (.int .i64 (x : Int)) (.int .i64 (-1))).ownsRow w.heap.size 3 1 (.slice (some ⟨g9, 0, none⟩) (way.length + 1) cap9) (way.length + 1) (way.map i64v ++ [i64v (x : Int)]) := by
              have h1 := (own_kept HWQ.out hk (fun g hg hc => by have := own_past HWQ.out g hg; have := List.mem_singleton.1 hc; omega)).mono (show w.heap.size ≤ w.heap.size + 1 + 1 + 1 by omega)
              simpa using h1
            exact bodyPost_ret (v := .tuple #[.slice (some ⟨g9, 0, none⟩) (way.length + 1) cap9, .agg #[.int .i64 1, .int .i64 (x : Int), .int .i64 (-1)]]) (by simp [results, Try.results46, go_sem, e0, e1, e2]) rfl ⟨_, rfl, hfin, HKQ.out.trans (hk.below HKQ.out.size (by simp; omega))⟩
          | some r =>
            have hsv := HSV.out
            rw [hfo] at hsv
            simp only at hsv
            obtain rfl : bv = true := by rw [HBV.out, hfo]; rfl
            obtain rfl : rv = r := by rw [HRV.out, hfo]; rfl
            have r5 := cell_of HRB.out 5
            simp only [List.getElem?_toArray, List.getElem?_cons_zero, List.getElem?_cons_succ] at r5
            obtain ⟨rout, hro⟩ : ∃ rout, rout = rv.out := ⟨_, rfl⟩
            rw [← hro] at hsv r5
            have hrbo := HRB.out
            rw [← hro] at hrbo
            have HRB2 := Lib.hid hrbo
            clear hfo hro hrbo
            have e0 := And.intro (cell_of HXQ.out.2.2 0) (unfrozen_of HXQ.out.2.2 0)
            have e1 := And.intro (cell_of HXQ.out.2.2 1) (unfrozen_of HXQ.out.2.2 1)
            have e2 := And.intro (cell_of HXQ.out.2.2 2) (unfrozen_of HXQ.out.2.2 2)
            simp only [List.getElem?_toArray, List.getElem?_cons_zero, List.getElem?_cons_succ] at e0 e1 e2
            by_cases h1 : rout < 0
            · rw [if_pos h1] at hsv
              have hr := HR4.out
              rw [hsv] at hr
              simp only at hr
              rw [if_neg (by simp)] at hr
              subst hr
              have h1' : decide (rout < 0) = true := decide_eq_true h1
              clear h1 hsv
              go_wp2_with (fail)
              have hk : Kept [w.heap.size + 1 + 1] wq (set3 wq (w.heap.size + 1 + 1) (.int .i64 2) (.int .i64 (x : Int)) (.int .i64 (-1))) := kept_set3 wq (w.heap.size + 1 + 1) (.int .i64 2) (.int .i64 (x : Int)) (.int .i64 (-1))
              have hfin : (set3 wq (w.heap.size + 1 + 1) (.int .i64 2) (.int .i64 (x : Int)) (.int .i64 (-1))).ownsRow w.heap.size 3 1 (.slice (some ⟨g9, 0, none⟩) (way.length + 1) cap9) (way.length + 1) (way.map i64v ++ [i64v (x : Int)]) := by
                have h1 := (own_kept HWQ.out hk (fun g hg hc => by have := own_past HWQ.out g hg; have := List.mem_singleton.1 hc; omega)).mono (show w.heap.size ≤ w.heap.size + 1 + 1 + 1 by omega)
                simpa using h1
              exact bodyPost_ret (v := .tuple #[.slice (some ⟨g9, 0, none⟩) (way.length + 1) cap9, .agg #[.int .i64 2, .int .i64 (x : Int), .int .i64 (-1)]]) (by simp [results, Try.results46, go_sem, e0, e1, e2]) rfl ⟨_, rfl, hfin, HKQ.out.trans (hk.below HKQ.out.size (by simp; omega))⟩
            · rw [if_neg h1] at hsv
              have h1' : decide (rout < 0) = false := decide_eq_false h1
              obtain ⟨c1, c2, c3, hcx⟩ : ∃ c1 c2 c3, crossT T (x : Int) rout hv = (c1, c2, c3) := ⟨_, _, _, rfl⟩
              have HEX : Hid (c2 = true → c3 = false) := Lib.hid (fun e => by
                have h2 := hcx
                unfold crossT at h2
                split at h2
                · injection h2 with _ h3
                  injection h3 with h4 h5
                  exact h5.symm
                · split at h2
                  · injection h2 with _ h3
                    injection h3 with h4 h5
                    exact h5.symm
                  · split at h2
                    · injection h2 with _ h3
                      injection h3 with h4 h5
                      exact h5.symm
                    · injection h2 with _ h3
                      injection h3 with h4 h5
                      rw [← h4] at e
                      cases e)
              have hcall := HCR.out wq HKQ.out x rout
              rw [hcx] at hcall
              unfold outS at hsv
              rw [hcx] at hsv
              simp only at hsv hcall
              have HCALL := Lib.hid hcall
              have HSV2 := Lib.hid hsv
              have m0 := cell_of HXQ.out.1 0
              have m1 := cell_of HXQ.out.1 1
              have m2 := cell_of HXQ.out.1 2
              have x0 := cell_of HXQ.out.2.1 0
              have x1 := cell_of HXQ.out.2.1 1
              have x2 := cell_of HXQ.out.2.1 2
              have x3 := cell_of HXQ.out.2.1 3
              have x4 := cell_of HXQ.out.2.1 4
              simp only [List.getElem?_toArray, List.getElem?_cons_zero, List.getElem?_cons_succ] at m0 m1 m2 x0 x1 x2 x3 x4
              clear h1 hcx hsv hcall
              go_wp2_with (fail)
              refine Calls.mono HCALL.out ?_
              rintro e w7 ⟨he, k7⟩
              subst he
              have HK7 := Lib.hid (HKQ.out.trans (k7.mono HKQ.out.size))
              have HW7 := Lib.hid (own_kept HWQ.out (Kept.of_below (S := []) k7) (by simp))
              have HX7 := Lib.hid (And.intro ((k7.block _ (lt_of_block HXQ.out.1)).trans HXQ.out.1) (And.intro ((k7.block _ (lt_of_block HXQ.out.2.1)).trans HXQ.out.2.1) ((k7.block _ (lt_of_block HXQ.out.2.2)).trans HXQ.out.2.2)))
              have hr7 := (k7.block _ (lt_of_block HRB2.out)).trans HRB2.out
              clear k7 e0 e1 e2 m0 m1 m2 x0 x1 x2 x3 x4 r5
              have r5 := cell_of hr7 5
              simp only [List.getElem?_toArray, List.getElem?_cons_zero, List.getElem?_cons_succ] at r5
              have e0 := And.intro (cell_of HX7.out.2.2 0) (unfrozen_of HX7.out.2.2 0)
              have e1 := And.intro (cell_of HX7.out.2.2 1) (unfrozen_of HX7.out.2.2 1)
              have e2 := And.intro (cell_of HX7.out.2.2 2) (unfrozen_of HX7.out.2.2 2)
              simp only [List.getElem?_toArray, List.getElem?_cons_zero, List.getElem?_cons_succ] at e0 e1 e2
              clear hr7
              have hsv := HSV2.out
              cases c2 with
              | true =>
                obtain rfl : c3 = false := HEX.out rfl
                rw [if_neg (by simp), if_pos rfl] at hsv
                have hr := HR4.out
                rw [hsv] at hr
                simp only at hr
                rw [if_neg (by simp)] at hr
                subst hr
                clear hsv
                go_wp2_with (fail)
                go_region
                all_goals
                  go_wp2_with (fail)
                  first
                  | (have hk : Kept [w.heap.size + 1 + 1] w7 ((set3 w7 (w.heap.size + 1 + 1) (.int .i64 4) (.int .i64 (x : Int)) (.int .i64 rout)).drew) := (kept_set3 w7 (w.heap.size + 1 + 1) (.int .i64 4) (.int .i64 (x : Int)) (.int .i64 rout)).drew
                     have hfin : ((set3 w7 (w.heap.size + 1 + 1) (.int .i64 4) (.int .i64 (x : Int)) (.int .i64 rout)).drew).ownsRow w.heap.size 3 1 (.slice (some ⟨g9, 0, none⟩) (way.length + 1) cap9) (way.length + 1) (way.map i64v ++ [i64v (x : Int)]) := by
                       have h1 := (own_kept HW7.out hk (fun g hg hc => by have := own_past HW7.out g hg; have := List.mem_singleton.1 hc; omega)).mono (show w.heap.size ≤ w.heap.size + 1 + 1 + 1 by omega)
                       simpa using h1
                     exact bodyPost_ret (v := .tuple #[.slice (some ⟨g9, 0, none⟩) (way.length + 1) cap9, .agg #[.int .i64 4, .int .i64 (x : Int), .int .i64 rout]]) (by simp [results, Try.results46, go_sem, e0, e1, e2]) rfl ⟨_, rfl, hfin, HK7.out.trans (hk.below HK7.out.size (by simp; omega))⟩)
                  | (have hk : Kept [w.heap.size + 1 + 1] w7 (set3 w7.drew (w.heap.size + 1 + 1) (.int .i64 4) (.int .i64 (x : Int)) (.int .i64 rout)) := ((Kept.refl [w.heap.size + 1 + 1] w7).drew).trans (kept_set3 w7.drew (w.heap.size + 1 + 1) (.int .i64 4) (.int .i64 (x : Int)) (.int .i64 rout)) (fun x hx => Or.inl hx)
                     have hfin : (set3 w7.drew (w.heap.size + 1 + 1) (.int .i64 4) (.int .i64 (x : Int)) (.int .i64 rout)).ownsRow w.heap.size 3 1 (.slice (some ⟨g9, 0, none⟩) (way.length + 1) cap9) (way.length + 1) (way.map i64v ++ [i64v (x : Int)]) := by
                       have h1 := (own_kept HW7.out hk (fun g hg hc => by have := own_past HW7.out g hg; have := List.mem_singleton.1 hc; omega)).mono (show w.heap.size ≤ w.heap.size + 1 + 1 + 1 by omega)
                       simpa using h1
                     exact bodyPost_ret (v := .tuple #[.slice (some ⟨g9, 0, none⟩) (way.length + 1) cap9, .agg #[.int .i64 4, .int .i64 (x : Int), .int .i64 rout]]) (by simp [results, Try.results46, go_sem, e0, e1, e2]) rfl ⟨_, rfl, hfin, HK7.out.trans (hk.below HK7.out.size (by simp; omega))⟩)
              | false =>
                cases c3 with
                | false =>
                  rw [if_neg (by simp), if_neg (by simp)] at hsv
                  have hr := HR4.out
                  rw [hsv] at hr
                  simp only at hr
                  rw [if_neg (by simp)] at hr
                  subst hr
                  clear hsv
                  go_wp2_with (fail)
                  go_region
                  all_goals
                    go_wp2_with (fail)
                    first
                    | (have hk : Kept [w.heap.size + 1 + 1] w7 ((set3 w7 (w.heap.size + 1 + 1) (.int .i64 3) (.int .i64 (x : Int)) (.int .i64 rout)).drew) := (kept_set3 w7 (w.heap.size + 1 + 1) (.int .i64 3) (.int .i64 (x : Int)) (.int .i64 rout)).drew
                       have hfin : ((set3 w7 (w.heap.size + 1 + 1) (.int .i64 3) (.int .i64 (x : Int)) (.int .i64 rout)).drew).ownsRow w.heap.size 3 1 (.slice (some ⟨g9, 0, none⟩) (way.length + 1) cap9) (way.length + 1) (way.map i64v ++ [i64v (x : Int)]) := by
                         have h1 := (own_kept HW7.out hk (fun g hg hc => by have := own_past HW7.out g hg; have := List.mem_singleton.1 hc; omega)).mono (show w.heap.size ≤ w.heap.size + 1 + 1 + 1 by omega)
                         simpa using h1
                       exact bodyPost_ret (v := .tuple #[.slice (some ⟨g9, 0, none⟩) (way.length + 1) cap9, .agg #[.int .i64 3, .int .i64 (x : Int), .int .i64 rout]]) (by simp [results, Try.results46, go_sem, e0, e1, e2]) rfl ⟨_, rfl, hfin, HK7.out.trans (hk.below HK7.out.size (by simp; omega))⟩)
                    | (have hk : Kept [w.heap.size + 1 + 1] w7 (set3 w7.drew (w.heap.size + 1 + 1) (.int .i64 3) (.int .i64 (x : Int)) (.int .i64 rout)) := ((Kept.refl [w.heap.size + 1 + 1] w7).drew).trans (kept_set3 w7.drew (w.heap.size + 1 + 1) (.int .i64 3) (.int .i64 (x : Int)) (.int .i64 rout)) (fun x hx => Or.inl hx)
                       have hfin : (set3 w7.drew (w.heap.size + 1 + 1) (.int .i64 3) (.int .i64 (x : Int)) (.int .i64 rout)).ownsRow w.heap.size 3 1 (.slice (some ⟨g9, 0, none⟩) (way.length + 1) cap9) (way.length + 1) (way.map i64v ++ [i64v (x : Int)]) := by
                         have h1 := (own_kept HW7.out hk (fun g hg hc => by have := own_past HW7.out g hg; have := List.mem_singleton.1 hc; omega)).mono (show w.heap.size ≤ w.heap.size + 1 + 1 + 1 by omega)
                         simpa using h1
                       exact bodyPost_ret (v := .tuple #[.slice (some ⟨g9, 0, none⟩) (way.length + 1) cap9, .agg #[.int .i64 3, .int .i64 (x : Int), .int .i64 rout]]) (by simp [results, Try.results46, go_sem, e0, e1, e2]) rfl ⟨_, rfl, hfin, HK7.out.trans (hk.below HK7.out.size (by simp; omega))⟩)
                | true =>
                  rw [if_pos rfl] at hsv
                  have hr := HR4.out
                  have hsi := HSI2.out
                  rw [hsv] at hr hsi
                  simp only at hr hsi
                  rw [if_pos trivial] at hr
                  obtain ⟨y, rfl, hy⟩ := hsi trivial
                  have HR5 := Lib.hid (And.intro hr hy)
                  clear hr hy hsv hsi e0 e1 e2 r5
                  go_wp2_with (fail)
                  go_roundg gko
                  case measure => omega
                  case rel =>
                    refine ⟨way ++ [(x : Int)], y, by simp; omega, rfl, HR5.out.2, List.nodup_append.2 ⟨HND.out.1, by simp, fun a ha b hb => ?_⟩, fun z hz => ?_, HW7.out, HR5.out.1, HK7.out, HX7.out⟩
                    · rw [List.mem_singleton.1 hb]
                      exact fun e => HM.out (e ▸ ha)
                    · rcases List.mem_append.1 hz with hz | hz
                      · exact HND.out.2 z hz
                      · rw [List.mem_singleton.1 hz]
                        have := HXI.out
                        exact ⟨by omega, by omega⟩
end Go.Proofs.Ytiedhjmnjpkcoaa
