/- Nets, plainly: each device's rules, of the tables and of the document. · The document's nets in memory. -/
import Derived.Test.YtjoblahedgpgbaaGreatNetA
namespace Go.Proofs.YtjoblahedgpgbaaGreat
set_option linter.unusedVariables false
set_option linter.unusedSimpArgs false
open Go.RowKit

def Pairs : List (List Rl) → List (List Rl) → Prop
  | [], [] => True
  | L :: Ls, l :: ls => Pair L l ∧ Pairs Ls ls
  | _, _ => False
theorem Pairs.len : ∀ {Ls ls : List (List Rl)}, Pairs Ls ls → Ls.length = ls.length
  | [], [], _ => rfl
  | [], _ :: _, h => by cases h
  | _ :: _, [], h => by cases h
  | _ :: _, _ :: _, h => by rw [List.length_cons, List.length_cons, Pairs.len h.2]
theorem Pairs.get : ∀ {Ls ls : List (List Rl)}, Pairs Ls ls → ∀ i (h1 : i < Ls.length) (h2 : i < ls.length), Pair Ls[i] ls[i]
  | [], [], _, i, h1, _ => by simp at h1
  | [], _ :: _, h, _, _, _ => by cases h
  | _ :: _, [], h, _, _, _ => by cases h
  | _ :: _, _ :: _, h, 0, _, _ => h.1
  | _ :: _, _ :: _, h, i + 1, h1, h2 => Pairs.get h.2 i (by simpa using h1) (by simpa using h2)
theorem Pairs.set : ∀ {Ls ls : List (List Rl)}, Pairs Ls ls → ∀ (i : Nat) {L l : List Rl}, Pair L l → Pairs (Ls.set i L) (ls.set i l)
  | [], [], h, _, _, _, _ => h
  | [], _ :: _, h, _, _, _, _ => by cases h
  | _ :: _, [], h, _, _, _, _ => by cases h
  | _ :: _, _ :: _, h, 0, _, _, hp => ⟨hp, h.2⟩
  | _ :: _, _ :: _, h, i + 1, _, _, hp => ⟨h.1, Pairs.set h.2 i hp⟩
theorem Pairs.empty : ∀ n : Nat, Pairs (List.replicate n []) (List.replicate n [])
  | 0 => trivial
  | n + 1 => ⟨Pair.nil, Pairs.empty n⟩
theorem Pairs.has : ∀ {Ls ls : List (List Rl)}, Pairs Ls ls → ∀ id : Int, hasL Ls id = hasL ls id
  | [], [], _, _ => rfl
  | [], _ :: _, h, _ => by cases h
  | _ :: _, [], h, _ => by cases h
  | L :: Ls, l :: ls, h, id => by
    have ih := Pairs.has h.2 id
    unfold hasL at *
    rw [List.any_cons, List.any_cons, ih, h.1.find]
def lenT (Ls : List (List Rl)) : Nat := (Ls.map List.length).sum
theorem lenT_S (ts : List TD) : lenS ts = lenT (TD.Ls ts) := by
  unfold lenS lenT TD.Ls
  rw [List.map_map]
  rfl
theorem Pairs.lens : ∀ {Ls ls : List (List Rl)}, Pairs Ls ls → lenT Ls = lenT ls
  | [], [], _ => rfl
  | [], _ :: _, h => by cases h
  | _ :: _, [], h => by cases h
  | L :: Ls, l :: ls, h => by
    have ih := Pairs.lens h.2
    unfold lenT at *
    rw [List.map_cons, List.map_cons, List.sum_cons, List.sum_cons, ih, h.1.perm.length_eq]
theorem Pairs.del : ∀ {Ls ls : List (List Rl)}, Pairs Ls ls → ∀ id : Int, Pairs (delS Ls id).1 (delS ls id).1 ∧ (delS ls id).2 = (delS Ls id).2
  | [], [], _, _ => ⟨trivial, rfl⟩
  | [], _ :: _, h, _ => by cases h
  | _ :: _, [], h, _ => by cases h
  | L :: Ls, l :: ls, h, id => by
    have ih := Pairs.del h.2 id
    unfold delS
    rw [h.1.find]
    split
    · exact ⟨⟨(h.1.drop id).1, h.2⟩, rfl⟩
    · exact ⟨⟨h.1, ih.1⟩, ih.2⟩

/-- What the document's Change comes to, for a rule that comes. -/
def InsR (ports : List Int) (ls : List (List Rl)) (r : Rl) (fo : List (List Rl) × Int) : Prop :=
  if r.dev < 0 ∨ (ls.length : Int) ≤ r.dev then fo = (ls, 10) else if r.out < -1 ∨ ports[r.dev.toNat]! ≤ r.out then fo = (ls, 11) else if hasL ls r.id = true then fo = (ls, 4) else ∃ f1, AddS ls[r.dev.toNat]! r f1 ∧ fo = (ls.set r.dev.toNat f1.1, f1.2)
theorem Pairs.ins {ports : List Int} {Ls ls : List (List Rl)} {r : Rl} {fo : List (List Rl) × Int} (h : Pairs Ls ls) (hf : InsR ports ls r fo) : Pairs (insS ports Ls r).1 fo.1 ∧ fo.2 = (insS ports Ls r).2 := by
  unfold InsR at hf
  unfold insS
  rw [h.has, h.len]
  split at hf
  · subst hf
    rename_i e
    rw [if_pos e]
    exact ⟨h, rfl⟩
  · rename_i e
    rw [if_neg e]
    split at hf
    · subst hf
      rename_i e2
      rw [if_pos e2]
      exact ⟨h, rfl⟩
    · rename_i e2
      rw [if_neg e2]
      split at hf
      · subst hf
        rename_i e3
        rw [if_pos e3]
        exact ⟨h, rfl⟩
      · rename_i e3
        rw [if_neg e3]
        obtain ⟨f1, hA, rfl⟩ := hf
        have hd1 : r.dev.toNat < ls.length := by omega
        have hd2 : r.dev.toNat < Ls.length := by rw [h.len]; exact hd1
        rw [getElem!_pos ls _ hd1] at hA
        rw [getElem!_pos Ls _ hd2]
        have hp := (h.get _ hd2 hd1).add hA
        exact ⟨h.set _ hp.1, hp.2⟩

theorem hasL_iff {Ls : List (List Rl)} {id : Int} : hasL Ls id = true ↔ ∃ L ∈ Ls, ∃ r ∈ L, r.id = id := by
  unfold hasL
  simp only [List.any_eq_true, findR_isSome]
theorem lenT_set : ∀ (Ls : List (List Rl)) (i : Nat) (L : List Rl), ∀ h : i < Ls.length, lenT (Ls.set i L) + Ls[i].length = lenT Ls + L.length
  | [], i, _, h => by simp at h
  | M :: Ls, 0, L, _ => by simp [lenT]; omega
  | M :: Ls, i + 1, L, h => by
    have := lenT_set Ls i L (by simpa using h)
    simp [lenT] at *
    omega
theorem lenT_mem {Ls : List (List Rl)} {L : List Rl} (h : L ∈ Ls) : L.length ≤ lenT Ls := by
  induction Ls with
  | nil => cases h
  | cons M Ls ih =>
    simp only [lenT, List.map_cons, List.sum_cons] at *
    rcases List.mem_cons.1 h with rfl | h
    · omega
    · have := ih h
      omega

/-- A rule goes: from the one device that has it, or from none. -/
theorem delS_cases : ∀ (Ls : List (List Rl)) (id : Int), (hasL Ls id = false ∧ delS Ls id = (Ls, 3)) ∨ ∃ d, ∃ h : d < Ls.length, (findR Ls[d] id).isSome = true ∧ delS Ls id = (Ls.set d (Ls[d].filter fun r => decide (r.id ≠ id)), 0)
  | [], id => Or.inl ⟨rfl, rfl⟩
  | L :: Ls, id => by
    unfold delS
    split
    · rename_i e
      refine Or.inr ⟨0, by simp, by simpa using e, ?_⟩
      unfold dropT
      rw [if_pos e]
      rfl
    · rename_i e
      rcases delS_cases Ls id with ⟨h1, h2⟩ | ⟨d, h, h1, h2⟩
      · refine Or.inl ⟨?_, by rw [h2]⟩
        unfold hasL at *
        rw [List.any_cons, h1]
        simpa using e
      · exact Or.inr ⟨d + 1, by simpa using h, by simpa using h1, by rw [h2]; rfl⟩
/-- A rule comes: to its device; or nothing turns. -/
theorem insS_cases (ports : List Int) (Ls : List (List Rl)) (r : Rl) : ((insS ports Ls r).1 = Ls ∧ (insS ports Ls r).2 ≠ 0) ∨ ∃ d : Nat, r.dev = d ∧ ∃ h : d < Ls.length, -1 ≤ r.out ∧ r.out < ports[d]! ∧ hasL Ls r.id = false ∧ rtB r.dst = true ∧ insS ports Ls r = (Ls.set d (r :: Ls[d]), 0) := by
  unfold insS
  by_cases h1 : r.dev < 0 ∨ (Ls.length : Int) ≤ r.dev
  · rw [if_pos h1]
    exact Or.inl ⟨rfl, by simp⟩
  · rw [if_neg h1]
    by_cases h2 : r.out < -1 ∨ ports[r.dev.toNat]! ≤ r.out
    · rw [if_pos h2]
      exact Or.inl ⟨rfl, by simp⟩
    · rw [if_neg h2]
      by_cases h3 : hasL Ls r.id = true
      · rw [if_pos h3]
        exact Or.inl ⟨rfl, by simp⟩
      · rw [if_neg h3]
        have hd : r.dev.toNat < Ls.length := by omega
        rw [getElem!_pos Ls _ hd]
        have hno : (findR Ls[r.dev.toNat] r.id).isSome = false := by
          cases e : (findR Ls[r.dev.toNat] r.id).isSome with
          | false => rfl
          | true =>
            obtain ⟨x, hx, hi⟩ := findR_isSome.1 e
            exact absurd (hasL_iff.2 ⟨_, List.getElem_mem hd, x, hx, hi⟩) h3
        unfold addT
        by_cases h4 : rtB r.dst = true
        · rw [if_pos h4, hno]
          exact Or.inr ⟨r.dev.toNat, by omega, hd, by omega, by omega, by simpa using h3, h4, rfl⟩
        · rw [if_neg h4]
          exact Or.inl ⟨List.set_getElem_self hd, by simp⟩

/-- What holds of all nets that changes lead to. -/
structure NetOk (ports : List Int) (Ls : List (List Rl)) : Prop where
  len : Ls.length = ports.length
  dev : ∀ (d : Nat) (L : List Rl), Ls[d]? = some L → ∀ r ∈ L, r.dev = d ∧ -1 ≤ r.out ∧ r.out < ports[d]!
  one : ∀ (d e : Nat) (L M : List Rl), Ls[d]? = some L → Ls[e]? = some M → ∀ r ∈ L, ∀ s ∈ M, r.id = s.id → d = e
theorem NetOk.empty (ports : List Int) : NetOk ports (List.replicate ports.length []) := by
  refine ⟨by simp, fun d L h r hr => ?_, fun d e L M h _ r hr => ?_⟩ <;>
  · obtain ⟨h1, h2⟩ := List.getElem?_eq_some_iff.1 h
    rw [List.getElem_replicate] at h2
    subst h2
    cases hr
theorem get_set {Ls : List (List Rl)} {i d : Nat} {L M : List Rl} (h : (Ls.set i L)[d]? = some M) : (i = d ∧ M = L ∧ i < Ls.length) ∨ (i ≠ d ∧ Ls[d]? = some M) := by
  rw [List.getElem?_set] at h
  split at h
  · rename_i e
    split at h
    · exact Or.inl ⟨e, (Option.some.inj h).symm, by assumption⟩
    · cases h
  · rename_i e
    exact Or.inr ⟨e, h⟩
theorem NetOk.del {ports : List Int} {Ls : List (List Rl)} (h : NetOk ports Ls) (id : Int) : NetOk ports (delS Ls id).1 := by
  rcases delS_cases Ls id with ⟨_, h2⟩ | ⟨i, hi, _, h2⟩
  · rw [h2]
    exact h
  · rw [h2]
    have hg : ∀ (d : Nat) (M : List Rl), (Ls.set i (Ls[i].filter fun r => decide (r.id ≠ id)))[d]? = some M → ∃ N, Ls[d]? = some N ∧ ∀ r ∈ M, r ∈ N := by
      intro d M hM
      rcases get_set hM with ⟨rfl, rfl, _⟩ | ⟨_, h3⟩
      · exact ⟨_, List.getElem?_eq_getElem hi, fun r hr => (List.mem_filter.1 hr).1⟩
      · exact ⟨M, h3, fun r hr => hr⟩
    refine ⟨by rw [List.length_set]; exact h.len, fun d M hM r hr => ?_, fun d e M N hM hN r hr s hs he => ?_⟩
    · obtain ⟨N, h3, h4⟩ := hg d M hM
      exact h.dev d N h3 r (h4 r hr)
    · obtain ⟨N1, h3, h4⟩ := hg d M hM
      obtain ⟨N2, h5, h6⟩ := hg e N hN
      exact h.one d e N1 N2 h3 h5 r (h4 r hr) s (h6 s hs) he
theorem NetOk.ins {ports : List Int} {Ls : List (List Rl)} (h : NetOk ports Ls) (r : Rl) : NetOk ports (insS ports Ls r).1 := by
  rcases insS_cases ports Ls r with ⟨h2, _⟩ | ⟨i, hri, hi, h3, h4, h5, _, h2⟩
  · rw [h2]
    exact h
  · rw [h2]
    have hg : ∀ (d : Nat) (M : List Rl), (Ls.set i (r :: Ls[i]))[d]? = some M → ∃ N, Ls[d]? = some N ∧ ∀ x ∈ M, x ∈ N ∨ (x = r ∧ d = i) := by
      intro d M hM
      rcases get_set hM with ⟨rfl, rfl, _⟩ | ⟨_, h3⟩
      · refine ⟨_, List.getElem?_eq_getElem hi, fun x hx => ?_⟩
        rcases List.mem_cons.1 hx with h | h
        · exact Or.inr ⟨h, rfl⟩
        · exact Or.inl h
      · exact ⟨M, h3, fun x hx => Or.inl hx⟩
    have hno : ∀ L ∈ Ls, ∀ x ∈ L, x.id ≠ r.id := fun L hL x hx he => by
      rw [hasL_iff.2 ⟨L, hL, x, hx, he⟩] at h5
      cases h5
    refine ⟨by rw [List.length_set]; exact h.len, fun d M hM x hx => ?_, fun d e M N hM hN x hx s hs he => ?_⟩
    · obtain ⟨N, h6, h7⟩ := hg d M hM
      rcases h7 x hx with h8 | ⟨rfl, rfl⟩
      · exact h.dev d N h6 x h8
      · exact ⟨hri, h3, h4⟩
    · obtain ⟨N1, h6, h7⟩ := hg d M hM
      obtain ⟨N2, h8, h9⟩ := hg e N hN
      rcases h7 x hx with q | ⟨q, q2⟩ <;> rcases h9 s hs with p | ⟨p, p2⟩
      · exact h.one d e N1 N2 h6 h8 x q s p he
      · exact absurd (by rw [he, p]) (hno N1 (List.mem_of_getElem? h6) x q)
      · exact absurd (by rw [← he, q]) (hno N2 (List.mem_of_getElem? h8) s p)
      · rw [q2, p2]
theorem del_lenT (Ls : List (List Rl)) (id : Int) : lenT (delS Ls id).1 ≤ lenT Ls := by
  rcases delS_cases Ls id with ⟨_, h2⟩ | ⟨i, hi, _, h2⟩
  · rw [h2]
    exact Nat.le_refl _
  · rw [h2]
    have := lenT_set Ls i (Ls[i].filter fun r => decide (r.id ≠ id)) hi
    have := List.length_filter_le (fun r : Rl => decide (r.id ≠ id)) Ls[i]
    simp only
    omega
theorem ins_lenT (ports : List Int) (Ls : List (List Rl)) (r : Rl) : lenT (insS ports Ls r).1 ≤ lenT Ls + 1 := by
  rcases insS_cases ports Ls r with ⟨h2, _⟩ | ⟨i, _, hi, _, _, _, _, h2⟩
  · rw [h2]
    omega
  · rw [h2]
    have := lenT_set Ls i (r :: Ls[i]) hi
    simp only [List.length_cons] at this
    simp only
    omega

/-- A change, of either kind: of the tables; what the document's comes to. -/
def chgS (ports : List Int) (Ls : List (List Rl)) (o : Op) : List (List Rl) × Int := if o.del = true then delS Ls o.rule.id else insS ports Ls o.rule
def ChgR (ports : List Int) (ls : List (List Rl)) (o : Op) (fo : List (List Rl) × Int) : Prop := if o.del = true then fo = delS ls o.rule.id else InsR ports ls o.rule fo
theorem Pairs.chg {ports : List Int} {Ls ls : List (List Rl)} {o : Op} {fo : List (List Rl) × Int} (h : Pairs Ls ls) (hf : ChgR ports ls o fo) : Pairs (chgS ports Ls o).1 fo.1 ∧ fo.2 = (chgS ports Ls o).2 := by
  unfold ChgR at hf
  unfold chgS
  split at hf
  · rename_i e
    subst hf
    rw [if_pos e]
    exact h.del _
  · rename_i e
    rw [if_neg e]
    exact h.ins hf
theorem NetOk.chg {ports : List Int} {Ls : List (List Rl)} (h : NetOk ports Ls) (o : Op) : NetOk ports (chgS ports Ls o).1 := by
  unfold chgS
  split
  · exact h.del _
  · exact h.ins _
theorem chg_lenT (ports : List Int) (Ls : List (List Rl)) (o : Op) : lenT (chgS ports Ls o).1 ≤ lenT Ls + 1 := by
  unfold chgS
  split
  · have := del_lenT Ls o.rule.id
    omega
  · exact ins_lenT _ _ _
end Go.Proofs.YtjoblahedgpgbaaGreat

namespace Go.Proofs.YtjoblahedgpgbaaGreat
open Go.RowKit

/-- The rows of a net of the document: vr the row, rs its values, ls what they hold. -/
structure RNetAt (w : World) (B : Nat) (vr : Value) (rs : List Value) (ls : List (List Rl)) : Prop where
  len : rs.length = ls.length
  row : w.ownsRow B 183 1 vr rs.length rs
  each : ∀ i (h1 : i < rs.length) (h2 : i < ls.length), w.ownsRow B 89 6 rs[i] ls[i].length (rlCells ls[i])
def rfoot (vr : Value) (rs : List Value) : List Nat := (vr :: rs).filterMap Value.ownBlock
theorem mem_rfoot {vr : Value} {rs : List Value} {x : Nat} : x ∈ rfoot vr rs ↔ vr.ownBlock = some x ∨ ∃ v ∈ rs, v.ownBlock = some x := by
  simp [rfoot, List.mem_filterMap]

variable {w w' : World} {B : Nat} {vr : Value} {rs : List Value} {ls : List (List Rl)}
theorem own_ge {w : World} {base : Nat} {e : TypeId} {size : Nat} {v : Value} {n : Nat} {xs : List Value} (h : w.ownsRow base e size v n xs) {g : Nat} (hg : v.ownBlock = some g) : base ≤ g ∧ g < w.heap.size :=
  ⟨own_pastT h g hg, own_inN h hg⟩
theorem RNetAt.lo (h : RNetAt w B vr rs ls) : ∀ x ∈ rfoot vr rs, B ≤ x ∧ x < w.heap.size := by
  intro x hx
  rcases mem_rfoot.1 hx with h1 | ⟨v, hv, h1⟩
  · exact own_ge h.row h1
  · obtain ⟨i, hi, rfl⟩ := List.mem_iff_getElem.1 hv
    exact own_ge (h.each i hi (h.len ▸ hi)) h1
theorem RNetAt.kept {S : List Nat} (h : RNetAt w B vr rs ls) (k : Kept S w w') (hs : ∀ x ∈ rfoot vr rs, x ∉ S) : RNetAt w' B vr rs ls :=
  ⟨h.len, own_kept h.row k (fun g hg => hs g (mem_rfoot.2 (Or.inl hg))), fun i h1 h2 => own_kept (h.each i h1 h2) k (fun g hg => hs g (mem_rfoot.2 (Or.inr ⟨_, List.getElem_mem h1, hg⟩)))⟩
theorem RNetAt.below (h : RNetAt w B vr rs ls) (k : Below w.heap.size w w') : RNetAt w' B vr rs ls := h.kept (Kept.of_below (S := []) k) (by simp)
theorem RNetAt.shape (h : RNetAt w B vr rs ls) : ∃ ao cap, vr = .slice ao ls.length cap ∧ ls.length ≤ cap ∧ ∀ i, i < ls.length → ∃ g, ao = some ⟨g, 0, none⟩ := by
  rw [← h.len]
  rcases h.row.2 with ⟨h0, h1⟩ | ⟨g', cap', cur, h0, _, _, h3, _⟩
  · exact ⟨none, 0, by rw [h0, h1], by omega, fun i hi => by omega⟩
  · exact ⟨_, cap', h0, h3, fun i _ => ⟨g', rfl⟩⟩
theorem RNetAt.at (h : RNetAt w B vr rs ls) {i : Nat} (hi : i < ls.length) : ∃ g cap, vr = .slice (some ⟨g, 0, none⟩) ls.length cap ∧ w.cell? ⟨g, i, none⟩ = some (rs[i]'(h.len ▸ hi)) := by
  have hi' : i < rs.length := h.len ▸ hi
  rcases h.row.2 with ⟨_, h1⟩ | ⟨g, cap, cur, h0, _⟩
  · omega
  · have hr := h.row
    rw [h0] at hr
    have := hr.cellAt (i * 1) (by omega)
    rw [Nat.mul_one, List.getElem?_eq_getElem hi'] at this
    exact ⟨g, cap, by rw [h0, h.len], this⟩

/-- A net, and the document's. -/
structure DuoAt (w : World) (B nb : Nat) (vp vl va vt vr : Value) (ts : List TD) (rs : List Value) (ls : List (List Rl)) : Prop where
  net : NetAt w B nb vp vl va vt ts
  doc : RNetAt w B vr rs ls
  off : ∀ x ∈ rfoot vr rs, x ∉ feet ts
  pair : Pairs (TD.Ls ts) ls
variable {nb : Nat} {vp vl va vt : Value} {ts : List TD}
theorem DuoAt.below (h : DuoAt w B nb vp vl va vt vr ts rs ls) (k : Below w.heap.size w w') : DuoAt w' B nb vp vl va vt vr ts rs ls :=
  ⟨h.net.below k, h.doc.below k, h.off, h.pair⟩
theorem DuoAt.tlen (h : DuoAt w B nb vp vl va vt vr ts rs ls) : ts.length = ls.length := by
  have := h.pair.len
  simpa [TD.Ls] using this
/-- Both turned. -/
theorem DuoAt.step {w2 : World} {ts' : List TD} {vr' : Value} {rs' : List Value} {ls' : List (List Rl)} (h : DuoAt w B nb vp vl va vt vr ts rs ls) (hN : NetAt w' B nb vp vl va vt ts') (hT : Turn (feet ts) (feet ts') w w') (hR : RNetAt w2 B vr' rs' ls') (hk : Below w'.heap.size w' w2) (hf : ∀ x ∈ rfoot vr' rs', x ∈ rfoot vr rs ∨ w'.heap.size ≤ x) (hp : Pairs (TD.Ls ts') ls') :
    DuoAt w2 B nb vp vl va vt vr' ts' rs' ls' := by
  refine ⟨hN.below hk, hR, fun x hx hm => ?_, hp⟩
  have h1 := hN.feet_lt x hm
  rcases hf x hx with h2 | h2
  · rcases hT.feet x hm with h3 | h3
    · exact h.off x h2 h3
    · have := (h.doc.lo x h2).2
      omega
  · omega
theorem DuoAt.doc_turn {ts' : List TD} (h : DuoAt w B nb vp vl va vt vr ts rs ls) (hT : Turn (feet ts) (feet ts') w w') : RNetAt w' B vr rs ls := h.doc.kept hT.kept h.off
end Go.Proofs.YtjoblahedgpgbaaGreat
