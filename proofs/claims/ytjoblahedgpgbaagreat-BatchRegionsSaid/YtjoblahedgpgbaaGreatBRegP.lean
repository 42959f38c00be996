/- The prefixes that a batch touches, plainly: the program's are the document's, and what they have not goes as it did. -/
import Derived.Test.YtjoblahedgpgbaaGreatJoinP
import Derived.Test.YtjoblahedgpgbaaGreatRegA
import Derived.Test.YtjoblahedgpgbaaGreatWayP
namespace Go.Proofs.YtjoblahedgpgbaaGreat
set_option linter.unusedVariables false
set_option linter.unusedSimpArgs false
open Go.RowKit

def noPf : Pf := ⟨0, 0⟩
/-- The rule of an ID, of some device. -/
def findL (Ls : List (List Rl)) (id : Int) : Option Rl := Ls.findSome? fun L => findR L id
/-- The program's prefixes: those that came stand in a map. -/
def preS (Ls : List (List Rl)) (come : Int → Option Pf) : List Op → List Pf
  | [] => []
  | o :: os => if o.del = false then o.rule.dst :: preS Ls (upd come o.rule.id o.rule.dst) os else match come o.rule.id with
    | some p => p :: preS Ls come os
    | none => (Ls.filterMap fun L => (findR L o.rule.id).map Rl.dst) ++ preS Ls come os
/-- The document's. -/
def docS (ports : List Int) (Ls : List (List Rl)) : List Op → List Pf
  | [] => []
  | o :: os => (if o.del = false then o.rule.dst else ((findL Ls o.rule.id).map Rl.dst).getD noPf) :: docS ports (chgS ports Ls o).1 os
def NetI (Ls : List (List Rl)) : Prop := ∀ L ∈ Ls, (L.map (·.id)).Nodup
theorem Pairs.netI : ∀ {Ls ls : List (List Rl)}, Pairs Ls ls → NetI Ls
  | [], [], _ => fun L h => by cases h
  | L :: Ls, l :: ls, h => fun M hM => by
    rcases List.mem_cons.1 hM with rfl | hM
    · exact ((h.1.perm.map (·.id)).nodup_iff).1 h.1.ids
    · exact Pairs.netI h.2 M hM
  | [], _ :: _, h => h.elim
  | _ :: _, [], h => h.elim
theorem findR_some {L : List Rl} {id : Int} {r : Rl} (hn : (L.map (·.id)).Nodup) (h : r ∈ L) (hi : r.id = id) : findR L id = some r := hi ▸ find_mem hn h
theorem NetI.set {Ls : List (List Rl)} (h : NetI Ls) {d : Nat} {L : List Rl} (hL : (L.map (·.id)).Nodup) : NetI (Ls.set d L) := fun M hM => by
  rcases List.mem_or_eq_of_mem_set hM with h1 | rfl
  · exact h M h1
  · exact hL
theorem nodup_filt {l : List Rl} (p : Rl → Bool) (h : (l.map (·.id)).Nodup) : ((l.filter p).map (·.id)).Nodup := (List.filter_sublist.map _).nodup h
theorem NetI.chg {ports : List Int} {Ls : List (List Rl)} (h : NetI Ls) (o : Op) : NetI (chgS ports Ls o).1 := by
  unfold chgS
  split
  · rcases delS_cases Ls o.rule.id with ⟨_, e⟩ | ⟨d, hd, _, e⟩
    · rw [e]
      exact h
    · rw [e]
      exact h.set (nodup_filt _ (h _ (List.getElem_mem hd)))
  · rcases insS_cases ports Ls o.rule with ⟨e, _⟩ | ⟨d, _, hd, _, _, hf, _, e⟩
    · rw [e]
      exact h
    · rw [e]
      refine h.set ?_
      rw [List.map_cons, List.nodup_cons]
      refine ⟨fun hm => ?_, h _ (List.getElem_mem hd)⟩
      obtain ⟨r, hr, e⟩ := List.mem_map.1 hm
      have : hasL Ls o.rule.id = true := hasL_iff.2 ⟨_, List.getElem_mem hd, r, hr, e⟩
      rw [this] at hf
      cases hf
/-- Who is found: where it stands. -/
theorem findL_some {Ls : List (List Rl)} {id : Int} {r : Rl} (h : findL Ls id = some r) : ∃ d, ∃ hd : d < Ls.length, findR Ls[d] id = some r := by
  obtain ⟨L, hL, h⟩ := List.exists_of_findSome?_eq_some h
  obtain ⟨d, hd, rfl⟩ := List.getElem_of_mem hL
  exact ⟨d, hd, h⟩
theorem findL_of {ports : List Int} {Ls : List (List Rl)} (hok : NetOk ports Ls) {d : Nat} {hd : d < Ls.length} {id : Int} {r : Rl} (h : findR Ls[d] id = some r) : findL Ls id = some r := by
  cases e : findL Ls id with
  | none =>
    have := List.findSome?_eq_none_iff.1 e _ (List.getElem_mem hd)
    rw [h] at this
    cases this
  | some s =>
    obtain ⟨d', hd', h'⟩ := findL_some e
    obtain ⟨m1, i1⟩ := find_id h
    obtain ⟨m2, i2⟩ := find_id h'
    obtain rfl := hok.one d d' _ _ (List.getElem?_eq_getElem hd) (List.getElem?_eq_getElem hd') r m1 s m2 (i1.trans i2.symm)
    rw [h] at h'
    exact h'.symm
theorem findL_none {Ls : List (List Rl)} {id : Int} : findL Ls id = none ↔ hasL Ls id = false := by
  unfold findL hasL
  rw [List.findSome?_eq_none_iff, ← Bool.not_eq_true, List.any_eq_true]
  constructor
  · rintro h ⟨L, hL, h1⟩
    rw [h L hL] at h1
    cases h1
  · intro h L hL
    cases e : findR L id with
    | none => rfl
    | some r => exact absurd ⟨L, hL, by rw [e]; rfl⟩ h
theorem filterMap_one {α β : Type} (f : α → Option β) {y : β} : ∀ (l : List α) (d : Nat) (hd : d < l.length), f l[d] = some y → (∀ i, ∀ hi : i < l.length, i ≠ d → f l[i] = none) → l.filterMap f = [y]
  | [], d, hd, _, _ => absurd hd (Nat.not_lt_zero _)
  | a :: l, 0, hd, h, k => by
    have h : f a = some y := h
    have e : l.filterMap f = [] := by
      rw [List.filterMap_eq_nil_iff]
      intro b hb
      obtain ⟨i, hi, rfl⟩ := List.getElem_of_mem hb
      exact k (i + 1) (by simpa using hi) (by omega)
    rw [List.filterMap_cons, h, e]
  | a :: l, d + 1, hd, h, k => by
    have h0 : f a = none := k 0 (by simp) (by omega)
    rw [List.filterMap_cons, h0]
    exact filterMap_one f l d (by simpa using hd) h (fun i hi hne => k (i + 1) (by simpa using hi) (by omega))
theorem found_one {ports : List Int} {Ls : List (List Rl)} (hok : NetOk ports Ls) {id : Int} {r : Rl} (h : findL Ls id = some r) : (Ls.filterMap fun L => (findR L id).map Rl.dst) = [r.dst] := by
  obtain ⟨d, hd, h1⟩ := findL_some h
  refine filterMap_one _ Ls d hd (by simp only [h1, Option.map_some]) fun i hi hne => ?_
  cases e : findR Ls[i] id with
  | none => rfl
  | some s =>
    obtain ⟨m1, i1⟩ := find_id h1
    obtain ⟨m2, i2⟩ := find_id e
    exact absurd (hok.one i d _ _ (List.getElem?_eq_getElem hi) (List.getElem?_eq_getElem hd) s m2 r m1 (i2.trans i1.symm)) hne
variable {ports : List Int}
theorem app_ok_cons {o : Op} {os : List Op} {i : Nat} {Ls : List (List Rl)} (h : (appS ports (o :: os) i Ls).2.2 = 0) : (chgS ports Ls o).2 = 0 ∧ (appS ports os (i + 1) (chgS ports Ls o).1).2.2 = 0 ∧ (appS ports (o :: os) i Ls).1 = (appS ports os (i + 1) (chgS ports Ls o).1).1 := by
  rw [appS_cons] at h ⊢
  by_cases h1 : badO o = true
  · rw [if_pos h1] at h
    cases h
  · rw [if_neg h1] at h ⊢
    by_cases h2 : (chgS ports Ls o).2 ≠ 0
    · rw [if_pos h2] at h
      exact absurd h h2
    · rw [if_neg h2] at h ⊢
      by_cases h3 : 256 < lenT (chgS ports Ls o).1
      · rw [if_pos h3] at h
        cases h
      · rw [if_neg h3] at h ⊢
        exact ⟨Classical.not_not.1 h2, h, rfl⟩
theorem find_filter_ne {L : List Rl} {id x : Int} (h : x ≠ id) : findR (L.filter fun r => decide (r.id ≠ id)) x = findR L x := by
  rw [← del_find]
  unfold del
  rw [if_neg h]
theorem find_filter_self {L : List Rl} {id : Int} : findR (L.filter fun r => decide (r.id ≠ id)) id = none := by
  rw [← del_find]
  unfold del
  rw [if_pos rfl]
theorem find_cons_ne {L : List Rl} {r : Rl} {x : Int} (h : r.id ≠ x) : findR (r :: L) x = findR L x := by
  unfold findR
  rw [List.find?_cons, decide_eq_false h]
theorem get_set' {Ls : List (List Rl)} {d i : Nat} {L : List Rl} (hi : i < (Ls.set d L).length) : (i = d ∧ (Ls.set d L)[i] = L) ∨ (i ≠ d ∧ ∃ h : i < Ls.length, (Ls.set d L)[i] = Ls[i]) := by
  by_cases e : i = d
  · subst e
    exact Or.inl ⟨rfl, List.getElem_set_self hi⟩
  · exact Or.inr ⟨e, by simpa using hi, List.getElem_set_ne (Ne.symm e) hi⟩
/-- The program's prefixes are the document's, of a batch that may be. -/
theorem pre_doc (Ls0 : List (List Rl)) (h0 : NetOk ports Ls0) : ∀ (l : List Op) (i : Nat) (Ls : List (List Rl)) (come : Int → Option Pf), NetOk ports Ls → NetI Ls → (appS ports l i Ls).2.2 = 0 →
    (∀ x r, findL Ls x = some r → come x = some r.dst ∨ (come x = none ∧ findL Ls0 x = some r)) → preS Ls0 come l = docS ports Ls l
  | [], _, _, _, _, _, _, _ => rfl
  | o :: os, i, Ls, come, hok, hI, ha, hc => by
    obtain ⟨e1, e2, _⟩ := app_ok_cons ha
    have hok' := hok.chg o
    have hI' := hI.chg (ports := ports) o
    unfold preS docS
    cases hd : o.del with
    | false =>
      rw [if_pos rfl, if_pos rfl]
      congr 1
      refine pre_doc Ls0 h0 os (i + 1) _ _ hok' hI' e2 fun x r hx => ?_
      have hch : chgS ports Ls o = insS ports Ls o.rule := by unfold chgS; rw [hd]; rfl
      rw [hch] at hx e1
      rcases insS_cases ports Ls o.rule with ⟨_, e⟩ | ⟨d, _, hdl, _, _, hf, _, e⟩
      · exact absurd e1 e
      · rw [e] at hx
        obtain ⟨k, hk, h1⟩ := findL_some hx
        unfold upd
        rcases get_set' hk with ⟨_, e3⟩ | ⟨hne, hk2, e3⟩
        · rw [e3] at h1
          by_cases hid : o.rule.id = x
          · subst hid
            rw [if_pos rfl]
            have : findR (o.rule :: Ls[d]) o.rule.id = some o.rule := by unfold findR; rw [List.find?_cons, decide_eq_true rfl]
            rw [this] at h1
            cases h1
            exact Or.inl rfl
          · rw [if_neg (Ne.symm hid)]
            rw [find_cons_ne hid] at h1
            exact hc x r (findL_of hok h1)
        · rw [e3] at h1
          by_cases hid : o.rule.id = x
          · subst hid
            have h2 := findL_of hok h1
            rw [findL_none.2 hf] at h2
            cases h2
          · rw [if_neg (Ne.symm hid)]
            exact hc x r (findL_of hok h1)
    | true =>
      rw [if_neg (by decide), if_neg (by decide)]
      have hch : chgS ports Ls o = delS Ls o.rule.id := by unfold chgS; rw [hd]; rfl
      have keep : ∀ x r, findL (chgS ports Ls o).1 x = some r → come x = some r.dst ∨ (come x = none ∧ findL Ls0 x = some r) := fun x r hx => by
        rw [hch] at hx
        rcases delS_cases Ls o.rule.id with ⟨_, e⟩ | ⟨d, hdl, _, e⟩
        · rw [e] at hx
          exact hc x r hx
        · rw [e] at hx
          obtain ⟨k, hk, h1⟩ := findL_some hx
          rcases get_set' hk with ⟨_, e3⟩ | ⟨hne, hk2, e3⟩
          · rw [e3] at h1
            by_cases hid : x = o.rule.id
            · subst hid
              rw [find_filter_self] at h1
              cases h1
            · rw [find_filter_ne hid] at h1
              exact hc x r (findL_of hok h1)
          · rw [e3] at h1
            exact hc x r (findL_of hok h1)
      have ih := pre_doc Ls0 h0 os (i + 1) _ come hok' hI' e2 keep
      obtain ⟨r, hr⟩ : ∃ r, findL Ls o.rule.id = some r := by
        cases e : findL Ls o.rule.id with
        | some r => exact ⟨r, rfl⟩
        | none =>
          rw [hch] at e1
          rcases delS_cases Ls o.rule.id with ⟨_, e4⟩ | ⟨d, hdl, h1, _⟩
          · rw [e4] at e1
            cases e1
          · have := List.findSome?_eq_none_iff.1 e _ (List.getElem_mem hdl)
            rw [this] at h1
            cases h1
      rw [hr]
      rcases hc _ _ hr with h1 | ⟨h1, h2⟩
      · rw [h1, ih]
        rfl
      · rw [h1, found_one h0 h2, ih]
        rfl
/-- What no prefix of a batch has is had by the same rules. -/
theorem untouched (a : Nat) : ∀ (l : List Op) (i : Nat) (Ls : List (List Rl)), NetOk ports Ls → NetI Ls → (appS ports l i Ls).2.2 = 0 → (∀ p ∈ docS ports Ls l, hasN p.addr p.bits.toNat a = false) →
    (appS ports l i Ls).1.length = Ls.length ∧ ∀ d, ((appS ports l i Ls).1.getD d []).filter (hasR a) = (Ls.getD d []).filter (hasR a) ∨ (((appS ports l i Ls).1.getD d []).filter (hasR a)).Perm ((Ls.getD d []).filter (hasR a))
  | [], _, _, _, _, _, _ => ⟨rfl, fun _ => Or.inl rfl⟩
  | o :: os, i, Ls, hok, hI, ha, hp => by
    obtain ⟨e1, e2, e3⟩ := app_ok_cons ha
    unfold docS at hp
    obtain ⟨ih1, ih2⟩ := untouched a os (i + 1) _ (hok.chg o) (hI.chg o) e2 (fun p h => hp p (List.mem_cons_of_mem _ h))
    have h0 := hp _ List.mem_cons_self
    have key : (chgS ports Ls o).1.length = Ls.length ∧ ∀ d, ((chgS ports Ls o).1.getD d []).filter (hasR a) = (Ls.getD d []).filter (hasR a) := by
      cases hd : o.del with
      | false =>
        have hch : chgS ports Ls o = insS ports Ls o.rule := by unfold chgS; rw [hd]; rfl
        rw [hd, if_pos rfl] at h0
        rw [hch] at e1 ⊢
        rcases insS_cases ports Ls o.rule with ⟨_, e⟩ | ⟨k, _, hdl, _, _, hf, _, e⟩
        · exact absurd e1 e
        · rw [e]
          refine ⟨List.length_set, fun d => ?_⟩
          by_cases hk : d = k
          · subst hk
            simp only [List.getD_eq_getElem?_getD, List.getElem?_set_self hdl, Option.getD_some, List.getElem?_eq_getElem hdl]
            rw [List.filter_cons, if_neg]
            show ¬ hasN o.rule.addr o.rule.bits.toNat a = true
            rw [show hasN o.rule.addr o.rule.bits.toNat a = false from h0]
            decide
          · simp only [List.getD_eq_getElem?_getD, List.getElem?_set_ne (Ne.symm hk)]
      | true =>
        have hch : chgS ports Ls o = delS Ls o.rule.id := by unfold chgS; rw [hd]; rfl
        rw [hd, if_neg (by decide)] at h0
        rw [hch] at e1 ⊢
        rcases delS_cases Ls o.rule.id with ⟨_, e⟩ | ⟨k, hdl, h1, e⟩
        · rw [e] at e1
          cases e1
        · rw [e]
          refine ⟨List.length_set, fun d => ?_⟩
          by_cases hk : d = k
          · subst hk
            simp only [List.getD_eq_getElem?_getD, List.getElem?_set_self hdl, Option.getD_some, List.getElem?_eq_getElem hdl]
            rw [List.filter_filter]
            refine List.filter_congr fun r hr => ?_
            by_cases hid : r.id = o.rule.id
            · have h3 := findL_of hok (findR_some (hI _ (List.getElem_mem hdl)) hr hid)
              rw [h3] at h0
              rw [show hasR a r = false from h0, Bool.false_and]
            · rw [decide_eq_true hid, Bool.and_true]
          · simp only [List.getD_eq_getElem?_getD, List.getElem?_set_ne (Ne.symm hk)]
    rw [e3]
    refine ⟨ih1.trans key.1, fun d => ?_⟩
    rcases ih2 d with h | h
    · exact Or.inl (h.trans (key.2 d))
    · exact Or.inr (h.trans (by rw [key.2 d]))
theorem pair_find {L l L' l' : List Rl} (h : Pair L l) (h' : Pair L' l') (p : Rl → Bool) (hp : (L'.filter p).Perm (L.filter p)) : l'.find? p = l.find? p := by
  rw [← List.head?_filter, ← List.head?_filter]
  congr 1
  refine sorted_one ?_ (nodup_filt p h'.ids) ?_ ?_
  · exact ((h'.perm.filter p).trans hp).trans (h.perm.filter p).symm
  · exact (h'.sorted.weak).filter p
  · exact h.sorted.filter p
theorem Pairs.getD : ∀ {Ls ls : List (List Rl)}, Pairs Ls ls → ∀ d, Pair (Ls.getD d []) (ls.getD d [])
  | [], [], _, d => by simpa using Pair.nil
  | L :: Ls, l :: ls, h, 0 => h.1
  | L :: Ls, l :: ls, h, d + 1 => by simpa using Pairs.getD h.2 d
  | [], _ :: _, h, _ => h.elim
  | _ :: _, [], h, _ => h.elim
/-- A header that no prefix of a batch has goes as it did. -/
theorem way_same {T : Tp} {l : List Op} {Ls ls lx : List (List Rl)} (hok : NetOk T.ports Ls) (hP : Pairs Ls ls) (hx : Pairs (appS T.ports l 0 Ls).1 lx) (ha : (appS T.ports l 0 Ls).2.2 = 0) {h : Hv} (hp : ∀ p ∈ docS T.ports Ls l, hasN p.addr p.bits.toNat h.dst = false) :
    ∀ (n : Nat) (way : List Int) (d : Int), wayS T lx h n way d = wayS T ls h n way d := by
  obtain ⟨_, hu⟩ := untouched h.dst l 0 Ls hok hP.netI ha hp
  have hs : ∀ d, stepS T lx h d = stepS T ls h d := fun d => by
    unfold stepS
    have e : ∀ (q : List (List Rl)) (k : Nat), q[k]! = q.getD k [] := fun q k => by rw [List.getElem!_eq_getElem?_getD, List.getD_eq_getElem?_getD]; rfl
    rw [e, e, pair_find (hP.getD d.toNat) (hx.getD d.toNat) (hasR h.dst) (by rcases hu d.toNat with h1 | h1; exact (by rw [h1]); exact h1)]
  intro n
  induction n with
  | zero => intro way d; rfl
  | succ n ih =>
    intro way d
    unfold wayS
    rw [hs]
    split
    · rfl
    · split
      · exact ih _ _
      · rfl
end Go.Proofs.YtjoblahedgpgbaaGreat
