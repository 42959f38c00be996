/- The batch that undoes one, plainly. -/
import Derived.Test.YtiedhjmnjpkcoaaBat
namespace Go.Proofs.Ytiedhjmnjpkcoaa
set_option linter.unusedVariables false
set_option linter.unusedSimpArgs false
open Go.RowKit

/-- Device by device the same rules. -/
structure PermS (Ls Ms : List (List Rl)) : Prop where
  len : Ls.length = Ms.length
  each : ∀ (d : Nat) (L M : List Rl), Ls[d]? = some L → Ms[d]? = some M → L.Perm M
theorem PermS.refl (Ls : List (List Rl)) : PermS Ls Ls := ⟨rfl, fun d L M h1 h2 => by rw [h1] at h2; cases h2; exact List.Perm.refl _⟩
theorem PermS.symm {Ls Ms : List (List Rl)} (h : PermS Ls Ms) : PermS Ms Ls := ⟨h.len.symm, fun d L M h1 h2 => (h.each d M L h2 h1).symm⟩
theorem PermS.get {Ls Ms : List (List Rl)} (h : PermS Ls Ms) {d : Nat} (h1 : d < Ls.length) (h2 : d < Ms.length) : Ls[d].Perm Ms[d] := h.each d _ _ (List.getElem?_eq_getElem h1) (List.getElem?_eq_getElem h2)
theorem PermS.other {Ls Ms : List (List Rl)} (h : PermS Ls Ms) {d : Nat} {L : List Rl} (h1 : Ls[d]? = some L) : ∃ M, Ms[d]? = some M ∧ L.Perm M := by
  have hd := (List.getElem?_eq_some_iff.1 h1).1
  have hd2 : d < Ms.length := h.len ▸ hd
  exact ⟨Ms[d], List.getElem?_eq_getElem hd2, h.each d _ _ h1 (List.getElem?_eq_getElem hd2)⟩
theorem PermS.has {Ls Ms : List (List Rl)} (h : PermS Ls Ms) (id : Int) (hh : hasL Ls id = true) : hasL Ms id = true := by
  obtain ⟨L, hL, r, hr, hi⟩ := hasL_iff.1 hh
  obtain ⟨d, hd⟩ := List.mem_iff_getElem?.1 hL
  obtain ⟨M, hM, hp⟩ := h.other hd
  exact hasL_iff.2 ⟨M, List.mem_of_getElem? hM, r, hp.mem_iff.1 hr, hi⟩
theorem PermS.hasF {Ls Ms : List (List Rl)} (h : PermS Ls Ms) (id : Int) (hh : hasL Ls id = false) : hasL Ms id = false := by
  cases e : hasL Ms id with
  | false => rfl
  | true => rw [h.symm.has id e] at hh; cases hh
theorem PermS.lens : ∀ {Ls Ms : List (List Rl)}, PermS Ls Ms → lenT Ls = lenT Ms
  | [], [], _ => rfl
  | [], _ :: _, h => by have := h.len; simp at this
  | _ :: _, [], h => by have := h.len; simp at this
  | L :: Ls, M :: Ms, h => by
    have ih : lenT Ls = lenT Ms := PermS.lens ⟨by have := h.len; simpa using this, fun d L M h1 h2 => h.each (d + 1) L M (by simpa using h1) (by simpa using h2)⟩
    have h0 := (h.each 0 L M rfl rfl).length_eq
    unfold lenT at *
    rw [List.map_cons, List.map_cons, List.sum_cons, List.sum_cons, ih, h0]
theorem PermS.pairs : ∀ {Ls Ms ls : List (List Rl)}, PermS Ls Ms → Pairs Ms ls → Pairs Ls ls
  | [], [], _, _, hp => hp
  | [], _ :: _, _, h, _ => by have := h.len; simp at this
  | _ :: _, [], _, h, _ => by have := h.len; simp at this
  | _ :: _, _ :: _, [], _, hp => by cases hp
  | L :: Ls, M :: Ms, l :: ls, h, hp =>
    ⟨⟨hp.1.perm.trans (h.each 0 L M rfl rfl).symm, hp.1.sorted, hp.1.ids⟩, PermS.pairs ⟨by have := h.len; simpa using this, fun d L M h1 h2 => h.each (d + 1) L M (by simpa using h1) (by simpa using h2)⟩ hp.2⟩
/-- A device of the one list turned to what the other has. -/
theorem PermS.setl {Ls Ms : List (List Rl)} {d : Nat} {L : List Rl} (hl : Ls.length = Ms.length) (hd : d < Ms.length) (h : ∀ (e : Nat) (L M : List Rl), e ≠ d → Ls[e]? = some L → Ms[e]? = some M → L.Perm M) (hL : L.Perm Ms[d]) : PermS (Ls.set d L) Ms := by
  refine ⟨by rw [List.length_set]; exact hl, fun e L' M h1 h2 => ?_⟩
  rcases get_set h1 with ⟨rfl, rfl, _⟩ | ⟨hne, h3⟩
  · rw [List.getElem?_eq_getElem hd] at h2
    cases h2
    exact hL
  · exact h e L' M (fun x => hne x.symm) h3 h2

/-- What a net has that came by changes in their bounds. -/
structure Fit (ports : List Int) (Ls : List (List Rl)) : Prop where
  ok : NetOk ports Ls
  ids : ∀ L ∈ Ls, (L.map (·.id)).Nodup
  good : ∀ L ∈ Ls, ∀ r ∈ L, rtB r.dst = true ∧ boundsR r = 0
variable {ports : List Int} {Ls Ms : List (List Rl)}
theorem Fit.empty (ports : List Int) : Fit ports (List.replicate ports.length []) := by
  refine ⟨NetOk.empty ports, fun L hL => ?_, fun L hL r hr => ?_⟩
  · rw [(List.mem_replicate.1 hL).2]
    exact List.Pairwise.nil
  · rw [(List.mem_replicate.1 hL).2] at hr
    cases hr
theorem Fit.chg (h : Fit ports Ls) (o : Op) (ho : o.del = true ∨ boundsR o.rule = 0) : Fit ports (chgS ports Ls o).1 := by
  refine (fun (x : (∀ L ∈ (chgS ports Ls o).1, (L.map (·.id)).Nodup) ∧ ∀ L ∈ (chgS ports Ls o).1, ∀ r ∈ L, rtB r.dst = true ∧ boundsR r = 0) => ⟨h.ok.chg o, x.1, x.2⟩) ?_
  unfold chgS
  by_cases hd : o.del = true
  · rw [if_pos hd]
    rcases delS_cases Ls o.rule.id with ⟨_, h2⟩ | ⟨i, hi, _, h2⟩
    · rw [h2]
      exact ⟨h.ids, h.good⟩
    · rw [h2]
      have hm : ∀ L ∈ Ls.set i (Ls[i].filter fun r => decide (r.id ≠ o.rule.id)), L ∈ Ls ∨ L = Ls[i].filter fun r => decide (r.id ≠ o.rule.id) := fun L hL => List.mem_or_eq_of_mem_set hL
      refine ⟨fun L hL => ?_, fun L hL r hr => ?_⟩
      · rcases hm L hL with h3 | rfl
        · exact h.ids L h3
        · exact (h.ids _ (List.getElem_mem hi)).sublist (List.filter_sublist.map _)
      · rcases hm L hL with h3 | rfl
        · exact h.good L h3 r hr
        · exact h.good _ (List.getElem_mem hi) r (List.mem_filter.1 hr).1
  · rw [if_neg hd]
    have hb : boundsR o.rule = 0 := ho.resolve_left hd
    rcases insS_cases ports Ls o.rule with ⟨h2, _⟩ | ⟨i, _, hi, _, _, h5, h6, h2⟩
    · rw [h2]
      exact ⟨h.ids, h.good⟩
    · rw [h2]
      refine ⟨fun L hL => ?_, fun L hL r hr => ?_⟩
      · rcases List.mem_or_eq_of_mem_set hL with h3 | rfl
        · exact h.ids L h3
        · rw [List.map_cons, List.nodup_cons]
          refine ⟨fun hm => ?_, h.ids _ (List.getElem_mem hi)⟩
          obtain ⟨x, hx, he⟩ := List.mem_map.1 hm
          rw [hasL_iff.2 ⟨_, List.getElem_mem hi, x, hx, he⟩] at h5
          cases h5
      · rcases List.mem_or_eq_of_mem_set hL with h3 | rfl
        · exact h.good L h3 r hr
        · rcases List.mem_cons.1 hr with rfl | h3
          · exact ⟨h6, hb⟩
          · exact h.good _ (List.getElem_mem hi) r h3

theorem ins_ok {r : Rl} {d : Nat} (h1 : r.dev = d) (h2 : d < Ls.length) (h3 : -1 ≤ r.out) (h4 : r.out < ports[d]!) (h5 : hasL Ls r.id = false) (h6 : rtB r.dst = true) : insS ports Ls r = (Ls.set d (r :: Ls[d]), 0) := by
  have hdn : r.dev.toNat = d := by omega
  unfold insS
  rw [if_neg (by omega), hdn, if_neg (by omega), if_neg (by simp [h5]), getElem!_pos Ls d h2]
  have hno : (findR Ls[d] r.id).isSome = false := by
    cases e : (findR Ls[d] r.id).isSome with
    | false => rfl
    | true =>
      obtain ⟨x, hx, hi⟩ := findR_isSome.1 e
      rw [hasL_iff.2 ⟨_, List.getElem_mem h2, x, hx, hi⟩] at h5
      cases h5
  unfold addT
  rw [if_pos h6, hno]
  rfl
theorem del_ok {id : Int} {d : Nat} (hd : d < Ls.length) (hf : (findR Ls[d] id).isSome = true) (h1 : ∀ (e : Nat) (L : List Rl), Ls[e]? = some L → ∀ r ∈ L, r.id = id → e = d) : delS Ls id = (Ls.set d (Ls[d].filter fun r => decide (r.id ≠ id)), 0) := by
  rcases delS_cases Ls id with ⟨h2, _⟩ | ⟨e, he, h2, h3⟩
  · obtain ⟨r, hr, hi⟩ := findR_isSome.1 hf
    rw [hasL_iff.2 ⟨_, List.getElem_mem hd, r, hr, hi⟩] at h2
    cases h2
  · obtain ⟨r, hr, hi⟩ := findR_isSome.1 h2
    obtain rfl := h1 e _ (List.getElem?_eq_getElem he) r hr hi
    exact h3

/-- The rule of a number: the last device's that has one. -/
def getS (Ls : List (List Rl)) (id : Int) : Option Rl := Ls.foldl (fun a L => match findR L id with | some r => some r | none => a) none
theorem getS_snoc (Ls : List (List Rl)) (L : List Rl) (id : Int) : getS (Ls ++ [L]) id = match findR L id with | some r => some r | none => getS Ls id := by simp [getS]
theorem getS_none {id : Int} (h : hasL Ls id = false) : getS Ls id = none := by
  have : ∀ (Ls : List (List Rl)) (a : Option Rl), (∀ L ∈ Ls, findR L id = none) → Ls.foldl (fun a L => match findR L id with | some r => some r | none => a) a = a := by
    intro Ls
    induction Ls with
    | nil => intro a _; rfl
    | cons L Ls ih =>
      intro a h
      rw [List.foldl_cons, h L List.mem_cons_self]
      exact ih a fun M hM => h M (List.mem_cons_of_mem _ hM)
  refine this Ls none fun L hL => ?_
  cases e : findR L id with
  | none => rfl
  | some r =>
    obtain ⟨h1, h2⟩ := find_id e
    rw [hasL_iff.2 ⟨L, hL, r, h1, h2⟩] at h
    cases h
theorem getS_some {id : Int} {r : Rl} (h : ∀ L ∈ Ls, findR L id = none ∨ findR L id = some r) (hx : ∃ L ∈ Ls, findR L id = some r) : getS Ls id = some r := by
  have : ∀ (Ls : List (List Rl)) (a : Option Rl), (∀ L ∈ Ls, findR L id = none ∨ findR L id = some r) → (a = some r ∨ ∃ L ∈ Ls, findR L id = some r) → Ls.foldl (fun a L => match findR L id with | some r => some r | none => a) a = some r := by
    intro Ls
    induction Ls with
    | nil =>
      intro a _ h
      rcases h with h | ⟨L, hL, _⟩
      · exact h
      · cases hL
    | cons L Ls ih =>
      intro a h hx
      rw [List.foldl_cons]
      refine ih _ (fun M hM => h M (List.mem_cons_of_mem _ hM)) ?_
      rcases h L List.mem_cons_self with h1 | h1
      · rw [h1]
        rcases hx with h2 | ⟨M, hM, h2⟩
        · exact Or.inl h2
        · rcases List.mem_cons.1 hM with rfl | hM
          · rw [h1] at h2; cases h2
          · exact Or.inr ⟨M, hM, h2⟩
      · rw [h1]
        exact Or.inl rfl
  exact this Ls none h (Or.inr hx)
theorem Fit.getS (h : Fit ports Ls) {id : Int} {d : Nat} {r : Rl} (hd : d < Ls.length) (hf : findR Ls[d] id = some r) : _root_.Go.Proofs.Ytiedhjmnjpkcoaa.getS Ls id = some r := by
  obtain ⟨h1, h2⟩ := find_id hf
  refine getS_some (fun L hL => ?_) ⟨_, List.getElem_mem hd, hf⟩
  cases e : findR L id with
  | none => exact Or.inl rfl
  | some s =>
    obtain ⟨h3, h4⟩ := find_id e
    obtain ⟨k, hk, rfl⟩ := List.mem_iff_getElem.1 hL
    obtain rfl := h.ok.one k d _ _ (List.getElem?_eq_getElem hk) (List.getElem?_eq_getElem hd) s h3 r h1 (by rw [h4, h2])
    rw [hf] at e
    exact Or.inr e.symm

def undoS (Ls : List (List Rl)) (o : Op) : Op := match (if o.del = true then _root_.Go.Proofs.Ytiedhjmnjpkcoaa.getS Ls o.rule.id else none) with | some r => ⟨false, r⟩ | none => ⟨true, ⟨o.rule.id, 0, 0, 0, 0, 0⟩⟩
def backS (ports : List Int) : List Op → List (List Rl) → List Op
  | [], _ => []
  | o :: os, Ls => backS ports os (chgS ports Ls o).1 ++ (if (chgS ports Ls o).2 = 0 then [undoS Ls o] else [])
def foldS (ports : List Int) (Ls : List (List Rl)) (l : List Op) : List (List Rl) := l.foldl (fun Ls o => (chgS ports Ls o).1) Ls
theorem backS_snoc (o : Op) : ∀ (l : List Op) (Ls : List (List Rl)), backS ports (l ++ [o]) Ls = (if (chgS ports (foldS ports Ls l) o).2 = 0 then [undoS (foldS ports Ls l) o] else []) ++ backS ports l Ls
  | [], Ls => by
    rw [List.nil_append, backS, backS, backS, List.nil_append, List.append_nil]
    rfl
  | a :: l, Ls => by
    have ih := backS_snoc o l (chgS ports Ls a).1
    rw [List.cons_append, backS, ih, backS, List.append_assoc]
    rfl

theorem undo_ok (h : Fit ports Ls) {o : Op} (ho : (chgS ports Ls o).2 = 0) {Ly : List (List Rl)} (hp : PermS Ly (chgS ports Ls o).1) : badO (undoS Ls o) = false ∧ (chgS ports Ly (undoS Ls o)).2 = 0 ∧ PermS (chgS ports Ly (undoS Ls o)).1 Ls := by
  have hoc := h.ok.chg o
  by_cases hd : o.del = true
  · unfold chgS at ho hp hoc
    rw [if_pos hd] at ho hp hoc
    rcases delS_cases Ls o.rule.id with ⟨_, h2⟩ | ⟨d, hi, hf, h2⟩
    · rw [h2] at ho
      cases ho
    · rw [h2] at hp hoc
      simp only at hp hoc
      obtain ⟨r, hr⟩ := Option.isSome_iff_exists.1 hf
      obtain ⟨hm, hid⟩ := find_id hr
      obtain ⟨hrt, hbd⟩ := h.good _ (List.getElem_mem hi) r hm
      obtain ⟨g1, g2, g3⟩ := h.ok.dev d _ (List.getElem?_eq_getElem hi) r hm
      have hu : undoS Ls o = ⟨false, r⟩ := by
        unfold undoS
        rw [if_pos hd, h.getS hi hr]
      have hly : d < Ly.length := by rw [hp.len, List.length_set]; exact hi
      have hlc : Ly.length = Ls.length := by rw [hp.len, List.length_set]
      have hno : hasL (Ls.set d (Ls[d].filter fun r => decide (r.id ≠ o.rule.id))) r.id = false := by
        cases e : hasL (Ls.set d (Ls[d].filter fun r => decide (r.id ≠ o.rule.id))) r.id with
        | false => rfl
        | true =>
          obtain ⟨L, hL, x, hx, hxi⟩ := hasL_iff.1 e
          obtain ⟨k, hk⟩ := List.mem_iff_getElem?.1 hL
          rcases get_set hk with ⟨rfl, rfl, _⟩ | ⟨hne, h3⟩
          · have := (List.mem_filter.1 hx).2
            rw [hid] at hxi
            simp [hxi] at this
          · exact absurd (h.ok.one d k _ _ (List.getElem?_eq_getElem hi) h3 r hm x hx hxi.symm) hne
      have hins := ins_ok (ports := ports) (Ls := Ly) g1 hly g2 g3 (hp.symm.hasF _ hno) hrt
      rw [hu]
      refine ⟨by simp [badO_iff, hbd], ?_⟩
      unfold chgS
      rw [if_neg (by simp), hins]
      refine ⟨rfl, PermS.setl hlc hi (fun e L M hne h3 h4 => ?_) ?_⟩
      · exact hp.each e L M h3 (by rw [List.getElem?_set_ne (fun x => hne x.symm)]; exact h4)
      · have h5 := hp.get hly (by rw [List.length_set]; exact hi)
        rw [List.getElem_set_self] at h5
        rw [← hid] at h5
        exact (h5.cons r).trans (drop_perm (h.ids _ (List.getElem_mem hi)) hm).symm
  · unfold chgS at ho hp hoc
    rw [if_neg hd] at ho hp hoc
    rcases insS_cases ports Ls o.rule with ⟨_, h2⟩ | ⟨d, _, hi, _, _, h5, _, h2⟩
    · exact absurd ho h2
    · rw [h2] at hp hoc
      simp only at hp hoc
      have hu : undoS Ls o = ⟨true, ⟨o.rule.id, 0, 0, 0, 0, 0⟩⟩ := by
        unfold undoS
        rw [if_neg hd]
      have hly : d < Ly.length := by rw [hp.len, List.length_set]; exact hi
      have hlc : Ly.length = Ls.length := by rw [hp.len, List.length_set]
      have h6 := hp.get hly (by rw [List.length_set]; exact hi)
      rw [List.getElem_set_self] at h6
      have hfy : (findR Ly[d] o.rule.id).isSome = true := findR_isSome.2 ⟨o.rule, h6.mem_iff.2 List.mem_cons_self, rfl⟩
      have hdel := del_ok hly hfy (fun e L hL x hx hxi => by
        obtain ⟨M, hM, hpm⟩ := hp.other hL
        exact hoc.one e d M (o.rule :: Ls[d]) hM (by rw [List.getElem?_set_self hi]) x (hpm.mem_iff.1 hx) o.rule List.mem_cons_self hxi)
      rw [hu]
      refine ⟨by simp [badO_iff], ?_⟩
      unfold chgS
      rw [if_pos rfl]
      simp only
      rw [hdel]
      refine ⟨rfl, PermS.setl hlc hi (fun e L M hne h3 h4 => ?_) ?_⟩
      · exact hp.each e L M h3 (by rw [List.getElem?_set_ne (fun x => hne x.symm)]; exact h4)
      · have h7 := h6.filter (fun r => decide (r.id ≠ o.rule.id))
        refine h7.trans ?_
        rw [List.filter_cons_of_neg (by simp), List.filter_eq_self.2]
        intro x hx
        refine decide_eq_true fun he => ?_
        rw [hasL_iff.2 ⟨_, List.getElem_mem hi, x, hx, he⟩] at h5
        cases h5

theorem back_ok : ∀ (l : List Op) (i j : Nat) (Ls : List (List Rl)), Fit ports Ls → lenT Ls ≤ 256 → (appS ports l i Ls).2.2 = 0 → (appS ports (backS ports l Ls) j (appS ports l i Ls).1).2.2 = 0 ∧ PermS (appS ports (backS ports l Ls) j (appS ports l i Ls).1).1 Ls ∧ (backS ports l Ls).length = l.length
  | [], i, j, Ls, _, _, _ => ⟨rfl, PermS.refl _, rfl⟩
  | o :: l, i, j, Ls, hF, hL, he => by
    rw [appS_cons] at he ⊢
    by_cases h1 : badO o = true
    · rw [if_pos h1] at he
      cases he
    · rw [if_neg h1] at he ⊢
      by_cases h2 : (chgS ports Ls o).2 ≠ 0
      · rw [if_pos h2] at he
        exact absurd he h2
      · rw [if_neg h2] at he ⊢
        have h2' : (chgS ports Ls o).2 = 0 := Decidable.not_not.1 h2
        by_cases h3 : 256 < lenT (chgS ports Ls o).1
        · rw [if_pos h3] at he
          cases he
        · rw [if_neg h3] at he ⊢
          have hb : o.del = true ∨ boundsR o.rule = 0 := by
            rw [badO_iff] at h1
            cases hd : o.del with
            | true => exact Or.inl rfl
            | false => rw [hd] at h1; exact Or.inr (by simpa using h1)
          obtain ⟨g1, g2, g3⟩ := back_ok l (i + 1) j _ (hF.chg o hb) (by omega) he
          rw [backS, if_pos h2', appS_append, if_neg (by simp [g1]), appS_cons]
          obtain ⟨u1, u2, u3⟩ := undo_ok hF h2' g2
          rw [if_neg (by simp [u1]), if_neg (by simp [u2]), if_neg (by rw [u3.lens]; omega)]
          exact ⟨rfl, u3, by simp [g3]⟩
/-- Rules whose numbers fit their cells. -/
def WfS (Ls : List (List Rl)) : Prop := ∀ L ∈ Ls, ∀ r ∈ L, r.Wf
theorem WfS.empty (n : Nat) : WfS (List.replicate n []) := fun L hL r hr => by
  rw [(List.mem_replicate.1 hL).2] at hr
  cases hr
theorem WfS.chg (h : WfS Ls) (o : Op) (ho : o.rule.Wf) : WfS (chgS ports Ls o).1 := by
  unfold chgS
  by_cases hd : o.del = true
  · rw [if_pos hd]
    rcases delS_cases Ls o.rule.id with ⟨_, h2⟩ | ⟨i, hi, _, h2⟩
    · rw [h2]
      exact h
    · rw [h2]
      intro L hL r hr
      rcases List.mem_or_eq_of_mem_set hL with h3 | rfl
      · exact h L h3 r hr
      · exact h _ (List.getElem_mem hi) r (List.mem_filter.1 hr).1
  · rw [if_neg hd]
    rcases insS_cases ports Ls o.rule with ⟨h2, _⟩ | ⟨i, _, hi, _, _, _, _, h2⟩
    · rw [h2]
      exact h
    · rw [h2]
      intro L hL r hr
      rcases List.mem_or_eq_of_mem_set hL with h3 | rfl
      · exact h L h3 r hr
      · rcases List.mem_cons.1 hr with rfl | h3
        · exact ho
        · exact h _ (List.getElem_mem hi) r h3
theorem getS_mem {id : Int} {r : Rl} (h : getS Ls id = some r) : ∃ L ∈ Ls, r ∈ L := by
  have : ∀ (Ls : List (List Rl)) (a : Option Rl), Ls.foldl (fun a L => match findR L id with | some r => some r | none => a) a = some r → a = some r ∨ ∃ L ∈ Ls, r ∈ L := by
    intro Ls
    induction Ls with
    | nil => intro a h; exact Or.inl h
    | cons L Ls ih =>
      intro a h
      rw [List.foldl_cons] at h
      rcases ih _ h with h1 | ⟨M, hM, hr⟩
      · cases e : findR L id with
        | none => rw [e] at h1; exact Or.inl h1
        | some s =>
          rw [e] at h1
          cases h1
          exact Or.inr ⟨L, List.mem_cons_self, (find_id e).1⟩
      · exact Or.inr ⟨M, List.mem_cons_of_mem _ hM, hr⟩
  rcases this Ls none h with h1 | h1
  · cases h1
  · exact h1
/-- The change that undoes one, of the rule that was found. -/
def uOp (x : Option Rl) (id : Int) : Op := match x with | some r => ⟨false, r⟩ | none => ⟨true, ⟨id, 0, 0, 0, 0, 0⟩⟩
theorem undoS_del {o : Op} (h : o.del = true) : undoS Ls o = uOp (getS Ls o.rule.id) o.rule.id := by
  unfold undoS uOp
  rw [if_pos h]
theorem undoS_add {o : Op} (h : o.del = false) : undoS Ls o = ⟨true, ⟨o.rule.id, 0, 0, 0, 0, 0⟩⟩ := by
  unfold undoS
  rw [if_neg (by simp [h])]
theorem undo_wf (h : WfS Ls) (o : Op) (ho : o.rule.Wf) : (undoS Ls o).rule.Wf := by
  have hz : (⟨o.rule.id, 0, 0, 0, 0, 0⟩ : Rl).Wf := by
    obtain ⟨_, h2, _⟩ := ho
    unfold Rl.Wf inI at *
    simp only
    omega
  cases hd : o.del with
  | false => rw [undoS_add hd]; exact hz
  | true =>
    rw [undoS_del hd]
    cases hg : getS Ls o.rule.id with
    | none => exact hz
    | some r =>
      obtain ⟨L, hL, hr⟩ := getS_mem hg
      exact h L hL r hr
theorem back_wf : ∀ (l : List Op) (Ls : List (List Rl)), WfS Ls → (∀ o ∈ l, o.rule.Wf) → ∀ u ∈ backS ports l Ls, u.rule.Wf
  | [], _, _, _, u, hu => by cases hu
  | o :: l, Ls, h, ho, u, hu => by
    rw [backS] at hu
    rcases List.mem_append.1 hu with h1 | h1
    · exact back_wf l _ (h.chg o (ho o List.mem_cons_self)) (fun x hx => ho x (List.mem_cons_of_mem _ hx)) u h1
    · split at h1
      · rw [List.mem_singleton.1 h1]
        exact undo_wf h o (ho o List.mem_cons_self)
      · cases h1
theorem foldS_snoc (l : List Op) (o : Op) (Ls : List (List Rl)) : foldS ports Ls (l ++ [o]) = (chgS ports (foldS ports Ls l) o).1 := by simp [foldS]
theorem foldS_ok (h : NetOk ports Ls) : ∀ l : List Op, NetOk ports (foldS ports Ls l) := fun l => by
  induction l generalizing Ls with
  | nil => exact h
  | cons o l ih => exact ih (h.chg o)
theorem foldS_len : ∀ (l : List Op) (Ls : List (List Rl)), lenT (foldS ports Ls l) ≤ lenT Ls + l.length
  | [], Ls => Nat.le_refl _
  | o :: l, Ls => by
    have h1 := foldS_len l (chgS ports Ls o).1
    have h2 := chg_lenT ports Ls o
    show lenT (foldS ports (chgS ports Ls o).1 l) ≤ _
    rw [List.length_cons]
    omega
theorem backS_len : ∀ (l : List Op) (Ls : List (List Rl)), (backS ports l Ls).length ≤ l.length
  | [], _ => Nat.le_refl _
  | o :: l, Ls => by
    have ih := backS_len l (chgS ports Ls o).1
    rw [backS, List.length_append, List.length_cons]
    split
    · rw [List.length_singleton]
      omega
    · rw [List.length_nil]
      omega
theorem madeS_wf : ∀ ops : List Op, (∀ o ∈ ops, o.rule.Wf) → WfS (foldS ports (List.replicate ports.length []) ops) := by
  have : ∀ (ops : List Op) (Ls : List (List Rl)), WfS Ls → (∀ o ∈ ops, o.rule.Wf) → WfS (foldS ports Ls ops) := by
    intro ops
    induction ops with
    | nil => intro Ls h _; exact h
    | cons o ops ih => intro Ls h ho; exact ih _ (h.chg o (ho o List.mem_cons_self)) (fun x hx => ho x (List.mem_cons_of_mem _ hx))
  exact fun ops ho => this ops _ (WfS.empty _) ho
theorem foldS_fit (h : Fit ports Ls) : ∀ ops : List Op, (∀ o ∈ ops, boundsR o.rule = 0) → Fit ports (foldS ports Ls ops) := by
  intro ops
  induction ops generalizing Ls with
  | nil => intro _; exact h
  | cons o ops ih => intro ho; exact ih (h.chg o (Or.inr (ho o List.mem_cons_self))) (fun x hx => ho x (List.mem_cons_of_mem _ hx))
end Go.Proofs.Ytiedhjmnjpkcoaa
