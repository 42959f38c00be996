/- A map's block as a partial function: what a look-up, a store, a delete and a len of it come to, for whatever key type the kit's bundle 'Keyed' serves. Plain theorems on the kit's runs. -/
import Derived.Maps.OwnSet
import Derived.Maps.RangeWalk
import Derived.WalkKit
namespace Go.Proofs.YtjoblahedgpgbaaGreat
set_option linter.unusedVariables false
set_option linter.unusedSimpArgs false
open Go.RowKit Go.Maps Go.MapKept Go.ChangeMaps

section
variable {K V : Type}

/-- Block b is a map of n entries: f's, the keys written by ek and read at type kt, the elements by ev. -/
def IsMapOf (P : Program) (kt : TypeId) (ek : K → Value) (ev : V → Value) (w : World) (b n : Nat) (f : K → Option V) : Prop :=
  ∃ es clock, w.heap[b]? = some (.map es clock) ∧ Stamped es clock ∧ es.size = n ∧
    (∀ e ∈ es.toList, (∃ l, keyOf P kt e.key = some l) ∧ ∃ x v, e.key = ek x ∧ e.val = ev v ∧ f x = some v) ∧
    (∀ x v, f x = some v → ∃ e ∈ es.toList, e.key = ek x ∧ e.val = ev v)

def upd [DecidableEq K] (f : K → Option V) (x : K) (v : V) : K → Option V := fun y => if y = x then some v else f y
def del [DecidableEq K] (f : K → Option V) (x : K) : K → Option V := fun y => if y = x then none else f y

variable {P : Program} {kt : TypeId} {ek : K → Value} {ev : V → Value} {w : World} {b n : Nat} {f : K → Option V}

theorem IsMapOf.made (w : World) (P : Program) (kt : TypeId) (ek : K → Value) (ev : V → Value) : IsMapOf P kt ek ev (w.alloc (.map #[] 0)) w.heap.size 0 (fun _ => none) :=
  ⟨#[], 0, (MapKept.heap_alloc w _).1, stamped_empty 0, rfl, by simp, by simp⟩

theorem IsMapOf.lt (h : IsMapOf P kt ek ev w b n f) : b < w.heap.size := by
  obtain ⟨es, clock, hb, _⟩ := h
  exact (Array.getElem?_eq_some_iff.1 hb).1

theorem IsMapOf.of_block {w' : World} (h : IsMapOf P kt ek ev w b n f) (hb : w'.heap[b]? = w.heap[b]?) : IsMapOf P kt ek ev w' b n f := by
  obtain ⟨es, clock, h1, r⟩ := h
  exact ⟨es, clock, hb.trans h1, r⟩

theorem IsMapOf.congr {g : K → Option V} (h : IsMapOf P kt ek ev w b n f) (e : ∀ x, f x = g x) : IsMapOf P kt ek ev w b n g := by
  obtain rfl : f = g := funext e
  exact h

theorem IsMapOf.nonempty {x : K} {v : V} (h : IsMapOf P kt ek ev w b n f) (hx : f x = some v) : 0 < n := by
  obtain ⟨es, clock, _, _, hs, _, h2⟩ := h
  obtain ⟨e, he, _⟩ := h2 x v hx
  have := List.length_pos_of_mem he
  simp at this
  omega

theorem IsMapOf.key {x : K} {v : V} (h : IsMapOf P kt ek ev w b n f) (hx : f x = some v) : ∃ l, keyOf P kt (ek x) = some l := by
  obtain ⟨es, clock, _, _, hs, h1, h2⟩ := h
  obtain ⟨e, he, h3, _⟩ := h2 x v hx
  rw [← h3]
  exact (h1 e he).1

/-- What is found at a key. -/
theorem IsMapOf.find (h : IsMapOf P kt ek ev w b n f) (K0 : Keyed P kt) (hinj : ∀ x y, ek x = ek y → x = y) (x : K) (hkey : ∃ l, keyOf P kt (ek x) = some l) :
    ∃ es clock, w.heap[b]? = some (.map es clock) ∧ Stamped es clock ∧ es.size = n ∧
    ((f x = none ∧ (Instr.findKey kt (ek x) es.toList).run P w = .ok none w ∧ ∀ e ∈ es.toList, e.key ≠ ek x) ∨
     ∃ v j e, f x = some v ∧ (Instr.findKey kt (ek x) es.toList).run P w = .ok (some (j, ev v)) w ∧ es.toList[j]? = some e ∧ e.key = ek x ∧ e.val = ev v) := by
  obtain ⟨es, clock, hb, hst, hs, h1, h2⟩ := h
  obtain ⟨l, hl⟩ := hkey
  refine ⟨es, clock, hb, hst, hs, ?_⟩
  rcases K0.find w hl es.toList (fun e he => (h1 e he).1) with ⟨f1, f2⟩ | ⟨j, e, f1, f2, f3⟩
  · left
    refine ⟨?_, f1, f2⟩
    cases hx : f x with
    | none => rfl
    | some v =>
      obtain ⟨e, he, hk, _⟩ := h2 x v hx
      exact absurd hk (f2 e he)
  · right
    obtain ⟨_, x', v, hk, hv, hf⟩ := h1 e (List.mem_of_getElem? f2)
    obtain rfl : x' = x := hinj _ _ (hk.symm.trans f3)
    exact ⟨v, j, e, hf, by rw [← hv]; exact f1, f2, f3, hv⟩

/-- 'm[k]' and 'v, ok := m[k]'. -/
theorem IsMapOf.look (h : IsMapOf P kt ek ev w b n f) (K0 : Keyed P kt) (hinj : ∀ x y, ek x = ek y → x = y) {t et : TypeId} (ht : P.underlying t = some (.map kt et)) {z : Value} (hz : (zeroValue et).run P w = .ok z w) (x : K) (hkey : ∃ l, keyOf P kt (ek x) = some l) (c : Bool) :
    (Instr.lookup t (.map (some b)) (ek x) c).run P w = .ok (if c then .tuple #[((f x).map ev).getD z, .bool (f x).isSome] else ((f x).map ev).getD z) w := by
  obtain ⟨es, clock, hb, _, _, h1⟩ := h.find K0 hinj x hkey
  obtain ⟨l, hl⟩ := hkey
  rcases h1 with ⟨hf, f1, _⟩ | ⟨v, j, e, hf, f1, _⟩
  · cases c <;> simp [Instr.lookup, run_underlying ht, MapKept.run_getObj_map hb, K0.check w _ hl, f1, hz, hf, Result.andThen]
  · cases c <;> simp [Instr.lookup, run_underlying ht, MapKept.run_getObj_map hb, K0.check w _ hl, f1, hf, Result.andThen]

/-- 'len(m)'. -/
theorem IsMapOf.len (h : IsMapOf P kt ek ev w b n f) {t et : TypeId} (ht : P.underlying t = some (.map kt et)) (ty : TypeId) : (Builtin.len_ #[t] ty #[.map (some b)]).run P w = .ok (.int .i64 n) w := by
  obtain ⟨es, clock, hb, _, hs, _⟩ := h
  simp [Builtin.len_, run_underlying ht, MapKept.run_getObj_map hb, goInt, Result.andThen, hs]

theorem grown_setBlock {es : Array MapEntry} {clock : Nat} (hb : w.heap[b]? = some (.map es clock)) (o : Obj) : w.grownBy (setBlock w b o) (some b) :=
  ⟨rfl, rfl, rfl, by simp [setBlock], fun _ _ hi => heap_setBlock_other hb _ (fun e => hi (by rw [e]))⟩

/-- Two places of one map do not hold one key. -/
theorem stamped_other {es : Array MapEntry} {clock : Nat} (h : Stamped es clock) {i j : Nat} {x y : MapEntry} (hi : es.toList[i]? = some x) (hj : es.toList[j]? = some y) (hne : i ≠ j) : x.key ≠ y.key := by
  intro e
  have hn := h.2.2
  have h1 : (es.toList.map (·.key))[i]? = some x.key := by rw [List.getElem?_map, hi]; rfl
  have h2 : (es.toList.map (·.key))[j]? = some x.key := by rw [List.getElem?_map, hj]; simp [e]
  obtain ⟨li, _⟩ := List.getElem?_eq_some_iff.1 h1
  exact hne ((List.getElem?_inj li hn).1 (h1.trans h2.symm))

/-- 'm[k] = v'. -/
theorem IsMapOf.put [DecidableEq K] (h : IsMapOf P kt ek ev w b n f) (K0 : Keyed P kt) (hinj : ∀ x y, ek x = ek y → x = y) {t et : TypeId} (ht : P.underlying t = some (.map kt et)) (x : K) (v : V) (hkey : ∃ l, keyOf P kt (ek x) = some l) :
    ∃ w', (Instr.mapUpdate t (.map (some b)) (ek x) (ev v)).run P w = .ok () w' ∧ IsMapOf P kt ek ev w' b (if (f x).isSome then n else n + 1) (upd f x v) ∧ w.grownBy w' (some b) := by
  obtain ⟨esO, clock0, hb0, _, _, hes, hall⟩ := id h
  obtain ⟨es, clock, hb, hst, hs, h1⟩ := h.find K0 hinj x hkey
  obtain ⟨rfl, rfl⟩ : es = esO ∧ clock = clock0 := by rw [hb] at hb0; simpa using hb0
  obtain ⟨l, hl⟩ := id hkey
  rcases h1 with ⟨hf, f1, f2⟩ | ⟨v0, j, e0, hf, f1, f2, f3, f4⟩
  · refine ⟨setBlock w b (.map (es.push ⟨ek x, ev v, clock⟩) (clock + 1)), ?_, ⟨_, _, heap_setBlock_same hb _, stamped_push hst f2, by simp [hf, hs], ?_, ?_⟩, grown_setBlock hb _⟩
    · simp [Instr.mapUpdate, run_underlying ht, MapKept.run_getObj_map hb, K0.check w false hl, f1, MapKept.run_setObj_map _ hb, Result.andThen, setBlock]
    · intro e he
      simp only [Array.toList_push, List.mem_append, List.mem_singleton] at he
      rcases he with he | rfl
      · obtain ⟨hk, x', v', a1, a2, a3⟩ := hes e he
        refine ⟨hk, x', v', a1, a2, ?_⟩
        unfold upd
        rw [if_neg]
        · exact a3
        · rintro rfl
          exact f2 e he a1
      · exact ⟨hkey, x, v, rfl, rfl, by simp [upd]⟩
    · intro x' v' hx'
      unfold upd at hx'
      split at hx'
      · rename_i e
        subst e
        cases hx'
        exact ⟨⟨ek x', ev v, clock⟩, by simp, rfl, rfl⟩
      · obtain ⟨e, he, r⟩ := hall x' v' hx'
        exact ⟨e, by simp only [Array.toList_push, List.mem_append]; exact Or.inl he, r⟩
  · have hj : es[j]? = some e0 := by simpa using f2
    have hjl : j < es.toList.length := (List.getElem?_eq_some_iff.1 f2).1
    have hkeyf : ∀ e', es[j]? = some e' → ({ e' with key := ek x, val := ev v } : MapEntry).key = e'.key := fun e' he' => by rw [hj] at he'; cases he'; exact f3.symm
    have hlist : (es.modify j (fun e' => { e' with key := ek x, val := ev v })).toList = es.toList.set j { e0 with key := ek x, val := ev v } := by rw [Array.toList_modify, modify_eq_set _ _ _ _ f2]
    refine ⟨setBlock w b (.map (es.modify j (fun e' => { e' with key := ek x, val := ev v })) clock), ?_, ⟨_, _, heap_setBlock_same hb _, stamped_modify hst _ _ (fun _ _ => rfl) (fun e' _ he' => hkeyf e' he'), by simp [hf, hs], ?_, ?_⟩, grown_setBlock hb _⟩
    · simp [Instr.mapUpdate, run_underlying ht, MapKept.run_getObj_map hb, K0.check w false hl, f1, hj, f3, K0.stays w hl, MapKept.run_setObj_map _ hb, Result.andThen, setBlock]
    · intro e he
      rw [hlist] at he
      obtain ⟨i, hi, ex⟩ := List.getElem_of_mem he
      rw [List.getElem_set] at ex
      split at ex
      · subst ex
        exact ⟨hkey, x, v, rfl, rfl, by simp [upd]⟩
      · rename_i hne
        have hi' : i < es.toList.length := by simpa using hi
        have hm : e ∈ es.toList := ex ▸ List.getElem_mem hi'
        obtain ⟨hk, x', v', a1, a2, a3⟩ := hes e hm
        refine ⟨hk, x', v', a1, a2, ?_⟩
        unfold upd
        rw [if_neg]
        · exact a3
        · rintro rfl
          exact stamped_other hst f2 (show es.toList[i]? = some e by rw [List.getElem?_eq_getElem hi', ex]) hne (f3.trans a1.symm)
    · intro x' v' hx'
      rw [hlist]
      unfold upd at hx'
      split at hx'
      · rename_i e
        subst e
        cases hx'
        exact ⟨_, List.mem_iff_getElem.2 ⟨j, by simpa using hjl, by simp; rfl⟩, rfl, rfl⟩
      · rename_i hne
        obtain ⟨e, he, a1, a2⟩ := hall x' v' hx'
        obtain ⟨i, hi, ei⟩ := List.getElem_of_mem he
        have hij : j ≠ i := by
          rintro rfl
          have : e0 = e := Option.some.inj (f2.symm.trans (by rw [List.getElem?_eq_getElem hi, ei]))
          subst this
          exact hne (hinj _ _ (a1.symm.trans f3))
        exact ⟨e, List.mem_iff_getElem.2 ⟨i, by simpa using hi, by rw [List.getElem_set, if_neg hij]; exact ei⟩, a1, a2⟩

/-- 'delete(m, k)'. -/
theorem IsMapOf.drop [DecidableEq K] (h : IsMapOf P kt ek ev w b n f) (K0 : Keyed P kt) (hinj : ∀ x y, ek x = ek y → x = y) {t et ty : TypeId} (ht : P.underlying t = some (.map kt et)) (x : K) (hkey : ∃ l, keyOf P kt (ek x) = some l) :
    ∃ w', (Builtin.delete_ #[t, kt] ty #[.map (some b), ek x]).run P w = .ok (.tuple #[]) w' ∧ IsMapOf P kt ek ev w' b (if (f x).isSome then n - 1 else n) (del f x) ∧ w.grownBy w' (some b) := by
  obtain ⟨esO, clock0, hb0, _, _, hes, hall⟩ := id h
  obtain ⟨es, clock, hb, hst, hs, h1⟩ := h.find K0 hinj x hkey
  obtain ⟨rfl, rfl⟩ : es = esO ∧ clock = clock0 := by rw [hb] at hb0; simpa using hb0
  obtain ⟨l, hl⟩ := id hkey
  rcases h1 with ⟨hf, f1, f2⟩ | ⟨v0, j, e0, hf, f1, f2, f3, f4⟩
  · refine ⟨setBlock w b (.map es clock), ?_, ⟨es, clock, heap_setBlock_same hb _, hst, by simp [hf, hs], ?_, ?_⟩, grown_setBlock hb _⟩
    · simp [Builtin.delete_, run_underlying ht, MapKept.run_getObj_map hb, K0.check w _ hl, f1, MapKept.run_setObj_map _ hb, Result.andThen, setBlock]
    · intro e he
      obtain ⟨hk, x', v', a1, a2, a3⟩ := hes e he
      refine ⟨hk, x', v', a1, a2, ?_⟩
      unfold del
      rw [if_neg]
      · exact a3
      · rintro rfl
        exact f2 e he a1
    · intro x' v' hx'
      unfold del at hx'
      split at hx'
      · cases hx'
      · exact hall x' v' hx'
  · have hjl : j < es.toList.length := (List.getElem?_eq_some_iff.1 f2).1
    have hjs : j < es.size := by simpa using hjl
    have hlist : (es.eraseIdxIfInBounds j).toList = es.toList.eraseIdx j := by
      unfold Array.eraseIdxIfInBounds
      rw [dif_pos hjs]
      simp
    refine ⟨setBlock w b (.map (es.eraseIdxIfInBounds j) clock), ?_, ⟨_, clock, heap_setBlock_same hb _, stamped_erase hst j, ?_, ?_, ?_⟩, grown_setBlock hb _⟩
    · simp [Builtin.delete_, run_underlying ht, MapKept.run_getObj_map hb, K0.check w _ hl, f1, MapKept.run_setObj_map _ hb, Result.andThen, setBlock]
    · have : (es.eraseIdxIfInBounds j).toList.length = es.toList.length - 1 := by rw [hlist, List.length_eraseIdx_of_lt hjl]
      simp only [Array.length_toList] at this
      simp [hf, this, hs]
    · intro e he
      rw [hlist] at he
      obtain ⟨i, hne, hi⟩ := List.mem_eraseIdx_iff_getElem?.1 he
      obtain ⟨hk, x', v', a1, a2, a3⟩ := hes e (List.mem_of_getElem? hi)
      refine ⟨hk, x', v', a1, a2, ?_⟩
      unfold del
      rw [if_neg]
      · exact a3
      · rintro rfl
        exact stamped_other hst f2 hi (Ne.symm hne) (f3.trans a1.symm)
    · intro x' v' hx'
      unfold del at hx'
      split at hx'
      · cases hx'
      · rename_i hne
        obtain ⟨e, he, a1, a2⟩ := hall x' v' hx'
        obtain ⟨i, hi, ei⟩ := List.getElem_of_mem he
        refine ⟨e, ?_, a1, a2⟩
        rw [hlist]
        refine List.mem_eraseIdx_iff_getElem?.2 ⟨i, ?_, by rw [List.getElem?_eq_getElem hi, ei]⟩
        rintro rfl
        have : e0 = e := Option.some.inj (f2.symm.trans (by rw [List.getElem?_eq_getElem hi, ei]))
        subst this
        exact hne (hinj _ _ (a1.symm.trans f3))
end

section
variable {K V : Type} {P : Program} {kt : TypeId} {ek : K → Value} {ev : V → Value} {b n : Nat} {f : K → Option V} (w : World) {ops : Array Oper} {rest : List Oper} {o : Oper} {a : Act} {Q : Exit → Act → World → Prop}

/-- 'm[k] = v' at the operation. -/
theorem wpList_put [DecidableEq K] (hg : o.guard = none) (m x v : Operand) (t et : TypeId) (hop : o.op = Op.mapUpdate t m x v) (K0 : Keyed P kt) (hinj : ∀ x y, ek x = ek y → x = y) (ht : P.underlying t = some (.map kt et))
    (h : IsMapOf P kt ek ev w b n f) (key : K) (val : V) (hkey : ∃ l, keyOf P kt (ek key) = some l) (hm : a.eval m = .map (some b)) (hx : a.eval x = ek key) (hv : a.eval v = ev val)
    (hK : ∀ w', IsMapOf P kt ek ev w' b (if (f key).isSome then n else n + 1) (upd f key val) → w.grownBy w' (some b) → wpList P ops Q rest (a.put o.dst undef) w') : wpList P ops Q (o :: rest) a w := by
  refine wpList_plain hg fun K' hK' => ?_
  obtain ⟨w', hrun, r1, r2⟩ := h.put K0 hinj ht key val hkey
  unfold Oper.wp
  simp [execOp, hop, hm, hx, hv, hrun, Result.andThen]
  exact hK' _ _ (hK w' r1 r2)

/-- 'delete(m, k)' at the operation. -/
theorem wpList_drop [DecidableEq K] (hg : o.guard = none) (m x : Operand) (t et : TypeId) (hop : o.op = Op.call { callee := Callee.builtin Builtin.delete, args := #[m, x], argTypes := #[t, kt] }) (K0 : Keyed P kt) (hinj : ∀ x y, ek x = ek y → x = y) (ht : P.underlying t = some (.map kt et))
    (h : IsMapOf P kt ek ev w b n f) (key : K) (hkey : ∃ l, keyOf P kt (ek key) = some l) (hm : a.eval m = .map (some b)) (hx : a.eval x = ek key)
    (hK : ∀ w', IsMapOf P kt ek ev w' b (if (f key).isSome then n - 1 else n) (del f key) → w.grownBy w' (some b) → wpList P ops Q rest (a.put o.dst (.tuple #[])) w') : wpList P ops Q (o :: rest) a w := by
  refine wpList_plain hg fun K' hK' => ?_
  obtain ⟨w', hrun, r1, r2⟩ := h.drop (ty := o.type) K0 hinj ht key hkey
  unfold Oper.wp execOp
  simp only [hop, resolve, invoke, builtin, Sem.run_bind, Sem.run_pure, Result.andThen_ok, List.map_toArray, List.map_cons, List.map_nil, hm, hx, hrun]
  exact hK' _ _ (hK w' r1 r2)
end

end Go.Proofs.YtjoblahedgpgbaaGreat
