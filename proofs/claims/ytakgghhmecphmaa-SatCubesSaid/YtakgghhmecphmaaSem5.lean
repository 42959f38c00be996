/- Expressions' sets: what they have; made again they are the same; where there is room for all. No program in sight. -/
import Derived.Test.YtakgghhmecphmaaSem4
namespace Go.Proofs.Ytakgghhmecphmaa
set_option linter.unusedVariables false
set_option linter.unusedSimpArgs false

abbrev Fn := (Nat → Bool) → Bool
/-- What an expression's set has, told of what those ahead have. -/
def fnE (fs : List Fn) (x : Ex) : Fn := fun b =>
  if x.kind = 0 then false
  else if x.kind = 1 then true
  else if x.kind = 2 then b x.var.toNat == x.on
  else if x.kind = 7 then !(fs.getD x.a.toNat (fun _ => false) b)
  else if x.kind = 8 then fs.getD x.a.toNat (fun _ => false) (updB b x.var.toNat x.on)
  else if x.kind = 9 then (if fs.getD x.a.toNat (fun _ => false) b then fs.getD x.b.toNat (fun _ => false) b else fs.getD x.c.toNat (fun _ => false) b)
  else opF (x.kind.toNat - 3) (fs.getD x.a.toNat (fun _ => false) b) (fs.getD x.b.toNat (fun _ => false) b)
def fnsGo : List Fn → List Ex → List Fn
  | fs, [] => fs
  | fs, x :: r => fnsGo (fs ++ [fnE fs x]) r

/-- Sets have what they should. -/
def SemL (A : Arn) (out : List Nat) (fs : List Fn) : Prop := out.length = fs.length ∧ ∀ i b, inA A b (out.getD i 0) = fs.getD i (fun _ => false) b

theorem SemL.ext {A B : Arn} {out : List Nat} {fs : List Fn} (h : SemL A out fs) (hA : A.OK) (hB : B.OK) (e : Ext A B) (ho : ∀ f ∈ out, f < A.nodes.length) : SemL B out fs :=
  ⟨h.1, fun i b => by rw [inA_ext hA hB e b _ (getD_lt ho (by have := hA.two; omega) i)]; exact h.2 i b⟩
theorem SemL.snoc {A : Arn} {out : List Nat} {fs : List Fn} (h : SemL A out fs) {f : Nat} {F : Fn} (hf : ∀ b, inA A b f = F b) : SemL A (out ++ [f]) (fs ++ [F]) := by
  refine ⟨by simp [h.1], fun i b => ?_⟩
  rw [List.getD_eq_getElem?_getD, List.getD_eq_getElem?_getD]
  rcases Nat.lt_trichotomy i out.length with hi | hi | hi
  · rw [List.getElem?_append_left hi, List.getElem?_append_left (by rw [← h.1]; exact hi), ← List.getD_eq_getElem?_getD, ← List.getD_eq_getElem?_getD]
    exact h.2 i b
  · subst hi
    rw [List.getElem?_append_right (Nat.le_refl _), h.1, List.getElem?_append_right (Nat.le_refl _)]
    simpa using hf b
  · rw [List.getElem?_eq_none (by simp; omega), List.getElem?_eq_none (by simp; rw [← h.1]; omega)]
    rfl

theorem cube1 (A : Arn) (v : Nat) (on : Bool) : cubeF A [(v, on)] = match mkF A v (if on then 0 else 1) (if on then 1 else 0) with | (none, _) => (none, A) | (some f, A') => (some f, A') := by
  unfold cubeF
  simp only [List.reverse_cons, List.reverse_nil, List.nil_append, cubeGo]
  rcases mkF A v (if on then 0 else 1) (if on then 1 else 0) with ⟨r, A'⟩
  cases r <;> rfl

theorem lits_lt {A : Arn} (hA : A.OK) {v : Nat} (hv : v < 104) (on : Bool) : (if on then 0 else 1) < A.nodes.length ∧ (if on then 1 else 0) < A.nodes.length ∧ v < A.lv (if on then 0 else 1) ∧ v < A.lv (if on then 1 else 0) := by
  have h0 := hA.lv_zero
  have h1 := hA.lv_one
  have h2 := hA.two
  cases on
  · exact ⟨by simp; omega, by simp; omega, by simpa [h1] using hv, by simpa [h0] using hv⟩
  · exact ⟨by simp; omega, by simp; omega, by simpa [h0] using hv, by simpa [h1] using hv⟩

theorem cube1_sem {A A' : Arn} (hA : A.OK) {v f : Nat} {on : Bool} (hv : v < 104) (h : cubeF A [(v, on)] = (some f, A')) (b : Nat → Bool) : inA A' b f = (b v == on) := by
  rw [cube1] at h
  obtain ⟨h0, h1, h2, h3⟩ := lits_lt hA hv on
  have s := fun x h => mk_sem hA hv h0 h1 h2 h3 (x := x) h b
  rcases e : mkF A v (if on then 0 else 1) (if on then 1 else 0) with ⟨r, A1⟩
  rw [e] at h s
  cases r with
  | none => cases h
  | some y =>
    cases h
    rw [s _ rfl]
    cases on <;> cases b v <;> rfl

theorem cube1_again {A : Arn} (hA : A.OK) {v f : Nat} {on : Bool} (hv : v < 104) (hf : f < A.nodes.length) (h : ∀ b, inA A b f = (b v == on)) : cubeF A [(v, on)] = (some f, A) := by
  obtain ⟨h0, h1, h2, h3⟩ := lits_lt hA hv on
  rw [cube1, mk_again hA hv h0 h1 h2 h3 hf (fun b => by rw [h]; cases on <;> cases b v <;> rfl)]

theorem cube1_room {D : List Nat} {A : Arn} (hD : InD D A) {v : Nat} {on : Bool} (hv : v ∈ D) (hr : A.nodes.length < A.most) :
    ∃ x, (cubeF A [(v, on)]).1 = some x ∧ InD D (cubeF A [(v, on)]).2 ∧ (cubeF A [(v, on)]).2.nodes.length ≤ A.nodes.length + 1 := by
  rw [cube1]
  have q1 := mk_inD hD (if on then 0 else 1) (if on then 1 else 0) hv
  have q2 := mk_len A v (if on then 0 else 1) (if on then 1 else 0)
  have q3 := fun h => mkF_full (A := A) (L := v) (lo := if on then 0 else 1) (hi := if on then 1 else 0) h
  rcases e : mkF A v (if on then 0 else 1) (if on then 1 else 0) with ⟨r, A1⟩
  rw [e] at q1 q2 q3
  cases r with
  | none => have := (q3 rfl).1; omega
  | some y => exact ⟨y, rfl, q1, q2⟩

theorem ite_sem {A A' : Arn} (hA : A.OK) {f g h x : Nat} (hf : f < A.nodes.length) (hg : g < A.nodes.length) (hh : h < A.nodes.length) (he : iteA A f g h = (some x, A')) :
    (∀ b, inA A' b x = if inA A b f then inA A b g else inA A b h) ∧ ∀ B : Arn, B.OK → Ext A' B → iteA B f g h = (some x, B) := by
  unfold iteA at he
  have j1 := joinA_ok hA (k := 0) (by omega) hf hg
  have t1 := fun x h => joinA_sem hA (k := 0) (by omega) hf hg (x := x) h
  rcases e1 : joinA A 0 f g with ⟨r, A1⟩
  rw [e1] at j1 he t1
  obtain ⟨a1, b1, c1⟩ := j1
  cases r with
  | none => cases he
  | some y =>
    simp only at a1 b1 c1 he t1
    have u1 := t1 y rfl
    have l1 := b1.len
    have j2 := joinA_ok a1 (k := 3) (f := h) (g := f) (by omega) (by omega) (by omega)
    have t2 := fun x hx => joinA_sem a1 (k := 3) (f := h) (g := f) (by omega) (by omega) (by omega) (x := x) hx
    rcases e2 : joinA A1 3 h f with ⟨r, A2⟩
    rw [e2] at j2 he t2
    obtain ⟨a2, b2, c2⟩ := j2
    cases r with
    | none => cases he
    | some z =>
      simp only at a2 b2 c2 he t2
      have u2 := t2 z rfl
      have l2 := b2.len
      have hy := c1 y rfl
      have hz := c2 z rfl
      have j3 := joinA_ok a2 (k := 1) (f := y) (g := z) (by omega) (by omega) hz
      have t3 := fun x hx => joinA_sem a2 (k := 1) (f := y) (g := z) (by omega) (by omega) hz (x := x) hx
      rcases e3 : joinA A2 1 y z with ⟨r, A3⟩
      rw [e3] at j3 he t3
      obtain ⟨a3, b3, c3⟩ := j3
      cases r with
      | none => cases he
      | some v =>
        cases he
        simp only at a3 b3 c3 t3
        have u3 := t3 x rfl
        have l3 := b3.len
        have hx := c3 x rfl
        refine ⟨fun b => ?_, fun B hB hE => ?_⟩
        · rw [u3, inA_ext a1 a2 b2 b y hy, u1, u2, inA_ext hA a1 b1 b h hh, inA_ext hA a1 b1 b f hf]
          cases inA A b f <;> cases inA A b g <;> cases inA A b h <;> rfl
        · have lE := hE.len
          have s1 : ∀ b, inA B b y = opF 0 (inA B b f) (inA B b g) := fun b => by
            rw [inA_ext a3 hB hE b y (by omega), inA_ext a2 a3 b3 b y (by omega), inA_ext a1 a2 b2 b y hy, u1, inA_ext hA hB (((b1.trans b2).trans b3).trans hE) b f hf, inA_ext hA hB (((b1.trans b2).trans b3).trans hE) b g hg]
          have s2 : ∀ b, inA B b z = opF 3 (inA B b h) (inA B b f) := fun b => by
            rw [inA_ext a3 hB hE b z (by omega), inA_ext a2 a3 b3 b z hz, u2, inA_ext a1 hB ((b2.trans b3).trans hE) b h (by omega), inA_ext a1 hB ((b2.trans b3).trans hE) b f (by omega)]
          have s3 : ∀ b, inA B b x = opF 1 (inA B b y) (inA B b z) := fun b => by
            rw [inA_ext a3 hB hE b x hx, u3, inA_ext a2 hB (b3.trans hE) b y (by omega), inA_ext a2 hB (b3.trans hE) b z hz]
          unfold iteA
          rw [joinA_again hB (by omega) (by omega) (by omega) (by omega) s1]
          simp only
          rw [joinA_again hB (by omega) (by omega) (by omega) (by omega) s2]
          simp only
          rw [joinA_again hB (by omega) (by omega) (by omega) (by omega) s3]

theorem iteA_room {D : List Nat} {A : Arn} (hA : A.OK) (hD : InD D A) {f g h : Nat} (hf : f < A.nodes.length) (hg : g < A.nodes.length) (hh : h < A.nodes.length) (hr : A.nodes.length + 3 * 2 ^ D.length ≤ A.most) :
    ∃ x, (iteA A f g h).1 = some x ∧ InD D (iteA A f g h).2 ∧ (iteA A f g h).2.nodes.length ≤ A.nodes.length + 3 * 2 ^ D.length := by
  unfold iteA
  have j1 := joinA_ok hA (k := 0) (by omega) hf hg
  obtain ⟨y, y1, y2, y3⟩ := joinA_room hA hD (k := 0) (by omega) hf hg (by omega)
  rcases e1 : joinA A 0 f g with ⟨r, A1⟩
  rw [e1] at j1 y1 y2 y3
  obtain ⟨a1, b1, c1⟩ := j1
  simp only at y1 y2 y3 a1 b1 c1
  subst y1
  simp only
  have l1 := b1.len
  have m1 := b1.most
  have j2 := joinA_ok a1 (k := 3) (f := h) (g := f) (by omega) (by omega) (by omega)
  obtain ⟨z, z1, z2, z3⟩ := joinA_room a1 y2 (k := 3) (f := h) (g := f) (by omega) (by omega) (by omega) (by omega)
  rcases e2 : joinA A1 3 h f with ⟨r, A2⟩
  rw [e2] at j2 z1 z2 z3
  obtain ⟨a2, b2, c2⟩ := j2
  simp only at z1 z2 z3 a2 b2 c2
  subst z1
  simp only
  have l2 := b2.len
  have m2 := b2.most
  have hy := c1 y rfl
  obtain ⟨v, v1, v2, v3⟩ := joinA_room a2 z2 (k := 1) (f := y) (g := z) (by omega) (by omega) (c2 z rfl) (by omega)
  rcases e3 : joinA A2 1 y z with ⟨r, A3⟩
  rw [e3] at v1 v2 v3
  simp only at v1 v2 v3
  subst v1
  exact ⟨v, rfl, v2, by simp only; omega⟩

theorem step_sem {A A' : Arn} (hA : A.OK) {out : List Nat} (ho : ∀ f ∈ out, f < A.nodes.length) {x : Ex} {i f : Nat} (hx : ¬ BadE x i) (h : stepE A out x = (some f, A')) {fs : List Fn} (hs : SemL A out fs) :
    (∀ b, inA A' b f = fnE fs x b) ∧ ∀ B : Arn, B.OK → Ext A' B → stepE B out x = (some f, B) := by
  have h2 := hA.two
  have hg := getD_lt ho (by omega)
  have hok := stepE_ok hA ho hx
  rw [h] at hok
  obtain ⟨o1, x1, r1⟩ := hok
  have hfr := r1 f rfl
  simp only at o1 x1 hfr
  have again : ∀ B : Arn, B.OK → Ext A' B → ∀ g, g < A.nodes.length → g < B.nodes.length := fun B _ hE g hg => by have := x1.len; have := hE.len; omega
  unfold BadE at hx
  unfold stepE at h ⊢
  unfold fnE
  split at h
  · rename_i c
    cases h
    simp only [c, if_true]
    exact ⟨fun b => inA_zero A b, fun _ _ _ => trivial⟩
  rename_i c0
  simp only [c0, if_false]
  split at h
  · rename_i c
    cases h
    simp only [c, if_true]
    exact ⟨fun b => inA_one A b, fun _ _ _ => trivial⟩
  rename_i c1
  simp only [c1, if_false]
  split at h
  · rename_i c
    simp only [c, if_true]
    have sem := cube1_sem hA (v := x.var.toNat) (by omega) h
    refine ⟨sem, fun B hB hE => ?_⟩
    exact cube1_again hB (by omega) (Nat.lt_of_lt_of_le hfr hE.len) (fun b => by rw [inA_ext o1 hB hE b f hfr]; exact sem b)
  rename_i c2
  simp only [c2, if_false]
  split at h
  · rename_i c
    simp only [c, if_true]
    have t := fun b => joinA_sem hA (k := 3) (f := 1) (g := out.getD x.a.toNat 0) (x := f) (by omega) (by omega) (hg _) (by rw [h]) b
    rw [h] at t
    simp only at t
    refine ⟨fun b => by rw [t, hs.2, inA_one]; simp [opF], fun B hB hE => ?_⟩
    have hE2 := x1.trans hE
    have := hE2.len
    have := hg x.a.toNat
    refine joinA_again hB (by omega) (by omega) (by omega) (Nat.lt_of_lt_of_le hfr hE.len) fun b => ?_
    rw [inA_ext o1 hB hE b f hfr, t, inA_ext hA hB hE2 b 1 (by omega), inA_ext hA hB hE2 b _ (hg _)]
  rename_i c7
  simp only [c7, if_false]
  split at h
  · rename_i c
    simp only [c, if_true]
    have t := fun b => restrictA_sem hA (f := out.getD x.a.toNat 0) (i := x.var.toNat) (on := x.on) (x := f) (hg _) (by omega) (by rw [h]) b
    rw [h] at t
    simp only at t
    refine ⟨fun b => by rw [t, hs.2], fun B hB hE => ?_⟩
    have hE2 := x1.trans hE
    have := hE2.len
    have := hg x.a.toNat
    refine restrictA_again hB (by omega) (by omega) (Nat.lt_of_lt_of_le hfr hE.len) fun b => ?_
    rw [inA_ext o1 hB hE b f hfr, t, inA_ext hA hB hE2 _ _ (hg _)]
  rename_i c8
  simp only [c8, if_false]
  split at h
  · rename_i c
    simp only [c, if_true]
    obtain ⟨t1, t2⟩ := ite_sem hA (hg x.a.toNat) (hg x.b.toNat) (hg x.c.toNat) h
    exact ⟨fun b => by rw [t1, hs.2, hs.2, hs.2], t2⟩
  rename_i c9
  simp only [c9, if_false]
  have t := fun b => joinA_sem hA (k := x.kind.toNat - 3) (f := out.getD x.a.toNat 0) (g := out.getD x.b.toNat 0) (x := f) (by omega) (hg _) (hg _) (by rw [h]) b
  rw [h] at t
  simp only at t
  refine ⟨fun b => by rw [t, hs.2, hs.2], fun B hB hE => ?_⟩
  have hE2 := x1.trans hE
  have := hE2.len
  have := hg x.a.toNat
  have := hg x.b.toNat
  refine joinA_again hB (by omega) (by omega) (by omega) (Nat.lt_of_lt_of_le hfr hE.len) fun b => ?_
  rw [inA_ext o1 hB hE b f hfr, t, inA_ext hA hB hE2 b _ (hg _), inA_ext hA hB hE2 b _ (hg _)]

theorem step_room {D : List Nat} {A : Arn} (hA : A.OK) (hD : InD D A) {out : List Nat} (ho : ∀ f ∈ out, f < A.nodes.length) {x : Ex} {i : Nat} (hx : ¬ BadE x i) (hv : x.kind = 2 → x.var.toNat ∈ D) (hr : A.nodes.length + 3 * 2 ^ D.length ≤ A.most) :
    ∃ f, (stepE A out x).1 = some f ∧ InD D (stepE A out x).2 ∧ (stepE A out x).2.nodes.length ≤ A.nodes.length + 3 * 2 ^ D.length := by
  have h2 := hA.two
  have hp := Nat.one_le_two_pow (n := D.length)
  have hg := getD_lt ho (by omega)
  unfold BadE at hx
  unfold stepE
  split
  · exact ⟨0, rfl, hD, by simp only; omega⟩
  split
  · exact ⟨1, rfl, hD, by simp only; omega⟩
  split
  · rename_i c
    obtain ⟨f, a, b, c⟩ := cube1_room hD (on := x.on) (hv c) (by omega)
    exact ⟨f, a, b, by omega⟩
  split
  · obtain ⟨f, a, b, c⟩ := joinA_room hA hD (k := 3) (f := 1) (by omega) (by omega) (hg x.a.toNat) (by omega)
    exact ⟨f, a, b, by omega⟩
  split
  · obtain ⟨f, a, b, c⟩ := restrictA_room hA hD (on := x.on) (i := x.var.toNat) (hg x.a.toNat) (by omega) (by omega)
    exact ⟨f, a, b, by omega⟩
  split
  · exact iteA_room hA hD (hg _) (hg _) (hg _) hr
  · obtain ⟨f, a, b, c⟩ := joinA_room hA hD (k := x.kind.toNat - 3) (by omega) (hg x.a.toNat) (hg x.b.toNat) (by omega)
    exact ⟨f, a, b, by omega⟩

theorem makeGo_sem : ∀ (l : List Ex) (A : Arn) (out : List Nat) (fs : List Fn) (k : Nat), A.OK → (∀ f ∈ out, f < A.nodes.length) → (∀ i x, l[i]? = some x → ¬ BadE x (k + i)) → SemL A out fs →
    (makeGo A out l).2.1 = true → SemL (makeGo A out l).2.2 (makeGo A out l).1 (fnsGo fs l) ∧
      ∀ B : Arn, B.OK → Ext (makeGo A out l).2.2 B → makeGo B out l = ((makeGo A out l).1, true, B)
  | [], A, out, fs, k, _, _, _, hs, _ => ⟨hs, fun _ _ _ => rfl⟩
  | x :: r, A, out, fs, k, hA, ho, hb, hs, ht => by
    obtain ⟨a, b, c⟩ := stepE_ok hA ho (hb 0 x rfl)
    have key := fun f A' h => step_sem hA ho (hb 0 x rfl) (f := f) (A' := A') h hs
    unfold makeGo at ht ⊢
    rcases e : stepE A out x with ⟨q, A'⟩
    rw [e] at a b c ht
    cases q with
    | none => cases ht
    | some f =>
      simp only at a b c ht ⊢
      obtain ⟨k1, k2⟩ := key f A' e
      have ho' : ∀ g ∈ out ++ [f], g < A'.nodes.length := fun g hg => by
        rcases List.mem_append.1 hg with h | h
        · exact Nat.lt_of_lt_of_le (ho g h) b.len
        · obtain rfl : g = f := by simpa using h
          exact c g rfl
      have hb' : ∀ i y, r[i]? = some y → ¬ BadE y (k + 1 + i) := fun i y hy => by have := hb (i + 1) y (by simpa using hy); rw [show k + 1 + i = k + (i + 1) by omega]; exact this
      obtain ⟨p1, p2⟩ := makeGo_sem r A' (out ++ [f]) (fs ++ [fnE fs x]) (k + 1) a ho' hb' ((hs.ext hA a b ho).snoc k1) ht
      refine ⟨p1, fun B hB hE => ?_⟩
      have hx := (makeGo_ok r A' (out ++ [f]) (k + 1) a ho' hb').2.1
      rw [k2 B hB (hx.trans hE)]
      exact p2 B hB hE

theorem makeGo_room {D : List Nat} : ∀ (l : List Ex) (A : Arn) (out : List Nat) (k : Nat), A.OK → InD D A → (∀ f ∈ out, f < A.nodes.length) → (∀ i x, l[i]? = some x → ¬ BadE x (k + i)) → (∀ x ∈ l, x.kind = 2 → x.var.toNat ∈ D) →
    A.nodes.length + l.length * (3 * 2 ^ D.length) ≤ A.most →
    (makeGo A out l).2.1 = true ∧ InD D (makeGo A out l).2.2 ∧ (makeGo A out l).2.2.nodes.length ≤ A.nodes.length + l.length * (3 * 2 ^ D.length)
  | [], A, out, k, _, hD, _, _, _, _ => ⟨rfl, hD, by simp [makeGo]⟩
  | x :: r, A, out, k, hA, hD, ho, hb, hv, hr => by
    have hmul : (x :: r).length * (3 * 2 ^ D.length) = r.length * (3 * 2 ^ D.length) + 3 * 2 ^ D.length := by rw [List.length_cons, Nat.add_mul, Nat.one_mul]
    rw [hmul] at hr ⊢
    generalize hM : r.length * (3 * 2 ^ D.length) = M at *
    obtain ⟨a, b, c⟩ := stepE_ok hA ho (hb 0 x rfl)
    obtain ⟨f, s1, s2, s3⟩ := step_room hA hD ho (hb 0 x rfl) (hv x (by simp)) (by omega)
    unfold makeGo
    rcases e : stepE A out x with ⟨q, A'⟩
    rw [e] at a b c s1 s2 s3
    simp only at s1
    subst s1
    simp only at a b c s2 s3 ⊢
    have ho' : ∀ g ∈ out ++ [f], g < A'.nodes.length := fun g hg => by
      rcases List.mem_append.1 hg with h | h
      · exact Nat.lt_of_lt_of_le (ho g h) b.len
      · obtain rfl : g = f := by simpa using h
        exact c g rfl
    have hb' : ∀ i y, r[i]? = some y → ¬ BadE y (k + 1 + i) := fun i y hy => by have := hb (i + 1) y (by simpa using hy); rw [show k + 1 + i = k + (i + 1) by omega]; exact this
    have hm := b.most
    obtain ⟨p1, p2, p3⟩ := makeGo_room r A' (out ++ [f]) (k + 1) a s2 ho' hb' (fun y hy => hv y (by simp [hy])) (by rw [hM]; omega)
    exact ⟨p1, p2, by rw [hM] at p3; omega⟩

/-- The bits of expressions that may be, and are few. -/
def bitsD (l : List Ex) : List Nat := (dset (varsOf l)).map Int.toNat
theorem bits_mem {l : List Ex} {x : Ex} (hx : x ∈ l) (h : x.kind = 2) : x.var.toNat ∈ bitsD l := by
  unfold bitsD
  refine List.mem_map.2 ⟨x.var, ?_, rfl⟩
  rw [mem_dset]
  exact List.mem_map.2 ⟨x, List.mem_filter.2 ⟨hx, by simp [isVar, h]⟩, rfl⟩
theorem inD_two {D : List Nat} {A : Arn} (h : A.nodes.length = 2) : InD D A := fun f h2 hf => by omega

end Go.Proofs.Ytakgghhmecphmaa
