/- A cube of some bits: how many nodes it has. No program in sight. -/
import Derived.Test.YtakgghhmecphmaaReachP
import Derived.Test.YtakgghhmecphmaaCubeP
import Derived.Test.YtakgghhmecphmaaWays
namespace Go.Proofs.Ytakgghhmecphmaa
set_option linter.unusedVariables false
set_option linter.unusedSimpArgs false

theorem agree_upd {r : List (Nat × Bool)} {v : Nat} (h : ∀ x ∈ r, x.1 ≠ v) (b : Nat → Bool) (on : Bool) : agree (updB b v on) r = agree b r := by
  unfold agree
  rw [Bool.eq_iff_iff]
  simp only [List.all_eq_true]
  exact ⟨fun k y hy => by have := k y hy; rwa [updB_other b on (h y hy)] at this, fun k y hy => by rw [updB_other b on (h y hy)]; exact k y hy⟩
theorem agree_cons (b : Nat → Bool) (v : Nat) (on : Bool) (r : List (Nat × Bool)) : agree b ((v, on) :: r) = ((b v == on) && agree b r) := rfl
theorem agree_sat : ∀ (l : List (Nat × Bool)), l.Pairwise (fun a b => a.1 < b.1) → ∃ b, agree b l = true
  | [], _ => ⟨fun _ => false, rfl⟩
  | (v, on) :: r, hp => by
    obtain ⟨p1, p2⟩ := List.pairwise_cons.1 hp
    obtain ⟨b, hb⟩ := agree_sat r p2
    refine ⟨updB b v on, ?_⟩
    rw [agree_cons, updB_same, agree_upd (fun x hx => by have := p1 x hx; simp only at this; omega), hb]
    simp

theorem rch_le {A : Arn} (hA : A.OK) {s : Nat} (hs : s < A.nodes.length) {x : Nat} (h : Rch A [s] x) : x ≤ s := by
  induction h with
  | base h1 _ => simp at h1; omega
  | low h1 _ ih => have := (hA.at_ (Nat.lt_of_le_of_lt ih hs) h1.two).2.1; omega
  | high h1 _ ih => have := (hA.at_ (Nat.lt_of_le_of_lt ih hs) h1.two).2.2.1; omega

theorem cube_node {A : Arn} (hA : A.OK) {f v : Nat} {on : Bool} {r : List (Nat × Bool)} (hf : f < A.nodes.length) (hv : v < 104) (hp : ∀ x ∈ r, v < x.1) (hr : r.Pairwise (fun a b => a.1 < b.1)) (h : ∀ b, inA A b f = ((b v == on) && agree b r)) :
    2 ≤ f ∧ A.lv f = v ∧ (∀ b, inA A b (if on then (A.nd f).high else (A.nd f).low) = agree b r) ∧ (if on then (A.nd f).low else (A.nd f).high) = 0 := by
  have hne : ∀ x ∈ r, x.1 ≠ v := fun x hx => by have := hp x hx; omega
  obtain ⟨b0, hb0⟩ := agree_sat r hr
  have h1 : inA A (updB b0 v on) f = true := by rw [h, updB_same, agree_upd hne, hb0]; simp
  have h2 : inA A (updB b0 v (!on)) f = false := by rw [h, updB_same]; cases on <;> rfl
  have hlv : A.lv f = v := by
    rcases Nat.lt_trichotomy (A.lv f) v with hl | hl | hl
    · exfalso
      have hf2 : 2 ≤ f := two_of_lv hA (by omega)
      obtain ⟨_, a1, a2, a3, _, _⟩ := hA.at_ hf hf2
      refine a3 (canon' hA (by omega) (by omega) fun b => ?_)
      have e0 := inA_part hA b false hf hf2
      have e1 := inA_part hA b true hf hf2
      simp only [Bool.false_eq_true, if_false, if_true] at e0 e1
      rw [← e0, ← e1, h, h, updB_other _ _ (by omega), updB_other _ _ (by omega), agree_upd (fun x hx => by have := hp x hx; omega), agree_upd (fun x hx => by have := hp x hx; omega)]
    · exact hl
    · exfalso
      rw [inA_upd hA b0 on hf hl] at h1
      rw [inA_upd hA b0 (!on) hf hl, h1] at h2
      cases h2
  have hf2 : 2 ≤ f := two_of_lv hA (by omega)
  obtain ⟨_, a1, a2, a3, _, _⟩ := hA.at_ hf hf2
  refine ⟨hf2, hlv, fun b => ?_, ?_⟩
  · have e := inA_part hA b on hf hf2
    rw [← e, hlv, h, updB_same, agree_upd hne]
    simp
  · have hlt : (if on then (A.nd f).low else (A.nd f).high) < A.nodes.length := by split <;> omega
    refine canon' hA hlt (by have := hA.two; omega) fun b => ?_
    have e := inA_part hA b (!on) hf hf2
    rw [inA_zero]
    have e2 : (if (!on) = true then (A.nd f).high else (A.nd f).low) = if on = true then (A.nd f).low else (A.nd f).high := by cases on <;> rfl
    rw [e2] at e
    rw [← e, hlv, h, updB_same]
    cases on <;> rfl

theorem cube_nodes {A : Arn} (hA : A.OK) : ∀ (l : List (Nat × Bool)) (f : Nat), f < A.nodes.length → (∀ x ∈ l, x.1 < 104) → l.Pairwise (fun a b => a.1 < b.1) → (∀ b, inA A b f = agree b l) →
    ∃ L, NodesOf A [f] L ∧ L.length = l.length
  | [], f, hf, _, _, h => by
    have e : f = 1 := canon' hA hf (by have := hA.two; omega) fun b => by rw [h, inA_one]; rfl
    refine ⟨[], ⟨List.nodup_nil, fun x => ⟨fun hx => by simp at hx, fun hx => ?_⟩, fun x hx => by simp at hx⟩, rfl⟩
    have h1 := rch_le hA hf hx
    have h2 := hx.two
    omega
  | (v, on) :: r, f, hf, hlt, hp, h => by
    obtain ⟨p1, p2⟩ := List.pairwise_cons.1 hp
    obtain ⟨c1, c2, c3, c4⟩ := cube_node hA hf (hlt (v, on) (by simp)) (fun x hx => p1 x hx) p2 h
    obtain ⟨_, a1, a2, _⟩ := hA.at_ hf c1
    have hcl : (if on then (A.nd f).high else (A.nd f).low) < f := by split <;> omega
    generalize hc : (if on then (A.nd f).high else (A.nd f).low) = c at *
    obtain ⟨L, hL, hn⟩ := cube_nodes hA r c (by omega) (fun x hx => hlt x (by simp [hx])) p2 c3
    refine ⟨f :: L, ⟨List.nodup_cons.2 ⟨fun hm => ?_, hL.1⟩, fun x => ⟨fun hx => ?_, fun hx => ?_⟩, fun x hx => ?_⟩, by simp [hn]⟩
    · have := rch_le hA (show c < A.nodes.length by omega) ((hL.2.1 f).1 hm)
      omega
    · rcases List.mem_cons.1 hx with rfl | hx
      · exact .base (by simp) c1
      · have hr := (hL.2.1 x).1 hx
        have hroot : Rch A [f] f := .base (by simp) c1
        have key : ∀ z, Rch A [c] z → Rch A [f] z := fun z hz => by
          induction hz with
          | @base f0 h1 h2 =>
            have e : f0 = c := by simpa using h1
            rw [e, ← hc] at h2 ⊢
            cases on
            · exact .low hroot h2
            · exact .high hroot h2
          | low _ h2 ih => exact .low ih h2
          | high _ h2 ih => exact .high ih h2
        exact key x hr
    · have key : ∀ z, Rch A [f] z → z = f ∨ Rch A [c] z := fun z hz => by
        induction hz with
        | base h1 _ => exact Or.inl (by simpa using h1)
        | low _ h2 ih =>
          rcases ih with rfl | ih
          · cases on
            · simp only [Bool.false_eq_true, if_false] at hc
              rw [hc] at h2 ⊢
              exact Or.inr (.base (by simp) h2)
            · simp only [if_true] at c4
              omega
          · exact Or.inr (.low ih h2)
        | high _ h2 ih =>
          rcases ih with rfl | ih
          · cases on
            · simp only [Bool.false_eq_true, if_false] at c4
              omega
            · simp only [if_true] at hc
              rw [hc] at h2 ⊢
              exact Or.inr (.base (by simp) h2)
          · exact Or.inr (.high ih h2)
      rcases key x hx with rfl | h1
      · simp
      · exact List.mem_cons_of_mem _ ((hL.2.1 x).2 h1)
    · rcases List.mem_cons.1 hx with rfl | hx
      · exact hf
      · exact hL.2.2 x hx

end Go.Proofs.Ytakgghhmecphmaa
