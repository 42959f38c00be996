/- Peers, permits, steps and ways, plainly. · Ways, plainly. -/
import Derived.Test.YtjoblahedgpgbaaGreatRNet
namespace Go.Proofs.YtjoblahedgpgbaaGreat
set_option linter.unusedVariables false
set_option linter.unusedSimpArgs false
open Go.RowKit

def peerT : List Lk → Int → Int → Option (Int × Int)
  | [], _, _ => none
  | l :: ls, d, p => if l.dev = d ∧ l.port = p then some (l.peer, l.far) else if l.peer = d ∧ l.far = p then some (l.dev, l.port) else peerT ls d p
theorem ends_cons (l : Lk) (ls : List Lk) : ends (l :: ls) = (l.dev, l.port) :: (l.peer, l.far) :: ends ls := rfl
def other (i : Nat) : Nat := if i % 2 = 1 then i - 1 else i + 1
theorem peer_hit : ∀ (ls : List Lk) (d p : Int) (i : Nat), (ends ls)[i]? = some (d, p) → (∀ j, j < i → (ends ls)[j]? ≠ some (d, p)) → peerT ls d p = (ends ls)[other i]?
  | [], d, p, i, h, _ => by simp [ends] at h
  | l :: ls, d, p, 0, h, _ => by
    rw [ends_cons] at h
    have h : (l.dev, l.port) = (d, p) := Option.some.inj h
    cases h
    unfold peerT other
    rw [if_pos ⟨rfl, rfl⟩]
    rfl
  | l :: ls, d, p, 1, h, hn => by
    have h0 := hn 0 (by omega)
    rw [ends_cons] at h h0
    have h : (l.peer, l.far) = (d, p) := Option.some.inj h
    unfold peerT other
    rw [if_neg (fun e => h0 (by rw [← e.1, ← e.2]; rfl)), if_pos (by cases h; exact ⟨rfl, rfl⟩)]
    rfl
  | l :: ls, d, p, i + 2, h, hn => by
    have h0 := hn 0 (by omega)
    have h1 := hn 1 (by omega)
    rw [ends_cons] at h h0 h1
    have ih := peer_hit ls d p i (by simpa using h) (fun j hj => by
      have := hn (j + 2) (by omega)
      rw [ends_cons] at this
      simpa using this)
    unfold peerT
    rw [if_neg (fun e => h0 (by rw [← e.1, ← e.2]; rfl)), if_neg (fun e => h1 (by rw [← e.1, ← e.2]; rfl)), ih, ends_cons]
    unfold other
    have e : (i + 2) % 2 = i % 2 := by omega
    rw [e]
    split
    · obtain ⟨k, rfl⟩ : ∃ k, i = k + 1 := ⟨i - 1, by omega⟩
      rfl
    · rfl
theorem peer_none : ∀ (ls : List Lk) (d p : Int), (∀ j : Nat, (ends ls)[j]? ≠ some (d, p)) → peerT ls d p = none
  | [], _, _, _ => rfl
  | l :: ls, d, p, hn => by
    have h0 := hn 0
    have h1 := hn 1
    rw [ends_cons] at h0 h1
    have ih := peer_none ls d p (fun j => by
      have := hn (j + 2)
      rw [ends_cons] at this
      simpa using this)
    unfold peerT
    rw [if_neg (fun e => h0 (by rw [← e.1, ← e.2]; rfl)), if_neg (fun e => h1 (by rw [← e.1, ← e.2]; rfl)), ih]
theorem peer_mem : ∀ (ls : List Lk) (d p : Int) (e : Int × Int), peerT ls d p = some e → e ∈ ends ls
  | [], _, _, _, h => by cases h
  | l :: ls, d, p, e, h => by
    unfold peerT at h
    rw [ends_cons]
    split at h
    · cases h
      simp
    · split at h
      · cases h
        simp
      · exact List.mem_cons_of_mem _ (List.mem_cons_of_mem _ (peer_mem ls d p e h))
theorem links_ok : ∀ (ports : List Int) (l seen : List (Int × Int)), linksT ports seen l = 0 → ∀ e ∈ l, portT ports e.1 e.2 = 0
  | _, [], _, _, e, he => by cases he
  | ports, a :: l, seen, h, e, he => by
    unfold linksT at h
    split at h
    · contradiction
    · split at h
      · cases h
      · rcases List.mem_cons.1 he with rfl | he
        · simp_all
        · exact links_ok ports l _ h e he

def permT : List Ac → Int → Int → Bool → Hv → Bool
  | [], _, _, _, _ => true
  | a :: l, d, p, inn, h => if a.dev = d ∧ a.port = p ∧ a.inn = inn ∧ matchF a.f h = true then a.permit else permT l d p inn h
/-- Where a header comes to that goes out by a port; whether it is let out there; whether it came to a device. -/
def crossT (T : Tp) (d p : Int) (h : Hv) : Int × Bool × Bool :=
  if permT T.aces d p false h = false then (0, false, false) else match peerT T.links d p with
    | none => (0, true, false)
    | some e => if permT T.aces e.1 e.2 true h = false then (0, false, false) else (e.1, false, true)

structure Ed where
  kind : Int
  dev : Int
  port : Int
def Ed.cells (e : Ed) : List Value := [.int .i64 e.kind, .int .i64 e.dev, .int .i64 e.port]
def outS (T : Tp) (h : Hv) (d o : Int) : Int × Ed × Bool := if (crossT T d o h).2.2 = true then ((crossT T d o h).1, ⟨0, 0, 0⟩, true) else if (crossT T d o h).2.1 = true then (0, ⟨4, d, o⟩, false) else (0, ⟨3, d, o⟩, false)
/-- A step: where to, how the way ends, whether it goes on. -/
def stepS (T : Tp) (ls : List (List Rl)) (h : Hv) (d : Int) : Int × Ed × Bool :=
  match (ls[d.toNat]!).find? (hasR h.dst) with
  | none => (0, ⟨1, d, -1⟩, false)
  | some r => if r.out < 0 then (0, ⟨2, d, -1⟩, false) else outS T h d r.out
/-- A way, with what has been seen. -/
def wayS (T : Tp) (ls : List (List Rl)) (h : Hv) : Nat → List Int → Int → List Int × Ed
  | 0, way, d => (way, ⟨0, d, -1⟩)
  | n + 1, way, d => if d ∈ way then (way, ⟨0, d, -1⟩) else if (stepS T ls h d).2.2 = true then wayS T ls h n (way ++ [d]) (stepS T ls h d).1 else (way ++ [d], (stepS T ls h d).2.1)

theorem cross_in {T : Tp} {d p : Int} {h : Hv} (hl : linksT T.ports [] (ends T.links) = 0) (hm : (crossT T d p h).2.2 = true) : 0 ≤ (crossT T d p h).1 ∧ (crossT T d p h).1 < T.ports.length := by
  unfold crossT at *
  split at hm
  · cases hm
  · rename_i e0
    rw [if_neg e0]
    split at hm
    · cases hm
    · rename_i e e1
      split at hm
      · cases hm
      · rename_i e2
        have h3 := links_ok _ _ _ hl e (peer_mem _ _ _ _ e1)
        unfold portT at h3
        try simp only [e1]
        rw [if_neg e2]
        split at h3
        · cases h3
        · simp only
          omega
theorem step_in {T : Tp} {ls : List (List Rl)} {h : Hv} {d : Int} (hl : linksT T.ports [] (ends T.links) = 0) (hm : (stepS T ls h d).2.2 = true) : 0 ≤ (stepS T ls h d).1 ∧ (stepS T ls h d).1 < T.ports.length := by
  unfold stepS at *
  split at hm
  · cases hm
  · rename_i r e1
    split at hm
    · cases hm
    · rename_i e2
      try simp only [e1]
      rw [if_neg e2]
      unfold outS at *
      split at hm
      · rename_i e3
        rw [if_pos e3]
        exact cross_in hl e3
      · split at hm <;> cases hm

/-- Numbers below n, each once, are no more than n. -/
theorem few : ∀ (n : Nat) (l : List Int), l.Nodup → (∀ x ∈ l, 0 ≤ x ∧ x < n) → l.length ≤ n
  | 0, [], _, _ => by simp
  | 0, a :: l, _, h => by
    have := h a (by simp)
    omega
  | n + 1, l, hn, h => by
    have ih := few n (l.filter fun x => decide (x ≠ (n : Int))) (hn.sublist List.filter_sublist) (fun x hx => by
      obtain ⟨h1, h2⟩ := List.mem_filter.1 hx
      have := h x h1
      have : x ≠ n := by simpa using h2
      omega)
    have hc : l.length ≤ (l.filter fun x => decide (x ≠ (n : Int))).length + 1 := by
      clear ih h
      induction l with
      | nil => simp
      | cons a l ih2 =>
        obtain ⟨h1, h2⟩ := List.nodup_cons.1 hn
        by_cases e : a = n
        · subst e
          rw [List.filter_cons_of_neg (by simp), List.filter_eq_self.2 (fun x hx => by
            have : x ≠ (n : Int) := fun e => h1 (e ▸ hx)
            simp [this])]
          simp
        · rw [List.filter_cons_of_pos (by simpa using e)]
          have := ih2 h2
          simp only [List.length_cons]
          omega
    omega
end Go.Proofs.YtjoblahedgpgbaaGreat

namespace Go.Proofs.YtjoblahedgpgbaaGreat
open Go.RowKit

section
variable {T : Tp} {ls : List (List Rl)} {h : Hv}
def InDev (T : Tp) (d : Int) : Prop := 0 ≤ d ∧ d < T.ports.length

/-- A way that is its steps, up to a device. -/
def Chain (T : Tp) (ls : List (List Rl)) (h : Hv) (way : List Int) (d : Int) : Prop := ∀ i, ∀ hi : i < way.length, (stepS T ls h way[i]).2.2 = true ∧ (way ++ [d])[i + 1]? = some (stepS T ls h way[i]).1
theorem Chain.nil (d : Int) : Chain T ls h [] d := fun i hi => by simp at hi
theorem Chain.snoc {way : List Int} {d : Int} (hc : Chain T ls h way d) (hs : (stepS T ls h d).2.2 = true) : Chain T ls h (way ++ [d]) (stepS T ls h d).1 := by
  intro i hi
  have hi' : i < way.length + 1 := by simpa using hi
  by_cases e : i = way.length
  · subst e
    have e1 : (way ++ [d])[way.length] = d := by simp
    rw [e1]
    exact ⟨hs, by simp⟩
  · have hl : i < way.length := by omega
    have e1 : (way ++ [d])[i] = way[i] := List.getElem_append_left hl
    rw [e1]
    obtain ⟨h1, h2⟩ := hc i hl
    exact ⟨h1, by rw [List.getElem?_append_left (by simp; omega)]; exact h2⟩

/-- What a trace leaves. -/
structure WayOk (T : Tp) (ls : List (List Rl)) (h : Hv) (way : List Int) (e : Ed) : Prop where
  ne : way ≠ []
  nodup : way.Nodup
  ind : ∀ x ∈ way, InDev T x
  on : ∀ i, ∀ hi : i < way.length, i + 1 < way.length → (stepS T ls h way[i]).2.2 = true ∧ way[i + 1]? = some (stepS T ls h way[i]).1
  last : ∀ d, way.getLast? = some d → ((stepS T ls h d).2.2 = true ∧ e = ⟨0, (stepS T ls h d).1, -1⟩ ∧ (stepS T ls h d).1 ∈ way) ∨ ((stepS T ls h d).2.2 = false ∧ e = (stepS T ls h d).2.1)

theorem wayS_ok (hl : linksT T.ports [] (ends T.links) = 0) : ∀ (n : Nat) (way : List Int) (d : Int), way.Nodup → (∀ x ∈ way, InDev T x) → InDev T d → way.length + n = T.ports.length + 1 → Chain T ls h way d →
    WayOk T ls h (wayS T ls h n way d).1 (wayS T ls h n way d).2 ∧ ∃ more, (wayS T ls h n way d).1 = way ++ more ∧ (way = [] → more.head? = some d)
  | 0, way, d, hn, hr, _, hlen, _ => by
    have := few T.ports.length way hn hr
    omega
  | n + 1, way, d, hn, hr, hd, hlen, hc => by
    unfold wayS
    by_cases h1 : d ∈ way
    · rw [if_pos h1]
      have hne : way ≠ [] := fun e => by rw [e] at h1; cases h1
      show WayOk T ls h way ⟨0, d, -1⟩ ∧ ∃ more, way = way ++ more ∧ (way = [] → more.head? = some d)
      refine ⟨⟨hne, hn, hr, fun i hi hi1 => ?_, fun x hx => ?_⟩, [], by simp, fun e => absurd e hne⟩
      · obtain ⟨a, b⟩ := hc i hi
        refine ⟨a, ?_⟩
        rwa [List.getElem?_append_left hi1] at b
      · left
        have hpos : 0 < way.length := List.length_pos_iff.2 hne
        rw [List.getLast?_eq_getElem?] at hx
        obtain ⟨hlt, rfl⟩ := List.getElem?_eq_some_iff.1 hx
        obtain ⟨a, b⟩ := hc _ hlt
        rw [show way.length - 1 + 1 = way.length by omega] at b
        have b : d = (stepS T ls h way[way.length - 1]).1 := by simpa using b
        exact ⟨a, by rw [← b], b ▸ h1⟩
    · rw [if_neg h1]
      have hn2 : (way ++ [d]).Nodup := List.nodup_append.2 ⟨hn, by simp, fun a ha b hb => by
        have : b = d := by simpa using hb
        rw [this]
        exact fun e => h1 (e ▸ ha)⟩
      have hr2 : ∀ x ∈ way ++ [d], InDev T x := fun x hx => by
        rcases List.mem_append.1 hx with hx | hx
        · exact hr x hx
        · have : x = d := by simpa using hx
          rw [this]
          exact hd
      by_cases h2 : (stepS T ls h d).2.2 = true
      · rw [if_pos h2]
        obtain ⟨h3, more, h4, _⟩ := wayS_ok hl n (way ++ [d]) _ hn2 hr2 (step_in hl h2) (by simp; omega) (hc.snoc h2)
        exact ⟨h3, d :: more, by rw [h4]; simp, fun _ => rfl⟩
      · rw [if_neg h2]
        refine ⟨⟨by simp, hn2, hr2, fun i hi hi1 => ?_, fun x hx => ?_⟩, [d], rfl, fun _ => rfl⟩
        · have hlt : i < way.length := by simpa using hi1
          obtain ⟨a, b⟩ := hc i hlt
          simp only [List.getElem_append_left hlt]
          exact ⟨a, b⟩
        · right
          have : d = x := by simpa using hx
          subst this
          exact ⟨by simpa using h2, rfl⟩

/-- A way without a loop is found again from any of its devices on. -/
theorem wayS_of (e : Ed) : ∀ (rest : List Int) (n : Nat) (way : List Int) (d : Int), (way ++ d :: rest).Nodup → rest.length < n →
    (∀ i, ∀ hi : i < (d :: rest).length, i + 1 < (d :: rest).length → (stepS T ls h (d :: rest)[i]).2.2 = true ∧ (d :: rest)[i + 1]? = some (stepS T ls h (d :: rest)[i]).1) →
    (∀ x, (d :: rest).getLast? = some x → (stepS T ls h x).2.2 = false ∧ e = (stepS T ls h x).2.1) → wayS T ls h n way d = (way ++ d :: rest, e)
  | _, 0, _, _, _, hn, _, _ => by omega
  | [], n + 1, way, d, hnd, _, _, hl => by
    unfold wayS
    obtain ⟨h1, h2⟩ := hl d rfl
    rw [if_neg, if_neg (by simp [h1]), h2]
    intro hm
    exact (List.nodup_append.1 hnd).2.2 d hm d (by simp) rfl
  | a :: rest, n + 1, way, d, hnd, hn, hs, hl => by
    unfold wayS
    obtain ⟨h1, h2⟩ := hs 0 (by simp) (by simp)
    have h1 : (stepS T ls h d).2.2 = true := h1
    have h2 : a = (stepS T ls h d).1 := by simpa using h2
    rw [if_neg, if_pos h1, ← h2, wayS_of e rest n (way ++ [d]) a (by simpa using hnd) (by simpa using hn) (fun i hi hi1 => ?_) (fun x hx => hl x (by simpa [List.getLast?_cons_cons] using hx))]
    · simp
    · have := hs (i + 1) (by simpa using hi) (by simpa using hi1)
      simpa using this
    · intro hm
      exact (List.nodup_append.1 hnd).2.2 d hm d (by simp) rfl

theorem WayOk.len {way : List Int} {e : Ed} (hw : WayOk T ls h way e) : way.length ≤ T.ports.length := few _ _ hw.nodup hw.ind
theorem step_kind (d : Int) (hs : (stepS T ls h d).2.2 = false) : (stepS T ls h d).2.1.kind ≠ 0 ∧ (stepS T ls h d).2.1.dev = d := by
  unfold stepS at *
  split
  · exact ⟨by simp, rfl⟩
  · rename_i r e1
    simp only [e1] at hs
    split
    · exact ⟨by simp, rfl⟩
    · rename_i e2
      rw [if_neg e2] at hs
      unfold outS at *
      split
      · rename_i e3
        rw [if_pos e3] at hs
        cases hs
      · split <;> exact ⟨by simp, rfl⟩
theorem step_left (d : Int) (hk : (stepS T ls h d).2.2 = false) (h4 : (stepS T ls h d).2.1.kind = 4) : peerT T.links d (stepS T ls h d).2.1.port = none := by
  unfold stepS at *
  split at h4
  · cases h4
  · rename_i r e1
    simp only [e1] at hk ⊢
    split at h4
    · cases h4
    · rename_i e2
      rw [if_neg e2] at hk ⊢
      unfold outS at *
      split at h4
      · rename_i e3
        rw [if_pos e3] at hk
        cases hk
      · rename_i e3
        rw [if_neg e3]
        split at h4
        · rename_i e4
          rw [if_pos e4]
          unfold crossT at e4
          split at e4
          · cases e4
          · split at e4
            · assumption
            · split at e4 <;> cases e4
        · cases h4
/-- A step to a device goes by a link. -/
theorem step_link (d : Int) (hs : (stepS T ls h d).2.2 = true) : ∃ r ∈ ls[d.toNat]!, 0 ≤ r.out ∧ ∃ q, peerT T.links d r.out = some ((stepS T ls h d).1, q) := by
  unfold stepS at *
  split at hs
  · cases hs
  · rename_i r e1
    try simp only [e1]
    split at hs
    · cases hs
    · rename_i e2
      rw [if_neg e2]
      refine ⟨r, List.mem_of_find?_eq_some e1, by omega, ?_⟩
      unfold outS at *
      split at hs
      · rename_i e3
        rw [if_pos e3]
        unfold crossT at *
        split at e3
        · cases e3
        · rename_i e4
          rw [if_neg e4]
          split at e3
          · cases e3
          · rename_i e e5
            simp only [e5]
            split at e3
            · cases e3
            · rename_i e6
              rw [if_neg e6]
              exact ⟨e.2, rfl⟩
      · split at hs <;> cases hs
end
end Go.Proofs.YtjoblahedgpgbaaGreat
