/- The walk of search.comes. -/
import Derived.Test.YtcdimledeomahaaWebL
set_option maxRecDepth 100000
namespace Go.Proofs.Ytcdimledeomahaa
open Go.RowKit Go.Lat

/-- The first own cell at a place. -/
def ownAt (os : List On) (p : Pc) : Option On := os.find? (fun o => decide (o.p = p))
theorem ownAt_some {os : List On} {p : Pc} {i : Nat} {o : On} (hi : os[i]? = some o) (hp : o.p = p) (h : ∀ (j : Nat) (o : On), j < i → os[j]? = some o → o.p ≠ p) : ownAt os p = some o := by
  unfold ownAt
  rw [List.find?_eq_some_iff_getElem]
  obtain ⟨hl, hi'⟩ := List.getElem?_eq_some_iff.1 hi
  refine ⟨by simpa using hp, i, hl, hi', fun j hj => ?_⟩
  simpa using h j _ hj (List.getElem?_eq_getElem (by omega))
theorem ownAt_none {os : List On} {p : Pc} (h : ∀ o ∈ os, o.p ≠ p) : ownAt os p = none := by
  unfold ownAt
  rw [List.find?_eq_none]
  intro o ho
  simpa using h o ho

/-- What a search does: whether it stops at a link, and where it goes on. -/
structure Way where
  F : List UInt8 → Option (Int × List Ed)
  os : List On
  name : List UInt8
  p : Pc
def Way.stop (s : Way) (l : Lk) : Bool := decide (l.b = s.name) && match ownAt s.os ⟨l.s, l.c, l.r⟩ with
  | none => false
  | some o => decide (s.p ∈ o.reads)
def Way.next (s : Way) (l : Lk) : List Lk := if l.b = s.name then (match ownAt s.os ⟨l.s, l.c, l.r⟩ with
  | none => []
  | some o => o.links) else readsOf s.F l
def Way.goes (s : Way) : Nat → List Lk × List Lk → Option Bool
  | 0, _ => none
  | n + 1, (M, L) => match L.getLast? with
    | none => some false
    | some l => if s.stop l then some true else s.goes n (sees M L.dropLast (s.next l))
structure Way.Ok (s : Way) : Prop where
  nm : s.name.length ≤ maxLen
  web : ∀ t ver es, s.F t = some (ver, es) → es.length ≤ 1000 ∧ ∀ e ∈ es, e.reads.length ≤ 1000 ∧ ∀ x ∈ e.reads, x.Ok
  own : s.os.length ≤ 1000 ∧ ∀ o ∈ s.os, o.reads.length ≤ 1000 ∧ o.links.length ≤ 1000 ∧ ∀ x ∈ o.links, x.Ok

theorem Way.Ok.reads {s : Way} (h : s.Ok) (l : Lk) : (readsOf s.F l).length ≤ 1000 ∧ ∀ x ∈ readsOf s.F l, x.Ok := by
  unfold readsOf
  cases hF : s.F l.b with
  | none => simp
  | some q =>
    obtain ⟨ver, es⟩ := q
    simp only [findEd]
    cases hf : es.find? (fun e => e.is l) with
    | none => simp
    | some e =>
      have := (h.web _ _ _ hF).2 e (List.mem_of_find?_eq_some hf)
      exact this

theorem sees_sub (M L xs : List Lk) : ∀ x ∈ (sees M L xs).2, x ∈ L ∨ x ∈ xs := by
  induction xs generalizing M L with
  | nil => intro x hx; exact .inl hx
  | cons y ys ih =>
    intro x hx
    unfold sees at hx
    split at hx
    · rcases ih _ _ x hx with h | h
      · exact .inl h
      · exact .inr (by simp [h])
    · rcases ih _ _ x hx with h | h
      · rw [List.mem_append] at h
        rcases h with h | h
        · exact .inl h
        · exact .inr (by simp at h; simp [h])
      · exact .inr (by simp [h])
theorem sees_len (M L xs : List Lk) : (sees M L xs).2.length ≤ L.length + xs.length := by
  induction xs generalizing M L with
  | nil => simp [sees]
  | cons y ys ih =>
    unfold sees
    split
    · have := ih M L; simp; omega
    · have := ih (M ++ [y]) (L ++ [y]); simp at *; omega

/-- Where a search's memory lies: the web, the own cells, the search. -/
structure Lies (w : World) (s : Way) (b0 bmw nw : Nat) (Dw : DataW Value) (A B : Nat → Prop) (ov : Value) (b bm : Nat) : Prop where
  web : WebAt w b0 bmw nw Dw
  kn : KnV w A Dw s.F
  own : OnsAt w B ov s.os
  sb : ∃ cs, w.heap[b]? = some (.cells cs 98 (0, 0))
  sm : ∃ es clock, w.heap[bm]? = some (.map es clock)
  ne : bmw ≠ bm
  nA : ∀ k, A k → k ≠ b ∧ k ≠ bm

theorem rw_ne {w : World} {e size : Nat} {v : Value} {n : Nat} {xs : List Value} (h : Rw w e size v n xs) {b bm : Nat} (hb : ∃ cs, w.heap[b]? = some (.cells cs 98 (0, 0))) (hm : ∃ es clock, w.heap[bm]? = some (.map es clock)) (he : e ≠ 98) : ∀ k, v.ownBlock = some k → k ≠ b ∧ k ≠ bm := by
  intro k hk
  rcases h.2 with ⟨rfl, _⟩ | ⟨g, off, cap, cur, rfl, hg, _⟩
  · cases hk
  · have e1 : g = k := Option.some.inj hk
    subst e1
    obtain ⟨cs, hb⟩ := hb
    obtain ⟨es, clock, hm⟩ := hm
    constructor
    · rintro rfl
      rw [hg] at hb
      cases hb
      exact he rfl
    · rintro rfl
      rw [hg] at hm
      cases hm

/-- The search's blocks and new ones are written: web and own cells stay. -/
theorem Lies.keep {w w' : World} {s : Way} {b0 bmw nw : Nat} {Dw : DataW Value} {A B : Nat → Prop} {ov : Value} {b bm : Nat} (h : Lies w s b0 bmw nw Dw A B ov b bm) (u : Upd w w' (fun k => k = b ∨ k = bm)) (hb : ∃ cs, w'.heap[b]? = some (.cells cs 98 (0, 0))) (hm : ∃ es clock, w'.heap[bm]? = some (.map es clock)) : Lies w' s b0 bmw nw Dw A B ov b bm := by
  have nb0 : ¬ (b0 = b ∨ b0 = bm) := by
    rintro (e | e)
    · obtain ⟨cs, q⟩ := h.sb
      rw [← e, h.web.c] at q
      cases q
    · obtain ⟨es, clock, q⟩ := h.sm
      rw [← e, h.web.c] at q
      cases q
  have nbm : ¬ (bmw = b ∨ bmw = bm) := by
    rintro (e | e)
    · obtain ⟨cs, q⟩ := h.sb
      obtain ⟨es, clock, q2, _⟩ := h.web.m
      rw [← e, q2] at q
      cases q
    · exact h.ne e
  refine ⟨h.web.upd u nb0 nbm, h.kn.upd u (fun k hk e => e.elim (h.nA k hk).1 (h.nA k hk).2), ?_, hb, hm, h.ne, h.nA⟩
  obtain ⟨xs, k1, k2⟩ := h.own
  refine ⟨xs, u.rw k1 (fun k hk e => e.elim (rw_ne k1 h.sb h.sm (by decide) k hk).1 (rw_ne k1 h.sb h.sm (by decide) k hk).2), fun i o ho => ?_⟩
  obtain ⟨rv, lv, q1, q2, q3, q4⟩ := k2 i o ho
  exact ⟨rv, lv, q1, u.rw q2 (fun k hk e => e.elim (rw_ne q2 h.sb h.sm (by decide) k hk).1 (rw_ne q2 h.sb h.sm (by decide) k hk).2), u.rw q3 (fun k hk e => e.elim (rw_ne q3 h.sb h.sm (by decide) k hk).1 (rw_ne q3 h.sb h.sm (by decide) k hk).2), q4⟩
end Go.Proofs.Ytcdimledeomahaa
