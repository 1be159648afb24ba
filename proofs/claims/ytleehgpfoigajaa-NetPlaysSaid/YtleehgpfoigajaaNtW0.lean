/- What the walk of the law's act stands on: both networks. -/
import Derived.Test.YtleehgpfoigajaaNtV
import Derived.Test.YtleehgpfoigajaaNtJ
set_option maxRecDepth 100000
namespace Go.Proofs.Ytleehgpfoigajaa
open Go.RowKit Go.Lat Go.Sort

theorem cut10 (l : List UInt8) : (⟨l.toArray⟩ : ByteArray).extract 0 (min (l.length : Int) 10).toNat = ⟨(l.take 10).toArray⟩ := by
  apply ByteArray.ext
  apply Array.ext'
  have e : (min (l.length : Int) 10).toNat = min l.length 10 := by omega
  rw [e, ByteArray.data_extract]
  simp only [Array.toList_extract, List.extract_eq_take_drop, Nat.sub_zero, List.drop_zero]
  rw [Nat.min_comm, ← List.take_eq_take_min]

/-- A block of cells of another type is none of a network's. -/
theorem Nets.notS {base : Nat} {w : World} {b bm n : Nat} {D : DataW Value} {lost : Nat} {M : Pr → List (List UInt8)} {V : Pr → Value} (h : Nets base w b bm n D lost M V) {g : Nat} {cs : Array Value} {t : TypeId} (hg : w.heap[g]? = some (.cells cs t (0, 0))) (h1 : t ≠ 54) (h2 : t ≠ 9) : g ≠ b ∧ g ≠ bm ∧ ∀ p, prOk p → (V p).ownBlock ≠ some g := by
  refine ⟨fun e => ?_, map_not g cs t hg h.net.m, fun p hp hk => ?_⟩
  · have := h.net.c
    rw [← e, hg] at this
    simp at this
    exact h1 this.2
  · rcases (h.line p hp).2.1.2 with ⟨q, _⟩ | ⟨g', off, cap, cur, q, hg', _⟩
    · rw [q] at hk; cases hk
    · rw [q] at hk
      have e2 : g' = g := Option.some.inj hk
      rw [e2, hg] at hg'
      simp at hg'
      exact h2 hg'.2
theorem RefAt.own {base : Nat} {w : World} {rb : Nat} {v : Value} {L : List On} {lost : Nat} (h : RefAt base w rb v L lost) {k : Nat} (hk : v.ownBlock = some k) : ∃ cs, w.heap[k]? = some (.cells cs 68 (0, 0)) := by
  rcases h.r.2 with ⟨q, _⟩ | ⟨g', off, cap, cur, q, hg', _⟩
  · rw [q] at hk; cases hk
  · rw [q] at hk
    have e2 : g' = k := Option.some.inj hk
    subst e2
    exact ⟨cur, hg'⟩
/-- What the reference may write is none of the network's. -/
theorem Nets.keepR {base : Nat} {w w' : World} {b bm n : Nat} {D : DataW Value} {lost : Nat} {M : Pr → List (List UInt8)} {V : Pr → Value} (h : Nets base w b bm n D lost M V) {rb lo2 : Nat} {v : Value} {L : List On} (r : RefAt base w rb v L lo2) (u : Upd w w' (fun k => k = rb ∨ v.ownBlock = some k)) : Nets base w' b bm n D lost M V := by
  have ns : ∀ k, (k = rb ∨ v.ownBlock = some k) → k ≠ b ∧ k ≠ bm ∧ ∀ p, prOk p → (V p).ownBlock ≠ some k := by
    rintro k (e | e)
    · subst e
      exact h.notS r.c (by decide) (by decide)
    · obtain ⟨cs, hc⟩ := r.own e
      exact h.notS hc (by decide) (by decide)
  exact ⟨h.net.upd u (fun e => (ns b e).1 rfl) (fun e => (ns bm e).2.1 rfl), h.bb, h.bbm, fun p hp => (h.line p hp).upd u (fun k hk e => (ns k e).2.2 p hp hk), h.has, h.ap⟩
/-- What the network may write is none of the reference's. -/
theorem RefAt.keepN {base : Nat} {w w' : World} {b bm n : Nat} {D : DataW Value} {lost : Nat} {M : Pr → List (List UInt8)} {V : Pr → Value} (h : Nets base w b bm n D lost M V) {rb lo2 : Nat} {v : Value} {L : List On} (r : RefAt base w rb v L lo2) {p : Pr} (hp : prOk p) (u : Upd w w' (Nfr b bm V p)) : RefAt base w' rb v L lo2 := by
  have h1 := h.notS r.c (by decide) (by decide)
  refine r.upd u ?_ (fun k hk => ?_)
  · rintro (e | e | e)
    · exact h1.1 e
    · exact h1.2.1 e
    · exact h1.2.2 p hp e.symm
  · obtain ⟨cs, hc⟩ := r.own hk
    have h2 := h.notS hc (by decide) (by decide)
    rintro (e | e | e)
    · exact h2.1 e
    · exact h2.2.1 e
    · exact h2.2.2 p hp e.symm

/-- Both networks. -/
structure Both (base : Nat) (w : World) (b bm n : Nat) (D : DataW Value) (lost : Nat) (V : Pr → Value) (rb : Nat) (v : Value) (L : List On) : Prop where
  net : Nets base w b bm n D lost (ofP L) V
  rf : RefAt base w rb v L lost
  ok : ∀ x ∈ L, prOk x.p
theorem Both.upd {base : Nat} {w w' : World} {b bm n : Nat} {D : DataW Value} {lost : Nat} {V : Pr → Value} {rb : Nat} {v : Value} {L : List On} (h : Both base w b bm n D lost V rb v L) (u : Upd w w' (fun _ => False)) : Both base w' b bm n D lost V rb v L :=
  ⟨h.net.upd u, h.rf.upd u id (fun _ _ => id), h.ok⟩
/-- What both may write. -/
def Bfr (b bm : Nat) (V : Pr → Value) (p : Pr) (rb : Nat) (v : Value) : Nat → Prop := fun k => Nfr b bm V p k ∨ k = rb ∨ v.ownBlock = some k
theorem Both.fr {base : Nat} {w : World} {b bm n : Nat} {D : DataW Value} {lost : Nat} {V : Pr → Value} {rb : Nat} {v : Value} {L : List On} (h : Both base w b bm n D lost V rb v L) {p : Pr} (hp : prOk p) : ∀ k, Bfr b bm V p rb v k → base ≤ k ∧ k < w.heap.size := by
  rintro k (e | e | e)
  · exact h.net.fr hp k e
  · exact ⟨e ▸ h.rf.bb, e ▸ lt_at h.rf.c⟩
  · exact ⟨h.rf.bo k e, h.rf.r.lt k e⟩

abbrev ActPost (base : Nat) (w : World) (b bm n : Nat) (lost : Nat) (V : Pr → Value) (rb : Nat) (v : Value) (L : List On) (p : Pr) : Ending → World → Prop := fun e w' => e = .returned (.bool true) ∧
  ∃ n' D' lost' V' v' L', n' ≤ n + 1 ∧ L'.length ≤ L.length + 1 ∧ lost' ≤ lost + 1 ∧ Both base w' b bm n' D' lost' V' rb v' L' ∧ Upd w w' (Bfr b bm V p rb v)
/-- The code behind the first statement. -/
noncomputable def actRest : Code := match Try.f17.body with
  | some (.seq _ (.seq _ c)) => c
  | _ => .skip
end Go.Proofs.Ytleehgpfoigajaa
