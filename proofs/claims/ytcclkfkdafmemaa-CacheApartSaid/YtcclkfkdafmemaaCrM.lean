/- The memory of the law's calls: a cache, and the document's list; what a call of both leaves. -/
import Derived.Test.YtcclkfkdafmemaaCrL
import Derived.Test.YtcclkfkdafmemaaCaV
set_option maxRecDepth 100000
namespace Go.Proofs.Ytcclkfkdafmemaa
open Go.RowKit Go.Lat

/-- A cache, and the document's list, that know the same. -/
structure Both (w W : World) (b bm n : Nat) (D : DataW Value) (v : Value) (l : List Rf) (M : Lk → Option En) : Prop where
  c : Cas W b bm n D M
  r : RefAt W v l M
  f : ∃ a c, v = .slice a l.length c
  bb : w.heap.size ≤ b
  bbm : w.heap.size ≤ bm
  bv : ∀ k, v.ownBlock = some k → w.heap.size ≤ k
theorem Rw.kind {w : World} {e size : Nat} {v : Value} {n : Nat} {xs : List Value} (h : Rw w e size v n xs) {k : Nat} (hk : v.ownBlock = some k) : ∃ cur, w.heap[k]? = some (.cells cur e (0, 0)) := by
  rcases h.2 with ⟨rfl, _⟩ | ⟨g, off, cap, cur, rfl, hg, _⟩
  · cases hk
  · obtain rfl : g = k := by simpa [Value.ownBlock] using hk
    exact ⟨cur, hg⟩
theorem Both.ne {w W : World} {b bm n : Nat} {D : DataW Value} {v : Value} {l : List Rf} {M : Lk → Option En} (h : Both w W b bm n D v l M) {k : Nat} (hk : v.ownBlock = some k) : k ≠ b ∧ k ≠ bm := by
  obtain ⟨cur, hc⟩ := Rw.kind h.r.r hk
  constructor
  · rintro rfl
    rw [h.c.c] at hc
    simp at hc
  · rintro rfl
    obtain ⟨es, clock, hb, _⟩ := h.c.m
    rw [hb] at hc
    cases hc
theorem Both.upd {w W W' : World} {b bm n : Nat} {D : DataW Value} {v : Value} {l : List Rf} {M : Lk → Option En} (h : Both w W b bm n D v l M) (u : Upd W W' (fun _ => False)) : Both w W' b bm n D v l M :=
  ⟨h.c.upd u id id, h.r.upd u (fun _ _ => id), h.f, h.bb, h.bbm, h.bv⟩
theorem Cas.nbm {w : World} {b bm n : Nat} {D : DataW Value} {M : Lk → Option En} (h : Cas w b bm n D M) {g : Nat} {cs : Array Value} {t : TypeId} {fr : Nat × Nat} (hg : w.heap[g]? = some (.cells cs t fr)) : g ≠ bm := by
  obtain ⟨es, clock, hb, _⟩ := h.m
  rintro rfl
  rw [hb] at hg
  cases hg
/-- What may be written by a call. -/
def ActF (bm : Nat) (v : Value) (k : Nat) : Prop := k = bm ∨ v.ownBlock = some k
/-- What a call of both leaves. -/
def ActPost (w W : World) (b bm n : Nat) (v : Value) (e : Ending) (w' : World) : Prop :=
  ∃ (v' : Value) (n' : Nat) (D' : DataW Value) (l' : List Rf) (M' : Lk → Option En), e = .returned (.tuple #[v', .bool true]) ∧ n' ≤ n + 20 ∧ l'.length ≤ 20 ∧ Both w w' b bm n' D' v' l' M' ∧ Upd W w' (ActF bm v)
def acVal (x : AcD) (lv : Value) : Value := .agg (x.cs lv).toArray
end Go.Proofs.Ytcclkfkdafmemaa
