/- Two ends: one of the slices of a side is another one now. -/
import Derived.Test.YtfbmhfpffciojaaEnds
set_option maxRecDepth 100000
namespace Go.Proofs.Ytfbmhfpffciojaa
open Go.RowKit Go.Lat

theorem EndsAt.setWay {w w' : World} {eb : Nat} {own : Nat → Nat} {V : Bool → Vs} {s : Bool → Sd} (h : EndsAt w eb own V s) (c : Bool) (v' : Value) (l' : List Fr)
    (u : Upd w w' (fun k => k = eb ∨ (V c).wv.ownBlock = some k)) (hb : w'.heap[eb]? = some (.cells (endCells (put V c { V c with wv := v' })) 53 (0, 0))) (hf : FrsAt w' v' l')
    (ho : ∀ k, v'.ownBlock = some k → (V c).wv.ownBlock = some k ∨ w.heap.size ≤ k) :
    EndsAt w' eb (newOwn own w.heap.size (5 + c.toNat)) (put V c { V c with wv := v' }) (put s c { s c with way := l' }) := by
  have hS : ∀ k, (k = eb ∨ (V c).wv.ownBlock = some k) → own k = 0 ∨ own k = 5 + c.toNat := fun k e => by
    rcases e with rfl | e
    · exact .inl h.oe
    · exact .inr (h.ow c k e)
  have heb := lt_at h.blk
  refine ⟨hb, ?_, ?_, ?_, ?_, ?_, ?_, ?_, ?_, ?_, ?_⟩
  · rw [newOwn_lt heb]; exact h.oe
  · intro d
    have e1 : (put V c { V c with wv := v' } d).b = (V d).b := by by_cases hd : d = c <;> simp [put, hd]
    have e2 : (put V c { V c with wv := v' } d).t = (V d).t := by by_cases hd : d = c <;> simp [put, hd]
    have e3 : (put s c { s c with way := l' } d).fl = (s d).fl := by by_cases hd : d = c <;> simp [put, hd]
    rw [e1, e2, e3]
    refine (h.fl d).upd u (fun e => ?_) (fun k hk e => ?_)
    · have := hS _ e; rw [h.ob d] at this; revert this; cases c <;> cases d <;> simp
    · have := hS _ e; rw [h.ot d k hk] at this; revert this; cases c <;> cases d <;> simp
  · intro d
    have e1 : (put V c { V c with wv := v' } d).b = (V d).b := by by_cases hd : d = c <;> simp [put, hd]
    rw [e1, newOwn_lt (lt_at (h.fl d).1)]; exact h.ob d
  · intro d
    have e1 : (put V c { V c with wv := v' } d).t = (V d).t := by by_cases hd : d = c <;> simp [put, hd]
    rw [e1]; exact (h.ot d).keep (h.fl d).2.1.lt
  · intro d
    by_cases hd : d = c
    · subst hd; simpa [put] using hf
    · simp only [put, hd, if_false]
      exact u.rw (h.wy d) (fun k hk e => by have := hS _ e; rw [h.ow d k hk] at this; revert hd this; cases c <;> cases d <;> simp)
  · intro d
    by_cases hd : d = c
    · subst hd; simpa [put] using (h.ow d).new ho (h.wy d).lt
    · simp only [put, hd, if_false]; exact (h.ow d).keep (h.wy d).lt
  · intro d
    have e1 : (put V c { V c with wv := v' } d).sv = (V d).sv := by by_cases hd : d = c <;> simp [put, hd]
    have e2 : (put s c { s c with way := l' } d).sent = (s d).sent := by by_cases hd : d = c <;> simp [put, hd]
    rw [e1, e2]; exact u.rw (h.st d) (fun k hk e => by have := hS _ e; rw [h.os d k hk] at this; revert this; cases c <;> cases d <;> simp)
  · intro d
    have e1 : (put V c { V c with wv := v' } d).sv = (V d).sv := by by_cases hd : d = c <;> simp [put, hd]
    rw [e1]; exact (h.os d).keep (h.st d).lt
  · intro d
    have e1 : (put V c { V c with wv := v' } d).iv = (V d).iv := by by_cases hd : d = c <;> simp [put, hd]
    have e2 : (put s c { s c with way := l' } d).inn = (s d).inn := by by_cases hd : d = c <;> simp [put, hd]
    rw [e1, e2]; exact u.rw (h.inn d) (fun k hk e => by have := hS _ e; rw [h.oi d k hk] at this; revert this; cases c <;> cases d <;> simp)
  · intro d
    have e1 : (put V c { V c with wv := v' } d).iv = (V d).iv := by by_cases hd : d = c <;> simp [put, hd]
    rw [e1]; exact (h.oi d).keep (h.inn d).lt

theorem EndsAt.setSent {w w' : World} {eb : Nat} {own : Nat → Nat} {V : Bool → Vs} {s : Bool → Sd} (h : EndsAt w eb own V s) (c : Bool) (v' : Value) (l' : List ByteArray)
    (u : Upd w w' (fun k => k = eb ∨ (V c).sv.ownBlock = some k)) (hb : w'.heap[eb]? = some (.cells (endCells (put V c { V c with sv := v' })) 53 (0, 0))) (hf : Rw w' 9 1 v' l'.length (l'.map .string))
    (ho : ∀ k, v'.ownBlock = some k → (V c).sv.ownBlock = some k ∨ w.heap.size ≤ k) :
    EndsAt w' eb (newOwn own w.heap.size (7 + c.toNat)) (put V c { V c with sv := v' }) (put s c { s c with sent := l' }) := by
  have hS : ∀ k, (k = eb ∨ (V c).sv.ownBlock = some k) → own k = 0 ∨ own k = 7 + c.toNat := fun k e => by
    rcases e with rfl | e
    · exact .inl h.oe
    · exact .inr (h.os c k e)
  have heb := lt_at h.blk
  refine ⟨hb, ?_, ?_, ?_, ?_, ?_, ?_, ?_, ?_, ?_, ?_⟩
  · rw [newOwn_lt heb]; exact h.oe
  · intro d
    have e1 : (put V c { V c with sv := v' } d).b = (V d).b := by by_cases hd : d = c <;> simp [put, hd]
    have e2 : (put V c { V c with sv := v' } d).t = (V d).t := by by_cases hd : d = c <;> simp [put, hd]
    have e3 : (put s c { s c with sent := l' } d).fl = (s d).fl := by by_cases hd : d = c <;> simp [put, hd]
    rw [e1, e2, e3]
    refine (h.fl d).upd u (fun e => ?_) (fun k hk e => ?_)
    · have := hS _ e; rw [h.ob d] at this; revert this; cases c <;> cases d <;> simp
    · have := hS _ e; rw [h.ot d k hk] at this; revert this; cases c <;> cases d <;> simp
  · intro d
    have e1 : (put V c { V c with sv := v' } d).b = (V d).b := by by_cases hd : d = c <;> simp [put, hd]
    rw [e1, newOwn_lt (lt_at (h.fl d).1)]; exact h.ob d
  · intro d
    have e1 : (put V c { V c with sv := v' } d).t = (V d).t := by by_cases hd : d = c <;> simp [put, hd]
    rw [e1]; exact (h.ot d).keep (h.fl d).2.1.lt
  · intro d
    have e1 : (put V c { V c with sv := v' } d).wv = (V d).wv := by by_cases hd : d = c <;> simp [put, hd]
    have e2 : (put s c { s c with sent := l' } d).way = (s d).way := by by_cases hd : d = c <;> simp [put, hd]
    rw [e1, e2]; exact u.rw (h.wy d) (fun k hk e => by have := hS _ e; rw [h.ow d k hk] at this; revert this; cases c <;> cases d <;> simp)
  · intro d
    have e1 : (put V c { V c with sv := v' } d).wv = (V d).wv := by by_cases hd : d = c <;> simp [put, hd]
    rw [e1]; exact (h.ow d).keep (h.wy d).lt
  · intro d
    by_cases hd : d = c
    · subst hd; simpa [put] using hf
    · simp only [put, hd, if_false]
      exact u.rw (h.st d) (fun k hk e => by have := hS _ e; rw [h.os d k hk] at this; revert hd this; cases c <;> cases d <;> simp)
  · intro d
    by_cases hd : d = c
    · subst hd; simpa [put] using (h.os d).new ho (h.st d).lt
    · simp only [put, hd, if_false]; exact (h.os d).keep (h.st d).lt
  · intro d
    have e1 : (put V c { V c with sv := v' } d).iv = (V d).iv := by by_cases hd : d = c <;> simp [put, hd]
    have e2 : (put s c { s c with sent := l' } d).inn = (s d).inn := by by_cases hd : d = c <;> simp [put, hd]
    rw [e1, e2]; exact u.rw (h.inn d) (fun k hk e => by have := hS _ e; rw [h.oi d k hk] at this; revert this; cases c <;> cases d <;> simp)
  · intro d
    have e1 : (put V c { V c with sv := v' } d).iv = (V d).iv := by by_cases hd : d = c <;> simp [put, hd]
    rw [e1]; exact (h.oi d).keep (h.inn d).lt

theorem EndsAt.setIn {w w' : World} {eb : Nat} {own : Nat → Nat} {V : Bool → Vs} {s : Bool → Sd} (h : EndsAt w eb own V s) (c : Bool) (v' : Value) (l' : List ByteArray)
    (u : Upd w w' (fun k => k = eb ∨ (V c).iv.ownBlock = some k)) (hb : w'.heap[eb]? = some (.cells (endCells (put V c { V c with iv := v' })) 53 (0, 0))) (hf : Rw w' 9 1 v' l'.length (l'.map .string))
    (ho : ∀ k, v'.ownBlock = some k → (V c).iv.ownBlock = some k ∨ w.heap.size ≤ k) :
    EndsAt w' eb (newOwn own w.heap.size (9 + c.toNat)) (put V c { V c with iv := v' }) (put s c { s c with inn := l' }) := by
  have hS : ∀ k, (k = eb ∨ (V c).iv.ownBlock = some k) → own k = 0 ∨ own k = 9 + c.toNat := fun k e => by
    rcases e with rfl | e
    · exact .inl h.oe
    · exact .inr (h.oi c k e)
  have heb := lt_at h.blk
  refine ⟨hb, ?_, ?_, ?_, ?_, ?_, ?_, ?_, ?_, ?_, ?_⟩
  · rw [newOwn_lt heb]; exact h.oe
  · intro d
    have e1 : (put V c { V c with iv := v' } d).b = (V d).b := by by_cases hd : d = c <;> simp [put, hd]
    have e2 : (put V c { V c with iv := v' } d).t = (V d).t := by by_cases hd : d = c <;> simp [put, hd]
    have e3 : (put s c { s c with inn := l' } d).fl = (s d).fl := by by_cases hd : d = c <;> simp [put, hd]
    rw [e1, e2, e3]
    refine (h.fl d).upd u (fun e => ?_) (fun k hk e => ?_)
    · have := hS _ e; rw [h.ob d] at this; revert this; cases c <;> cases d <;> simp
    · have := hS _ e; rw [h.ot d k hk] at this; revert this; cases c <;> cases d <;> simp
  · intro d
    have e1 : (put V c { V c with iv := v' } d).b = (V d).b := by by_cases hd : d = c <;> simp [put, hd]
    rw [e1, newOwn_lt (lt_at (h.fl d).1)]; exact h.ob d
  · intro d
    have e1 : (put V c { V c with iv := v' } d).t = (V d).t := by by_cases hd : d = c <;> simp [put, hd]
    rw [e1]; exact (h.ot d).keep (h.fl d).2.1.lt
  · intro d
    have e1 : (put V c { V c with iv := v' } d).wv = (V d).wv := by by_cases hd : d = c <;> simp [put, hd]
    have e2 : (put s c { s c with inn := l' } d).way = (s d).way := by by_cases hd : d = c <;> simp [put, hd]
    rw [e1, e2]; exact u.rw (h.wy d) (fun k hk e => by have := hS _ e; rw [h.ow d k hk] at this; revert this; cases c <;> cases d <;> simp)
  · intro d
    have e1 : (put V c { V c with iv := v' } d).wv = (V d).wv := by by_cases hd : d = c <;> simp [put, hd]
    rw [e1]; exact (h.ow d).keep (h.wy d).lt
  · intro d
    have e1 : (put V c { V c with iv := v' } d).sv = (V d).sv := by by_cases hd : d = c <;> simp [put, hd]
    have e2 : (put s c { s c with inn := l' } d).sent = (s d).sent := by by_cases hd : d = c <;> simp [put, hd]
    rw [e1, e2]; exact u.rw (h.st d) (fun k hk e => by have := hS _ e; rw [h.os d k hk] at this; revert this; cases c <;> cases d <;> simp)
  · intro d
    have e1 : (put V c { V c with iv := v' } d).sv = (V d).sv := by by_cases hd : d = c <;> simp [put, hd]
    rw [e1]; exact (h.os d).keep (h.st d).lt
  · intro d
    by_cases hd : d = c
    · subst hd; simpa [put] using hf
    · simp only [put, hd, if_false]
      exact u.rw (h.inn d) (fun k hk e => by have := hS _ e; rw [h.oi d k hk] at this; revert hd this; cases c <;> cases d <;> simp)
  · intro d
    by_cases hd : d = c
    · subst hd; simpa [put] using (h.oi d).new ho (h.inn d).lt
    · simp only [put, hd, if_false]; exact (h.oi d).keep (h.inn d).lt

/-- The cells of the object, and that they may be written. -/
theorem EndsAt.cells {w : World} {eb : Nat} {own : Nat → Nat} {V : Bool → Vs} {s : Bool → Sd} (h : EndsAt w eb own V s) :
    w.cell? ⟨eb, 0, none⟩ = some (.pointer (some ⟨(V false).b, 0, none⟩)) ∧ w.cell? ⟨eb, 1, none⟩ = some (.pointer (some ⟨(V true).b, 0, none⟩)) ∧ w.cell? ⟨eb, 2, none⟩ = some (V false).wv ∧ w.cell? ⟨eb, 3, none⟩ = some (V true).wv ∧
    w.cell? ⟨eb, 4, none⟩ = some (V false).sv ∧ w.cell? ⟨eb, 5, none⟩ = some (V true).sv ∧ w.cell? ⟨eb, 6, none⟩ = some (V false).iv ∧ w.cell? ⟨eb, 7, none⟩ = some (V true).iv := cells8 h.blk
end Go.Proofs.Ytfbmhfpffciojaa
