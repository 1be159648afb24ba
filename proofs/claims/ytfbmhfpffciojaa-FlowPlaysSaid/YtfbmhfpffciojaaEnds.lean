/- Two ends of a way, and what is on its way to each: the object of the laws FlowOnce and FlowComes. -/
import Derived.Test.YtfbmhfpffciojaaFlowWin
set_option maxRecDepth 100000
namespace Go.Proofs.Ytfbmhfpffciojaa
open Go.RowKit Go.Lat

/-- A slice of strings that reads. -/
def Rs (w : World) (v : Value) (l : List ByteArray) : Prop :=
  ∃ a cap, v = .slice a l.length cap ∧ l.length ≤ cap ∧ (0 < l.length → ∃ b off, a = some ⟨b, off, none⟩ ∧ b < w.heap.size ∧ ∀ j, j < l.length → w.cell? ⟨b, off + j, none⟩ = some (.string (l.getD j ByteArray.empty)))

theorem Rs.of {w : World} {v : Value} {l : List ByteArray} (h : Rw w 9 1 v l.length (l.map .string)) : Rs w v l := by
  rcases h.2 with ⟨rfl, h0⟩ | ⟨g, off, cap, cur, rfl, hg, hc, r⟩
  · exact ⟨none, 0, by rw [h0], by omega, by omega⟩
  · refine ⟨some ⟨g, off, none⟩, cap, rfl, hc, fun _ => ⟨g, off, rfl, (Array.getElem?_eq_some_iff.1 hg).1, fun j hj => ?_⟩⟩
    exact h.cells j _ (by simp [hj])

theorem equal_true (w : World) (v1 v2 : Value) (l : List ByteArray) (h1 : Rs w v1 l) (h2 : Rs w v2 l) (hl : l.length ≤ 1000000) :
    Calls Try.prog 19 #[v1, v2] w fun e w' => e = .returned (.bool true) ∧ ∃ n, w' = w.drewN n := by
  obtain ⟨a1, p1, rfl, -, r1⟩ := h1
  obtain ⟨a2, p2, rfl, -, r2⟩ := h2
  obtain ⟨N, hN⟩ : ∃ N, l.length = N := ⟨_, rfl⟩
  rw [hN] at r1 r2 hl ⊢
  have HN := hide hN
  clear hN
  go_enter Try.func19, Try.ntmps19
  go_wp2
  go_loopg [13] N (fun q i wr => ∃ k : Nat, k + q = N ∧ i = .int .i64 k ∧ ∃ n, wr = w.drewN n)
  case atStart => exact ⟨0, by omega, rfl, 0, rfl⟩
  case round =>
    obtain ⟨k, hk, rfl, n, rfl⟩ := hrel
    by_cases hkN : k < N
    · obtain ⟨b1, o1, rfl, -, c1⟩ := r1 (by omega)
      obtain ⟨b2, o2, rfl, -, c2⟩ := r2 (by omega)
      have d1 := c1 k hkN
      have d2 := c2 k hkN
      clear c1 c2 r1 r2
      generalize l.getD k ByteArray.empty = x at d1 d2
      have hk0 : (0 : Int) ≤ (k : Int) := by omega
      have hk1 : (k : Int) < (N : Int) := by omega
      go_wp2_with fail
      go_quiet (fail)
      go_wp2_with fail
      go_roundg (gk - 1)
      case measure => omega
      case rel => exact ⟨k + 1, by omega, by go_num, _, rfl⟩
    · go_wp2_with fail
      go_ret
      exact ⟨rfl, n, rfl⟩

/-- What a frame does to an end: its new state, the texts that come by it, what is sent back. -/
def Fl.fed (s : Fl) (y : Fr) : Fl := if y.ack then s.came y.seq else s.take y.seq
def Fl.outs (s : Fl) (y : Fr) : List ByteArray := if y.ack then [] else s.got y.seq y.body
def Fl.backs (s : Fl) (y : Fr) : List Fr := if y.ack then [] else [⟨true, (s.take y.seq).wanted, ByteArray.empty⟩]

theorem Take_all (w : World) (b : Nat) (tv : Value) (s : Fl) (y : Fr) (hF : FlAt w b tv s) (ok : s.Ok) :
    Calls Try.prog 14 #[.pointer (some ⟨b, 0, none⟩), .agg #[.bool y.ack, .int .i64 y.seq, .string y.body]] w fun e w' =>
      ∃ v1 v2 tv', e = .returned (.tuple #[v1, v2]) ∧ Rw w' 9 1 v1 (s.outs y).length ((s.outs y).map .string) ∧ FrsAt w' v2 (s.backs y) ∧ FlAt w' b tv' (s.fed y) ∧ Upd w w' (fun k => k = b) ∧
        (∀ k, v1.ownBlock = some k → w.heap.size ≤ k) ∧ (∀ k, v2.ownBlock = some k → w.heap.size ≤ k) ∧ (∀ k, v1.ownBlock = some k → v2.ownBlock ≠ some k) ∧ tv'.ownBlock = tv.ownBlock := by
  obtain ⟨ack, seq, body⟩ := y
  cases ack with
  | true =>
    refine Calls.mono (Take_ack w b tv s seq body hF ok) ?_
    rintro e w' ⟨he, tv', h1, h2, h3⟩
    exact ⟨_, _, tv', he, Rw.nil _ _ _, Rw.nil _ _ _, h1, h2, by simp [Value.ownBlock], by simp [Value.ownBlock], by simp [Value.ownBlock], h3⟩
  | false =>
    refine Calls.mono (Take_msg w b tv s seq body hF ok) ?_
    rintro e w' ⟨v1, v2, he, h1, h2, h3, h4, h5, h6, h7⟩
    exact ⟨v1, v2, tv, he, h1, h2, h3, h4, h5, h6, h7, rfl⟩

/-- One side: the end, what is on its way to it, what it sent, what came to it. -/
structure Sd where
  fl : Fl
  way : List Fr
  sent : List ByteArray
  inn : List ByteArray
/-- Where they lie. -/
structure Vs where
  b : Nat
  t : Value
  wv : Value
  sv : Value
  iv : Value
def put {α : Type} (f : Bool → α) (c : Bool) (x : α) : Bool → α := fun d => if d = c then x else f d
theorem put_same {α : Type} (f : Bool → α) (c : Bool) (x : α) : put f c x c = x := by simp [put]
theorem put_other {α : Type} (f : Bool → α) (c : Bool) (x : α) : put f c x (!c) = f (!c) := by cases c <;> simp [put]

/-- The block of v, if any, is of role j. -/
def Own (own : Nat → Nat) (v : Value) (j : Nat) : Prop := ∀ k, v.ownBlock = some k → own k = j

def endCells (V : Bool → Vs) : Array Value :=
  #[.pointer (some ⟨(V false).b, 0, none⟩), .pointer (some ⟨(V true).b, 0, none⟩), (V false).wv, (V true).wv, (V false).sv, (V true).sv, (V false).iv, (V true).iv]

structure EndsAt (w : World) (eb : Nat) (own : Nat → Nat) (V : Bool → Vs) (s : Bool → Sd) : Prop where
  blk : w.heap[eb]? = some (.cells (endCells V) 53 (0, 0))
  oe : own eb = 0
  fl : ∀ c, FlAt w (V c).b (V c).t (s c).fl
  ob : ∀ c, own (V c).b = 1 + c.toNat
  ot : ∀ c, Own own (V c).t (3 + c.toNat)
  wy : ∀ c, FrsAt w (V c).wv (s c).way
  ow : ∀ c, Own own (V c).wv (5 + c.toNat)
  st : ∀ c, Rw w 9 1 (V c).sv (s c).sent.length ((s c).sent.map .string)
  os : ∀ c, Own own (V c).sv (7 + c.toNat)
  inn : ∀ c, Rw w 9 1 (V c).iv (s c).inn.length ((s c).inn.map .string)
  oi : ∀ c, Own own (V c).iv (9 + c.toNat)

/-- Roles behind a step: what is new from block n on is of role j. -/
def newOwn (own : Nat → Nat) (n j : Nat) : Nat → Nat := fun k => if k < n then own k else j

theorem Own.keep {own : Nat → Nat} {v : Value} {i n j : Nat} (h : Own own v i) (hlt : ∀ k, v.ownBlock = some k → k < n) : Own (newOwn own n j) v i := fun k hk => by
  simp [newOwn, hlt k hk, h k hk]
theorem Own.new {own : Nat → Nat} {v v' : Value} {n j : Nat} (h : Own own v j) (hv : ∀ k, v'.ownBlock = some k → v.ownBlock = some k ∨ n ≤ k) (hlt : ∀ k, v.ownBlock = some k → k < n) : Own (newOwn own n j) v' j := fun k hk => by
  rcases hv k hk with e | e
  · simp [newOwn, hlt k e, h k e]
  · simp [newOwn]; omega
theorem newOwn_lt {own : Nat → Nat} {n j k : Nat} (h : k < n) : newOwn own n j k = own k := by simp [newOwn, h]

/-- What stays as it was reads as it did, if what is written is of other roles. -/
theorem EndsAt.upd {w w' : World} {eb : Nat} {own : Nat → Nat} {V : Bool → Vs} {s : Bool → Sd} (h : EndsAt w eb own V s) (u : Upd w w' (fun _ => False)) : EndsAt w' eb own V s :=
  ⟨u.get h.blk id, h.oe, fun c => (h.fl c).upd u id (fun _ _ => id), h.ob, h.ot, fun c => u.rw (h.wy c) (fun _ _ => id), h.ow, fun c => u.rw (h.st c) (fun _ _ => id), h.os, fun c => u.rw (h.inn c) (fun _ _ => id), h.oi⟩

/-- An end's own object (and its texts) has changed. -/
theorem EndsAt.setFl {w w' : World} {eb : Nat} {own : Nat → Nat} {V : Bool → Vs} {s : Bool → Sd} (h : EndsAt w eb own V s) (c : Bool) (t' : Value) (f' : Fl)
    (u : Upd w w' (fun k => k = (V c).b ∨ (V c).t.ownBlock = some k)) (hf : FlAt w' (V c).b t' f') (ho : ∀ k, t'.ownBlock = some k → (V c).t.ownBlock = some k ∨ w.heap.size ≤ k) :
    EndsAt w' eb (newOwn own w.heap.size (3 + c.toNat)) (put V c { V c with t := t' }) (put s c { s c with fl := f' }) := by
  have hS : ∀ k, (k = (V c).b ∨ (V c).t.ownBlock = some k) → own k = 1 + c.toNat ∨ own k = 3 + c.toNat := fun k e => by
    rcases e with rfl | e
    · exact .inl (h.ob c)
    · exact .inr (h.ot c k e)
  have heb := lt_at h.blk
  have hv : endCells (put V c { V c with t := t' }) = endCells V := by cases c <;> rfl
  refine ⟨?_, ?_, ?_, ?_, ?_, ?_, ?_, ?_, ?_, ?_, ?_⟩
  · rw [hv]; exact u.get h.blk (fun e => by have := hS _ e; rw [h.oe] at this; omega)
  · rw [newOwn_lt heb]; exact h.oe
  · intro d
    by_cases hd : d = c
    · subst hd; simpa [put] using hf
    · simp only [put, hd, if_false]
      refine (h.fl d).upd u (fun e => ?_) (fun k hk e => ?_)
      · have := hS _ e; rw [h.ob d] at this; revert hd this; cases c <;> cases d <;> simp
      · have := hS _ e; rw [h.ot d k hk] at this; revert hd this; cases c <;> cases d <;> simp
  · intro d
    have e1 : (put V c { V c with t := t' } d).b = (V d).b := by by_cases hd : d = c <;> simp [put, hd]
    rw [e1, newOwn_lt (lt_at (h.fl d).1)]; exact h.ob d
  · intro d
    by_cases hd : d = c
    · subst hd; simpa [put] using (h.ot d).new ho (h.fl d).2.1.lt
    · simp only [put, hd, if_false]; exact (h.ot d).keep (h.fl d).2.1.lt
  · intro d
    have e1 : (put V c { V c with t := t' } d).wv = (V d).wv := by by_cases hd : d = c <;> simp [put, hd]
    have e2 : (put s c { s c with fl := f' } d).way = (s d).way := by by_cases hd : d = c <;> simp [put, hd]
    rw [e1, e2]; exact u.rw (h.wy d) (fun k hk e => by have := hS _ e; rw [h.ow d k hk] at this; revert this; cases c <;> cases d <;> simp)
  · intro d
    have e1 : (put V c { V c with t := t' } d).wv = (V d).wv := by by_cases hd : d = c <;> simp [put, hd]
    rw [e1]; exact (h.ow d).keep (h.wy d).lt
  · intro d
    have e1 : (put V c { V c with t := t' } d).sv = (V d).sv := by by_cases hd : d = c <;> simp [put, hd]
    have e2 : (put s c { s c with fl := f' } d).sent = (s d).sent := by by_cases hd : d = c <;> simp [put, hd]
    rw [e1, e2]; exact u.rw (h.st d) (fun k hk e => by have := hS _ e; rw [h.os d k hk] at this; revert this; cases c <;> cases d <;> simp)
  · intro d
    have e1 : (put V c { V c with t := t' } d).sv = (V d).sv := by by_cases hd : d = c <;> simp [put, hd]
    rw [e1]; exact (h.os d).keep (h.st d).lt
  · intro d
    have e1 : (put V c { V c with t := t' } d).iv = (V d).iv := by by_cases hd : d = c <;> simp [put, hd]
    have e2 : (put s c { s c with fl := f' } d).inn = (s d).inn := by by_cases hd : d = c <;> simp [put, hd]
    rw [e1, e2]; exact u.rw (h.inn d) (fun k hk e => by have := hS _ e; rw [h.oi d k hk] at this; revert this; cases c <;> cases d <;> simp)
  · intro d
    have e1 : (put V c { V c with t := t' } d).iv = (V d).iv := by by_cases hd : d = c <;> simp [put, hd]
    rw [e1]; exact (h.oi d).keep (h.inn d).lt
end Go.Proofs.Ytfbmhfpffciojaa
