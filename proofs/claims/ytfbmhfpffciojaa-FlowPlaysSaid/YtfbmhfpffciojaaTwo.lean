/- An end of the program and one of the reference's, side by side. -/
import Derived.Test.YtfbmhfpffciojaaRefB
import Derived.Test.YtfbmhfpffciojaaRefC
set_option maxRecDepth 100000
namespace Go.Proofs.Ytfbmhfpffciojaa
open Go.RowKit Go.Lat

/-- Both ends in memory. -/
structure Two (w wr : World) (b c : Nat) (tv tr : Value) (s s2 : Fl) (all : List ByteArray) : Prop where
  fl : FlAt wr b tv s
  rf : RfAt wr c tr s2 all
  upd : Upd w wr (fun _ => False)
  wb : w.heap.size ≤ b
  wc : w.heap.size ≤ c
  ne : b ≠ c
  tvw : ∀ i, tv.ownBlock = some i → w.heap.size ≤ i
  trw : ∀ i, tr.ownBlock = some i → w.heap.size ≤ i
  tvc : tv.ownBlock ≠ some c
  trb : tr.ownBlock ≠ some b
  tt : ∀ i, tv.ownBlock = some i → tr.ownBlock ≠ some i

section
variable {w wr w2 : World} {b c : Nat} {tv tr : Value} {s s2 : Fl} {all : List ByteArray}

theorem Two.step (h : Two w wr b c tv tr s s2 all) (u : Upd wr w2 (fun _ => False)) : Two w w2 b c tv tr s s2 all :=
  { h with fl := h.fl.upd u id (fun _ _ => id), rf := h.rf.upd u id (fun _ _ => id), upd := h.upd.then u (fun _ _ => id) }

theorem Two.left (h : Two w wr b c tv tr s s2 all) {tv' : Value} {s' : Fl} (hf : FlAt w2 b tv' s') (u : Upd wr w2 (fun k => k = b ∨ tv.ownBlock = some k))
    (ht : ∀ k, tv'.ownBlock = some k → tv.ownBlock = some k ∨ wr.heap.size ≤ k) : Two w w2 b c tv' tr s' s2 all where
  fl := hf
  rf := h.rf.upd u (fun e => by rcases e with e | e
                                · exact h.ne e.symm
                                · exact h.tvc e) (fun k hk e => by rcases e with e | e
                                                                   · exact h.trb (by rw [hk, e])
                                                                   · exact h.tt k e hk)
  upd := h.upd.then u (fun i hi e => by rcases e with e | e
                                        · have := h.wb; omega
                                        · have := h.tvw i e; omega)
  wb := h.wb
  wc := h.wc
  ne := h.ne
  tvw := fun i hi => by
    rcases ht i hi with e | e
    · exact h.tvw i e
    · have := h.upd.size; omega
  trw := h.trw
  tvc := fun e => by
    rcases ht _ e with e' | e'
    · exact h.tvc e'
    · have := lt_at h.rf.1; omega
  trb := h.trb
  tt := fun i hi e => by
    rcases ht i hi with e' | e'
    · exact h.tt i e' e
    · have := h.rf.2.1.lt i e; omega

theorem Two.right (h : Two w wr b c tv tr s s2 all) {tr' : Value} {s' : Fl} {all' : List ByteArray} (hf : RfAt w2 c tr' s' all') (u : Upd wr w2 (fun k => k = c ∨ tr.ownBlock = some k))
    (ht : ∀ k, tr'.ownBlock = some k → tr.ownBlock = some k ∨ wr.heap.size ≤ k) : Two w w2 b c tv tr' s s' all' where
  rf := hf
  fl := h.fl.upd u (fun e => by rcases e with e | e
                                · exact h.ne e
                                · exact h.trb e) (fun k hk e => by rcases e with e | e
                                                                   · exact h.tvc (by rw [hk, e])
                                                                   · exact h.tt k hk e)
  upd := h.upd.then u (fun i hi e => by rcases e with e | e
                                        · have := h.wc; omega
                                        · have := h.trw i e; omega)
  wb := h.wb
  wc := h.wc
  ne := h.ne
  tvw := h.tvw
  trw := fun i hi => by
    rcases ht i hi with e | e
    · exact h.trw i e
    · have := h.upd.size; omega
  tvc := h.tvc
  trb := fun e => by
    rcases ht _ e with e' | e'
    · exact h.trb e'
    · have := lt_at h.fl.1; omega
  tt := fun i hi e => by
    rcases ht i e with e' | e'
    · exact h.tt i hi e'
    · have := h.fl.2.1.lt i hi; omega
end

/-- The plain law: the program keeps what isn't known to have come of what the reference keeps. -/
structure Agree (s : Fl) (all : List ByteArray) (k : Nat) : Prop where
  ok : s.Ok
  txt : s.texts = all.drop s.base
  le : s.base ≤ all.length
  len : all.length ≤ k
  want : s.wanted ≤ k

theorem Agree.all {s : Fl} {all : List ByteArray} {k : Nat} (h : Agree s all k) : all.length = s.base + s.texts.length := by
  have := h.le
  rw [h.txt, List.length_drop]
  omega
theorem Agree.next {s : Fl} {all : List ByteArray} {k : Nat} (h : Agree s all k) : s.next ≤ all.length := by
  have := h.all
  have := h.ok.nt
  omega
theorem Agree.ready {s : Fl} {all : List ByteArray} {k : Nat} (h : Agree s all k) : Agree { s with next := s.upTo } all (k + 1) :=
  ⟨⟨h.ok.win, by have := h.ok.bn; simp [Fl.upTo]; omega, by have := h.ok.nt; simp [Fl.upTo]; omega, h.ok.top, h.ok.want⟩, h.txt, h.le, by have := h.len; omega, by have := h.want; simp; omega⟩
theorem Agree.same {s : Fl} {all : List ByteArray} {k : Nat} (h : Agree s all k) : Agree s all (k + 1) :=
  ⟨h.ok, h.txt, h.le, by have := h.len; omega, by have := h.want; omega⟩
theorem Agree.send {s : Fl} {all : List ByteArray} {k : Nat} (h : Agree s all k) (hk : k < 1000000) (body : ByteArray) : Agree { s with texts := s.texts ++ [body] } (all ++ [body]) (k + 1) :=
  ⟨⟨h.ok.win, h.ok.bn, by have := h.ok.nt; simp; omega, by have := h.all; have := h.len; simp; omega, h.ok.want⟩, by simp [h.txt, List.drop_append_of_le_length h.le], by have := h.le; simp; omega, by have := h.len; simp; omega, by have := h.want; simp; omega⟩
theorem Agree.fed {s : Fl} {all : List ByteArray} {k : Nat} (h : Agree s all k) (hk : k < 1000000) (y : Fr) : Agree (s.fed y) all (k + 1) := by
  have h1 := h.len
  have h2 := h.want
  have h3 := h.le
  unfold Fl.fed
  split
  · unfold Fl.came
    split
    · rename_i q
      have q1 := h.ok.nt
      have q2 := h.all
      refine ⟨⟨h.ok.win, by simp; omega, by simp; omega, by have := h.ok.top; simp; omega, h.ok.want⟩, ?_, by simp; omega, by omega, by simp; omega⟩
      simp only [h.txt, List.drop_drop]
      congr 1
      omega
    · exact h.same
  · unfold Fl.take
    split
    · exact ⟨⟨h.ok.win, h.ok.bn, h.ok.nt, h.ok.top, by simp; omega⟩, h.txt, h.le, by omega, by simp; omega⟩
    · exact h.same
end Go.Proofs.Ytfbmhfpffciojaa
