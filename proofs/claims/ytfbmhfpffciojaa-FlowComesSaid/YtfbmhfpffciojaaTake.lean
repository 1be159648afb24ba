/- A frame comes to an end: the method take of the laws' object. -/
import Derived.Test.YtfbmhfpffciojaaEndsB
set_option maxRecDepth 100000
namespace Go.Proofs.Ytfbmhfpffciojaa
open Go.RowKit Go.Lat

theorem EndsAt.reown {w : World} {eb : Nat} {own : Nat → Nat} {V : Bool → Vs} {s : Bool → Sd} (h : EndsAt w eb own V s) (j : Nat) : EndsAt w eb (newOwn own w.heap.size j) V s :=
  ⟨h.blk, by rw [newOwn_lt (lt_at h.blk)]; exact h.oe, h.fl, fun c => by rw [newOwn_lt (lt_at (h.fl c).1)]; exact h.ob c, fun c => (h.ot c).keep (h.fl c).2.1.lt, h.wy, fun c => (h.ow c).keep (h.wy c).lt, h.st, fun c => (h.os c).keep (h.st c).lt, h.inn, fun c => (h.oi c).keep (h.inn c).lt⟩

/-- In the midst of a method on the object: w0 the world in which it began, o0 the roles then. -/
structure Mid (w0 w : World) (eb : Nat) (o0 own : Nat → Nat) (V : Bool → Vs) (s : Bool → Sd) : Prop where
  at_ : EndsAt w eb own V s
  old : ∀ k, k < w0.heap.size → own k = o0 k
  upd : Upd w0 w (fun k => o0 k ≤ 10)

theorem Mid.begin {w : World} {eb : Nat} {own : Nat → Nat} {V : Bool → Vs} {s : Bool → Sd} (h : EndsAt w eb own V s) : Mid w w eb own (newOwn own w.heap.size 99) V s :=
  ⟨h.reown 99, fun _ hk => newOwn_lt hk, Upd.refl _ _⟩

theorem Mid.upd' {w0 w w' : World} {eb : Nat} {o0 own : Nat → Nat} {V : Bool → Vs} {s : Bool → Sd} (h : Mid w0 w eb o0 own V s) (u : Upd w w' (fun _ => False)) : Mid w0 w' eb o0 own V s :=
  ⟨h.at_.upd u, h.old, h.upd.then u (fun _ _ => False.elim)⟩

theorem Mid.roles {w0 w w' : World} {eb : Nat} {o0 own : Nat → Nat} {V : Bool → Vs} {s : Bool → Sd} (h : Mid w0 w eb o0 own V s) {S : Nat → Prop} (u : Upd w w' S) (hS : ∀ k, S k → own k ≤ 10) : Upd w0 w' (fun k => o0 k ≤ 10) :=
  h.upd.then u (fun i hi e => by rw [← h.old i hi]; exact hS i e)

theorem Mid.size {w0 w : World} {eb : Nat} {o0 own : Nat → Nat} {V : Bool → Vs} {s : Bool → Sd} (h : Mid w0 w eb o0 own V s) : w0.heap.size ≤ w.heap.size := h.upd.size

theorem Mid.reown {w0 w : World} {eb : Nat} {o0 own : Nat → Nat} {V : Bool → Vs} {s : Bool → Sd} (h : Mid w0 w eb o0 own V s) (j : Nat) : Mid w0 w eb o0 (newOwn own w.heap.size j) V s :=
  ⟨h.at_.reown j, fun k hk => by rw [newOwn_lt (Nat.lt_of_lt_of_le hk h.size)]; exact h.old k hk, h.upd⟩

theorem Mid.setFl {w0 w w' : World} {eb : Nat} {o0 own : Nat → Nat} {V : Bool → Vs} {s : Bool → Sd} (h : Mid w0 w eb o0 own V s) (c : Bool) (t' : Value) (f' : Fl)
    (u : Upd w w' (fun k => k = (V c).b ∨ (V c).t.ownBlock = some k)) (hf : FlAt w' (V c).b t' f') (ho : ∀ k, t'.ownBlock = some k → (V c).t.ownBlock = some k ∨ w.heap.size ≤ k) :
    Mid w0 w' eb o0 (newOwn own w.heap.size (3 + c.toNat)) (put V c { V c with t := t' }) (put s c { s c with fl := f' }) :=
  ⟨h.at_.setFl c t' f' u hf ho, fun k hk => by rw [newOwn_lt (Nat.lt_of_lt_of_le hk h.size)]; exact h.old k hk, h.roles u (fun k e => by
    rcases e with rfl | e
    · rw [h.at_.ob c]; cases c <;> simp
    · rw [h.at_.ot c k e]; cases c <;> simp)⟩

theorem Mid.setWay {w0 w w' : World} {eb : Nat} {o0 own : Nat → Nat} {V : Bool → Vs} {s : Bool → Sd} (h : Mid w0 w eb o0 own V s) (c : Bool) (v' : Value) (l' : List Fr)
    (u : Upd w w' (fun k => k = eb ∨ (V c).wv.ownBlock = some k)) (hb : w'.heap[eb]? = some (.cells (endCells (put V c { V c with wv := v' })) 53 (0, 0))) (hf : FrsAt w' v' l')
    (ho : ∀ k, v'.ownBlock = some k → (V c).wv.ownBlock = some k ∨ w.heap.size ≤ k) :
    Mid w0 w' eb o0 (newOwn own w.heap.size (5 + c.toNat)) (put V c { V c with wv := v' }) (put s c { s c with way := l' }) :=
  ⟨h.at_.setWay c v' l' u hb hf ho, fun k hk => by rw [newOwn_lt (Nat.lt_of_lt_of_le hk h.size)]; exact h.old k hk, h.roles u (fun k e => by
    rcases e with rfl | e
    · rw [h.at_.oe]; omega
    · rw [h.at_.ow c k e]; cases c <;> simp)⟩

theorem Mid.setSent {w0 w w' : World} {eb : Nat} {o0 own : Nat → Nat} {V : Bool → Vs} {s : Bool → Sd} (h : Mid w0 w eb o0 own V s) (c : Bool) (v' : Value) (l' : List ByteArray)
    (u : Upd w w' (fun k => k = eb ∨ (V c).sv.ownBlock = some k)) (hb : w'.heap[eb]? = some (.cells (endCells (put V c { V c with sv := v' })) 53 (0, 0))) (hf : Rw w' 9 1 v' l'.length (l'.map .string))
    (ho : ∀ k, v'.ownBlock = some k → (V c).sv.ownBlock = some k ∨ w.heap.size ≤ k) :
    Mid w0 w' eb o0 (newOwn own w.heap.size (7 + c.toNat)) (put V c { V c with sv := v' }) (put s c { s c with sent := l' }) :=
  ⟨h.at_.setSent c v' l' u hb hf ho, fun k hk => by rw [newOwn_lt (Nat.lt_of_lt_of_le hk h.size)]; exact h.old k hk, h.roles u (fun k e => by
    rcases e with rfl | e
    · rw [h.at_.oe]; omega
    · rw [h.at_.os c k e]; cases c <;> simp)⟩

theorem Mid.setIn {w0 w w' : World} {eb : Nat} {o0 own : Nat → Nat} {V : Bool → Vs} {s : Bool → Sd} (h : Mid w0 w eb o0 own V s) (c : Bool) (v' : Value) (l' : List ByteArray)
    (u : Upd w w' (fun k => k = eb ∨ (V c).iv.ownBlock = some k)) (hb : w'.heap[eb]? = some (.cells (endCells (put V c { V c with iv := v' })) 53 (0, 0))) (hf : Rw w' 9 1 v' l'.length (l'.map .string))
    (ho : ∀ k, v'.ownBlock = some k → (V c).iv.ownBlock = some k ∨ w.heap.size ≤ k) :
    Mid w0 w' eb o0 (newOwn own w.heap.size (9 + c.toNat)) (put V c { V c with iv := v' }) (put s c { s c with inn := l' }) :=
  ⟨h.at_.setIn c v' l' u hb hf ho, fun k hk => by rw [newOwn_lt (Nat.lt_of_lt_of_le hk h.size)]; exact h.old k hk, h.roles u (fun k e => by
    rcases e with rfl | e
    · rw [h.at_.oe]; omega
    · rw [h.at_.oi c k e]; cases c <;> simp)⟩

def dropAt (l : List Fr) (i : Nat) : List Fr := l.take i ++ l.drop (i + 1)
/-- A frame has come to side c. -/
def takeS (s : Bool → Sd) (c : Bool) (i : Nat) (stays : Bool) (y : Fr) : Bool → Sd :=
  let s1 := if stays then s else put s c { s c with way := dropAt (s c).way i }
  let s2 := put s1 c { s1 c with fl := (s1 c).fl.fed y }
  let s3 := put s2 c { s2 c with inn := (s2 c).inn ++ (s1 c).fl.outs y }
  put s3 (!c) { s3 (!c) with way := (s3 (!c)).way ++ (s1 c).fl.backs y }

theorem frCells_take (l : List Fr) (i : Nat) : (frCells l).take (i * 3) = frCells (l.take i) := by
  induction l generalizing i with
  | nil => simp [frCells]
  | cons x l ih =>
    cases i with
    | zero => simp [frCells]
    | succ i =>
      have e : (i + 1) * 3 = i * 3 + 3 := by omega
      have := ih i
      simp [frCells, Fr.cells, e] at *
      exact this
theorem frCells_drop (l : List Fr) (i : Nat) : (frCells l).drop (i * 3) = frCells (l.drop i) := by
  induction l generalizing i with
  | nil => simp [frCells]
  | cons x l ih =>
    cases i with
    | zero => simp [frCells]
    | succ i =>
      have e : (i + 1) * 3 = i * 3 + 3 := by omega
      have := ih i
      simp [frCells, Fr.cells, e] at *
      exact this
theorem frCells_one (l : List Fr) : ∀ x ∈ frCells l, x.oneCell' = true := by
  intro x hx
  simp [frCells, Fr.cells] at hx
  obtain ⟨a, _, e | e | e⟩ := hx <;> subst e <;> rfl

/-- The frame's copy lies in block yb. -/
def TakeMid (w0 wx : World) (eb yb : Nat) (o0 : Nat → Nat) (y : Fr) (s : Bool → Sd) : Prop :=
  ∃ own V, Mid w0 wx eb o0 own V s ∧ wx.heap[yb]? = some (.cells #[.bool y.ack, .int .i64 y.seq, .string y.body] 41 (0, 0)) ∧ own yb = 99

theorem TakeMid.setWay {w0 w w' : World} {eb yb : Nat} {o0 own : Nat → Nat} {y : Fr} {V : Bool → Vs} {s : Bool → Sd} (h : Mid w0 w eb o0 own V s) (hY : w.heap[yb]? = some (.cells #[.bool y.ack, .int .i64 y.seq, .string y.body] 41 (0, 0))) (hyb : own yb = 99) (c : Bool) (v' : Value) (l' : List Fr)
    (u : Upd w w' (fun k => k = eb ∨ (V c).wv.ownBlock = some k)) (hb : w'.heap[eb]? = some (.cells (endCells (put V c { V c with wv := v' })) 53 (0, 0))) (hf : FrsAt w' v' l')
    (ho : ∀ k, v'.ownBlock = some k → (V c).wv.ownBlock = some k ∨ w.heap.size ≤ k) : TakeMid w0 w' eb yb o0 y (put s c { s c with way := l' }) :=
  ⟨_, _, h.setWay c v' l' u hb hf ho, u.get hY (fun e => by
    rcases e with rfl | e
    · rw [h.at_.oe] at hyb; omega
    · rw [h.at_.ow c yb e] at hyb; cases c <;> simp at hyb), by rw [newOwn_lt (lt_at hY)]; exact hyb⟩

theorem TakeMid.setIn {w0 w w' : World} {eb yb : Nat} {o0 own : Nat → Nat} {y : Fr} {V : Bool → Vs} {s : Bool → Sd} (h : Mid w0 w eb o0 own V s) (hY : w.heap[yb]? = some (.cells #[.bool y.ack, .int .i64 y.seq, .string y.body] 41 (0, 0))) (hyb : own yb = 99) (c : Bool) (v' : Value) (l' : List ByteArray)
    (u : Upd w w' (fun k => k = eb ∨ (V c).iv.ownBlock = some k)) (hb : w'.heap[eb]? = some (.cells (endCells (put V c { V c with iv := v' })) 53 (0, 0))) (hf : Rw w' 9 1 v' l'.length (l'.map .string))
    (ho : ∀ k, v'.ownBlock = some k → (V c).iv.ownBlock = some k ∨ w.heap.size ≤ k) : TakeMid w0 w' eb yb o0 y (put s c { s c with inn := l' }) :=
  ⟨_, _, h.setIn c v' l' u hb hf ho, u.get hY (fun e => by
    rcases e with rfl | e
    · rw [h.at_.oe] at hyb; omega
    · rw [h.at_.oi c yb e] at hyb; cases c <;> simp at hyb), by rw [newOwn_lt (lt_at hY)]; exact hyb⟩

theorem TakeMid.setFl {w0 w w' : World} {eb yb : Nat} {o0 own : Nat → Nat} {y : Fr} {V : Bool → Vs} {s : Bool → Sd} (h : Mid w0 w eb o0 own V s) (hY : w.heap[yb]? = some (.cells #[.bool y.ack, .int .i64 y.seq, .string y.body] 41 (0, 0))) (hyb : own yb = 99) (c : Bool) (t' : Value) (f' : Fl)
    (u : Upd w w' (fun k => k = (V c).b ∨ (V c).t.ownBlock = some k)) (hf : FlAt w' (V c).b t' f') (ho : ∀ k, t'.ownBlock = some k → (V c).t.ownBlock = some k ∨ w.heap.size ≤ k) : TakeMid w0 w' eb yb o0 y (put s c { s c with fl := f' }) :=
  ⟨_, _, h.setFl c t' f' u hf ho, u.get hY (fun e => by
    rcases e with rfl | e
    · rw [h.at_.ob c] at hyb; cases c <;> simp at hyb
    · rw [h.at_.ot c yb e] at hyb; cases c <;> simp at hyb), by rw [newOwn_lt (lt_at hY)]; exact hyb⟩

set_option maxHeartbeats 3200000 in
theorem take_f (w0 w : World) (eb : Nat) (o0 own : Nat → Nat) (V : Bool → Vs) (s : Bool → Sd) (i : Nat) (stays : Bool) (y : Fr) (hM : Mid w0 w eb o0 own V s) (ok : (s false).fl.Ok) (hy : (s false).way[i]? = some y)
    (l1 : (s false).way.length ≤ 100000) (l2 : (s true).way.length ≤ 100000) (l3 : (s false).inn.length ≤ 100000) :
    Calls Try.prog 17 #[.pointer (some ⟨eb, 0, none⟩), .int .i64 0, .int .i64 i, .bool stays] w fun e w' => e = .returned (.tuple #[]) ∧ ∃ own' V', Mid w0 w' eb o0 own' V' (takeS s false i stays y) := by
  have hi : i < (s false).way.length := (List.getElem?_eq_some_iff.1 hy).1
  obtain ⟨i0, hi0, hz0, hz1, hz2⟩ := info_parts Try.info41
  obtain ⟨j0, hj0, jz0, jz1, jz2⟩ := info_parts Try.info9
  obtain ⟨c0, c1, c2, c3, c4, c5, c6, c7⟩ := hM.at_.cells
  have hwy := hM.at_.wy false
  obtain ⟨sa, sc, hve, -⟩ := Rw.form hwy
  have hwy' : FrsAt w (.slice sa (s false).way.length sc) (s false).way := hve ▸ hwy
  obtain ⟨g, off, rfl, hg, y0, y1, y2⟩ := hwy'.at i y hy
  rw [hve] at c2
  have hi1 : (i : Int) < ((s false).way.length : Int) := by omega
  obtain ⟨N, hN⟩ : ∃ N, (s false).way.length = N := ⟨_, rfl⟩
  rw [hN] at c2 hi1 hi
  go_enter Try.func17, Try.ntmps17
  go_upto_if 21 with fail
  -- the copy of the frame lies in a block of its own
  have hyb : newOwn own w.heap.size 99 w.heap.size = 99 := by simp [newOwn]
  have M1 := (hM.reown 99).upd' ((Upd.refl w (fun _ => False)).alloc (.cells #[.bool y.ack, .int .i64 y.seq, .string y.body] 41))
  have hY := heap_alloc_new w (.cells #[.bool y.ack, .int .i64 y.seq, .string y.body] 41)
  clear c0 c1 c2 c3 c4 c5 c6 c7 y0 y1 y2 hM hwy hwy' hg
  generalize (newOwn own w.heap.size 99) = own1 at hyb M1
  generalize (w.alloc (.cells #[.bool y.ack, .int .i64 y.seq, .string y.body] 41)) = wa at M1 hY ⊢
  generalize w.heap.size = yb at hyb hY ⊢
  go_cut [] (fun wx => TakeMid w0 wx eb yb o0 y (if stays then s else put s false { s false with way := dropAt (s false).way i }))
  case first =>
    cases stays with
    | true =>
      go_wp2_with fail
      go_meet
      exact ⟨_, _, M1, hY, hyb⟩
    | false =>
      obtain ⟨c0, c1, c2, c3, c4, c5, c6, c7⟩ := M1.at_.cells
      have f2 := free_at M1.at_.blk 2
      have hwy := M1.at_.wy false
      rw [FrsAt, hN] at hwy
      obtain ⟨a1, p1, hr1, hw1, ho1⟩ := hwy.slice_to (P := Try.prog) 38 i0 Try.underlying38 hi0 hz1 i (by omega)
      obtain ⟨a2, p2, hr2, hw2, ho2⟩ := hwy.slice_from (P := Try.prog) 38 i0 Try.underlying38 hi0 hz1 (i + 1) (by omega)
      have ei : ((i + 1 : Nat) : Int) = (i : Int) + 1 := by omega
      rw [ei] at hr2
      clear ei
      have heb := lt_at M1.at_.blk
      have hnw : ∀ k, (V false).wv.ownBlock = some k → k < wa.heap.size := hwy.lt
      clear hve
      have HB := hide M1.at_.blk
      have hN5 : N ≤ 100000 := by omega
      have m1 : ∀ x ∈ (frCells (s false).way).take (i * 3), x.oneCell' = true := fun x hx => frCells_one _ x (List.mem_of_mem_take hx)
      have m2 : ∀ x ∈ (frCells (s false).way).drop ((i + 1) * 3), x.oneCell' = true := fun x hx => frCells_one _ x (List.mem_of_mem_drop hx)
      have wz : IntKind.i64.wrap ((i : Int) + 1) = (i : Int) + 1 := IntWalk.i64_in _ (by omega)
      go_wp2_with fail
      go_region_law (first
          | (refine step_append_rw _ (o := ⟨some 32, _, _, _, _, _⟩) (by rfl) _ _ 38 38 (by rfl) 41 _ i0 _ 3 32 Try.underlying38 Try.underlying38 (by simp) hi0 hz0 hz1 hz2 rfl _ 0 [] (by rfl) (Rw.nil _ _ _) _ i _ (by rfl) (hw1.drew).src (hw1.drew).1 m1 (by omega) (by omega) ?_; intro g1 q1 wA hA1 hgA hoA; simp only [Nat.zero_add, List.nil_append] at hA1 hoA; have nA : (Value.slice g1 i q1).ownBlock ≠ some eb := (by rcases hoA with e | e <;> rw [e] <;> simp [Value.ownBlock]; omega); have cA := (hgA.cell_far ⟨eb, 2, none⟩ (by simpa using heb) (by simp [Value.ownBlock])).trans c2)
          | (refine step_append_rw _ (o := ⟨some 42, _, _, _, _, _⟩) (by rfl) _ _ 38 38 (by rfl) 41 _ i0 _ 3 32 Try.underlying38 Try.underlying38 (by simp) hi0 hz0 hz1 hz2 rfl _ _ _ (by rfl) hA1 _ (N - (i + 1)) _ (by rfl) ((hw2.drew).grown hgA (Classical.em _)).src (hw2.drew).1 m2 (by omega) (by omega) ?_; intro g2 q2 wB hB1 hgB hoB; have bB := block_grown hgB (block_grown hgA HB.out (by simp [Value.ownBlock])) nA; have cB := cell_at bB 2 _ rfl; have fB := free_at bB 2; have HBB := hide bB; clear bB))
      all_goals
        go_wp2_with fail
        go_meet
        have nB : (Value.slice g2 (i + (N - (i + 1))) q2).ownBlock ≠ some eb := by
          rcases hoB with e | e <;> rw [e]
          · exact nA
          · have := hgA.size; simp at this; simp; omega
        have hln : (dropAt (s false).way i).length = i + (N - (i + 1)) := by simp [dropAt, hN]; omega
        refine TakeMid.setWay M1 hY hyb false (.slice g2 (i + (N - (i + 1))) q2) (dropAt (s false).way i) ?_ (block_setCell HBB.out 2 _) ?_ ?_
        · refine ((((Upd.refl wa (fun k => k = eb ∨ (V false).wv.ownBlock = some k)).drew).grown hgA (fun k hk => by simp [Value.ownBlock] at hk)).grown hgB (fun k hk => ?_)).setCell ⟨eb, 2, none⟩ _ (.inr (.inl rfl))
          rcases hoA with e | e <;> rw [e] at hk <;> simp [Value.ownBlock] at hk
          omega
        · have := hB1.setCell ⟨eb, 2, none⟩ (.slice g2 (i + (N - (i + 1))) q2) nB
          rw [FrsAt, hln, dropAt, frCells_app, ← frCells_take, ← frCells_drop]
          exact this
        · intro k hk
          rcases hoB with e | e
          · rw [e] at hk
            rcases hoA with e' | e' <;> rw [e'] at hk <;> simp [Value.ownBlock] at hk
            exact .inr (by omega)
          · rw [e] at hk; simp at hk; have := hgA.size; simp at this; exact .inr (by omega)
  case rest =>
    generalize hs1 : (if stays then s else put s false { s false with way := dropAt (s false).way i }) = s1 at hcut
    have q1 : (s1 false).fl = (s false).fl := by rw [← hs1]; cases stays <;> simp [put]
    have q2 : (s1 false).inn = (s false).inn := by rw [← hs1]; cases stays <;> simp [put]
    have q3 : (s1 true).way = (s true).way := by rw [← hs1]; cases stays <;> simp [put]
    have hgoal : takeS s false i stays y = put (put (put s1 false { s1 false with fl := (s1 false).fl.fed y }) false { put s1 false { s1 false with fl := (s1 false).fl.fed y } false with inn := (put s1 false { s1 false with fl := (s1 false).fl.fed y } false).inn ++ (s1 false).fl.outs y }) true
        { put (put s1 false { s1 false with fl := (s1 false).fl.fed y }) false { put s1 false { s1 false with fl := (s1 false).fl.fed y } false with inn := (put s1 false { s1 false with fl := (s1 false).fl.fed y } false).inn ++ (s1 false).fl.outs y } true with way := (put (put s1 false { s1 false with fl := (s1 false).fl.fed y }) false { put s1 false { s1 false with fl := (s1 false).fl.fed y } false with inn := (put s1 false { s1 false with fl := (s1 false).fl.fed y } false).inn ++ (s1 false).fl.outs y } true).way ++ (s1 false).fl.backs y } := by rw [← hs1]; rfl
    have HG := hide hgoal
    clear hgoal hs1 hve hN hi hi1 hy M1 hY hyb
    rw [← q1] at ok
    rw [← q2] at l3
    rw [← q3] at l2
    clear q1 q2 q3
    obtain ⟨own2, V2, M2, hY2, hyb2⟩ := hcut
    obtain ⟨c0, c1, c2, c3, c4, c5, c6, c7⟩ := M2.at_.cells
    obtain ⟨y0, y1, y2⟩ := cells3 hY2
    have hF := M2.at_.fl false
    have heb := lt_at M2.at_.blk
    have hb := lt_at hF.1
    have hyl := lt_at hY2
    have neb : eb ≠ (V2 false).b := fun e => by have h1 := M2.at_.ob false; rw [← e, M2.at_.oe] at h1; simp at h1
    have nyb : yb ≠ (V2 false).b := fun e => by have h1 := M2.at_.ob false; rw [← e, hyb2] at h1; simp at h1
    go_wp2_with fail
    go_region_held3 (fun w' => w'.cell? ⟨eb, 0, none⟩ = some (.pointer (some ⟨(V2 false).b, 0, none⟩)) ∧ w'.cell? ⟨yb, 0, none⟩ = some (.bool y.ack) ∧ w'.cell? ⟨yb, 1, none⟩ = some (.int .i64 y.seq) ∧ w'.cell? ⟨yb, 2, none⟩ = some (.string y.body))
      (first | go_keep | exact ⟨(hu3.cell _ _ heb neb).trans c0, (hu3.cell _ _ hyl nyb).trans y0, (hu3.cell _ _ hyl nyb).trans y1, (hu3.cell _ _ hyl nyb).trans y2⟩)
      ((go_at_call 14; refine Calls.mono (Take_all wc.drew (V2 false).b (V2 false).t (s1 false).fl y hF ok) ?_; rintro e w3 ⟨v1, v2, t3, rfl, r1, r2, hF3, hu3, f1, f2, f12, ho3⟩))
    have M3 := M2.setFl false t3 ((s1 false).fl.fed y) (((Upd.refl wc _).drew).then (hu3.weaken (T := fun k => k = (V2 false).b ∨ (V2 false).t.ownBlock = some k) (fun _ _ e => .inl e)) (fun _ _ e => e)) hF3 (fun k hk => .inl (by rw [← ho3]; exact hk))
    have z3 : wc.heap.size ≤ w3.heap.size := hu3.size
    have hebc : eb < wc.heap.size := heb
    have hiv := M2.at_.inn false
    have hwd := M2.at_.wy true
    have kiv : ∀ k, (V2 false).iv.ownBlock = some k → k < wc.heap.size := hiv.lt
    have kwd : ∀ k, (V2 true).wv.ownBlock = some k → k < wc.heap.size := hwd.lt
    -- what came is kept
    obtain ⟨V3, hV3⟩ : ∃ x, x = put V2 false { V2 false with t := t3 } := ⟨_, rfl⟩
    obtain ⟨s2, hs2⟩ : ∃ x, x = put s1 false { s1 false with fl := (s1 false).fl.fed y } := ⟨_, rfl⟩
    rw [← hV3, ← hs2] at M3
    have e1 : (V3 false).iv = (V2 false).iv := by rw [hV3]; simp [put]
    have e2 : (V3 true).wv = (V2 true).wv := by rw [hV3]; simp [put]
    have e3 : (s2 false).inn = (s1 false).inn := by rw [hs2]; simp [put]
    have e4 : (s2 true).way = (s1 true).way := by rw [hs2]; simp [put]
    rw [← e1] at kiv
    rw [← e2] at kwd
    rw [← e3] at l3
    rw [← e4] at l2
    have HS2 := hide hs2
    clear e1 e2 e3 e4 hV3 hs2 hiv hwd c0 c1 c2 c3 c4 c5 c6 c7 y0 y1 y2 hF hF3 hu3 M2 hY2 neb nyb hyl hb heb hyb2 ho3
    generalize (newOwn own2 wc.heap.size (3 + Bool.toNat false)) = own3 at M3
    have heb := lt_at M3.at_.blk
    obtain ⟨c0, c1, c2, c3, c4, c5, c6, c7⟩ := M3.at_.cells
    have hiv := M3.at_.inn false
    have niv : (V3 false).iv.ownBlock ≠ some eb := fun e => by have h1 := M3.at_.oi false _ e; rw [M3.at_.oe] at h1; simp at h1
    have hol : ((s1 false).fl.outs y).length ≤ 1 := by unfold Fl.outs Fl.got; split <;> (try split) <;> simp
    have hbl : ((s1 false).fl.backs y).length ≤ 1 := by unfold Fl.backs; split <;> simp
    have HB3 := hide M3.at_.blk
    have one1 : ∀ x ∈ ((s1 false).fl.outs y).map Value.string, x.oneCell' = true := by simp [Value.oneCell']
    go_wp2_with fail
    go_region_law ((refine step_append_rw _ (by rfl) _ _ 42 42 (by rfl) 9 _ j0 _ 1 16 Try.underlying42 Try.underlying42 (by simp) hj0 jz0 jz1 jz2 rfl _ _ _ (by rfl) hiv.drew _ _ _ (by rfl) r1.drew.src r1.drew.1 one1 (by omega) (by omega) ?_; intro ga gc w4 hA hg ho; have hb4 := block_grown hg HB3.out niv; have g4 := cell_at hb4 6 _ rfl; have gf := free_at hb4 6; have HB4 := hide hb4; clear hb4))
    go_wp2_with fail
    have nv : (Value.slice ga ((s2 false).inn.length + ((s1 false).fl.outs y).length) gc).ownBlock ≠ some eb := by
      rcases ho with e | e <;> rw [e]
      · exact niv
      · simp; omega
    have u4 := (((Upd.refl w3 (fun k => k = eb ∨ (V3 false).iv.ownBlock = some k)).drew).grown hg (fun k hk => .inr (.inr hk))).setCell ⟨eb, 6, none⟩ (.slice ga ((s2 false).inn.length + ((s1 false).fl.outs y).length) gc) (.inr (.inl rfl))
    have M4 := M3.setIn false (.slice ga ((s2 false).inn.length + ((s1 false).fl.outs y).length) gc) ((s2 false).inn ++ (s1 false).fl.outs y) u4 (block_setCell HB4.out 6 _)
      (by have := hA.setCell ⟨eb, 6, none⟩ (.slice ga ((s2 false).inn.length + ((s1 false).fl.outs y).length) gc) nv; simpa using this)
      (fun k hk => by
        rcases ho with e | e
        · rw [e] at hk; exact .inl hk
        · rw [e] at hk; simp at hk; exact .inr (by omega))
    have r2' := u4.rw r2 (fun k hk e => by
      have h1 := f2 k hk
      simp at h1
      rcases e with e | e
      · omega
      · have := kiv k e; omega)
    -- what is sent back is on its way
    obtain ⟨s3, hs3⟩ : ∃ x, x = put s2 false { s2 false with inn := (s2 false).inn ++ (s1 false).fl.outs y } := ⟨_, rfl⟩
    obtain ⟨V4, hV4⟩ : ∃ x, x = put V3 false { V3 false with iv := .slice ga ((s2 false).inn.length + ((s1 false).fl.outs y).length) gc } := ⟨_, rfl⟩
    rw [← hs3, ← hV4] at M4
    have e2 : (V4 true).wv = (V3 true).wv := by rw [hV4]; simp [put]
    have e4 : (s3 true).way = (s2 true).way := by rw [hs3]; simp [put]
    rw [← e2] at kwd
    rw [← e4] at l2
    have HS3 := hide hs3
    have z4 := u4.size
    clear e2 e4 hV4 hs3 c0 c1 c2 c3 c4 c5 c6 c7 M3 HB3 HB4 hiv r1 r2 niv nv hg hA ho u4 g4 gf heb kiv one1 f1 f12
    generalize (newOwn own3 w3.heap.size (9 + Bool.toNat false)) = own4 at M4
    go_upto_region 5 with fail
    generalize (w4.setCell ⟨eb, 6, none⟩ (.slice ga ((s2 false).inn.length + ((s1 false).fl.outs y).length) gc)) = w5 at M4 r2' z4 ⊢
    have heb := lt_at M4.at_.blk
    obtain ⟨c0, c1, c2, c3, c4, c5, c6, c7⟩ := M4.at_.cells
    have hwd := M4.at_.wy true
    have nwd : (V4 true).wv.ownBlock ≠ some eb := fun e => by have h1 := M4.at_.ow true _ e; rw [M4.at_.oe] at h1; simp at h1
    have HB5 := hide M4.at_.blk
    have one2 := frCells_one ((s1 false).fl.backs y)
    have wa : IntKind.i64.wrap 1 = 1 := IntWalk.i64_in _ (by omega)
    have wb : IntKind.i64.wrap 0 = 0 := IntWalk.i64_in _ (by omega)
    go_region_law ((refine step_append_rw _ (by rfl) _ _ 38 38 (by rfl) 41 _ i0 _ 3 32 Try.underlying38 Try.underlying38 (by simp) hi0 hz0 hz1 hz2 rfl _ _ _ (by rfl) hwd.drew _ _ _ (by rfl) r2'.drew.src r2'.drew.1 one2 (by omega) (by omega) ?_; intro ga gc w6 hA hg ho; have hb6 := block_grown hg HB5.out nwd; have g6 := cell_at hb6 3 _ rfl; have gf := free_at hb6 3; have HB6 := hide hb6; clear hb6))
    go_wp2_with fail
    go_end0
    have nv : (Value.slice ga ((s3 true).way.length + ((s1 false).fl.backs y).length) gc).ownBlock ≠ some eb := by
      rcases ho with e | e <;> rw [e]
      · exact nwd
      · simp; omega
    have u6 := (((Upd.refl w5 (fun k => k = eb ∨ (V4 true).wv.ownBlock = some k)).drew).grown hg (fun k hk => .inr (.inr hk))).setCell ⟨eb, 3, none⟩ (.slice ga ((s3 true).way.length + ((s1 false).fl.backs y).length) gc) (.inr (.inl rfl))
    have M6 := M4.setWay true (.slice ga ((s3 true).way.length + ((s1 false).fl.backs y).length) gc) ((s3 true).way ++ (s1 false).fl.backs y) u6 (block_setCell HB6.out 3 _)
      (by have := hA.setCell ⟨eb, 3, none⟩ (.slice ga ((s3 true).way.length + ((s1 false).fl.backs y).length) gc) nv; simpa [FrsAt, frCells_app] using this)
      (fun k hk => by
        rcases ho with e | e
        · rw [e] at hk; exact .inl hk
        · rw [e] at hk; simp at hk; exact .inr (by omega))
    rw [HG.out, ← HS2.out, ← HS3.out]
    exact ⟨rfl, _, _, M6⟩

set_option maxHeartbeats 3200000 in
theorem take_t (w0 w : World) (eb : Nat) (o0 own : Nat → Nat) (V : Bool → Vs) (s : Bool → Sd) (i : Nat) (stays : Bool) (y : Fr) (hM : Mid w0 w eb o0 own V s) (ok : (s true).fl.Ok) (hy : (s true).way[i]? = some y)
    (l1 : (s true).way.length ≤ 100000) (l2 : (s false).way.length ≤ 100000) (l3 : (s true).inn.length ≤ 100000) :
    Calls Try.prog 17 #[.pointer (some ⟨eb, 0, none⟩), .int .i64 1, .int .i64 i, .bool stays] w fun e w' => e = .returned (.tuple #[]) ∧ ∃ own' V', Mid w0 w' eb o0 own' V' (takeS s true i stays y) := by
  have hi : i < (s true).way.length := (List.getElem?_eq_some_iff.1 hy).1
  obtain ⟨i0, hi0, hz0, hz1, hz2⟩ := info_parts Try.info41
  obtain ⟨j0, hj0, jz0, jz1, jz2⟩ := info_parts Try.info9
  obtain ⟨c0, c1, c2, c3, c4, c5, c6, c7⟩ := hM.at_.cells
  have hwy := hM.at_.wy true
  obtain ⟨sa, sc, hve, -⟩ := Rw.form hwy
  have hwy' : FrsAt w (.slice sa (s true).way.length sc) (s true).way := hve ▸ hwy
  obtain ⟨g, off, rfl, hg, y0, y1, y2⟩ := hwy'.at i y hy
  rw [hve] at c3
  have hi1 : (i : Int) < ((s true).way.length : Int) := by omega
  obtain ⟨N, hN⟩ : ∃ N, (s true).way.length = N := ⟨_, rfl⟩
  rw [hN] at c3 hi1 hi
  go_enter Try.func17, Try.ntmps17
  go_upto_if 21 with fail
  -- the copy of the frame lies in a block of its own
  have hyb : newOwn own w.heap.size 99 w.heap.size = 99 := by simp [newOwn]
  have M1 := (hM.reown 99).upd' ((Upd.refl w (fun _ => False)).alloc (.cells #[.bool y.ack, .int .i64 y.seq, .string y.body] 41))
  have hY := heap_alloc_new w (.cells #[.bool y.ack, .int .i64 y.seq, .string y.body] 41)
  clear c0 c1 c2 c3 c4 c5 c6 c7 y0 y1 y2 hM hwy hwy' hg
  generalize (newOwn own w.heap.size 99) = own1 at hyb M1
  generalize (w.alloc (.cells #[.bool y.ack, .int .i64 y.seq, .string y.body] 41)) = wa at M1 hY ⊢
  generalize w.heap.size = yb at hyb hY ⊢
  go_cut [] (fun wx => TakeMid w0 wx eb yb o0 y (if stays then s else put s true { s true with way := dropAt (s true).way i }))
  case first =>
    cases stays with
    | true =>
      go_wp2_with fail
      go_meet
      exact ⟨_, _, M1, hY, hyb⟩
    | false =>
      obtain ⟨c0, c1, c2, c3, c4, c5, c6, c7⟩ := M1.at_.cells
      have f3 := free_at M1.at_.blk 3
      have hwy := M1.at_.wy true
      rw [FrsAt, hN] at hwy
      obtain ⟨a1, p1, hr1, hw1, ho1⟩ := hwy.slice_to (P := Try.prog) 38 i0 Try.underlying38 hi0 hz1 i (by omega)
      obtain ⟨a2, p2, hr2, hw2, ho2⟩ := hwy.slice_from (P := Try.prog) 38 i0 Try.underlying38 hi0 hz1 (i + 1) (by omega)
      have ei : ((i + 1 : Nat) : Int) = (i : Int) + 1 := by omega
      rw [ei] at hr2
      clear ei
      have heb := lt_at M1.at_.blk
      have hnw : ∀ k, (V true).wv.ownBlock = some k → k < wa.heap.size := hwy.lt
      clear hve
      have HB := hide M1.at_.blk
      have hN5 : N ≤ 100000 := by omega
      have m1 : ∀ x ∈ (frCells (s true).way).take (i * 3), x.oneCell' = true := fun x hx => frCells_one _ x (List.mem_of_mem_take hx)
      have m2 : ∀ x ∈ (frCells (s true).way).drop ((i + 1) * 3), x.oneCell' = true := fun x hx => frCells_one _ x (List.mem_of_mem_drop hx)
      have wz : IntKind.i64.wrap ((i : Int) + 1) = (i : Int) + 1 := IntWalk.i64_in _ (by omega)
      go_wp2_with fail
      go_region_law (first
          | (refine step_append_rw _ (o := ⟨some 32, _, _, _, _, _⟩) (by rfl) _ _ 38 38 (by rfl) 41 _ i0 _ 3 32 Try.underlying38 Try.underlying38 (by simp) hi0 hz0 hz1 hz2 rfl _ 0 [] (by rfl) (Rw.nil _ _ _) _ i _ (by rfl) (hw1.drew).src (hw1.drew).1 m1 (by omega) (by omega) ?_; intro g1 q1 wA hA1 hgA hoA; simp only [Nat.zero_add, List.nil_append] at hA1 hoA; have nA : (Value.slice g1 i q1).ownBlock ≠ some eb := (by rcases hoA with e | e <;> rw [e] <;> simp [Value.ownBlock]; omega); have cA := (hgA.cell_far ⟨eb, 3, none⟩ (by simpa using heb) (by simp [Value.ownBlock])).trans c3)
          | (refine step_append_rw _ (o := ⟨some 42, _, _, _, _, _⟩) (by rfl) _ _ 38 38 (by rfl) 41 _ i0 _ 3 32 Try.underlying38 Try.underlying38 (by simp) hi0 hz0 hz1 hz2 rfl _ _ _ (by rfl) hA1 _ (N - (i + 1)) _ (by rfl) ((hw2.drew).grown hgA (Classical.em _)).src (hw2.drew).1 m2 (by omega) (by omega) ?_; intro g2 q2 wB hB1 hgB hoB; have bB := block_grown hgB (block_grown hgA HB.out (by simp [Value.ownBlock])) nA; have cB := cell_at bB 3 _ rfl; have fB := free_at bB 3; have HBB := hide bB; clear bB))
      all_goals
        go_wp2_with fail
        go_meet
        have nB : (Value.slice g2 (i + (N - (i + 1))) q2).ownBlock ≠ some eb := by
          rcases hoB with e | e <;> rw [e]
          · exact nA
          · have := hgA.size; simp at this; simp; omega
        have hln : (dropAt (s true).way i).length = i + (N - (i + 1)) := by simp [dropAt, hN]; omega
        refine TakeMid.setWay M1 hY hyb true (.slice g2 (i + (N - (i + 1))) q2) (dropAt (s true).way i) ?_ (block_setCell HBB.out 3 _) ?_ ?_
        · refine ((((Upd.refl wa (fun k => k = eb ∨ (V true).wv.ownBlock = some k)).drew).grown hgA (fun k hk => by simp [Value.ownBlock] at hk)).grown hgB (fun k hk => ?_)).setCell ⟨eb, 3, none⟩ _ (.inr (.inl rfl))
          rcases hoA with e | e <;> rw [e] at hk <;> simp [Value.ownBlock] at hk
          omega
        · have := hB1.setCell ⟨eb, 3, none⟩ (.slice g2 (i + (N - (i + 1))) q2) nB
          rw [FrsAt, hln, dropAt, frCells_app, ← frCells_take, ← frCells_drop]
          exact this
        · intro k hk
          rcases hoB with e | e
          · rw [e] at hk
            rcases hoA with e' | e' <;> rw [e'] at hk <;> simp [Value.ownBlock] at hk
            exact .inr (by omega)
          · rw [e] at hk; simp at hk; have := hgA.size; simp at this; exact .inr (by omega)
  case rest =>
    generalize hs1 : (if stays then s else put s true { s true with way := dropAt (s true).way i }) = s1 at hcut
    have q1 : (s1 true).fl = (s true).fl := by rw [← hs1]; cases stays <;> simp [put]
    have q2 : (s1 true).inn = (s true).inn := by rw [← hs1]; cases stays <;> simp [put]
    have q3 : (s1 false).way = (s false).way := by rw [← hs1]; cases stays <;> simp [put]
    have hgoal : takeS s true i stays y = put (put (put s1 true { s1 true with fl := (s1 true).fl.fed y }) true { put s1 true { s1 true with fl := (s1 true).fl.fed y } true with inn := (put s1 true { s1 true with fl := (s1 true).fl.fed y } true).inn ++ (s1 true).fl.outs y }) false
        { put (put s1 true { s1 true with fl := (s1 true).fl.fed y }) true { put s1 true { s1 true with fl := (s1 true).fl.fed y } true with inn := (put s1 true { s1 true with fl := (s1 true).fl.fed y } true).inn ++ (s1 true).fl.outs y } false with way := (put (put s1 true { s1 true with fl := (s1 true).fl.fed y }) true { put s1 true { s1 true with fl := (s1 true).fl.fed y } true with inn := (put s1 true { s1 true with fl := (s1 true).fl.fed y } true).inn ++ (s1 true).fl.outs y } false).way ++ (s1 true).fl.backs y } := by rw [← hs1]; rfl
    have HG := hide hgoal
    clear hgoal hs1 hve hN hi hi1 hy M1 hY hyb
    rw [← q1] at ok
    rw [← q2] at l3
    rw [← q3] at l2
    clear q1 q2 q3
    obtain ⟨own2, V2, M2, hY2, hyb2⟩ := hcut
    obtain ⟨c0, c1, c2, c3, c4, c5, c6, c7⟩ := M2.at_.cells
    obtain ⟨y0, y1, y2⟩ := cells3 hY2
    have hF := M2.at_.fl true
    have heb := lt_at M2.at_.blk
    have hb := lt_at hF.1
    have hyl := lt_at hY2
    have neb : eb ≠ (V2 true).b := fun e => by have h1 := M2.at_.ob true; rw [← e, M2.at_.oe] at h1; simp at h1
    have nyb : yb ≠ (V2 true).b := fun e => by have h1 := M2.at_.ob true; rw [← e, hyb2] at h1; simp at h1
    go_wp2_with fail
    go_region_held3 (fun w' => w'.cell? ⟨eb, 1, none⟩ = some (.pointer (some ⟨(V2 true).b, 0, none⟩)) ∧ w'.cell? ⟨yb, 0, none⟩ = some (.bool y.ack) ∧ w'.cell? ⟨yb, 1, none⟩ = some (.int .i64 y.seq) ∧ w'.cell? ⟨yb, 2, none⟩ = some (.string y.body))
      (first | go_keep | exact ⟨(hu3.cell _ _ heb neb).trans c1, (hu3.cell _ _ hyl nyb).trans y0, (hu3.cell _ _ hyl nyb).trans y1, (hu3.cell _ _ hyl nyb).trans y2⟩)
      ((go_at_call 14; refine Calls.mono (Take_all wc.drew (V2 true).b (V2 true).t (s1 true).fl y hF ok) ?_; rintro e w3 ⟨v1, v2, t3, rfl, r1, r2, hF3, hu3, f1, f2, f12, ho3⟩))
    have M3 := M2.setFl true t3 ((s1 true).fl.fed y) (((Upd.refl wc _).drew).then (hu3.weaken (T := fun k => k = (V2 true).b ∨ (V2 true).t.ownBlock = some k) (fun _ _ e => .inl e)) (fun _ _ e => e)) hF3 (fun k hk => .inl (by rw [← ho3]; exact hk))
    have z3 : wc.heap.size ≤ w3.heap.size := hu3.size
    have hebc : eb < wc.heap.size := heb
    have hiv := M2.at_.inn true
    have hwd := M2.at_.wy false
    have kiv : ∀ k, (V2 true).iv.ownBlock = some k → k < wc.heap.size := hiv.lt
    have kwd : ∀ k, (V2 false).wv.ownBlock = some k → k < wc.heap.size := hwd.lt
    -- what came is kept
    obtain ⟨V3, hV3⟩ : ∃ x, x = put V2 true { V2 true with t := t3 } := ⟨_, rfl⟩
    obtain ⟨s2, hs2⟩ : ∃ x, x = put s1 true { s1 true with fl := (s1 true).fl.fed y } := ⟨_, rfl⟩
    rw [← hV3, ← hs2] at M3
    have e1 : (V3 true).iv = (V2 true).iv := by rw [hV3]; simp [put]
    have e2 : (V3 false).wv = (V2 false).wv := by rw [hV3]; simp [put]
    have e3 : (s2 true).inn = (s1 true).inn := by rw [hs2]; simp [put]
    have e4 : (s2 false).way = (s1 false).way := by rw [hs2]; simp [put]
    rw [← e1] at kiv
    rw [← e2] at kwd
    rw [← e3] at l3
    rw [← e4] at l2
    have HS2 := hide hs2
    clear e1 e2 e3 e4 hV3 hs2 hiv hwd c0 c1 c2 c3 c4 c5 c6 c7 y0 y1 y2 hF hF3 hu3 M2 hY2 neb nyb hyl hb heb hyb2 ho3
    generalize (newOwn own2 wc.heap.size (3 + Bool.toNat true)) = own3 at M3
    have heb := lt_at M3.at_.blk
    obtain ⟨c0, c1, c2, c3, c4, c5, c6, c7⟩ := M3.at_.cells
    have hiv := M3.at_.inn true
    have niv : (V3 true).iv.ownBlock ≠ some eb := fun e => by have h1 := M3.at_.oi true _ e; rw [M3.at_.oe] at h1; simp at h1
    have hol : ((s1 true).fl.outs y).length ≤ 1 := by unfold Fl.outs Fl.got; split <;> (try split) <;> simp
    have hbl : ((s1 true).fl.backs y).length ≤ 1 := by unfold Fl.backs; split <;> simp
    have HB3 := hide M3.at_.blk
    have one1 : ∀ x ∈ ((s1 true).fl.outs y).map Value.string, x.oneCell' = true := by simp [Value.oneCell']
    go_wp2_with fail
    go_region_law ((refine step_append_rw _ (by rfl) _ _ 42 42 (by rfl) 9 _ j0 _ 1 16 Try.underlying42 Try.underlying42 (by simp) hj0 jz0 jz1 jz2 rfl _ _ _ (by rfl) hiv.drew _ _ _ (by rfl) r1.drew.src r1.drew.1 one1 (by omega) (by omega) ?_; intro ga gc w4 hA hg ho; have hb4 := block_grown hg HB3.out niv; have g4 := cell_at hb4 7 _ rfl; have gf := free_at hb4 7; have HB4 := hide hb4; clear hb4))
    go_wp2_with fail
    have nv : (Value.slice ga ((s2 true).inn.length + ((s1 true).fl.outs y).length) gc).ownBlock ≠ some eb := by
      rcases ho with e | e <;> rw [e]
      · exact niv
      · simp; omega
    have u4 := (((Upd.refl w3 (fun k => k = eb ∨ (V3 true).iv.ownBlock = some k)).drew).grown hg (fun k hk => .inr (.inr hk))).setCell ⟨eb, 7, none⟩ (.slice ga ((s2 true).inn.length + ((s1 true).fl.outs y).length) gc) (.inr (.inl rfl))
    have M4 := M3.setIn true (.slice ga ((s2 true).inn.length + ((s1 true).fl.outs y).length) gc) ((s2 true).inn ++ (s1 true).fl.outs y) u4 (block_setCell HB4.out 7 _)
      (by have := hA.setCell ⟨eb, 7, none⟩ (.slice ga ((s2 true).inn.length + ((s1 true).fl.outs y).length) gc) nv; simpa using this)
      (fun k hk => by
        rcases ho with e | e
        · rw [e] at hk; exact .inl hk
        · rw [e] at hk; simp at hk; exact .inr (by omega))
    have r2' := u4.rw r2 (fun k hk e => by
      have h1 := f2 k hk
      simp at h1
      rcases e with e | e
      · omega
      · have := kiv k e; omega)
    -- what is sent back is on its way
    obtain ⟨s3, hs3⟩ : ∃ x, x = put s2 true { s2 true with inn := (s2 true).inn ++ (s1 true).fl.outs y } := ⟨_, rfl⟩
    obtain ⟨V4, hV4⟩ : ∃ x, x = put V3 true { V3 true with iv := .slice ga ((s2 true).inn.length + ((s1 true).fl.outs y).length) gc } := ⟨_, rfl⟩
    rw [← hs3, ← hV4] at M4
    have e2 : (V4 false).wv = (V3 false).wv := by rw [hV4]; simp [put]
    have e4 : (s3 false).way = (s2 false).way := by rw [hs3]; simp [put]
    rw [← e2] at kwd
    rw [← e4] at l2
    have HS3 := hide hs3
    have z4 := u4.size
    clear e2 e4 hV4 hs3 c0 c1 c2 c3 c4 c5 c6 c7 M3 HB3 HB4 hiv r1 r2 niv nv hg hA ho u4 g4 gf heb kiv one1 f1 f12
    generalize (newOwn own3 w3.heap.size (9 + Bool.toNat true)) = own4 at M4
    go_upto_region 5 with fail
    generalize (w4.setCell ⟨eb, 7, none⟩ (.slice ga ((s2 true).inn.length + ((s1 true).fl.outs y).length) gc)) = w5 at M4 r2' z4 ⊢
    have heb := lt_at M4.at_.blk
    obtain ⟨c0, c1, c2, c3, c4, c5, c6, c7⟩ := M4.at_.cells
    have hwd := M4.at_.wy false
    have nwd : (V4 false).wv.ownBlock ≠ some eb := fun e => by have h1 := M4.at_.ow false _ e; rw [M4.at_.oe] at h1; simp at h1
    have HB5 := hide M4.at_.blk
    have one2 := frCells_one ((s1 true).fl.backs y)
    have wa : IntKind.i64.wrap 1 = 1 := IntWalk.i64_in _ (by omega)
    have wb : IntKind.i64.wrap 0 = 0 := IntWalk.i64_in _ (by omega)
    go_region_law ((refine step_append_rw _ (by rfl) _ _ 38 38 (by rfl) 41 _ i0 _ 3 32 Try.underlying38 Try.underlying38 (by simp) hi0 hz0 hz1 hz2 rfl _ _ _ (by rfl) hwd.drew _ _ _ (by rfl) r2'.drew.src r2'.drew.1 one2 (by omega) (by omega) ?_; intro ga gc w6 hA hg ho; have hb6 := block_grown hg HB5.out nwd; have g6 := cell_at hb6 2 _ rfl; have gf := free_at hb6 2; have HB6 := hide hb6; clear hb6))
    go_wp2_with fail
    go_end0
    have nv : (Value.slice ga ((s3 false).way.length + ((s1 true).fl.backs y).length) gc).ownBlock ≠ some eb := by
      rcases ho with e | e <;> rw [e]
      · exact nwd
      · simp; omega
    have u6 := (((Upd.refl w5 (fun k => k = eb ∨ (V4 false).wv.ownBlock = some k)).drew).grown hg (fun k hk => .inr (.inr hk))).setCell ⟨eb, 2, none⟩ (.slice ga ((s3 false).way.length + ((s1 true).fl.backs y).length) gc) (.inr (.inl rfl))
    have M6 := M4.setWay false (.slice ga ((s3 false).way.length + ((s1 true).fl.backs y).length) gc) ((s3 false).way ++ (s1 true).fl.backs y) u6 (block_setCell HB6.out 2 _)
      (by have := hA.setCell ⟨eb, 2, none⟩ (.slice ga ((s3 false).way.length + ((s1 true).fl.backs y).length) gc) nv; simpa [FrsAt, frCells_app] using this)
      (fun k hk => by
        rcases ho with e | e
        · rw [e] at hk; exact .inl hk
        · rw [e] at hk; simp at hk; exact .inr (by omega))
    rw [HG.out, ← HS2.out, ← HS3.out]
    exact ⟨rfl, _, _, M6⟩

theorem take_any (w0 w : World) (eb : Nat) (o0 own : Nat → Nat) (V : Bool → Vs) (s : Bool → Sd) (c : Bool) (i : Nat) (stays : Bool) (y : Fr) (hM : Mid w0 w eb o0 own V s) (ok : (s c).fl.Ok) (hy : (s c).way[i]? = some y)
    (l1 : ∀ d, (s d).way.length ≤ 100000) (l3 : (s c).inn.length ≤ 100000) (q : Int) (hq : q = if c then 1 else 0) :
    Calls Try.prog 17 #[.pointer (some ⟨eb, 0, none⟩), .int .i64 q, .int .i64 i, .bool stays] w fun e w' => e = .returned (.tuple #[]) ∧ ∃ own' V', Mid w0 w' eb o0 own' V' (takeS s c i stays y) := by
  subst hq
  cases c
  · exact take_f w0 w eb o0 own V s i stays y hM ok hy (l1 _) (l1 _) l3
  · exact take_t w0 w eb o0 own V s i stays y hM ok hy (l1 _) (l1 _) l3
end Go.Proofs.Ytfbmhfpffciojaa
