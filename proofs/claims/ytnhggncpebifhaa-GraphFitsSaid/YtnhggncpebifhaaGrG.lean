/- Memory of Tarjan's way; the walk of meet. -/
import Derived.Test.YtnhggncpebifhaaGrF
set_option maxRecDepth 100000
namespace Go.Proofs.Ytnhggncpebifhaa
open Go.RowKit Go.Lat Go.Tarjan

/-- The blocks of a way: the struct, index, low, on, part. -/
structure Wm where
  b : Nat
  i : Nat
  l : Nat
  o : Nat
  p : Nat
def Wm.bs (m : Wm) : List Nat := [m.b, m.i, m.l, m.o, m.p]
structure Wm.ok (m : Wm) : Prop where
  bi : m.b ≠ m.i
  bl : m.b ≠ m.l
  bo : m.b ≠ m.o
  bp : m.b ≠ m.p
  il : m.i ≠ m.l
  io : m.i ≠ m.o
  ip : m.i ≠ m.p
  lo : m.l ≠ m.o
  lp : m.l ≠ m.p
  op : m.o ≠ m.p
def numR (f : Nat → Nat) : Nat → Value := fun k => .int .i64 (f k : Int)
def boolR (f : Nat → Bool) : Nat → Value := fun k => .bool (f k)
theorem numR_upd (f : Nat → Nat) (t v : Nat) : updF (numR f) t (.int .i64 (v : Int)) = numR (upd f t v) := by
  funext k
  by_cases e : k = t
  · subst e; simp [updF, numR, upd]
  · simp [updF, numR, upd, e]
theorem boolR_upd (f : Nat → Bool) (t : Nat) (v : Bool) : updF (boolR f) t (.bool v) = boolR (updF f t v) := by
  funext k
  by_cases e : k = t
  · subst e; simp [updF, boolR]
  · simp [updF, boolR, e]
structure WkG (w : World) (gb n : Nat) (m : Wm) (sa : Option Addr) (sc : Nat) (cnt : Nat) (idx low : Nat → Nat) (on : Nat → Bool) (stk : List Nat) (part : Nat → Nat) : Prop where
  c : w.heap[m.b]? = some (.cells #[.pointer (some ⟨gb, 0, none⟩), .int .i64 (cnt : Int), .slice (some ⟨m.i, 0, none⟩) n n, .slice (some ⟨m.l, 0, none⟩) n n, .slice (some ⟨m.o, 0, none⟩) n n, .slice sa stk.length sc, .slice (some ⟨m.p, 0, none⟩) n n] 57 (0, 0))
  i : Rw w 3 1 (.slice (some ⟨m.i, 0, none⟩) n n) n (fRow n (numR idx))
  l : Rw w 3 1 (.slice (some ⟨m.l, 0, none⟩) n n) n (fRow n (numR low))
  o : Rw w 4 1 (.slice (some ⟨m.o, 0, none⟩) n n) n (fRow n (boolR on))
  p : Rw w 3 1 (.slice (some ⟨m.p, 0, none⟩) n n) n (fRow n (numR part))
  k : Rw w 3 1 (.slice sa stk.length sc) stk.length (natCells stk.reverse)
  kn : ∀ k, (Value.slice sa stk.length sc).ownBlock = some k → k ∉ m.bs
  ne : m.ok
def Wm.own (m : Wm) (sa : Option Addr) (k : Nat) : Prop := k ∈ m.bs ∨ (Value.slice sa 0 0).ownBlock = some k
theorem own_slice (sa : Option Addr) (a b c d : Nat) : (Value.slice sa a b).ownBlock = (Value.slice sa c d).ownBlock := by cases sa <;> rfl
section
variable {w w' : World} {gb n : Nat} {m : Wm} {sa : Option Addr} {sc cnt : Nat} {idx low : Nat → Nat} {on : Nat → Bool} {stk : List Nat} {part : Nat → Nat}
theorem WkG.lt (h : WkG w gb n m sa sc cnt idx low on stk part) {k : Nat} (hk : m.own sa k) : k < w.heap.size := by
  rcases hk with hk | hk
  · simp only [Wm.bs, List.mem_cons, List.not_mem_nil, or_false] at hk
    rcases hk with rfl | rfl | rfl | rfl | rfl
    · exact lt_at h.c
    · exact h.i.lt _ rfl
    · exact h.l.lt _ rfl
    · exact h.o.lt _ rfl
    · exact h.p.lt _ rfl
  · exact h.k.lt _ ((own_slice sa _ _ _ _).trans hk)
theorem WkG.upd (h : WkG w gb n m sa sc cnt idx low on stk part) {S : Nat → Prop} (u : Upd w w' S) (hd : ∀ k, m.own sa k → ¬ S k) : WkG w' gb n m sa sc cnt idx low on stk part := by
  have hb : ∀ k, k ∈ m.bs → ¬ S k := fun k q => hd k (.inl q)
  refine ⟨u.get h.c (hb _ (by simp [Wm.bs])), u.rw h.i (fun k q => ?_), u.rw h.l (fun k q => ?_), u.rw h.o (fun k q => ?_), u.rw h.p (fun k q => ?_), u.rw h.k (fun k q => hd k (.inr ((own_slice sa _ _ _ _).trans q))), h.kn, h.ne⟩
  all_goals
    have q' := Option.some.inj q
    subst q'
    exact hb _ (by simp [Wm.bs])
theorem WkG.drew (h : WkG w gb n m sa sc cnt idx low on stk part) : WkG w.drew gb n m sa sc cnt idx low on stk part := h.upd (Upd.drew (Upd.refl w (fun _ => False))) (fun _ _ => id)
theorem WkG.kb (h : WkG w gb n m sa sc cnt idx low on stk part) {x : Nat} (hx : x ∈ m.bs) : (Value.slice sa stk.length sc).ownBlock ≠ some x := fun e => h.kn x e hx
theorem WkG.setCnt (h : WkG w gb n m sa sc cnt idx low on stk part) (v : Nat) : WkG (w.setCell ⟨m.b, 1, none⟩ (.int .i64 (v : Int))) gb n m sa sc v idx low on stk part := by
  have hx := h.ne
  refine ⟨by have := block_setCell h.c 1 (.int .i64 (v : Int)); simpa using this, h.i.setCell _ _ ?_, h.l.setCell _ _ ?_, h.o.setCell _ _ ?_, h.p.setCell _ _ ?_, h.k.setCell _ _ (h.kb (by simp [Wm.bs])), h.kn, h.ne⟩
  · exact fun e => hx.bi (Option.some.inj e).symm
  · exact fun e => hx.bl (Option.some.inj e).symm
  · exact fun e => hx.bo (Option.some.inj e).symm
  · exact fun e => hx.bp (Option.some.inj e).symm
theorem WkG.setIdx (h : WkG w gb n m sa sc cnt idx low on stk part) {t : Nat} (ht : t < n) (v : Nat) : WkG (w.setCell ⟨m.i, t, none⟩ (.int .i64 (v : Int))) gb n m sa sc cnt (Tarjan.upd idx t v) low on stk part := by
  have hx := h.ne
  have hi := Rw.set1 h.i t ht (.int .i64 (v : Int))
  rw [numR_upd, Nat.zero_add] at hi
  refine ⟨by rw [Below.heap_setCell _ _ _ _ (by simpa using hx.bi)]; exact h.c, hi, h.l.setCell _ _ ?_, h.o.setCell _ _ ?_, h.p.setCell _ _ ?_, h.k.setCell _ _ (h.kb (by simp [Wm.bs])), h.kn, h.ne⟩
  · exact fun e => hx.il (Option.some.inj e).symm
  · exact fun e => hx.io (Option.some.inj e).symm
  · exact fun e => hx.ip (Option.some.inj e).symm
theorem WkG.setLow (h : WkG w gb n m sa sc cnt idx low on stk part) {t : Nat} (ht : t < n) (v : Nat) : WkG (w.setCell ⟨m.l, t, none⟩ (.int .i64 (v : Int))) gb n m sa sc cnt idx (Tarjan.upd low t v) on stk part := by
  have hx := h.ne
  have hi := Rw.set1 h.l t ht (.int .i64 (v : Int))
  rw [numR_upd, Nat.zero_add] at hi
  refine ⟨by rw [Below.heap_setCell _ _ _ _ (by simpa using hx.bl)]; exact h.c, h.i.setCell _ _ ?_, hi, h.o.setCell _ _ ?_, h.p.setCell _ _ ?_, h.k.setCell _ _ (h.kb (by simp [Wm.bs])), h.kn, h.ne⟩
  · exact fun e => hx.il (Option.some.inj e)
  · exact fun e => hx.lo (Option.some.inj e).symm
  · exact fun e => hx.lp (Option.some.inj e).symm
theorem WkG.setOn (h : WkG w gb n m sa sc cnt idx low on stk part) {t : Nat} (ht : t < n) (v : Bool) : WkG (w.setCell ⟨m.o, t, none⟩ (.bool v)) gb n m sa sc cnt idx low (updF on t v) stk part := by
  have hx := h.ne
  have hi := Rw.set1 h.o t ht (.bool v)
  rw [boolR_upd, Nat.zero_add] at hi
  refine ⟨by rw [Below.heap_setCell _ _ _ _ (by simpa using hx.bo)]; exact h.c, h.i.setCell _ _ ?_, h.l.setCell _ _ ?_, hi, h.p.setCell _ _ ?_, h.k.setCell _ _ (h.kb (by simp [Wm.bs])), h.kn, h.ne⟩
  · exact fun e => hx.io (Option.some.inj e)
  · exact fun e => hx.lo (Option.some.inj e)
  · exact fun e => hx.op (Option.some.inj e).symm
theorem WkG.setPart (h : WkG w gb n m sa sc cnt idx low on stk part) {t : Nat} (ht : t < n) (v : Nat) : WkG (w.setCell ⟨m.p, t, none⟩ (.int .i64 (v : Int))) gb n m sa sc cnt idx low on stk (Tarjan.upd part t v) := by
  have hx := h.ne
  have hi := Rw.set1 h.p t ht (.int .i64 (v : Int))
  rw [numR_upd, Nat.zero_add] at hi
  refine ⟨by rw [Below.heap_setCell _ _ _ _ (by simpa using hx.bp)]; exact h.c, h.i.setCell _ _ ?_, h.l.setCell _ _ ?_, h.o.setCell _ _ ?_, hi, h.k.setCell _ _ (h.kb (by simp [Wm.bs])), h.kn, h.ne⟩
  · exact fun e => hx.ip (Option.some.inj e)
  · exact fun e => hx.lp (Option.some.inj e)
  · exact fun e => hx.op (Option.some.inj e)
/-- The stack is another one: its header is laid. -/
theorem WkG.setStk (h : WkG w gb n m sa sc cnt idx low on stk part) {S : Nat → Prop} (u : Upd w w' S) (hS : ∀ k, k ∈ m.bs → ¬ S k) {sa2 : Option Addr} {sc2 : Nat} {stk2 : List Nat} (hk : Rw w' 3 1 (.slice sa2 stk2.length sc2) stk2.length (natCells stk2.reverse)) (hn : ∀ k, (Value.slice sa2 stk2.length sc2).ownBlock = some k → k ∉ m.bs) :
    WkG (w'.setCell ⟨m.b, 5, none⟩ (.slice sa2 stk2.length sc2)) gb n m sa2 sc2 cnt idx low on stk2 part := by
  have hx := h.ne
  have hc := u.get h.c (hS _ (by simp [Wm.bs]))
  refine ⟨by have := block_setCell hc 5 (.slice sa2 stk2.length sc2); simpa using this, (u.rw h.i ?_).setCell _ _ ?_, (u.rw h.l ?_).setCell _ _ ?_, (u.rw h.o ?_).setCell _ _ ?_, (u.rw h.p ?_).setCell _ _ ?_, hk.setCell _ _ (fun e => hn _ e (by simp [Wm.bs])), hn, h.ne⟩
  · intro k q; obtain rfl := Option.some.inj q; exact hS _ (by simp [Wm.bs])
  · exact fun e => hx.bi (Option.some.inj e).symm
  · intro k q; obtain rfl := Option.some.inj q; exact hS _ (by simp [Wm.bs])
  · exact fun e => hx.bl (Option.some.inj e).symm
  · intro k q; obtain rfl := Option.some.inj q; exact hS _ (by simp [Wm.bs])
  · exact fun e => hx.bo (Option.some.inj e).symm
  · intro k q; obtain rfl := Option.some.inj q; exact hS _ (by simp [Wm.bs])
  · exact fun e => hx.bp (Option.some.inj e).symm
end
end Go.Proofs.Ytnhggncpebifhaa
