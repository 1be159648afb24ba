/- Links and edges in memory; slices.Clone of them; copied. -/
import Derived.Test.YtcdimledeomahaaWebA
import Derived.Sort.EncStr
set_option maxRecDepth 100000
namespace Go.Proofs.Ytcdimledeomahaa
open Go.RowKit Go.Lat

/-- A link as plain data. -/
structure Lk where
  b : List UInt8
  s : List UInt8
  c : Int
  r : Int
deriving DecidableEq
def Lk.cells (l : Lk) : List Value := [encStr l.b, encStr l.s, .int .i64 l.c, .int .i64 l.r]
def lkCells (l : List Lk) : List Value := l.flatMap Lk.cells
theorem lkCells_app (a b : List Lk) : lkCells (a ++ b) = lkCells a ++ lkCells b := by simp [lkCells]
theorem lkCells_len (a : List Lk) : (lkCells a).length = a.length * 4 := by
  induction a with
  | nil => rfl
  | cons x l ih => simp [lkCells, Lk.cells] at *; omega
theorem lkCells_get (l : List Lk) (j : Nat) (x : Lk) (h : l[j]? = some x) : (lkCells l)[j * 4]? = some (encStr x.b) ∧ (lkCells l)[j * 4 + 1]? = some (encStr x.s) ∧ (lkCells l)[j * 4 + 2]? = some (.int .i64 x.c) ∧ (lkCells l)[j * 4 + 3]? = some (.int .i64 x.r) := by
  induction l generalizing j with
  | nil => simp at h
  | cons y l ih =>
    cases j with
    | zero => simp at h; subst h; simp [lkCells, Lk.cells]
    | succ j =>
      have := ih j (by simpa using h)
      have e : ∀ t, (lkCells (y :: l))[(j + 1) * 4 + t]? = (lkCells l)[j * 4 + t]? := by
        intro t
        have e1 : lkCells (y :: l) = y.cells ++ lkCells l := by simp [lkCells]
        rw [e1, List.getElem?_append_right (by simp [Lk.cells]; omega)]
        congr 1
        simp [Lk.cells]
        omega
      have e0 := e 0
      simp only [Nat.add_zero] at e0
      rw [e0, e 1, e 2, e 3]
      exact this
theorem lkCells_one (l : List Lk) : ∀ u ∈ lkCells l, u.oneCell' = true := by
  intro u hu
  simp only [lkCells, List.mem_flatMap] at hu
  obtain ⟨x, _, hx⟩ := hu
  simp [Lk.cells, encStr] at hx
  rcases hx with rfl | rfl | rfl | rfl <;> rfl

def LksAt (w : World) (v : Value) (l : List Lk) : Prop := Rw w 40 4 v l.length (lkCells l)
theorem lk_at {w : World} {e : TypeId} {sa : Option Addr} {n c : Nat} {l : List Lk} (h : Rw w e 4 (.slice sa n c) n (lkCells l)) (j : Nat) (x : Lk) (hx : l[j]? = some x) (hj : j < n) :
    ∃ g off, sa = some ⟨g, off, none⟩ ∧ g < w.heap.size ∧ w.cell? ⟨g, off + j * 4, none⟩ = some (encStr x.b) ∧ w.cell? ⟨g, off + j * 4 + 1, none⟩ = some (encStr x.s) ∧ w.cell? ⟨g, off + j * 4 + 2, none⟩ = some (.int .i64 x.c) ∧ w.cell? ⟨g, off + j * 4 + 3, none⟩ = some (.int .i64 x.r) := by
  obtain ⟨g, off, cap, hv, hg, hc⟩ := Rw.pos h (by omega)
  simp at hv
  obtain ⟨c0, c1, c2, c3⟩ := lkCells_get l j x hx
  exact ⟨g, off, hv.1, hg, hc _ _ c0, hc _ _ c1, hc _ _ c2, hc _ _ c3⟩

/-- An edge as plain data. -/
structure Ed where
  s : List UInt8
  c : Int
  r : Int
  reads : List Lk
deriving DecidableEq
def EdRow (xs : List Value) (i : Nat) (e : Ed) (rv : Value) : Prop :=
  xs[i * 4]? = some (encStr e.s) ∧ xs[i * 4 + 1]? = some (.int .i64 e.c) ∧ xs[i * 4 + 2]? = some (.int .i64 e.r) ∧ xs[i * 4 + 3]? = some rv
/-- The slice v reads as the edges es; its blocks are of A. -/
def EdsAt (w : World) (A : Nat → Prop) (v : Value) (es : List Ed) : Prop :=
  (∀ k, v.ownBlock = some k → A k) ∧ ∃ xs, Rw w 83 4 v es.length xs ∧ (∀ u ∈ xs, u.oneCell' = true) ∧
    ∀ i e, es[i]? = some e → ∃ rv, EdRow xs i e rv ∧ LksAt w rv e.reads ∧ ∀ k, rv.ownBlock = some k → A k

theorem EdsAt.upd {w w' : World} {A S : Nat → Prop} {v : Value} {es : List Ed} (h : EdsAt w A v es) (u : Upd w w' S) (hS : ∀ k, A k → ¬ S k) : EdsAt w' A v es := by
  obtain ⟨h1, xs, h2, h3, h4⟩ := h
  refine ⟨h1, xs, u.rw h2 (fun k hk => hS k (h1 k hk)), h3, fun i e he => ?_⟩
  obtain ⟨rv, r1, r2, r3⟩ := h4 i e he
  exact ⟨rv, r1, u.rw r2 (fun k hk => hS k (r3 k hk)), r3⟩
theorem EdsAt.weaken {w : World} {A B : Nat → Prop} {v : Value} {es : List Ed} (h : EdsAt w A v es) (hAB : ∀ k, k < w.heap.size → A k → B k) : EdsAt w B v es := by
  obtain ⟨h1, xs, h2, h3, h4⟩ := h
  refine ⟨fun k hk => hAB k (h2.lt k hk) (h1 k hk), xs, h2, h3, fun i e he => ?_⟩
  obtain ⟨rv, r1, r2, r3⟩ := h4 i e he
  exact ⟨rv, r1, r2, fun k hk => hAB k (r2.lt k hk) (r3 k hk)⟩
theorem EdsAt.nil (w : World) (A : Nat → Prop) : EdsAt w A (.slice none 0 0) [] :=
  ⟨by simp [Value.ownBlock], [], Rw.nil _ _ _, by simp, fun i e he => by simp at he⟩

/-- A cell of a slice that reads is written. -/
theorem Rw.set {w : World} {e size g off n cap : Nat} {xs : List Value} (h : Rw w e size (.slice (some ⟨g, off, none⟩) n cap) n xs) (j : Nat) (u : Value) (hj : j < n * size) :
    Rw (w.setCell ⟨g, off + j, none⟩ u) e size (.slice (some ⟨g, off, none⟩) n cap) n (xs.set j u) := by
  obtain ⟨h1, h2⟩ := h
  refine ⟨by simpa using h1, ?_⟩
  rcases h2 with ⟨he, _⟩ | ⟨g', off', cap', cur, he, hg, hnc, hcs, htake⟩
  · cases he
  · cases he
    have hm : n * size ≤ cap * size := Nat.mul_le_mul_right _ hnc
    refine .inr ⟨g, off, cap, cur.setIfInBounds (off + j) u, rfl, block_setCell hg _ _, hnc, by simpa using hcs, ?_⟩
    rw [← htake]
    apply List.ext_getElem?
    intro k
    rw [List.getElem?_set]
    by_cases hk : k < n * size
    · rw [List.getElem?_take_of_lt hk, List.getElem?_take_of_lt hk, List.getElem?_drop, List.getElem?_drop, Array.getElem?_toList, Array.getElem?_toList, Array.getElem?_setIfInBounds]
      by_cases hjk : j = k
      · subst hjk
        have : off + j < cur.size := by omega
        have l1 : j < ((cur.toList.drop off).take (n * size)).length := by simp; omega
        simp [this]
        omega
      · have : ¬ (off + j = off + k) := by omega
        simp [hjk]
    · have l2 : ((cur.toList.drop off).take (n * size)).length ≤ k := by simp; omega
      have e1 : ¬ j = k := by omega
      rw [if_neg e1, List.getElem?_take_eq_none (by omega), List.getElem?_take_eq_none (by omega)]

theorem Try.info40 : (Try.prog.info? 40).map (fun i => (i.zero, i.size, i.bytes)) = some (some (.agg #[.string ⟨#[]⟩, .string ⟨#[]⟩, .int .i64 0, .int .i64 0]), 4, 48) := by kernel_rfl
theorem Try.info83 : (Try.prog.info? 83).map (fun i => (i.zero, i.size, i.bytes)) = some (some (.agg #[.string ⟨#[]⟩, .int .i64 0, .int .i64 0, .slice none 0 0]), 4, 56) := by kernel_rfl

theorem nil_eqL (w : World) : (binOp BinOp.eql 36 (Value.slice none 0 0) (Value.slice none 0 0)).run Try.prog w = .ok (.bool true) w := by kernel_rfl
theorem some_eqL (w : World) (ad : Addr) (n c : Nat) : (binOp BinOp.eql 36 (Value.slice (some ad) n c) (Value.slice none 0 0)).run Try.prog w = .ok (.bool false) w := by kernel_rfl
theorem nil_eqE (w : World) : (binOp BinOp.eql 47 (Value.slice none 0 0) (Value.slice none 0 0)).run Try.prog w = .ok (.bool true) w := by kernel_rfl
theorem some_eqE (w : World) (ad : Addr) (n c : Nat) : (binOp BinOp.eql 47 (Value.slice (some ad) n c) (Value.slice none 0 0)).run Try.prog w = .ok (.bool false) w := by kernel_rfl

theorem CloneL_any (w : World) (v : Value) (n : Nat) (xs : List Value) (h : Rw w 40 4 v n xs) (h1 : ∀ u ∈ xs, u.oneCell' = true) (hn : n ≤ 1000000) :
    Calls Try.prog 26 #[v] w fun e w' => ∃ a c, e = .returned (.slice a n c) ∧ Rw w' 40 4 (.slice a n c) n xs ∧ (∀ k, (Value.slice a n c).ownBlock = some k → w.heap.size ≤ k) ∧ Upd w w' (fun _ => False) := by
  obtain ⟨i0, hi, hz0, hz1, hz2⟩ := info_parts Try.info40
  obtain ⟨sa, sc, rfl, hsn⟩ := Rw.form h
  cases sa with
  | none =>
    obtain ⟨rfl, rfl⟩ := hsn rfl
    have hx : xs = [] := List.eq_nil_of_length_eq_zero (by simpa using h.1)
    subst hx
    have hq := nil_eqL w
    go_enter Try.func26, Try.ntmps26
    go_wp2_with fail
    go_ret
    exact ⟨none, 0, rfl, Rw.nil _ _ _, by simp [Value.ownBlock], Upd.refl _ _⟩
  | some ad =>
    have hq := some_eqL w ad n sc
    go_enter Try.func26, Try.ntmps26
    go_wp2_with (at_builtin; go_loud (refine wpList_append_rw _ rfl _ _ 36 36 rfl 40 _ i0 _ 4 48 Try.underlying36 Try.underlying36 (by simp) hi hz0 hz1 hz2 rfl _ 0 [] rfl (Rw.made w #[] 40 4 0 rfl) _ n xs rfl (h.alloc _).src h.1 h1 (by omega) (by omega) ?_); intro ga gc w1 hv' hg hob')
    go_ret
    simp only [Nat.zero_add, List.nil_append] at hv' hob' ⊢
    refine ⟨ga, gc, rfl, hv', ?_, ?_⟩
    · intro k hk
      rcases hob' with e | e
      · exact Nat.le_of_eq (Option.some.inj (hk.symm.trans e)).symm
      · have := Option.some.inj (hk.symm.trans e); simp at this; omega
    · exact ((Upd.refl w _).alloc _).grown hg (fun k hk => .inl (Nat.le_of_eq (Option.some.inj hk)))

theorem CloneE_any (w : World) (v : Value) (n : Nat) (xs : List Value) (h : Rw w 83 4 v n xs) (h1 : ∀ u ∈ xs, u.oneCell' = true) (hn : n ≤ 1000000) :
    Calls Try.prog 34 #[v] w fun e w' => ∃ a c, e = .returned (.slice a n c) ∧ Rw w' 83 4 (.slice a n c) n xs ∧ (∀ k, (Value.slice a n c).ownBlock = some k → w.heap.size ≤ k) ∧ Upd w w' (fun _ => False) := by
  obtain ⟨i0, hi, hz0, hz1, hz2⟩ := info_parts Try.info83
  obtain ⟨sa, sc, rfl, hsn⟩ := Rw.form h
  cases sa with
  | none =>
    obtain ⟨rfl, rfl⟩ := hsn rfl
    have hx : xs = [] := List.eq_nil_of_length_eq_zero (by simpa using h.1)
    subst hx
    have hq := nil_eqE w
    go_enter Try.func34, Try.ntmps34
    go_wp2_with fail
    go_ret
    exact ⟨none, 0, rfl, Rw.nil _ _ _, by simp [Value.ownBlock], Upd.refl _ _⟩
  | some ad =>
    have hq := some_eqE w ad n sc
    go_enter Try.func34, Try.ntmps34
    go_wp2_with (at_builtin; go_loud (refine wpList_append_rw _ rfl _ _ 47 47 rfl 83 _ i0 _ 4 56 Try.underlying47 Try.underlying47 (by simp) hi hz0 hz1 hz2 rfl _ 0 [] rfl (Rw.made w #[] 83 4 0 rfl) _ n xs rfl (h.alloc _).src h.1 h1 (by omega) (by omega) ?_); intro ga gc w1 hv' hg hob')
    go_ret
    simp only [Nat.zero_add, List.nil_append] at hv' hob' ⊢
    refine ⟨ga, gc, rfl, hv', ?_, ?_⟩
    · intro k hk
      rcases hob' with e | e
      · exact Nat.le_of_eq (Option.some.inj (hk.symm.trans e)).symm
      · have := Option.some.inj (hk.symm.trans e); simp at this; omega
    · exact ((Upd.refl w _).alloc _).grown hg (fun k hk => .inl (Nat.le_of_eq (Option.some.inj hk)))
end Go.Proofs.Ytcdimledeomahaa
