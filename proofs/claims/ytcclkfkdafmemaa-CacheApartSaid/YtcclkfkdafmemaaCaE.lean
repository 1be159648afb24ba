/- The row of links that the sort turns, as a slice that reads; the order is a strict total one. -/
import Derived.Test.YtcclkfkdafmemaaCaD
import Derived.Shelf.SlSortFuncK.RowK2
import Derived.Shelf.SlSortCmp.InsertionK
set_option maxRecDepth 100000
namespace Go.Proofs.Ytcclkfkdafmemaa
open Go.RowKit Go.Lat Go.Sort

instance : Inhabited Lk := ⟨⟨[], [], 0, 0⟩⟩
def lkEnc (x : Lk) : List Value := [enS x.b, enS x.s, .int .i64 x.c, .int .i64 x.r]
def lkCells (l : List Lk) : List Value := l.flatMap lkEnc
theorem lkCells_app (a b : List Lk) : lkCells (a ++ b) = lkCells a ++ lkCells b := by simp [lkCells]
theorem lkCells_len (a : List Lk) : (lkCells a).length = a.length * 4 := by
  induction a with
  | nil => rfl
  | cons x l ih => simp [lkCells, lkEnc] at *; omega
theorem lkCells_get (l : List Lk) (j : Nat) (x : Lk) (h : l[j]? = some x) (t : Nat) (ht : t < 4) : (lkCells l)[j * 4 + t]? = (lkEnc x)[t]? := by
  induction l generalizing j with
  | nil => simp at h
  | cons y l ih =>
    have e1 : lkCells (y :: l) = lkEnc y ++ lkCells l := by simp [lkCells]
    cases j with
    | zero =>
      simp at h
      subst h
      rw [e1, List.getElem?_append_left (by simp [lkEnc]; omega)]
      simp
    | succ j =>
      have := ih j (by simpa using h)
      rw [e1, List.getElem?_append_right (by simp [lkEnc]; omega), ← this]
      congr 1
      simp [lkEnc]
      omega
theorem lkCells_one (l : List Lk) : ∀ u ∈ lkCells l, u.oneCell' = true := by
  intro u hu
  simp only [lkCells, List.mem_flatMap] at hu
  obtain ⟨x, _, hx⟩ := hu
  simp [lkEnc] at hx
  rcases hx with rfl | rfl | rfl | rfl <;> rfl
theorem flat_lk (ks : List Lk) : flatK lkEnc 4 ks.toArray = (lkCells ks).toArray := by
  apply Array.ext
  · simp [lkCells_len]
  · intro t h1 h2
    have ht : t < ks.length * 4 := by simpa using h1
    have hi : t / 4 < ks.length := by omega
    have c0 := lkCells_get ks (t / 4) ks[t / 4] (List.getElem?_eq_getElem hi) (t % 4) (by omega)
    have e2 : t / 4 * 4 + t % 4 = t := by omega
    rw [e2] at c0
    have e1 : (flatK lkEnc 4 ks.toArray)[t] = (lkEnc ks[t / 4])[t % 4]! := by
      have := get_flatK lkEnc 4 ks.toArray t (by simpa using ht)
      rw [getElem!_pos _ t h1] at this
      rw [this]
      congr 1
      rw [getElem!_pos _ (t / 4) (by simpa using hi)]
      simp
    have hm : t % 4 < (lkEnc ks[t / 4]).length := by simp [lkEnc]; omega
    rw [e1, getElem!_pos _ (t % 4) hm]
    rw [List.getElem?_eq_getElem hm] at c0
    obtain ⟨_, q⟩ := List.getElem?_eq_some_iff.1 c0
    simpa using q.symm

theorem rw_putFlat (w : World) (e size g off n cap q : Nat) (xs ys : List Value) (hr : Rw w e size (.slice (some ⟨g, off, none⟩) n cap) n xs) (hl : ys.length = n * size) :
    Rw (putRow id (Go.Sort.ahead w q) g off ys.toArray) e size (.slice (some ⟨g, off, none⟩) n cap) n ys ∧ Upd w (putRow id (Go.Sort.ahead w q) g off ys.toArray) (fun k => k = g) := by
  obtain ⟨h1, h2⟩ := hr
  rcases h2 with ⟨he, _⟩ | ⟨g', off', cap', cur, he, hg, hnc, hcs, htake⟩
  · cases he
  · cases he
    have hm : n * size ≤ cap * size := Nat.mul_le_mul_right _ hnc
    constructor
    · refine ⟨hl, .inr ⟨g, off, cap, putCells id off ys.toArray cur, rfl, ?_, hnc, ?_, ?_⟩⟩
      · simp [putRow, Go.Sort.mapBlock, Go.Sort.ahead, Array.getElem?_modify, hg, Go.Sort.onCells]
      · simp [putCells]
        omega
      · apply List.ext_getElem?
        intro j
        by_cases hj : j < n * size
        · rw [List.getElem?_take_of_lt hj, List.getElem?_drop, Array.getElem?_toList]
          have e1 : off + j < cur.size := by omega
          have e2 : off + j < off + ys.length := by omega
          have e3 : j < ys.length := by omega
          simp [putCells, e1, e2, e3]
        · rw [List.getElem?_take_eq_none (by omega), List.getElem?_eq_none (by omega)]
    · refine ⟨rfl, rfl, rfl, by simp, fun k _ hk => ?_⟩
      have : g ≠ k := fun e => hk e.symm
      simp [putRow, Go.Sort.mapBlock, Go.Sort.ahead, Array.getElem?_modify, this]
theorem upd_grow {a w : World} {S : Nat → Prop} (h : Upd a w S) (os : Array Obj) : Upd a (grow w os) S :=
  h.then (T := fun _ => False) ⟨rfl, rfl, rfl, by simp, fun k hk _ => heap_grow_old w os hk⟩ (fun _ _ => False.elim)

theorem ltOf_P (x y : Lk) : ltOf cmpL x y = true ↔ ltP x y := by
  unfold ltOf
  rw [decide_eq_true_iff, cmpL_lt]
theorem ltOf_not (x y : Lk) : ltOf cmpL x y = false ↔ ¬ ltP x y := by
  rw [← ltOf_P, Bool.not_eq_true]
theorem swoP : SWO (ltOf cmpL) where
  irrefl x := (ltOf_not x x).2 (ltP_irrefl x)
  trans x y z h1 h2 := (ltOf_P x z).2 (ltP_trans ((ltOf_P x y).1 h1) ((ltOf_P y z).1 h2))
  ntrans x y z h1 h2 := by
    rw [ltOf_not] at *
    intro h
    by_cases q : ltP y x
    · exact h2 (ltP_trans q h)
    · have e := ltP_total h1 q
      subst e
      exact h2 h
theorem totP (x y : Lk) (h1 : ltOf cmpL x y = false) (h2 : ltOf cmpL y x = false) : x = y := ltP_total ((ltOf_not x y).1 h1) ((ltOf_not y x).1 h2)

/-- The keys in order. -/
def sortP (ks : List Lk) : List Lk := ks.mergeSort fun x y => !(ltOf cmpL) y x
theorem sortP_perm (ks : List Lk) : (sortP ks).Perm ks := List.mergeSort_perm _ _
theorem sortP_sorted (ks : List Lk) (h : ks.Nodup) : (sortP ks).Pairwise ltP := by
  have h1 : (sortP ks).Pairwise (fun x y => (!(ltOf cmpL) y x) = true) := by
    refine List.pairwise_mergeSort (fun a b c q1 q2 => ?_) (fun a b => ?_) ks
    · simp only [Bool.not_eq_true', ltOf_not] at *
      intro q
      by_cases z : ltP a b
      · by_cases y : ltP b c
        · exact ltP_irrefl _ (ltP_trans (ltP_trans z y) q)
        · have := ltP_total q2 y
          subst this
          exact q1 q
      · have := ltP_total z q1
        subst this
        exact q2 q
    · simp only [Bool.or_eq_true, Bool.not_eq_true', ltOf_not]
      by_cases z : ltP b a
      · exact .inr fun y => ltP_irrefl _ (ltP_trans z y)
      · exact .inl z
  have h2 : (sortP ks).Pairwise (· ≠ ·) := (sortP_perm ks).nodup_iff.2 h
  refine (List.Pairwise.and h1 h2).imp fun {x y} q => ?_
  have q1 : ¬ ltP y x := (ltOf_not y x).1 (by simpa using q.1)
  exact Classical.byContradiction fun z => q.2 (ltP_total z q1)
/-- Two lists in order with the same members are one. -/
theorem sorted_eq : ∀ {a b : List Lk}, a.Pairwise ltP → b.Pairwise ltP → (∀ p, p ∈ a ↔ p ∈ b) → a = b
  | [], [], _, _, _ => rfl
  | [], y :: b, _, _, h => by have := (h y).2 (by simp); cases this
  | x :: a, [], _, _, h => by have := (h x).1 (by simp); cases this
  | x :: a, y :: b, h1, h2, h => by
    obtain ⟨p1, p2⟩ := List.pairwise_cons.1 h1
    obtain ⟨q1, q2⟩ := List.pairwise_cons.1 h2
    have e : x = y := by
      rcases List.mem_cons.1 ((h x).1 (by simp)) with e | hx
      · exact e
      · rcases List.mem_cons.1 ((h y).2 (by simp)) with e | hy
        · exact e.symm
        · exact absurd (ltP_trans (p1 y hy) (q1 x hx)) (ltP_irrefl _)
    subst e
    rw [sorted_eq p2 q2 fun p => ?_]
    constructor
    · intro hp
      rcases List.mem_cons.1 ((h p).1 (by simp [hp])) with e | z
      · subst e; exact absurd (p1 p hp) (ltP_irrefl _)
      · exact z
    · intro hp
      rcases List.mem_cons.1 ((h p).2 (by simp [hp])) with e | z
      · subst e; exact absurd (q1 p hp) (ltP_irrefl _)
      · exact z
end Go.Proofs.Ytcclkfkdafmemaa
