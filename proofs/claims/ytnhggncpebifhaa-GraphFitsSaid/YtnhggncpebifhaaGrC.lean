/- Memory of a slice of rows, each its own block; a graph as a whole; the walks of put, New, Nodes and has. -/
import Derived.Test.YtnhggncpebifhaaGrB
import Derived.Test.YtnhggncpebifhaaShelf
import Derived.Laws.OwnMore
set_option maxRecDepth 100000
namespace Go.Lat
open Go.RowKit
def updF {α : Type} (f : Nat → α) (i : Nat) (x : α) : Nat → α := fun k => if k = i then x else f k
theorem updF_same {α : Type} (f : Nat → α) (i : Nat) (x : α) : updF f i x i = x := by simp [updF]
theorem updF_other {α : Type} (f : Nat → α) (i : Nat) (x : α) {k : Nat} (h : k ≠ i) : updF f i x k = f k := by simp [updF, h]
def capOf : Value → Nat
  | .slice _ _ c => c
  | _ => 0
def fRow {α : Type} (n : Nat) (f : Nat → α) : List α := (List.range n).map f
theorem fRow_len {α : Type} (n : Nat) (f : Nat → α) : (fRow n f).length = n := by simp [fRow]
theorem fRow_get {α : Type} {n : Nat} (f : Nat → α) {i : Nat} (h : i < n) : (fRow n f)[i]? = some (f i) := by simp [fRow, h]
theorem fRow_congr {α : Type} {n : Nat} {f g : Nat → α} (h : ∀ i, i < n → f i = g i) : fRow n f = fRow n g :=
  List.map_congr_left fun i hi => h i (List.mem_range.1 hi)
theorem fRow_const {α : Type} (n : Nat) (x : α) : fRow n (fun _ => x) = List.replicate n x := by
  apply List.ext_getElem?
  intro j
  by_cases hj : j < n <;> simp [fRow, hj]
theorem fRow_set {α : Type} {n : Nat} (f : Nat → α) (i : Nat) (x : α) (h : i < n) : (fRow n f).set i x = fRow n (updF f i x) := by
  apply List.ext_getElem?
  intro j
  by_cases hj : j < n
  · rw [fRow_get _ hj]
    by_cases e : j = i
    · subst e
      rw [List.getElem?_set_self (by rw [fRow_len]; exact hj), updF_same]
    · rw [List.getElem?_set_ne (fun q => e q.symm), fRow_get _ hj, updF_other _ _ _ e]
  · rw [List.getElem?_eq_none (by simp [fRow_len]; omega), List.getElem?_eq_none (by simp [fRow_len]; omega)]
theorem fRow_snoc {α : Type} (n : Nat) (f : Nat → α) : fRow n f ++ [f n] = fRow (n + 1) f := by simp [fRow, List.range_succ]
/-- One cell of a row is written. -/
theorem Rw.set1 {w : World} {e g off n cap : Nat} {f : Nat → Value} (h : Rw w e 1 (.slice (some ⟨g, off, none⟩) n cap) n (fRow n f)) (i : Nat) (hi : i < n) (x : Value) :
    Rw (w.setCell ⟨g, off + i, none⟩ x) e 1 (.slice (some ⟨g, off, none⟩) n cap) n (fRow n (updF f i x)) := by
  have := Rw.setL [x] h i (by simp; omega)
  simp only [_root_.Go.Lat.setL] at this
  rw [fRow_set _ _ _ hi] at this
  exact this
/-- One cell of a row that reads. -/
theorem Rw.cell1 {w : World} {e : Nat} {va : Option Addr} {n vc : Nat} {f : Nat → Value} (h : Rw w e 1 (.slice va n vc) n (fRow n f)) {i : Nat} (hi : i < n) :
    ∃ g off, va = some ⟨g, off, none⟩ ∧ g < w.heap.size ∧ w.cell? ⟨g, off + i, none⟩ = some (f i) ∧ w.frozen? ⟨g, off + i, none⟩ = false := by
  rcases id h.2 with ⟨he, rfl⟩ | ⟨g, off, cap, cur, he, hg, r⟩
  · omega
  · simp only [Value.slice.injEq, true_and] at he
    obtain ⟨rfl, rfl⟩ := he
    exact ⟨g, off, rfl, lt_at hg, Rw.cells h i _ (fRow_get _ hi), free_at hg _⟩
theorem Rw.made1 (w : World) (e n : Nat) (z : Value) : Rw (w.alloc (.cells (madeCells #[z] n) e)) e 1 (.slice (some ⟨w.heap.size, 0, none⟩) n n) n (fRow n (fun _ => z)) := by
  have h := Rw.made w (madeCells #[z] n) e 1 n (by rw [← Array.length_toList, toList_madeCells_one]; simp)
  rwa [toList_madeCells_one, ← fRow_const] at h
/-- A slice of n rows: the row i is the slice f i and reads as L i; each row is a block of its own. -/
structure RowsAt (w : World) (te ti : TypeId) (v : Value) (n : Nat) (f : Nat → Value) (L : Nat → List Value) : Prop where
  spine : Rw w te 1 v n (fRow n f)
  row : ∀ i, i < n → Rw w ti 1 (f i) (L i).length (L i)
  cap : ∀ i, i < n → capOf (f i) ≤ maxLen
  apart : ∀ i j k, i < n → j < n → (f i).ownBlock = some k → (f j).ownBlock = some k → i = j
  off : ∀ i k, i < n → (f i).ownBlock = some k → v.ownBlock ≠ some k
def rowsOwn (v : Value) (n : Nat) (f : Nat → Value) (k : Nat) : Prop := v.ownBlock = some k ∨ ∃ i, i < n ∧ (f i).ownBlock = some k
theorem RowsAt.lt {w : World} {te ti : TypeId} {v : Value} {n : Nat} {f : Nat → Value} {L : Nat → List Value} (h : RowsAt w te ti v n f L) {k : Nat} (hk : rowsOwn v n f k) : k < w.heap.size := by
  rcases hk with hk | ⟨i, hi, hk⟩
  · exact h.spine.lt k hk
  · exact (h.row i hi).lt k hk
theorem RowsAt.upd {w w' : World} {te ti : TypeId} {v : Value} {n : Nat} {f : Nat → Value} {L : Nat → List Value} (h : RowsAt w te ti v n f L) {S : Nat → Prop} (u : Upd w w' S) (hd : ∀ k, rowsOwn v n f k → ¬ S k) : RowsAt w' te ti v n f L :=
  ⟨u.rw h.spine (fun k hk => hd k (.inl hk)), fun i hi => u.rw (h.row i hi) (fun k hk => hd k (.inr ⟨i, hi, hk⟩)), h.cap, h.apart, h.off⟩
theorem RowsAt.congr {w : World} {te ti : TypeId} {v : Value} {n : Nat} {f : Nat → Value} {L L2 : Nat → List Value} (h : RowsAt w te ti v n f L) (e : ∀ i, i < n → L i = L2 i) : RowsAt w te ti v n f L2 :=
  ⟨h.spine, fun i hi => by rw [← e i hi]; exact h.row i hi, h.cap, h.apart, h.off⟩
/-- A row's turn: what was made of the row i is laid at its place. -/
theorem RowsAt.turn {w w' : World} {te ti : TypeId} {g off n cap : Nat} {f : Nat → Value} {L : Nat → List Value} (h : RowsAt w te ti (.slice (some ⟨g, off, none⟩) n cap) n f L) {i : Nat} (hi : i < n) (u : Upd w w' (fun k => (f i).ownBlock = some k))
    {x : Value} {M : List Value} (hx : Rw w' ti 1 x M.length M) (hc : capOf x ≤ maxLen) (ho : ∀ k, x.ownBlock = some k → (f i).ownBlock = some k ∨ w.heap.size ≤ k) :
    RowsAt (w'.setCell ⟨g, off + i, none⟩ x) te ti (.slice (some ⟨g, off, none⟩) n cap) n (updF f i x) (updF L i M) := by
  have gne : ∀ j k, j < n → (f j).ownBlock = some k → k ≠ g := fun j k hj hk e => h.off j k hj hk (by rw [e]; rfl)
  have glt := h.spine.lt g rfl
  have xg : ∀ k, x.ownBlock = some k → k ≠ g := fun k hk e => by
    rcases ho k hk with q | q
    · exact gne i k hi q e
    · omega
  refine ⟨?_, fun j hj => ?_, fun j hj => ?_, fun a b k ha hb hka hkb => ?_, fun j k hj hk => ?_⟩
  · exact Rw.set1 (u.rw h.spine (fun k hk e => gne i k hi e (by simpa [Value.ownBlock] using hk.symm))) i hi x
  · by_cases e : j = i
    · subst e
      rw [updF_same, updF_same]
      exact hx.setCell _ _ (fun q => xg _ q rfl)
    · rw [updF_other _ _ _ e, updF_other _ _ _ e]
      exact (u.rw (h.row j hj) (fun k hk e2 => e (h.apart j i k hj hi hk e2))).setCell _ _ (fun q => gne j _ hj q rfl)
  · by_cases e : j = i
    · subst e; rw [updF_same]; exact hc
    · rw [updF_other _ _ _ e]; exact h.cap j hj
  · by_cases ea : a = i <;> by_cases eb : b = i
    · rw [ea, eb]
    · subst ea
      rw [updF_same] at hka
      rw [updF_other _ _ _ eb] at hkb
      rcases ho k hka with q | q
      · exact h.apart _ _ k ha hb q hkb
      · have := (h.row b hb).lt k hkb; omega
    · subst eb
      rw [updF_same] at hkb
      rw [updF_other _ _ _ ea] at hka
      rcases ho k hkb with q | q
      · exact h.apart _ _ k ha hb hka q
      · have := (h.row a ha).lt k hka; omega
    · rw [updF_other _ _ _ ea] at hka
      rw [updF_other _ _ _ eb] at hkb
      exact h.apart a b k ha hb hka hkb
  · by_cases e : j = i
    · subst e
      rw [updF_same] at hk
      intro q
      exact xg k hk (by simpa [Value.ownBlock] using q.symm)
    · rw [updF_other _ _ _ e] at hk
      exact h.off j k hj hk
theorem rowsOwn_turn {v : Value} {n : Nat} {f : Nat → Value} {i : Nat} {x : Value} {k : Nat} {N : Nat} (hi : i < n) (ho : ∀ k, x.ownBlock = some k → (f i).ownBlock = some k ∨ N ≤ k) (h : rowsOwn v n (updF f i x) k) : rowsOwn v n f k ∨ N ≤ k := by
  rcases h with h | ⟨j, hj, h⟩
  · exact .inl (.inl h)
  · by_cases e : j = i
    · subst e
      rw [updF_same] at h
      rcases ho k h with q | q
      · exact .inl (.inr ⟨j, hj, q⟩)
      · exact .inr q
    · rw [updF_other _ _ _ e] at h
      exact .inl (.inr ⟨j, hj, h⟩)
/-- The empty rows that make lays. -/
theorem RowsAt.made (w : World) (te ti n : Nat) : RowsAt (w.alloc (.cells (madeCells #[.slice none 0 0] n) te)) te ti (.slice (some ⟨w.heap.size, 0, none⟩) n n) n (fun _ => .slice none 0 0) (fun _ => []) :=
  ⟨Rw.made1 w te n _, fun _ _ => Rw.nil _ _ _, fun _ _ => by simp [capOf], fun _ _ _ _ _ h => by simp [Value.ownBlock] at h, fun _ _ _ h => by simp [Value.ownBlock] at h⟩
theorem rowsOwn_made {g n m k : Nat} (h : rowsOwn (.slice (some ⟨g, 0, none⟩) n n) m (fun _ => .slice none 0 0) k) : k = g := by
  rcases h with h | ⟨i, _, h⟩
  · simpa [Value.ownBlock] using h.symm
  · simp [Value.ownBlock] at h
end Go.Lat
namespace Go.Proofs.Ytnhggncpebifhaa
open Go.RowKit Go.Lat

def natCells (l : List Nat) : List Value := inCells (l.map (fun (k : Nat) => (k : Int)))
theorem natCells_len (l : List Nat) : (natCells l).length = l.length := by simp [natCells, inCells]
theorem natCells_get {l : List Nat} {j x : Nat} (h : l[j]? = some x) : (natCells l)[j]? = some (.int .i64 (x : Int)) := by simp [natCells, inCells, h]
def Rising (l : List Nat) : Prop := l.Pairwise (· < ·)
theorem Rising.ints {l : List Nat} (h : Rising l) : (l.map (fun (k : Nat) => (k : Int))).Pairwise (· < ·) := by
  unfold Rising at h
  rw [List.pairwise_map]
  exact h.imp (fun q => by omega)
theorem rising_ins {l : List Nat} (h : Rising l) {z i : Nat} (hz : z ∉ l) (hlo : ∀ k x, l[k]? = some x → k < i → x < z) (hhi : ∀ k x, l[k]? = some x → i ≤ k → z ≤ x) : Rising (l.take i ++ z :: l.drop i) := by
  have key : ∀ x, x ∈ l.take i → x < z := fun x hx => by
    obtain ⟨k, hk⟩ := List.mem_iff_getElem?.1 hx
    rw [List.getElem?_take] at hk
    split at hk
    · exact hlo k x hk (by assumption)
    · cases hk
  have key2 : ∀ x, x ∈ l.drop i → z < x := fun x hx => by
    obtain ⟨k, hk⟩ := List.mem_iff_getElem?.1 hx
    rw [List.getElem?_drop] at hk
    have h1 := hhi _ x hk (by omega)
    have h2 : x ≠ z := fun e => hz (e ▸ List.mem_of_getElem? hk)
    omega
  unfold Rising at h ⊢
  have hs : (l.take i ++ l.drop i).Pairwise (· < ·) := by rw [List.take_append_drop]; exact h
  rw [List.pairwise_append] at hs ⊢
  refine ⟨hs.1, List.pairwise_cons.2 ⟨key2, hs.2.1⟩, fun a ha b hb => ?_⟩
  rcases List.mem_cons.1 hb with rfl | hb
  · exact key a ha
  · exact hs.2.2 a ha b hb
theorem mem_ins {l : List Nat} {z i x : Nat} : x ∈ l.take i ++ z :: l.drop i ↔ x ∈ l ∨ x = z := by
  conv => rhs; rw [← List.take_append_drop i l]
  simp only [List.mem_append, List.mem_cons]
  constructor
  · rintro (q | q | q)
    · exact .inl (.inl q)
    · exact .inr q
    · exact .inl (.inr q)
  · rintro ((q | q) | q)
    · exact .inl q
    · exact .inr (.inr q)
    · exact .inr (.inl q)
/-- put: a list with a number in it. -/
theorem put_any (w : World) (va : Option Addr) (vc : Nat) (l : List Nat) (hr : Rw w 3 1 (.slice va l.length vc) l.length (natCells l)) (hs : Rising l) (hl : l.length ≤ 1000000) (hvc : vc ≤ maxLen) (z : Nat) :
    Calls Try.prog 41 #[.slice va l.length vc, .int .i64 z] w fun e w' => ∃ a c l', e = .returned (.slice a l'.length c) ∧ c ≤ maxLen ∧ Rising l' ∧ (∀ x, x ∈ l' ↔ x ∈ l ∨ x = z) ∧ Rw w' 3 1 (.slice a l'.length c) l'.length (natCells l') ∧ (∀ k, (Value.slice a l'.length c).ownBlock = some k → (Value.slice va l.length vc).ownBlock = some k ∨ w.heap.size ≤ k) ∧ Upd w w' (fun k => (Value.slice va l.length vc).ownBlock = some k) := by
  obtain ⟨li, hli⟩ : ∃ li, l.map (fun (k : Nat) => (k : Int)) = li := ⟨_, rfl⟩
  have hll : li.length = l.length := by rw [← hli]; simp
  have hri : Rw w 3 1 (.slice va li.length vc) li.length (inCells li) := by rw [hll, ← hli]; exact hr
  have BS := fun (w' : World) (u : Upd w w' (fun _ => False)) => BinarySearch_any w' va vc li (u.rw hri (fun _ _ => id)) (by rw [← hli]; exact hs.ints) (by omega) (z : Int)
  rw [hll] at BS
  have IN := fun (w' : World) (u : Upd w w' (fun _ => False)) (vb : Nat) (hb : w'.heap[vb]? = some (.cells #[.int .i64 (z : Int)] 3 (0, 0))) (hne : (Value.slice va li.length vc).ownBlock ≠ some vb) (i : Nat) (hi : i ≤ li.length) => Insert_any w' va vc li (u.rw hri (fun _ _ => id)) (by omega) hvc vb (z : Int) hb hne i hi
  rw [hll] at IN
  have hz : decide ((z : Int) ∈ li) = decide (z ∈ l) := by
    apply decide_eq_decide.2
    rw [← hli, List.mem_map]
    constructor
    · rintro ⟨k, hk, e⟩
      have : k = z := by omega
      exact this ▸ hk
    · exact fun q => ⟨z, q, rfl⟩
  rw [hz] at BS
  have HBS := hide BS
  have HIN2 := hide IN
  have HR := hide hr
  have HRI := hide hri
  have HS := hide hs
  have HLI := hide hli
  have HLL := hide hll
  have HU := hide (Upd.refl w (fun _ => False))
  clear BS IN hr hri hs hli hll hz
  by_cases hin : z ∈ l
  · simp only [hin, decide_true] at HBS
    have HIN := hide hin
    clear hin
    go_enter Try.func41, Try.ntmps41
    go_wp2_with (go_at_call 50; refine Calls.mono (HBS.out _ HU.out) ?_; rintro e w1 ⟨i, rfl, hi, hlo, hhi, u1⟩; have HU1 := hide u1; clear u1 hlo hhi)
    go_ret
    exact ⟨va, vc, l, rfl, hvc, HS.out, fun x => ⟨.inl, fun q => q.elim id (fun e => e ▸ HIN.out)⟩, HU1.out.rw HR.out (fun _ _ => id), fun k q => .inl q, HU1.out.weaken (fun _ _ => False.elim)⟩
  · simp only [hin, decide_false] at HBS
    have HIN := hide hin
    clear hin
    go_enter Try.func41, Try.ntmps41
    go_wp2_with (go_at_call 50; refine Calls.mono (HBS.out _ HU.out) ?_; rintro e w1 ⟨i, rfl, hi, hlo, hhi, u1⟩; have HU1 := hide u1; have HLO := hide hlo; have HHI := hide hhi; clear u1 hlo hhi)
    have ua : Upd w (w1.alloc (.cells #[.int .i64 (z : Int)] 3)) (fun _ => False) := HU1.out.alloc _
    refine Calls.mono (HIN2.out _ ua w1.heap.size (heap_alloc_new w1 _) (fun e => by have := HR.out.lt _ e; have := HU1.out.size; omega) i hi) ?_
    rintro e w2 ⟨a, c, rfl, hc, r2, ho, u2⟩
    have HU2 := hide (ua.weaken (T := fun k => (Value.slice va l.length vc).ownBlock = some k) (fun _ _ => False.elim) |>.then u2 (fun _ _ q => q))
    have s2 : w.heap.size ≤ (w1.alloc (.cells #[.int .i64 (z : Int)] 3)).heap.size := ua.size
    have HR2 := hide r2
    have HO := hide ho
    clear r2 ho u2 ua
    go_wp2
    go_ret
    have e1 : (l.take i ++ z :: l.drop i).length = li.length + 1 := by have := HLL.out; simp; omega
    have e2 : inCells (li.take i ++ (z : Int) :: li.drop i) = natCells (l.take i ++ z :: l.drop i) := by
      rw [← HLI.out]
      simp [natCells, List.map_take, List.map_drop]
    have r3 := HR2.out
    rw [e2] at r3
    have gl : ∀ (k x : Nat), l[k]? = some x → li[k]? = some (x : Int) := fun k x hk => by
      have e := congrArg (fun (q : List Int) => q[k]?) HLI.out
      simp only [List.getElem?_map, hk, Option.map_some] at e
      exact e.symm
    refine ⟨a, c, l.take i ++ z :: l.drop i, by rw [e1]; rfl, hc, rising_ins HS.out HIN.out (fun k x hk hki => by have := HLO.out k _ (gl k x hk) hki; omega) (fun k x hk hki => by have := HHI.out k _ (gl k x hk) hki; omega), fun x => mem_ins, by rw [e1]; exact r3, fun k hk => ?_, HU2.out⟩
    rw [e1] at hk
    rcases HO.out k hk with q | q
    · exact .inl q
    · exact .inr (Nat.le_trans s2 q)
end Go.Proofs.Ytnhggncpebifhaa
