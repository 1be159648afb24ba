/- A map of numbers and their places; what an order's numbers are. -/
import Derived.Test.YtnhggncpebifhaaGtH
import Derived.Test.YtnhggncpebifhaaMaps
set_option maxRecDepth 100000
namespace Go.Lat
open Go.Maps (Keyed)
theorem look_ok_held {P : Program} {k t e : TypeId} {w : World} {b n : Nat} {D : DataW Value} {key : Value} {kl : Lit} (h : w.ownsMap P k heldElem b n D) (K : Keyed P k) (ht : P.underlying t = some (.map k e)) {z v : Value} (hz : (zeroValue e).run P w = .ok z w) (hkey : keyOf P k key = some kl) (hv : D.atKey kl (.held z) = .held v) {q : Bool} (hq : Maps.has D kl = q) :
    (Instr.lookup t (.map (some b)) key true).run P w = .ok (.tuple #[v, .bool q]) w := by
  obtain ⟨v', ps, hrun, hr⟩ := h.look_ok K ht hz (zd := .held z) (zp := []) rfl hkey
  unfold heldElem at hr
  have h1 := congrArg Prod.fst (Option.some.inj hr)
  rw [hv] at h1
  cases h1
  rw [← hq]
  exact hrun
theorem own_upd {P : Program} {k : TypeId} {w w' : World} {b n : Nat} {D : DataW Value} {S : Nat → Prop} (h : w.ownsMap P k heldElem b n D) (u : Upd w w' S) (hS : ¬ S b) : w'.ownsMap P k heldElem b n D := by
  obtain ⟨es, clock, hb, F⟩ := h
  exact ⟨es, clock, u.get hb hS, F⟩
end Go.Lat
namespace Go.Proofs.Ytnhggncpebifhaa
open Go.RowKit Go.Lat Go.Tarjan
theorem intK : Go.Maps.Keyed Try.prog 3 := Go.Maps.int_keyed Try.underlying3
theorem zeroI (w : World) : (zeroValue 3).run Try.prog w = .ok (.int .i64 0) w := by kernel_rfl
theorem int_key {x : Int} (h : -9223372036854775808 ≤ x ∧ x ≤ 9223372036854775807) : keyOf Try.prog 3 (.int .i64 x) = some (.int .i64 x) :=
  Go.Maps.keyOf_int_mk Try.underlying3 (by
    have h1 : IntKind.i64.min = -9223372036854775808 := rfl
    have h2 : IntKind.i64.max = 9223372036854775807 := rfl
    simp only [Lit.wf, Bool.and_eq_true, decide_eq_true_eq]
    omega)
theorem isKey_int (x : Int) : WideAt.IsKeyLit (.int .i64 x) := trivial
/-- A map of the first numbers of a list to their places. -/
structure AtR (w : World) (b n : Nat) (D : DataW Value) (R : List Nat) (i : Nat) : Prop where
  m : w.ownsMap Try.prog 3 heldElem b n D
  has : ∀ x : Int, Maps.has D (.int .i64 x) = true → ∃ j : Nat, j < i ∧ ∃ k : Nat, R[j]? = some k ∧ x = k ∧ D.atKey (.int .i64 x) (.held (.int .i64 0)) = .held (.int .i64 (j : Int))
theorem AtR.made (w : World) (R : List Nat) : AtR (w.alloc (.map #[] 0)) w.heap.size 0 (.map []) R 0 :=
  ⟨World.ownsMap_made w Try.prog 3 heldElem, fun x h => by simp [Maps.has] at h⟩
theorem AtR.upd {w w' : World} {b n : Nat} {D : DataW Value} {R : List Nat} {i : Nat} {S : Nat → Prop} (h : AtR w b n D R i) (u : Upd w w' S) (hb : ¬ S b) : AtR w' b n D R i := ⟨own_upd h.m u hb, h.has⟩
theorem AtR.put {w w' : World} {b n m : Nat} {D : DataW Value} {R : List Nat} {i k : Nat} (h : AtR w b n D R i) (hk : R[i]? = some k) (hm : w'.ownsMap Try.prog 3 heldElem b m (D.put (.int .i64 (k : Int)) (.held (.int .i64 (i : Int))))) :
    AtR w' b m (D.put (.int .i64 (k : Int)) (.held (.int .i64 (i : Int)))) R (i + 1) := by
  have hD := h.m.isMap
  refine ⟨hm, fun x hx => ?_⟩
  by_cases e : x = k
  · subst e
    exact ⟨i, by omega, k, hk, rfl, Go.Maps.atKey_put_same hD (isKey_int _) _ _⟩
  · have ne : (Lit.int .i64 x) ≠ (Lit.int .i64 (k : Int)) := fun z => e (by injection z)
    rw [Go.Maps.has_put_other ne] at hx
    obtain ⟨j, h1, k2, h2, h3, h4⟩ := h.has x hx
    exact ⟨j, by omega, k2, h2, h3, by rw [Go.Maps.atKey_put_other ne]; exact h4⟩
/-- What the map says of a number. -/
theorem AtR.look {w : World} {b n : Nat} {D : DataW Value} {R : List Nat} {i : Nat} (h : AtR w b n D R i) (x : Int) :
    ∃ (z : Int) (q : Bool), D.atKey (.int .i64 x) (.held (.int .i64 0)) = .held (.int .i64 z) ∧ Maps.has D (.int .i64 x) = q ∧ (q = true → ∃ j : Nat, z = j ∧ j < i ∧ ∃ k : Nat, R[j]? = some k ∧ x = k) := by
  cases hq : Maps.has D (.int .i64 x) with
  | true =>
    obtain ⟨j, h1, k, h2, h3, h4⟩ := h.has x hq
    exact ⟨j, true, h4, rfl, fun _ => ⟨j, rfl, h1, k, h2, h3⟩⟩
  | false => exact ⟨0, false, Go.Maps.atKey_of_not_has hq _, rfl, fun z => by cases z⟩

theorem filter_both {α : Type} (p : α → Bool) : ∀ l : List α, (l.filter p).length + (l.filter (fun x => !p x)).length = l.length
  | [] => rfl
  | x :: l => by
    have := filter_both p l
    cases h : p x <;> simp [h] <;> omega
/-- All the numbers below. -/
def allI (n : Nat) : List Int := (List.range n).map (fun (k : Nat) => (k : Int))
def ordA (n : Nat) (E : Nat → Nat → Bool) : List Nat := ordF n (fun k => decide ((k : Int) ∈ allI n) && !wrun E n k k) (wrun E n) (n + 1) []
theorem mem_allI {n k : Nat} (h : k < n) : decide ((k : Int) ∈ allI n) = true := by
  simp only [allI, decide_eq_true_eq, List.mem_map, List.mem_range]
  exact ⟨k, h, rfl⟩
theorem ordNil {n : Nat} {inn : Nat → Bool} {c : Nat → Nat → Bool} : OrdOk n inn c [] := ⟨List.nodup_nil, by simp, by simp⟩
theorem ordA_ok (n : Nat) (E : Nat → Nat → Bool) : OrdOk n (fun k => decide ((k : Int) ∈ allI n) && !wrun E n k k) (wrun E n) (ordA n E) :=
  ordF_ok ordNil
theorem ordA_mem {n : Nat} {E : Nat → Nat → Bool} (k : Nat) : k ∈ ordA n E ↔ k < n ∧ wrun E n k k = false := by
  have hok := ordA_ok n E
  constructor
  · intro h
    obtain ⟨h1, h2⟩ := hok.lt k h
    rw [mem_allI h1] at h2
    exact ⟨h1, by simpa using h2⟩
  · rintro ⟨h1, h2⟩
    have he : nextB n (fun k => decide ((k : Int) ∈ allI n) && !wrun E n k k) (wrun E n) (ordA n E) = none :=
      ordF_end ordNil (by simp)
    refine all_out he (fun i hi h => ?_) (fun i j k hi hj hk a b => ?_) k h1 (by rw [mem_allI h1, h2]; rfl)
    · rw [mem_allI hi] at h
      simpa using h
    · rw [wrun_iff hi hj] at a
      rw [wrun_iff hj hk] at b
      rw [wrun_iff hi hk]
      exact .trans a b
theorem ordA_len (n : Nat) (E : Nat → Nat → Bool) : (ordA n E).length + (rowE n (fun i => wrun E n i i)).length = n := by
  have hp : (ordA n E).Perm ((List.range n).filter (fun k => !wrun E n k k)) := by
    rw [List.perm_ext_iff_of_nodup (ordA_ok n E).nd (List.Pairwise.filter _ List.nodup_range)]
    intro k
    rw [ordA_mem]
    simp
  have h1 := hp.length_eq
  have h2 := filter_both (fun k => wrun E n k k) (List.range n)
  rw [List.length_range] at h2
  unfold rowE
  omega
theorem ordA_dep {n : Nat} {E : Nat → Nat → Bool} {i j k t : Nat} (hi : (ordA n E)[i]? = some k) (hj : (ordA n E)[j]? = some t) (he : E k t = true) : j < i := by
  have hok := ordA_ok n E
  obtain ⟨li, ei⟩ := List.getElem?_eq_some_iff.1 hi
  obtain ⟨lj, ej⟩ := List.getElem?_eq_some_iff.1 hj
  obtain ⟨k1, -⟩ := (ordA_mem k).1 (ei ▸ List.getElem_mem li)
  have ht : t ∈ ordA n E := ej ▸ List.getElem_mem lj
  obtain ⟨t1, t2⟩ := (ordA_mem t).1 ht
  have hs : ordA n E = (ordA n E).take i ++ k :: (ordA n E).drop (i + 1) := by
    rw [← ei, ← List.drop_eq_getElem_cons li, List.take_append_drop]
  have hm := hok.dep _ _ k hs t t1 (hok.lt t ht).2 ((wrun_iff k1 t1).2 (.edge k1 t1 he))
  obtain ⟨j2, l2, e2⟩ := List.mem_iff_getElem.1 hm
  rw [List.getElem_take] at e2
  have lj2 : j2 < i := by
    rw [List.length_take] at l2
    omega
  have : j2 = j := (List.getElem?_inj (by omega) hok.nd).1 (by rw [hj, List.getElem?_eq_getElem (by omega), e2])
  omega
theorem ordA_once {n : Nat} {E : Nat → Nat → Bool} {i j k : Nat} (hi : (ordA n E)[i]? = some k) (hj : (ordA n E)[j]? = some k) : j = i := by
  obtain ⟨lj, ej⟩ := List.getElem?_eq_some_iff.1 hj
  exact (List.getElem?_inj lj (ordA_ok n E).nd).1 (hj.trans hi.symm)
end Go.Proofs.Ytnhggncpebifhaa
