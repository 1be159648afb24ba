/- Plain laws on digits: a place is added to, a carry is made, noughts above are struck. -/
import Derived.Test.YtckpomcenkgekaaDoorDigL
namespace Go.Lat

theorem val_set (l : List Nat) (j x : Nat) (hj : j < l.length) : val (l.set j (l.getD j 0 + x)) = val l + x * 10 ^ j := by
  induction l generalizing j with
  | nil => simp at hj
  | cons d l ih =>
    cases j with
    | zero => simp [val]; omega
    | succ j =>
      have := ih j (by simpa using hj)
      simp only [List.set_cons_succ, List.getD_cons_succ, val, this, Nat.pow_succ]
      rw [Nat.mul_add, Nat.mul_comm (10 ^ j) 10, Nat.mul_left_comm]
      omega

theorem val_take_succ (l : List Nat) (j : Nat) (hj : j < l.length) : val (l.take (j + 1)) = val (l.take j) + l.getD j 0 * 10 ^ j := by
  have e : l.take (j + 1) = l.take j ++ [l.getD j 0] := by
    rw [List.take_add_one, List.getElem?_eq_getElem hj, List.getD_eq_getElem?_getD, List.getElem?_eq_getElem hj]
    rfl
  rw [e, val_append, List.length_take, Nat.min_eq_left (by omega)]
  simp only [val]
  rw [Nat.mul_zero, Nat.add_zero, Nat.mul_comm]

theorem mem_set_le (l : List Nat) (j x B : Nat) (h : ∀ d ∈ l, d ≤ B) (hx : x ≤ B) : ∀ d ∈ l.set j x, d ≤ B := by
  intro d hd
  rcases List.mem_or_eq_of_mem_set hd with e | e
  · exact h d e
  · omega

theorem getD_set (l : List Nat) (j k x : Nat) (hj : j < l.length) : (l.set j x).getD k 0 = if k = j then x else l.getD k 0 := by
  rw [List.getD_eq_getElem?_getD, List.getD_eq_getElem?_getD, List.getElem?_set]
  by_cases h : j = k
  · subst h; simp [hj]
  · rw [if_neg h, if_neg (fun e => h e.symm)]

/-- The carry at place i. -/
theorem val_carry (l : List Nat) (i : Nat) (hi : i + 1 < l.length) :
    val ((l.set (i + 1) (l.getD (i + 1) 0 + l.getD i 0 / 10)).set i (l.getD i 0 % 10)) = val l := by
  induction l generalizing i with
  | nil => simp at hi
  | cons d l ih =>
    cases i with
    | zero =>
      cases l with
      | nil => simp at hi
      | cons e l =>
        simp [val]
        omega
    | succ i =>
      have := ih i (by simpa using hi)
      simp only [List.set_cons_succ, List.getD_cons_succ, val, this]

theorem val_zero (l : List Nat) (h : ∀ d ∈ l, d = 0) : val l = 0 := by
  induction l with
  | nil => rfl
  | cons d l ih =>
    have h1 := h d (by simp)
    have h2 := ih (fun x hx => h x (by simp [hx]))
    simp [val, h1, h2]

theorem getD_mem (l : List Nat) (j : Nat) (hj : j < l.length) : l.getD j 0 ∈ l := by
  rw [List.getD_eq_getElem?_getD, List.getElem?_eq_getElem hj]
  exact List.getElem_mem hj

/-- Of places that are struck from above, what is left. -/
theorem val_strike (l : List Nat) (m : Nat) (hz : ∀ j, m ≤ j → j < l.length → l.getD j 0 = 0) : val (l.take m) = val l := by
  conv => rhs; rw [← List.take_append_drop m l]
  rw [val_append]
  have : val (l.drop m) = 0 := by
    refine val_zero _ (fun d hd => ?_)
    obtain ⟨k, hk, e⟩ := List.mem_iff_getElem.1 hd
    rw [List.length_drop] at hk
    have h1 := hz (m + k) (by omega) (by omega)
    rw [List.getD_eq_getElem?_getD, List.getElem?_eq_getElem (by omega)] at h1
    simp at h1
    rw [← e, List.getElem_drop]
    exact h1
  rw [this, Nat.mul_zero, Nat.add_zero]

theorem norm_strike (l : List Nat) (m : Nat) (hm : m ≤ l.length) (h10 : ∀ d ∈ l, d < 10) (hl : m = 0 ∨ l.getD (m - 1) 0 ≠ 0) : Norm (l.take m) := by
  refine ⟨fun d hd => h10 d (List.mem_of_mem_take hd), fun hne => ?_⟩
  have h0 : m ≠ 0 := by intro e; subst e; simp at hne
  rcases hl with h | h
  · exact absurd h h0
  · rw [List.getLast_eq_getElem, List.getElem_take]
    simp only [List.length_take, Nat.min_eq_left hm]
    rw [List.getD_eq_getElem?_getD, List.getElem?_eq_getElem (by omega)] at h
    simpa using h

/-- The place above all is 0 if what is stood for is less. -/
theorem top_zero (l : List Nat) (n : Nat) (hl : l.length = n + 1) (h : val l < 10 ^ n) : l.getD n 0 = 0 := by
  have := val_split l n (by omega)
  rcases Nat.eq_zero_or_pos (l.getD n 0) with e | e
  · exact e
  · have h2 := Nat.mul_le_mul_left (10 ^ n) (show 1 ≤ l.getD n 0 + 10 * val (l.drop (n + 1)) by omega)
    omega
end Go.Lat
