/- Plain laws on digits: a number's digits, the lowest first. -/
import Derived.Test.YtckpomcenkgekaaDoorLib
namespace Go.Lat

/-- What a list of places stands for. -/
def val : List Nat → Nat
  | [] => 0
  | d :: l => d + 10 * val l
/-- The digits of a number, the lowest first; none of 0. -/
def dg (n : Nat) : List Nat := if h : n = 0 then [] else n % 10 :: dg (n / 10)
termination_by n
decreasing_by omega

theorem dg_zero : dg 0 = [] := by rw [dg]; simp
theorem dg_pos {n : Nat} (h : n ≠ 0) : dg n = n % 10 :: dg (n / 10) := by rw [dg, dif_neg h]
theorem val_dg (n : Nat) : val (dg n) = n := by
  induction n using Nat.strongRecOn with
  | ind n ih =>
    by_cases h : n = 0
    · subst h; rw [dg_zero]; rfl
    · rw [dg_pos h]
      simp only [val]
      rw [ih (n / 10) (by omega)]
      omega

/-- Digits, and no nought above. -/
def Norm (l : List Nat) : Prop := (∀ d ∈ l, d < 10) ∧ ∀ h : l ≠ [], l.getLast h ≠ 0

theorem dg_norm (n : Nat) : Norm (dg n) := by
  induction n using Nat.strongRecOn with
  | ind n ih =>
    by_cases h : n = 0
    · subst h; rw [dg_zero]; exact ⟨by simp, fun h => absurd rfl h⟩
    · obtain ⟨h1, h2⟩ := ih (n / 10) (by omega)
      rw [dg_pos h]
      refine ⟨?_, fun _ => ?_⟩
      · intro d hd
        rcases List.mem_cons.1 hd with e | e
        · subst e; omega
        · exact h1 d e
      · by_cases h3 : n / 10 = 0
        · simp only [h3, dg_zero, List.getLast_singleton]
          omega
        · have hne : dg (n / 10) ≠ [] := by rw [dg_pos h3]; simp
          rw [List.getLast_cons hne]
          exact h2 hne

theorem val_append (a b : List Nat) : val (a ++ b) = val a + 10 ^ a.length * val b := by
  induction a with
  | nil => simp [val]
  | cons d l ih =>
    simp only [List.cons_append, val, ih, List.length_cons, Nat.pow_succ]
    rw [Nat.mul_add, Nat.mul_comm (10 ^ l.length) 10, Nat.mul_assoc, ← Nat.add_assoc]
theorem val_lt (l : List Nat) (h : ∀ d ∈ l, d < 10) : val l < 10 ^ l.length := by
  induction l with
  | nil => simp [val]
  | cons d l ih =>
    have h1 := ih (fun x hx => h x (by simp [hx]))
    have h2 := h d (by simp)
    simp only [val, List.length_cons, Nat.pow_succ]
    omega

/-- Digits without noughts above are told by what they stand for. -/
theorem norm_dg : ∀ (l : List Nat), Norm l → l = dg (val l)
  | [], _ => by simp [val, dg_zero]
  | d :: l, h => by
    have hd : d < 10 := h.1 d (by simp)
    have hn : Norm l := by
      refine ⟨fun x hx => h.1 x (by simp [hx]), fun hne => ?_⟩
      have := h.2 (by simp)
      rwa [List.getLast_cons hne] at this
    have ih := norm_dg l hn
    have hv : d + 10 * val l ≠ 0 := by
      intro h0
      have hv0 : val l = 0 := by omega
      have hl : l = [] := by rw [ih, hv0, dg_zero]
      subst hl
      have := h.2 (by simp)
      simp at this
      omega
    simp only [val]
    rw [dg_pos hv, show (d + 10 * val l) % 10 = d from by omega, show (d + 10 * val l) / 10 = val l from by omega, ← ih]

theorem dg_len_lt {a b : Nat} (h : (dg a).length < (dg b).length) : a < b := by
  have h1 := val_lt (dg a) (dg_norm a).1
  rw [val_dg] at h1
  have hb : b ≠ 0 := by intro e; subst e; rw [dg_zero] at h; simp at h
  have h2 : 10 ^ ((dg b).length - 1) ≤ b := by
    clear h h1
    induction b using Nat.strongRecOn with
    | ind n ih =>
      rw [dg_pos hb]
      by_cases h3 : n / 10 = 0
      · rw [h3, dg_zero]; simp; omega
      · have := ih (n / 10) (by omega) h3
        have hl : 1 ≤ (dg (n / 10)).length := by rw [dg_pos h3]; simp
        simp only [List.length_cons, Nat.add_sub_cancel]
        have e : 10 ^ (dg (n / 10)).length = 10 * 10 ^ ((dg (n / 10)).length - 1) := by
          rw [← Nat.pow_succ']; congr 1; omega
        omega
  have h3 : 10 ^ (dg a).length ≤ 10 ^ ((dg b).length - 1) := Nat.pow_le_pow_right (by omega) (by omega)
  omega

theorem dg_len (n k : Nat) (h : n < 10 ^ k) : (dg n).length ≤ k := by
  induction n using Nat.strongRecOn generalizing k with
  | ind n ih =>
    by_cases h0 : n = 0
    · subst h0; rw [dg_zero]; simp
    · rw [dg_pos h0]
      cases k with
      | zero => simp at h; omega
      | succ k =>
        have := ih (n / 10) (by omega) k (by rw [Nat.pow_succ] at h; omega)
        simp; omega

theorem drop_getD (l : List Nat) (j : Nat) (hj : j < l.length) : l.drop j = l.getD j 0 :: l.drop (j + 1) := by
  rw [List.drop_eq_getElem_cons hj, List.getD_eq_getElem?_getD, List.getElem?_eq_getElem hj]
  rfl

theorem val_split (l : List Nat) (j : Nat) (hj : j < l.length) : val l = val (l.take j) + 10 ^ j * (l.getD j 0 + 10 * val (l.drop (j + 1))) := by
  have e : l = l.take j ++ (l.getD j 0 :: l.drop (j + 1)) := by
    have h1 : l.drop j = l.getD j 0 :: l.drop (j + 1) := by
      rw [List.drop_eq_getElem_cons hj, List.getD_eq_getElem?_getD, List.getElem?_eq_getElem hj]
      rfl
    rw [← h1, List.take_append_drop]
  have h2 := congrArg val e
  rw [val_append, List.length_take, Nat.min_eq_left (by omega)] at h2
  exact h2

/-- The first place from above at which two lists differ tells which is less. -/
theorem val_cmp (a b : List Nat) (j : Nat) (ha : ∀ d ∈ a, d < 10) (hb : ∀ d ∈ b, d < 10) (hla : j < a.length) (hlb : j < b.length) (hd : a.drop (j + 1) = b.drop (j + 1)) (hne : a.getD j 0 ≠ b.getD j 0) :
    val a < val b ↔ a.getD j 0 < b.getD j 0 := by
  have h1 := val_lt (a.take j) (fun d h => ha d (List.mem_of_mem_take h))
  have h2 := val_lt (b.take j) (fun d h => hb d (List.mem_of_mem_take h))
  rw [List.length_take, Nat.min_eq_left (by omega)] at h1 h2
  rw [val_split a j hla, val_split b j hlb, hd]
  generalize val (a.take j) = x at *
  generalize val (b.take j) = y at *
  generalize a.getD j 0 = u at *
  generalize b.getD j 0 = v at *
  generalize 10 * val (b.drop (j + 1)) = z at *
  generalize 10 ^ j = P at *
  constructor
  · intro h
    rcases Nat.lt_trichotomy u v with c | c | c
    · exact c
    · exact absurd c hne
    · have := Nat.mul_le_mul_left P (show v + z + 1 ≤ u + z by omega)
      rw [Nat.mul_add] at this
      omega
  · intro h
    have := Nat.mul_le_mul_left P (show u + z + 1 ≤ v + z by omega)
    rw [Nat.mul_add] at this
    omega

/-- Of normal lists the longer one is more. -/
theorem val_len_lt (a b : List Nat) (ha : Norm a) (hb : Norm b) (h : a.length < b.length) : val a < val b := by
  refine dg_len_lt ?_
  rw [← norm_dg a ha, ← norm_dg b hb]
  exact h
end Go.Lat
