/- Plain laws on the digits of texts. -/
import Derived.Test.YtckpomcenkgekaaDoorDigL
import Derived.Test.YtckpomcenkgekaaDoorFNear
import Derived.Lib.ParseIntB
import Derived.Lib.CutLaws
import Derived.Lib.IndexLaws
import Derived.Lib.IndexBytes
import Derived.Lib.SlTrimSet
set_option maxRecDepth 100000
namespace Go.Lat

/-- A byte's digit; is it one? -/
def dvB (b : UInt8) : Nat := b.toNat - 48
def dgB (b : UInt8) : Bool := decide (48 ≤ b.toNat) && decide (b.toNat ≤ 57)
/-- What a text of digits stands for. -/
def dval (l : List UInt8) : Nat := val (l.reverse.map dvB)
/-- Is a text 1 to 18 digits? -/
def isD (l : List UInt8) : Bool := decide (1 ≤ l.length) && decide (l.length ≤ 18) && l.all dgB

theorem dgB_lt {b : UInt8} (h : dgB b = true) : dvB b < 10 := by
  simp [dgB] at h
  unfold dvB
  omega
theorem dval_nil : dval [] = 0 := rfl
theorem dval_append (a b : List UInt8) : dval (a ++ b) = dval a * 10 ^ b.length + dval b := by
  unfold dval
  rw [List.reverse_append, List.map_append, val_append]
  simp only [List.length_map, List.length_reverse]
  rw [Nat.mul_comm, Nat.add_comm]
theorem dval_lt (l : List UInt8) (h : l.all dgB = true) : dval l < 10 ^ l.length := by
  have := val_lt (l.reverse.map dvB) (fun d hd => by
    obtain ⟨b, hb, rfl⟩ := List.mem_map.1 hd
    exact dgB_lt (List.all_eq_true.1 h b (List.mem_reverse.1 hb)))
  simpa [dval] using this
theorem dval_one (b : UInt8) : dval [b] = dvB b := by simp [dval, val]
theorem dval_cons (b : UInt8) (l : List UInt8) : dval (b :: l) = dvB b * 10 ^ l.length + dval l := by
  have := dval_append [b] l
  rw [dval_one] at this
  exact this

theorem parse_go (M : Nat) : ∀ (l : List UInt8) (acc : Nat), l.all dgB = true → acc * 10 ^ l.length + dval l ≤ M → acc * 10 ^ l.length + dval l ≤ 9000000000000000000 → Lib.parseUintM M acc l = .ok (acc * 10 ^ l.length + dval l)
  | [], acc, _, _, _ => by simp [Lib.parseUintM, dval_nil]
  | b :: l, acc, h, h1, h2 => by
    simp only [List.all_cons, Bool.and_eq_true] at h
    have hb := h.1
    simp [dgB] at hb
    have hp : 1 ≤ 10 ^ l.length := Nat.pow_pos (by omega)
    rw [dval_cons, List.length_cons, Nat.pow_succ] at h1 h2 ⊢
    have e : acc * (10 ^ l.length * 10) + (dvB b * 10 ^ l.length + dval l) = (acc * 10 + dvB b) * 10 ^ l.length + dval l := by
      rw [Nat.add_mul, Nat.mul_assoc, Nat.mul_comm 10 (10 ^ l.length)]
      omega
    rw [e] at h1 h2 ⊢
    have hle := Nat.mul_le_mul_left (acc * 10 + dvB b) hp
    unfold Lib.parseUintM
    rw [if_pos hb]
    have ed : b.toNat - 48 = dvB b := rfl
    rw [ed, if_neg (by omega), if_neg (by omega)]
    exact parse_go M l _ h.2 h1 h2

theorem parse_digits (l : List UInt8) (h : l.all dgB = true) (h1 : 1 ≤ l.length) (h2 : l.length ≤ 18) : Lib.parseUintB 64 l = .ok (dval l) := by
  have hne : l ≠ [] := by intro e; subst e; simp at h1
  have hl := dval_lt l h
  have hp : 10 ^ l.length ≤ 10 ^ 18 := Nat.pow_le_pow_right (by omega) h2
  have e18 : (10 : Nat) ^ 18 = 1000000000000000000 := by decide
  unfold Lib.parseUintB
  rw [if_neg hne, parse_go _ l 0 h (by omega) (by omega)]
  simp

/-- Five digits of a part, noughts behind it. -/
theorem five (P : List UInt8) (h : P.all dgB = true) :
    dval ((P ++ [48, 48, 48, 48, 48]).take 5) = dval P * 100000 / 10 ^ P.length ∧ ((P ++ [48, 48, 48, 48, 48]).take 5).all dgB = true ∧ ((P ++ [48, 48, 48, 48, 48]).take 5).length = 5 := by
  have hall : (P ++ [48, 48, 48, 48, 48]).all dgB = true := by rw [List.all_append, h]; decide
  have hv : dval (P ++ [48, 48, 48, 48, 48]) = dval P * 100000 := by
    have e5 : (10 : Nat) ^ ([48, 48, 48, 48, 48] : List UInt8).length = 100000 := by decide
    rw [dval_append, show dval [48, 48, 48, 48, 48] = 0 from by decide, e5, Nat.add_zero]
  have hl : (P ++ [48, 48, 48, 48, 48]).length = P.length + 5 := by simp
  generalize P ++ [48, 48, 48, 48, 48] = Q at *
  have e := dval_append (Q.take 5) (Q.drop 5)
  rw [List.take_append_drop, List.length_drop, hl, Nat.add_sub_cancel, hv] at e
  have hd := dval_lt (Q.drop 5) (List.all_eq_true.2 fun b hb => List.all_eq_true.1 hall b (List.mem_of_mem_drop hb))
  rw [List.length_drop, hl, Nat.add_sub_cancel] at hd
  refine ⟨?_, List.all_eq_true.2 fun b hb => List.all_eq_true.1 hall b (List.mem_of_mem_take hb), by rw [List.length_take]; omega⟩
  rw [e, Nat.mul_comm, Nat.mul_add_div (Nat.pow_pos (by omega)), Nat.div_eq_of_lt hd, Nat.add_zero]
end Go.Lat
namespace Go.Proofs.YtckpomcenkgekaaDoor
open Go.Lat

theorem rnd_ten (A B : Nat) (hB : 0 < B) : rnd A B = (10 * A / B + 5) / 10 := by
  unfold rnd
  have h1 := Nat.div_add_mod A B
  have h2 := Nat.mod_lt A hB
  have e : 10 * A / B = 10 * (A / B) + 10 * (A % B) / B := by
    conv => lhs; rw [← h1]
    rw [Nat.mul_add, Nat.mul_left_comm, Nat.mul_add_div hB]
  rw [e]
  have h3 : 10 * (A % B) / B < 10 := by
    rw [Nat.div_lt_iff_lt_mul hB]
    omega
  have h4 : 2 * (A % B) < B ↔ 10 * (A % B) / B < 5 := by
    rw [Nat.div_lt_iff_lt_mul hB]
    omega
  obtain ⟨z, hz⟩ : ∃ z, 10 * (A % B) / B = z := ⟨_, rfl⟩
  obtain ⟨q, hq⟩ : ∃ q, A / B = q := ⟨_, rfl⟩
  rw [hz] at h3 h4
  rw [hz, hq]
  by_cases h : 2 * (A % B) < B
  · rw [if_pos h]
    have := h4.1 h
    omega
  · rw [if_neg h]
    have : ¬ z < 5 := fun k => h (h4.2 k)
    omega

theorem rnd_add (W A B : Nat) (hB : 0 < B) : rnd (W * B + A) B = W + rnd A B := by
  unfold rnd
  have e1 : (W * B + A) / B = W + A / B := by rw [Nat.mul_comm, Nat.mul_add_div hB]
  have e2 : (W * B + A) % B = A % B := by rw [Nat.mul_comm, Nat.mul_add_mod]
  rw [e1, e2]
  omega

/-- The two ways of reckoning a text's number. -/
theorem two_ways (W F T : Nat) (hT : 0 < T) : rnd ((W * T + F) * 10000) T = W * 10000 + (F * 100000 / T + 5) / 10 := by
  rw [Nat.add_mul, Nat.mul_right_comm, rnd_add _ _ _ hT, rnd_ten _ _ hT]
  congr 4
  omega
end Go.Proofs.YtckpomcenkgekaaDoor
