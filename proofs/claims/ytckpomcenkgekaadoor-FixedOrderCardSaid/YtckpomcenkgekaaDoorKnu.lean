/- Plain laws on the division of two words by one, in two steps of half a word. -/
import Derived.Test.YtckpomcenkgekaaDoorLib
import Derived.Laws.BitsAllLaws
set_option maxRecDepth 100000
namespace Go.Lat

theorem kn_start (y1 y0 u d : Nat) (hy1 : 4294967296 ≤ 2 * y1) (h0 : y0 < 4294967296) (hd : d < 4294967296) (hu : u < y1 * 4294967296 + y0) :
    (u * 4294967296 + d) / (y1 * 4294967296 + y0) ≤ u / y1 ∧ u / y1 ≤ 4294967297 := by
  constructor
  · have h := Nat.div_mul_le_self (u * 4294967296 + d) (y1 * 4294967296 + y0)
    generalize (u * 4294967296 + d) / (y1 * 4294967296 + y0) = Q at *
    rw [Nat.le_div_iff_mul_le (by omega)]
    rw [Nat.mul_add, ← Nat.mul_assoc] at h
    generalize Q * y1 = X at *
    generalize Q * y0 = Z at *
    omega
  · have : u / y1 < 4294967298 := by
      rw [Nat.div_lt_iff_lt_mul (by omega)]
      omega
    omega

theorem kn_test (y1 y0 u d q r : Nat) (h : q * y1 + r = u) : q * (y1 * 4294967296 + y0) ≤ u * 4294967296 + d ↔ q * y0 ≤ 4294967296 * r + d := by
  rw [Nat.mul_add, ← Nat.mul_assoc]
  generalize q * y1 = X at *
  generalize q * y0 = Z at *
  omega

theorem kn_more (y1 y0 u d q r : Nat) (h : q * y1 + r = u) (hd : d < 4294967296) (hu : u < y1 * 4294967296 + y0) (ht : 4294967296 ≤ q ∨ 4294967296 * r + d < q * y0) :
    (u * 4294967296 + d) / (y1 * 4294967296 + y0) < q := by
  rw [Nat.div_lt_iff_lt_mul (by omega)]
  rcases ht with ht | ht
  · have h1 := Nat.mul_le_mul_right (y1 * 4294967296 + y0) ht
    omega
  · have := (kn_test y1 y0 u d q r h)
    omega

theorem kn_done (y1 y0 u d q r : Nat) (h : q * y1 + r = u) (hu : u < y1 * 4294967296 + y0) (ht : q * y0 ≤ 4294967296 * r + d) (hQ : (u * 4294967296 + d) / (y1 * 4294967296 + y0) ≤ q) :
    q = (u * 4294967296 + d) / (y1 * 4294967296 + y0) := by
  refine Nat.le_antisymm ?_ hQ
  rw [Nat.le_div_iff_mul_le (by omega)]
  exact (kn_test y1 y0 u d q r h).2 ht

theorem kn_break (y0 q r d : Nat) (h0 : y0 < 4294967296) (hq : q ≤ 4294967296) (hr : 4294967296 ≤ r) : q * y0 ≤ 4294967296 * r + d := by
  have := Nat.mul_le_mul_right y0 hq
  omega

/-- Two steps of half a word. -/
theorem kn_two (Y N d0 : Nat) (hY : 0 < Y) : (N * 4294967296 + d0) / Y = N / Y * 4294967296 + (N % Y * 4294967296 + d0) / Y ∧ (N * 4294967296 + d0) % Y = (N % Y * 4294967296 + d0) % Y := by
  have h1 := Nat.div_add_mod N Y
  obtain ⟨Q, hQ⟩ : ∃ Q, N / Y = Q := ⟨_, rfl⟩
  obtain ⟨R, hR⟩ : ∃ R, N % Y = R := ⟨_, rfl⟩
  rw [hQ, hR] at h1 ⊢
  have e : N * 4294967296 + d0 = R * 4294967296 + d0 + Y * (Q * 4294967296) := by
    rw [← h1, ← Nat.mul_assoc]
    obtain ⟨X, hX⟩ : ∃ X, Y * Q = X := ⟨_, rfl⟩
    rw [hX]
    omega
  rw [e]
  constructor
  · rw [Nat.add_mul_div_left _ _ hY]
    omega
  · rw [Nat.add_mul_mod_self_left]

/-- What is moved left. -/
theorem kn_norm (h l z S T : Nat) (hST : S * T = 18446744073709551616) (hz : h < z) (hl : l < 18446744073709551616) :
    (h * 18446744073709551616 + l) * S = (h * S + l / T) * 18446744073709551616 + l * S % 18446744073709551616 ∧ h * S + l / T < z * S ∧ l / T < S := by
  have hT : 0 < T := by rcases Nat.eq_zero_or_pos T with e | e; · subst e; simp at hST
                        · exact e
  have hS : 0 < S := by rcases Nat.eq_zero_or_pos S with e | e; · subst e; simp at hST
                        · exact e
  have hLS : l / T < S := by rw [Nat.div_lt_iff_lt_mul hT, hST]; exact hl
  have h1 := Nat.div_add_mod l T
  have h2 := Nat.mod_lt l hT
  have h3 : l * S = l / T * 18446744073709551616 + l % T * S := by
    conv => lhs; rw [← h1]
    rw [Nat.add_mul, Nat.mul_comm T, Nat.mul_assoc, Nat.mul_comm T S, hST]
  have h4 : l % T * S < 18446744073709551616 := by
    rw [← hST, Nat.mul_comm S]
    exact Nat.mul_lt_mul_of_pos_right h2 hS
  refine ⟨?_, ?_, hLS⟩
  · rw [h3, Nat.add_comm (l / T * _), Nat.add_mul_mod_self_right, Nat.mod_eq_of_lt h4, Nat.add_mul, h3, Nat.add_mul, Nat.mul_assoc, Nat.mul_comm _ S, ← Nat.mul_assoc]
    omega
  · have := Nat.mul_le_mul_right S (show h + 1 ≤ z by omega)
    rw [Nat.add_mul] at this
    omega

theorem kn_back (M z S : Nat) (hS : 0 < S) : M * S / (z * S) = M / z ∧ M * S % (z * S) / S = M % z := by
  refine ⟨Nat.mul_div_mul_right _ _ hS, ?_⟩
  rw [Nat.mul_mod_mul_right, Nat.mul_div_cancel _ hS]
end Go.Lat
