/- Plain law: a set that grows round by round is closed after as many rounds as there are places. -/
import Derived.Test.YtcdimledeomahaaLib
set_option maxRecDepth 100000
namespace Go.Lat

def cnt : Nat → (Nat → Bool) → Nat
  | 0, _ => 0
  | n + 1, v => cnt n v + (if v n then 1 else 0)
theorem cnt_le (n : Nat) (v : Nat → Bool) : cnt n v ≤ n := by
  induction n with
  | zero => simp [cnt]
  | succ n ih => simp only [cnt]; split <;> omega
theorem cnt_mono (n : Nat) (u v : Nat → Bool) (h : ∀ j, j < n → u j = true → v j = true) : cnt n u ≤ cnt n v := by
  induction n with
  | zero => simp [cnt]
  | succ n ih =>
    have := ih (fun j hj => h j (by omega))
    simp only [cnt]
    by_cases hu : u n = true
    · rw [if_pos hu, if_pos (h n (by omega) hu)]; omega
    · rw [if_neg hu]
      split <;> omega
theorem cnt_lt (n : Nat) (u v : Nat → Bool) (h : ∀ j, j < n → u j = true → v j = true) (k : Nat) (hk : k < n) (hu : u k = false) (hv : v k = true) : cnt n u < cnt n v := by
  induction n with
  | zero => omega
  | succ n ih =>
    simp only [cnt]
    by_cases e : k = n
    · subst e
      have := cnt_mono k u v (fun j hj => h j (by omega))
      simp [hu, hv]
      omega
    · have h1 := ih (fun j hj => h j (by omega)) (by omega)
      by_cases hn : u n = true
      · rw [if_pos hn, if_pos (h n (by omega) hn)]; omega
      · rw [if_neg hn]
        split <;> omega

def iter (P : (Nat → Bool) → Nat → Bool) : Nat → (Nat → Bool) → Nat → Bool
  | 0, v => v
  | r + 1, v => P (iter P r v)

/-- Base and edges: what the set must hold. -/
def Closed (n : Nat) (B : Nat → Prop) (E : Nat → Nat → Prop) (v : Nat → Bool) : Prop := (∀ k, k < n → B k → v k = true) ∧ ∀ i k, i < n → k < n → v i = true → E i k → v k = true

theorem iter_closed (n : Nat) (B : Nat → Prop) (E : Nat → Nat → Prop) (P : (Nat → Bool) → Nat → Bool) (mono : ∀ v j, j < n → v j = true → P v j = true) (base : ∀ v k, k < n → B k → P v k = true) (add : ∀ v i k, i < n → k < n → v i = true → E i k → P v k = true)
    (keep : ∀ v, Closed n B E v → ∀ j, j < n → P v j = true → v j = true) (v0 : Nat → Bool) (r : Nat) (hr : n < cnt n v0 + r) : Closed n B E (iter P r v0) := by
  have main : ∀ r, Closed n B E (iter P r v0) ∨ cnt n v0 + r ≤ cnt n (iter P r v0) := by
    intro r
    induction r with
    | zero => exact .inr (by simp [iter])
    | succ r ih =>
      by_cases hc : Closed n B E (iter P r v0)
      · exact .inl ⟨fun k hk hB => base _ k hk hB, fun i k hi hk hv hE => add _ i k hi hk (keep _ hc i hi hv) hE⟩
      · rcases ih with h | h
        · exact absurd h hc
        · refine .inr ?_
          have hnew : ∃ k, k < n ∧ iter P r v0 k = false ∧ P (iter P r v0) k = true := by
            apply Classical.byContradiction
            intro hno
            apply hc
            refine ⟨fun k hk hB => ?_, fun i k hi hk hv hE => ?_⟩
            · cases hv : iter P r v0 k with
              | true => rfl
              | false => exact absurd ⟨k, hk, hv, base _ k hk hB⟩ hno
            · cases hv' : iter P r v0 k with
              | true => rfl
              | false => exact absurd ⟨k, hk, hv', add _ i k hi hk hv hE⟩ hno
          obtain ⟨k, hk, h1, h2⟩ := hnew
          have := cnt_lt n (iter P r v0) (P (iter P r v0)) (fun j hj hv => mono _ j hj hv) k hk h1 h2
          simp only [iter]
          omega
  rcases main r with h | h
  · exact h
  · have := cnt_le n (iter P r v0)
    omega

/-- What is in the set is in every set that is closed and holds the start. -/
theorem iter_sound (n : Nat) (P : (Nat → Bool) → Nat → Bool) (S : Nat → Prop) (sound : ∀ v, (∀ j, j < n → v j = true → S j) → ∀ j, j < n → P v j = true → S j) (v0 : Nat → Bool) (h0 : ∀ j, j < n → v0 j = true → S j) (r : Nat) : ∀ j, j < n → iter P r v0 j = true → S j := by
  induction r with
  | zero => exact h0
  | succ r ih => exact sound _ ih
end Go.Lat
