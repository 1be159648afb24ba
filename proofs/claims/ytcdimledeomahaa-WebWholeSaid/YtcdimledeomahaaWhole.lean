/- Plain law: a way from link to link, closed within the book, is a way from cell to cell by another book. -/
import Derived.Test.YtcdimledeomahaaPass
set_option maxRecDepth 100000
namespace Go.Lat

/-- Cell m of another book is read by a cell of n's book that n reads step by step. -/
def LinkN (rd : Nat → Nat → Bool) (n m : Nat) : Prop := ∃ i, i < 10 ∧ LocW rd n i ∧ m < 10 ∧ rd i m = true ∧ i % 3 ≠ m % 3
inductive RchN (rd : Nat → Nat → Bool) (n : Nat) : Nat → Prop
  | base {m : Nat} : LinkN rd n m → RchN rd n m
  | step {m k : Nat} : RchN rd n m → LinkN rd m k → RchN rd n k

theorem LocW.book {rd : Nat → Nat → Bool} {n k : Nat} (h : LocW rd n k) : n % 3 = k % 3 := by
  induction h with
  | refl => rfl
  | step _ _ _ _ hs ih => exact ih.trans hs
theorem farN_true {i k : Nat} (h : i % 3 ≠ k % 3) (w : Nat) : farN i k w = 1 := by simp [farN, h]
theorem farN_same {i k : Nat} (h : i % 3 = k % 3) (w : Nat) : farN i k w = w := by simp [farN, h]

/-- A way within the book is a way, and keeps what was on the way. -/
theorem WayW.loc {rd : Nat → Nat → Bool} {n i w : Nat} (h : WayW rd n i w) {k : Nat} (hl : LocW rd i k) : WayW rd n k w := by
  induction hl with
  | refl => exact h
  | step _ hi hk hr hs ih =>
    have := WayW.step ih hi hk hr
    rwa [farN_same hs] at this
theorem LocW.way {rd : Nat → Nat → Bool} {n i m : Nat} (hl : LocW rd n i) (hi : i < 10) (hm : m < 10) (hr : rd i m = true) (hs : i % 3 ≠ m % 3) : WayW rd n m 1 := by
  have main : ∀ {i}, LocW rd n i → i = n ∨ WayW rd n i 0 := by
    intro i h
    induction h with
    | refl => exact .inl rfl
    | @step i k h1 hi hk hr hs ih =>
      refine .inr ?_
      rcases ih with rfl | ih
      · have := WayW.one (n := i) hk hr
        rwa [farN_same hs] at this
      · have := WayW.step ih hi hk hr
        rwa [farN_same hs] at this
  rcases main hl with rfl | h
  · have := WayW.one (n := i) hm hr
    rwa [farN_true hs] at this
  · have := WayW.step h hi hm hr
    rwa [farN_true hs] at this
theorem LinkN.way {rd : Nat → Nat → Bool} {n m : Nat} (h : LinkN rd n m) : WayW rd n m 1 := by
  obtain ⟨i, hi, hl, hm, hr, hs⟩ := h
  exact hl.way hi hm hr hs
theorem RchN.way {rd : Nat → Nat → Bool} {n m : Nat} (h : RchN rd n m) : WayW rd n m 1 := by
  induction h with
  | base h => exact h.way
  | step _ hl ih =>
    obtain ⟨i, hi, hl, hm, hr, hs⟩ := hl
    have := WayW.step (ih.loc hl) hi hm hr
    rwa [farN_true hs] at this

/-- A way: within the book, or by a link and then within its book. -/
theorem WayW.cut {rd : Nat → Nat → Bool} {n k w : Nat} (hn : n < 10) (h : WayW rd n k w) : (w = 0 ∧ LocW rd n k) ∨ (w = 1 ∧ ∃ m, RchN rd n m ∧ LocW rd m k) := by
  induction h with
  | @one k hk hr =>
    by_cases hs : n % 3 = k % 3
    · rw [farN_same hs]
      exact .inl ⟨rfl, .step (.refl n) hn hk hr hs⟩
    · rw [farN_true hs]
      exact .inr ⟨rfl, k, .base ⟨n, hn, .refl n, hk, hr, hs⟩, .refl k⟩
  | @step i k w _ hi hk hr ih =>
    by_cases hs : i % 3 = k % 3
    · rw [farN_same hs]
      rcases ih with ⟨h1, h2⟩ | ⟨h1, m, h2, h3⟩
      · exact .inl ⟨h1, .step h2 hi hk hr hs⟩
      · exact .inr ⟨h1, m, h2, .step h3 hi hk hr hs⟩
    · rw [farN_true hs]
      rcases ih with ⟨_, h2⟩ | ⟨_, m, h2, h3⟩
      · exact .inr ⟨rfl, k, .base ⟨i, hi, h2, hk, hr, hs⟩, .refl k⟩
      · exact .inr ⟨rfl, k, .step h2 ⟨i, hi, h3, hk, hr, hs⟩, .refl k⟩

/-- The law. -/
theorem whole_law (rd : Nat → Nat → Bool) (n : Nat) (hn : n < 10) : (∃ m, RchN rd n m ∧ LocW rd m n) ↔ WayW rd n n 1 := by
  constructor
  · rintro ⟨m, h1, h2⟩
    exact h1.way.loc h2
  · intro h
    rcases h.cut hn with ⟨h1, _⟩ | ⟨_, m, h1, h2⟩
    · omega
    · exact ⟨m, h1, h2⟩
theorem RchN.lt {rd : Nat → Nat → Bool} {n m : Nat} (h : RchN rd n m) : m < 10 := by
  cases h with
  | base h => obtain ⟨_, _, _, h, _⟩ := h; exact h
  | step _ h => obtain ⟨_, _, _, h, _⟩ := h; exact h
end Go.Lat
