/- A heap in a row, as plain laws. No program. -/
set_option maxRecDepth 10000
namespace Go.Heapl

def HpF (f : Nat → Nat) (N : Nat) : Prop := ∀ m, 0 < m → m < N → f ((m - 1) / 2) ≤ f m
def HpUp (f : Nat → Nat) (N j : Nat) : Prop := (∀ m, 0 < m → m < N → m ≠ j → f ((m - 1) / 2) ≤ f m) ∧ (0 < j → ∀ m, 0 < m → m < N → (m - 1) / 2 = j → f ((j - 1) / 2) ≤ f m)
def HpDn (f : Nat → Nat) (n i : Nat) : Prop := (∀ m, 0 < m → m < n → (m - 1) / 2 ≠ i → f ((m - 1) / 2) ≤ f m) ∧ (0 < i → ∀ m, 0 < m → m < n → (m - 1) / 2 = i → f ((i - 1) / 2) ≤ f m)
def swapF (f : Nat → Nat) (i k : Nat) : Nat → Nat := fun x => if x = k then f i else if x = i then f k else f x
theorem swapF_k (f : Nat → Nat) (i k : Nat) : swapF f i k k = f i := by simp [swapF]
theorem swapF_i (f : Nat → Nat) (i k : Nat) : swapF f i k i = f k := by
  unfold swapF
  split
  · rename_i h; rw [h]
  · simp
theorem swapF_o (f : Nat → Nat) {i k x : Nat} (h1 : x ≠ i) (h2 : x ≠ k) : swapF f i k x = f x := by simp [swapF, h1, h2]
theorem up_done {f : Nat → Nat} {N j : Nat} (h : HpUp f N j) (hj : j = 0 ∨ f ((j - 1) / 2) ≤ f j) : HpF f N := by
  intro m h0 hm
  by_cases e : m = j
  · subst e
    exact hj.resolve_left (by omega)
  · exact h.1 m h0 hm e
theorem up_step {f : Nat → Nat} {N j p : Nat} (h : HpUp f N j) (hp : (j - 1) / 2 = p) (h0 : 0 < j) (hj : j < N) (hlt : f j < f p) : HpUp (swapF f p j) N p := by
  have hpj : p < j := by omega
  refine ⟨fun m m0 hm hmp => ?_, fun p0 m m0 hm hmp => ?_⟩
  · by_cases e : m = j
    · subst e
      rw [hp, swapF_i, swapF_k]
      omega
    · rw [swapF_o f hmp e]
      have h1 := h.1 m m0 hm e
      by_cases e2 : (m - 1) / 2 = j
      · rw [e2, swapF_k]
        have := h.2 h0 m m0 hm e2
        rw [hp] at this
        exact this
      · by_cases e3 : (m - 1) / 2 = p
        · rw [e3] at h1 ⊢
          rw [swapF_i]
          omega
        · rw [swapF_o f e3 e2]
          exact h1
  · have hpp : (p - 1) / 2 < p := by omega
    rw [swapF_o f (by omega : (p - 1) / 2 ≠ p) (by omega : (p - 1) / 2 ≠ j)]
    have h1 := h.1 p p0 (by omega) (by omega)
    by_cases e : m = j
    · subst e
      rw [swapF_k]
      exact h1
    · rw [swapF_o f (by omega) e]
      have h2 := h.1 m m0 hm e
      rw [hmp] at h2
      omega
theorem dn_done {f : Nat → Nat} {n i : Nat} (h : HpDn f n i) (hc : ∀ m, 0 < m → m < n → (m - 1) / 2 = i → f i ≤ f m) : HpF f n := by
  intro m h0 hm
  by_cases e : (m - 1) / 2 = i
  · rw [e]; exact hc m h0 hm e
  · exact h.1 m h0 hm e
theorem dn_step {f : Nat → Nat} {n i j : Nat} (h : HpDn f n i) (hj : (j - 1) / 2 = i) (j0 : 0 < j) (hjn : j < n) (hlt : f j < f i) (hle : ∀ m, 0 < m → m < n → (m - 1) / 2 = i → f j ≤ f m) : HpDn (swapF f i j) n j := by
  have hij : i < j := by omega
  refine ⟨fun m m0 hm hmj => ?_, fun _ m m0 hm hmj => ?_⟩
  · by_cases e1 : m = i
    · subst e1
      rw [swapF_i, swapF_o f (by omega : (m - 1) / 2 ≠ m) hmj]
      exact h.2 m0 j j0 hjn hj
    · by_cases e2 : m = j
      · subst e2
        rw [hj, swapF_i, swapF_k]
        omega
      · rw [swapF_o f e1 e2]
        by_cases e3 : (m - 1) / 2 = i
        · rw [e3, swapF_i]
          exact hle m m0 hm e3
        · rw [swapF_o f e3 hmj]
          exact h.1 m m0 hm e3
  · rw [hj, swapF_i, swapF_o f (by omega : m ≠ i) (by omega : m ≠ j)]
    have := h.1 m m0 hm (by omega)
    rw [hmj] at this
    exact this
theorem hp_min {f : Nat → Nat} {N : Nat} (h : HpF f N) : ∀ k m, m ≤ k → m < N → f 0 ≤ f m
  | 0, m, hk, _ => by have : m = 0 := by omega
                      rw [this]; exact Nat.le_refl _
  | k + 1, m, hk, hm => by
    by_cases e : m = 0
    · rw [e]; exact Nat.le_refl _
    · have h1 := h m (by omega) hm
      have h2 := hp_min h k ((m - 1) / 2) (by omega) (by omega)
      omega
theorem hp_push {f g : Nat → Nat} {N : Nat} (h : HpF f N) (hg : ∀ m, m < N → g m = f m) : HpUp g (N + 1) N := by
  refine ⟨fun m m0 hm hn => ?_, fun _ m _ _ hmn => by omega⟩
  rw [hg m (by omega), hg ((m - 1) / 2) (by omega)]
  exact h m m0 (by omega)
theorem hp_pop {f : Nat → Nat} {n : Nat} (h : HpF f (n + 1)) : HpDn (swapF f 0 n) n 0 := by
  refine ⟨fun m m0 hm hm0 => ?_, fun q => by omega⟩
  rw [swapF_o f (by omega : m ≠ 0) (by omega : m ≠ n), swapF_o f hm0 (by omega : (m - 1) / 2 ≠ n)]
  exact h m m0 (by omega)
theorem hp_congr {f g : Nat → Nat} {n : Nat} (h : HpF f n) (e : ∀ m, m < n → f m = g m) : HpF g n := fun m m0 hm => by
  rw [← e m hm, ← e ((m - 1) / 2) (by omega)]
  exact h m m0 hm
end Go.Heapl
