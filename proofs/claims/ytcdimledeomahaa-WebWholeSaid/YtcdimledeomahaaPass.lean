/- Plain law: one round of a closure, place by place. -/
import Derived.Test.YtcdimledeomahaaFix
set_option maxRecDepth 100000
namespace Go.Lat

def cellS (T : Nat → Nat → Nat) (e : Nat → Nat → Bool) (a k : Nat) (v : Nat → Bool) : Nat → Bool := fun j => v j || (decide (j = T a k) && v a && e a k)
def rowS (T : Nat → Nat → Nat) (e : Nat → Nat → Bool) (a : Nat) : Nat → (Nat → Bool) → Nat → Bool
  | 0, v => v
  | k + 1, v => cellS T e a k (rowS T e a k v)
def passS (T : Nat → Nat → Nat) (e : Nat → Nat → Bool) (m : Nat) : Nat → (Nat → Bool) → Nat → Bool
  | 0, v => v
  | a + 1, v => rowS T e a m (passS T e m a v)
def baseS (T : Nat → Nat) (b : Nat → Bool) : Nat → (Nat → Bool) → Nat → Bool
  | 0, v => v
  | k + 1, v => fun j => baseS T b k v j || (decide (j = T k) && b k)

section
variable {T : Nat → Nat → Nat} {e : Nat → Nat → Bool}
theorem cellS_mono (a k : Nat) (v : Nat → Bool) {j : Nat} (h : v j = true) : cellS T e a k v j = true := by simp [cellS, h]
theorem rowS_mono (a : Nat) (v : Nat → Bool) {j : Nat} (h : v j = true) (m : Nat) : rowS T e a m v j = true := by
  induction m with
  | zero => exact h
  | succ m ih => exact cellS_mono a m _ ih
theorem rowS_add (a : Nat) (v : Nat → Bool) (h : v a = true) {m k : Nat} (hk : k < m) (he : e a k = true) : rowS T e a m v (T a k) = true := by
  induction m with
  | zero => omega
  | succ m ih =>
    by_cases hkm : k = m
    · subst hkm
      simp [rowS, cellS, rowS_mono a v h k, he]
    · exact cellS_mono a m _ (ih (by omega))
theorem passS_mono (m : Nat) (v : Nat → Bool) {j : Nat} (h : v j = true) (A : Nat) : passS T e m A v j = true := by
  induction A with
  | zero => exact h
  | succ A ih => exact rowS_mono A _ ih m
theorem passS_add (m : Nat) (v : Nat → Bool) {a k A : Nat} (h : v a = true) (ha : a < A) (hk : k < m) (he : e a k = true) : passS T e m A v (T a k) = true := by
  induction A with
  | zero => omega
  | succ A ih =>
    by_cases haA : a = A
    · subst haA
      exact rowS_add a _ (passS_mono m v h a) hk he
    · exact rowS_mono A _ (ih (by omega)) m
theorem rowS_sound (S : Nat → Prop) (a : Nat) (v : Nat → Bool) (hv : ∀ j, v j = true → S j) (m : Nat) (hS : ∀ k, k < m → S a → e a k = true → S (T a k)) : ∀ j, rowS T e a m v j = true → S j := by
  induction m with
  | zero => exact hv
  | succ m ih =>
    intro j hj
    have ih' := ih (fun k hk => hS k (by omega))
    simp only [rowS, cellS, Bool.or_eq_true, Bool.and_eq_true, decide_eq_true_eq] at hj
    rcases hj with hj | ⟨⟨rfl, h1⟩, h2⟩
    · exact ih' j hj
    · exact hS m (by omega) (ih' a h1) h2
theorem passS_sound (S : Nat → Prop) (m : Nat) (v : Nat → Bool) (hv : ∀ j, v j = true → S j) (A : Nat) (hS : ∀ a k, a < A → k < m → S a → e a k = true → S (T a k)) : ∀ j, passS T e m A v j = true → S j := by
  induction A with
  | zero => exact hv
  | succ A ih => exact rowS_sound S A _ (ih (fun a k ha => hS a k (by omega))) m (fun k hk => hS A k (by omega) hk)
theorem baseS_mono {T0 : Nat → Nat} {b : Nat → Bool} (v : Nat → Bool) {j : Nat} (h : v j = true) (m : Nat) : baseS T0 b m v j = true := by
  induction m with
  | zero => exact h
  | succ m ih => simp [baseS, ih]
theorem baseS_add {T0 : Nat → Nat} {b : Nat → Bool} (v : Nat → Bool) {m k : Nat} (hk : k < m) (hb : b k = true) : baseS T0 b m v (T0 k) = true := by
  induction m with
  | zero => omega
  | succ m ih =>
    by_cases hkm : k = m
    · subst hkm
      simp [baseS, hb]
    · simp [baseS, ih (by omega)]
theorem baseS_sound {T0 : Nat → Nat} {b : Nat → Bool} (S : Nat → Prop) (v : Nat → Bool) (hv : ∀ j, v j = true → S j) (m : Nat) (hS : ∀ k, k < m → b k = true → S (T0 k)) : ∀ j, baseS T0 b m v j = true → S j := by
  induction m with
  | zero => exact hv
  | succ m ih =>
    intro j hj
    simp only [baseS, Bool.or_eq_true, Bool.and_eq_true, decide_eq_true_eq] at hj
    rcases hj with hj | ⟨rfl, h2⟩
    · exact ih (fun k hk => hS k (by omega)) j hj
    · exact hS m (by omega) h2
end

/-! ### the web's ten cells -/
def farN (i k w : Nat) : Nat := if i % 3 ≠ k % 3 then 1 else w
theorem farN_lt (i k w : Nat) (h : w < 2) : farN i k w < 2 := by unfold farN; split <;> omega

/-- Step by step within a book. -/
inductive LocW (rd : Nat → Nat → Bool) : Nat → Nat → Prop
  | refl (n : Nat) : LocW rd n n
  | step {n i k : Nat} : LocW rd n i → i < 10 → k < 10 → rd i k = true → i % 3 = k % 3 → LocW rd n k
/-- Step by step, and whether another book was on the way. -/
inductive WayW (rd : Nat → Nat → Bool) : Nat → Nat → Nat → Prop
  | one {n k : Nat} : k < 10 → rd n k = true → WayW rd n k (farN n k 0)
  | step {n i k w : Nat} : WayW rd n i w → i < 10 → k < 10 → rd i k = true → WayW rd n k (farN i k w)

def locE (rd : Nat → Nat → Bool) (i k : Nat) : Bool := rd i k && decide (i % 3 = k % 3)
def locV (rd : Nat → Nat → Bool) (n : Nat) : Nat → Bool := iter (passS (fun _ k => k) (locE rd) 10 10) 10 (fun j => decide (j = n))

theorem locV_iff (rd : Nat → Nat → Bool) (n : Nat) (hn : n < 10) (j : Nat) (hj : j < 10) : locV rd n j = true ↔ LocW rd n j := by
  have hc : Closed 10 (fun k => k = n) (fun i k => locE rd i k = true) (locV rd n) := by
    have h := iter_closed 10 (fun _ => False) (fun i k => locE rd i k = true) (passS (fun _ k => k) (locE rd) 10 10) (fun v j _ hv => passS_mono 10 v hv 10) (fun v k _ hf => hf.elim)
      (fun v i k hi hk hv he => passS_add 10 v hv hi hk he) (fun v hc j hj hp => by
        have := passS_sound (T := fun _ k => k) (e := locE rd) (fun j => j < 10 → v j = true) 10 v (fun j hj _ => hj) 10 (fun a k ha hk hS he _ => hc.2 a k ha hk (hS ha) he) j hp
        exact this hj) (fun j => decide (j = n)) 10 (by
        have : 0 < cnt 10 (fun j => decide (j = n)) := by
          have := cnt_lt 10 (fun _ => false) (fun j => decide (j = n)) (fun j _ h => by cases h) n hn rfl (by simp)
          omega
        omega)
    refine ⟨fun k hk e => ?_, h.2⟩
    subst e
    have mono : ∀ r, iter (passS (fun _ k => k) (locE rd) 10 10) r (fun j => decide (j = k)) k = true := by
      intro r
      induction r with
      | zero => simp [iter]
      | succ r ih => exact passS_mono 10 _ ih 10
    exact mono 10
  constructor
  · intro h
    have := iter_sound 10 (passS (fun _ k => k) (locE rd) 10 10) (fun j => LocW rd n j) (fun v hv j hj hp => by
      have := passS_sound (T := fun _ k => k) (e := locE rd) (fun j => (j < 10 → LocW rd n j)) 10 v (fun j h1 h2 => hv j h2 h1) 10 (fun a k ha hk hS he _ => by
        simp [locE] at he
        exact .step (hS ha) ha hk he.1 he.2) j hp
      exact this hj) (fun j => decide (j = n)) (fun j _ h => by simp at h; subst h; exact .refl j) 10 j hj h
    exact this
  · intro h
    induction h with
    | refl => exact hc.1 n hn rfl
    | step h1 hi hk hr hs ih => exact hc.2 _ _ hi hk (ih hi) (by simp [locE, hr, hs])

def metP (rd : Nat → Nat → Bool) (n : Nat) (v : Nat → Bool) : Nat → Bool := passS (fun a k => k * 2 + farN (a / 2) k (a % 2)) (fun a k => rd (a / 2) k) 10 20 (baseS (fun k => k * 2 + farN n k 0) (fun k => rd n k) 10 v)
def metV (rd : Nat → Nat → Bool) (n : Nat) : Nat → Bool := iter (metP rd n) 21 (fun _ => false)

theorem metV_iff (rd : Nat → Nat → Bool) (n : Nat) (k w : Nat) (hk : k < 10) (hw : w < 2) : metV rd n (k * 2 + w) = true ↔ WayW rd n k w := by
  have hc : Closed 20 (fun j => ∃ k, k < 10 ∧ rd n k = true ∧ j = k * 2 + farN n k 0) (fun a j => ∃ k, k < 10 ∧ rd (a / 2) k = true ∧ j = k * 2 + farN (a / 2) k (a % 2)) (metV rd n) := by
    refine iter_closed 20 _ _ (metP rd n) (fun v j _ hv => passS_mono 10 _ (baseS_mono v hv 10) 20) ?_ ?_ ?_ (fun _ => false) 21 (by omega)
    · rintro v j _ ⟨k, hk, hr, rfl⟩
      exact passS_mono 10 _ (baseS_add (T0 := fun k => k * 2 + farN n k 0) (b := fun k => rd n k) v hk hr) 20
    · rintro v a j ha _ hv ⟨k, hk, hr, rfl⟩
      exact passS_add (T := fun a k => k * 2 + farN (a / 2) k (a % 2)) (e := fun a k => rd (a / 2) k) 10 _ (baseS_mono v hv 10) ha hk hr
    · intro v hc j hj hp
      have h1 := baseS_sound (T0 := fun k => k * 2 + farN n k 0) (b := fun k => rd n k) (fun j => j < 20 → v j = true) v (fun j h _ => h) 10 (fun k hk hr hlt => hc.1 _ hlt ⟨k, hk, hr, rfl⟩)
      exact passS_sound (T := fun a k => k * 2 + farN (a / 2) k (a % 2)) (e := fun a k => rd (a / 2) k) (fun j => j < 20 → v j = true) 10 _ h1 20 (fun a k ha hk hS hr hlt => hc.2 a _ ha hlt (hS (by omega)) ⟨k, hk, hr, rfl⟩) j hp hj
  constructor
  · intro h
    have := iter_sound 20 (metP rd n) (fun j => WayW rd n (j / 2) (j % 2)) (fun v hv j hj hp => by
      have h1 := baseS_sound (T0 := fun k => k * 2 + farN n k 0) (b := fun k => rd n k) (fun j => j < 20 → WayW rd n (j / 2) (j % 2)) v (fun j h hl => hv j hl h) 10 (fun k hk hr hlt => by
        have hf := farN_lt n k 0 (by omega)
        rw [show (k * 2 + farN n k 0) / 2 = k by omega, show (k * 2 + farN n k 0) % 2 = farN n k 0 by omega]
        exact .one hk hr)
      exact passS_sound (T := fun a k => k * 2 + farN (a / 2) k (a % 2)) (e := fun a k => rd (a / 2) k) (fun j => j < 20 → WayW rd n (j / 2) (j % 2)) 10 _ h1 20 (fun a k ha hk hS hr hlt => by
        have hf := farN_lt (a / 2) k (a % 2) (by omega)
        rw [show (k * 2 + farN (a / 2) k (a % 2)) / 2 = k by omega, show (k * 2 + farN (a / 2) k (a % 2)) % 2 = farN (a / 2) k (a % 2) by omega]
        exact .step (hS ha) (by omega) hk hr) j hp hj) (fun _ => false) (fun j _ h => by cases h) 21 (k * 2 + w) (by omega) h
    rwa [show (k * 2 + w) / 2 = k by omega, show (k * 2 + w) % 2 = w by omega] at this
  · intro h
    have main : ∀ {k w : Nat}, WayW rd n k w → k < 10 ∧ w < 2 ∧ metV rd n (k * 2 + w) = true := by
      intro k w h
      induction h with
      | @one k hk hr =>
        have hf := farN_lt n k 0 (by omega)
        exact ⟨hk, hf, hc.1 _ (by omega) ⟨k, hk, hr, rfl⟩⟩
      | @step i k w h1 hi hk hr ih =>
        obtain ⟨_, hw, hm⟩ := ih
        have hf := farN_lt i k w hw
        refine ⟨hk, hf, hc.2 (i * 2 + w) _ (by omega) (by omega) hm ⟨k, hk, ?_, ?_⟩⟩
        · rw [show (i * 2 + w) / 2 = i by omega]; exact hr
        · rw [show (i * 2 + w) / 2 = i by omega, show (i * 2 + w) % 2 = w by omega]
    exact (main h).2.2
end Go.Lat
