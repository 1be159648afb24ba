/- Plain laws of the order of values: it is turned when they are, and it is transitive where none is blank and none an error. -/
import Derived.Test.YtmfngdjhkpddoaaGreatDoorJ12
import Derived.Test.YtmfngdjhkpddoaaGreatDoorJ39
import Derived.Test.YtmfngdjhkpddoaaGreatDoorJX1
/- Plain laws of the order of values: it is turned when they are, and it is transitive where none is blank and none an error. -/
set_option maxRecDepth 100000
namespace Go.Proofs.YtmfngdjhkpddoaaGreatDoor
open Go.RowKit Go.Lat Go.Lib

theorem lt_as8 : ∀ {x y : List UInt8}, x < y → ¬ y < x
  | [], y, h => by intro k; cases k
  | a :: x, [], h => by cases h
  | a :: x, b :: y, h => by
    intro k
    rw [lt_cons8] at h k
    have h1 : ∀ {p q : UInt8}, p < q → p.toNat < q.toNat := fun h => h
    rcases h with h | ⟨rfl, h⟩
    · rcases k with k | ⟨rfl, k⟩
      · have := h1 h; have := h1 k; omega
      · have := h1 h; omega
    · rcases k with k | ⟨-, k⟩
      · have := h1 k; omega
      · exact lt_as8 h k
theorem cmpS_neg (x y : List UInt8) : cmpS x y = -cmpS y x := by
  unfold cmpS
  by_cases h : x < y
  · rw [if_pos h, if_neg (lt_as8 h), if_pos h]
  · by_cases k : y < x
    · rw [if_neg h, if_pos k, if_pos k]
      rfl
    · rw [if_neg h, if_neg k, if_neg k, if_neg h]
      rfl
theorem cmpI_neg (a b : Int) : cmpI a b = -cmpI b a := by
  unfold cmpI
  split <;> split <;> omega
theorem ord2_neg (a b : Vl) : ord2 a b = -ord2 b a := by
  unfold ord2
  by_cases h : a.k = b.k
  · have h' : ¬ (a.k ≠ b.k) := fun e => e h
    have h'' : ¬ (b.k ≠ a.k) := fun e => e h.symm
    rw [if_neg h', if_neg h'', ← h]
    by_cases k1 : a.k = 1
    · rw [if_pos k1, if_pos k1]
      exact cmpI_neg _ _
    · rw [if_neg k1, if_neg k1]
      by_cases k2 : a.k = 2
      · rw [if_pos k2, if_pos k2]
        exact cmpS_neg _ _
      · rw [if_neg k2, if_neg k2]
        omega
  · rw [if_pos h, if_pos (fun e => h e.symm)]
    exact cmpI_neg _ _
theorem sound_f {x : Vl} (h : (soundV x).k = 4) : (soundV x).f ≠ 0 := by
  have hg : goodV (soundV x) = true := by
    unfold soundV
    split
    · assumption
    · decide
  have e : eqV (soundV x) (mkE (soundV x).f) = true := by
    unfold goodV at hg
    rw [if_neg (by omega), if_neg (by omega), if_neg (by omega), if_neg (by omega), if_pos h] at hg
    exact hg
  have e2 := eqV_iff.1 e
  have : (soundV x).f = (mkE (soundV x).f).f := congrArg Vl.f e2
  intro h0
  rw [h0] at this
  simp [mkE, okFail] at this
/-- What the law asks of two orders. -/
theorem order_turned (x y : Vl) : ((orderV x y).2 = 0 ↔ (orderV y x).2 = 0) ∧ ((orderV x y).2 = 0 → (orderV x y).1 = -(orderV y x).1) := by
  unfold orderV
  by_cases h1 : (soundV x).k = 4
  · have f1 := sound_f h1
    rw [if_pos h1]
    by_cases h2 : (soundV y).k = 4
    · have f2 := sound_f h2
      rw [if_pos h2]
      exact ⟨⟨fun e => absurd e f1, fun e => absurd e f2⟩, fun e => absurd e f1⟩
    · rw [if_neg h2, if_pos h1]
      exact ⟨Iff.rfl, fun e => absurd e f1⟩
  · rw [if_neg h1]
    by_cases h2 : (soundV y).k = 4
    · have f2 := sound_f h2
      rw [if_pos h2, if_pos h2]
      exact ⟨Iff.rfl, fun e => absurd e f2⟩
    · rw [if_neg h2, if_neg h2, if_neg h1]
      exact ⟨Iff.rfl, fun _ => ord2_neg _ _⟩
end Go.Proofs.YtmfngdjhkpddoaaGreatDoor
/- NumsTurns' law (plain). -/
set_option maxRecDepth 100000
namespace Go.Proofs.YtmfngdjhkpddoaaGreatDoor
open Go.RowKit Go.Lat Go.Lib

theorem numF_err {x : Vl} (hg : goodV x = true) (h4 : x.k ≠ 4) : (numF x).2 = 0 ∨ (numF x).2 = 3 := by
  have hs : soundV x = x := by unfold soundV; rw [if_pos hg]
  have hk := soundV_kind x
  rw [hs] at hk
  unfold numF asNumV
  rw [hs]
  split
  · exact .inl rfl
  · split
    · exact .inl rfl
    · split
      · split
        · exact .inl rfl
        · exact .inr rfl
      · split
        · exact .inl rfl
        · omega
theorem ord_0 {x y : Vl} (hx : goodV x = true) (hy : goodV y = true) (kx : x.k ≠ 4) (ky : y.k ≠ 4) : (orderV x y).2 = 0 := by
  have sx : soundV x = x := by unfold soundV; rw [if_pos hx]
  have sy : soundV y = y := by unfold soundV; rw [if_pos hy]
  unfold orderV
  rw [sx, sy, if_neg kx, if_neg ky]
theorem binV_ar {n : List UInt8} (h38 : n ≠ [38]) (hc : isCmp n = false) (x y : Vl) : binV n x y = if numsE [x, y] = 0 then reckV n (numF x).1 (numF y).1 else if (reckV n 0 10000).2 = true then (mkE (numsE [x, y]), true) else (vZero, false) := by
  unfold binV
  rw [if_neg h38, hc, if_neg (by simp)]
theorem binV_cmp {n : List UInt8} (h38 : n ≠ [38]) (hc : isCmp n = true) {x y : Vl} (h : (orderV x y).2 = 0) : binV n x y = (mkB (holdB n (orderV x y).1), true) := by
  unfold binV
  rw [if_neg h38, if_pos hc, if_pos h]
theorem add_comm (a b : Int) : addF a b = addF b a := by
  unfold addF addV addE
  rw [Int.add_comm a b, Bool.and_comm (okNum a) (okNum b)]
theorem mul_comm (a b : Int) : mulF a b = mulF b a := by
  unfold mulF
  rw [Nat.mul_comm a.natAbs b.natAbs, Bool.and_comm (okNum a) (okNum b), bne_comm (a := sgn a) (b := sgn b)]
theorem nums_turn {x y : Vl} (hx : (numF x).2 = 0 ∨ (numF x).2 = 3) (hy : (numF y).2 = 0 ∨ (numF y).2 = 3) : numsE [x, y] = numsE [y, x] := by
  rw [nums2, nums2]
  rcases hx with hx | hx <;> rcases hy with hy | hy <;> rw [hx, hy] <;> rfl
/-- Sums, products, = and <> may be taken in any order; < is > turned; a difference is the sum with the sign turned. -/
theorem turn_law {x y : Vl} (hx : goodV x = true) (hy : goodV y = true) (kx : x.k ≠ 4) (ky : y.k ≠ 4) :
    (binV [43] x y = binV [43] y x ∧ (binV [43] x y).2 = true) ∧ (binV [42] x y = binV [42] y x ∧ (binV [42] x y).2 = true) ∧
    (binV [61] x y = binV [61] y x ∧ (binV [61] x y).2 = true) ∧ (binV [60, 62] x y = binV [60, 62] y x ∧ (binV [60, 62] x y).2 = true) ∧
    (binV [60] x y).1 = (binV [62] y x).1 ∧ (binV [45] x y).1 = (binV [43] x (negV y)).1 := by
  have ex := numF_err hx kx
  have ey := numF_err hy ky
  have et := nums_turn ex ey
  have o1 := ord_0 hx hy kx ky
  have o2 := ord_0 hy hx ky kx
  have ot := (order_turned x y).2 o1
  refine ⟨⟨?_, ?_⟩, ⟨?_, ?_⟩, ⟨?_, ?_⟩, ⟨?_, ?_⟩, ?_, ?_⟩
  · rw [binV_ar (by decide) (by decide), binV_ar (by decide) (by decide), et]
    have : reckV [43] (numF x).1 (numF y).1 = reckV [43] (numF y).1 (numF x).1 := by
      show (tldV (addF _ _), true) = (tldV (addF _ _), true)
      rw [add_comm]
    rw [this]
  · rw [binV_ar (by decide) (by decide)]
    split
    · rfl
    · rfl
  · rw [binV_ar (by decide) (by decide), binV_ar (by decide) (by decide), et]
    have : reckV [42] (numF x).1 (numF y).1 = reckV [42] (numF y).1 (numF x).1 := by
      show (tldV (mulF _ _), true) = (tldV (mulF _ _), true)
      rw [mul_comm]
    rw [this]
  · rw [binV_ar (by decide) (by decide)]
    split
    · rfl
    · rfl
  · rw [binV_cmp (by decide) (by decide) o1, binV_cmp (by decide) (by decide) o2, ot]
    have : holdB [61] (-(orderV y x).1) = holdB [61] (orderV y x).1 := by
      show (-(orderV y x).1 == 0) = ((orderV y x).1 == 0)
      rw [Bool.eq_iff_iff]
      simp
    rw [this]
  · rw [binV_cmp (by decide) (by decide) o1]
  · rw [binV_cmp (by decide) (by decide) o1, binV_cmp (by decide) (by decide) o2, ot]
    have : holdB [60, 62] (-(orderV y x).1) = holdB [60, 62] (orderV y x).1 := by
      show (-(orderV y x).1 != 0) = ((orderV y x).1 != 0)
      rw [Bool.eq_iff_iff]
      simp
    rw [this]
  · rw [binV_cmp (by decide) (by decide) o1]
  · rw [binV_cmp (by decide) (by decide) o1, binV_cmp (by decide) (by decide) o2, ot]
    have : holdB [60] (-(orderV y x).1) = holdB [62] (orderV y x).1 := by
      show decide (-(orderV y x).1 < 0) = decide (0 < (orderV y x).1)
      rw [Bool.eq_iff_iff]
      simp
    rw [this]
  · rw [binV_ar (by decide) (by decide), binV_ar (by decide) (by decide)]
    by_cases h : (numF y).2 = 0
    · have hn : negV y = ⟨1, -(numF y).1, [], false, 0⟩ := by
        unfold negV mkN
        rw [if_pos h, okNum_neg, numF_ok y]
        rfl
      have hf : numF (negV y) = (-(numF y).1, 0) := by rw [hn]; exact numF_n (by rw [okNum_neg]; exact numF_ok y)
      rw [nums2, nums2, hf, h]
      by_cases h2 : (numF x).2 = 0
      · rw [if_pos h2]
        rfl
      · rw [if_neg h2]
        rfl
    · have hn : negV y = mkE (numF y).2 := by unfold negV; rw [if_neg h]
      have e3 : (numF y).2 = 3 := ey.resolve_left h
      rw [e3] at hn
      have hf : numF (negV y) = (0, 3) := by rw [hn]; rfl
      rw [nums2, nums2, hf, e3]
      by_cases h2 : (numF x).2 = 0
      · rw [if_pos h2]
        rfl
      · rw [if_neg h2, if_neg h2, if_neg h2]
        rfl
theorem joinV_ok (s t : List UInt8 × Int) : (joinV s t).ok := by
  unfold joinV
  repeat' split
  all_goals first | exact mkT_ok _ | exact mkE_ok _
theorem binV_ok (n : List UInt8) (x y : Vl) : (binV n x y).1.ok := by
  unfold binV
  split
  · exact joinV_ok _ _
  · split
    · simp only []
      split
      · exact mkB_ok _
      · exact mkE_ok _
    · split
      · exact reckV_ok _ _ _
      · split
        · exact mkE_ok _
        · exact vZero_ok
end Go.Proofs.YtmfngdjhkpddoaaGreatDoor
