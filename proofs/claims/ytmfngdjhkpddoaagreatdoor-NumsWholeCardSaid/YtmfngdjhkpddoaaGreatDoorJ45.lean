/- NumsWhole's law (plain). -/
import Derived.Test.YtmfngdjhkpddoaaGreatDoorJ42
import Derived.Test.YtmfngdjhkpddoaaGreatDoorJX1
set_option maxRecDepth 100000
namespace Go.Proofs.YtmfngdjhkpddoaaGreatDoor
open Go.RowKit Go.Lat Go.Lib

theorem and40 (x : Int) : ∃ m : Nat, m < 1099511627776 ∧ bits BinOp.and IntKind.i64 x 1099511627775 = (m : Int) := by
  refine ⟨(BitVec.ofInt 64 x &&& BitVec.ofInt 64 1099511627775).toNat, ?_, ?_⟩
  · rw [BitVec.toNat_and]
    have h1 : (BitVec.ofInt 64 1099511627775).toNat = 1099511627775 := by decide
    rw [h1]
    exact Nat.lt_of_le_of_lt Nat.and_le_right (by omega)
  · show IntKind.i64.wrap ((BitVec.ofInt 64 x &&& BitVec.ofInt 64 1099511627775).toNat : Int) = _
    have h2 : (BitVec.ofInt 64 x &&& BitVec.ofInt 64 1099511627775).toNat ≤ 1099511627775 := by
      rw [BitVec.toNat_and]
      have h1 : (BitVec.ofInt 64 1099511627775).toNat = 1099511627775 := by decide
      rw [h1]
      exact Nat.and_le_right
    rw [IntWalk.i64_in _ (by omega)]
theorem callN_bad {n : List UInt8} (h : takesN n = 2) {x y : Vl} (he : numsE [x, y] ≠ 0) : callN n [x, y] = (mkE (numsE [x, y]), true) := by
  unfold callN
  rw [h, if_neg (by decide), if_neg (show ¬ (([x, y].length : Int) ≠ 2) from fun h => h rfl), if_pos he]
theorem num_bad {n : Int} (h : ¬ okNum n = true) : (numF (mkN n)).2 ≠ 0 := by
  unfold mkN
  rw [if_neg h]
  show (numF (mkE 2)).2 ≠ 0
  rw [show numF (mkE 2) = (0, 2) from rfl]
  decide
/-- A number and what the two calls tell: no number, or whole and the rest of the divisor's sign. -/
theorem whole_law (a b : Int) : ∃ v1 v2 : Vl, callN [81, 85, 79, 84, 73, 69, 78, 84] [mkN a, mkN b] = (v1, true) ∧ callN [77, 79, 68] [mkN a, mkN b] = (v2, true) ∧
    ((v1.k == 1) = false ∨ (v2.k == 1) = false ∨ ((v1.k == 1) = true ∧ (v2.k == 1) = true ∧ (mkN b).n ≠ 0 ∧ v1.n.tmod 10000 = 0 ∧ okNum (mkN a).n = true ∧ okNum (mkN b).n = true ∧ okNum v2.n = true ∧ (v2.n = (mkN a).n.tmod (mkN b).n ∨ v2.n = (mkN a).n.tmod (mkN b).n + (mkN b).n))) := by
  have bad : numsE [mkN a, mkN b] ≠ 0 → ∃ v1 v2 : Vl, callN [81, 85, 79, 84, 73, 69, 78, 84] [mkN a, mkN b] = (v1, true) ∧ callN [77, 79, 68] [mkN a, mkN b] = (v2, true) ∧ ((v1.k == 1) = false ∨ (v2.k == 1) = false ∨ ((v1.k == 1) = true ∧ (v2.k == 1) = true ∧ (mkN b).n ≠ 0 ∧ v1.n.tmod 10000 = 0 ∧ okNum (mkN a).n = true ∧ okNum (mkN b).n = true ∧ okNum v2.n = true ∧ (v2.n = (mkN a).n.tmod (mkN b).n ∨ v2.n = (mkN a).n.tmod (mkN b).n + (mkN b).n))) :=
    fun h => ⟨_, _, callN_bad (by decide) h, callN_bad (by decide) h, .inl rfl⟩
  by_cases ha : okNum a = true
  · by_cases hb : okNum b = true
    · have ea : mkN a = ⟨1, a, [], false, 0⟩ := by unfold mkN; rw [if_pos ha]
      have eb : mkN b = ⟨1, b, [], false, 0⟩ := by unfold mkN; rw [if_pos hb]
      rw [ea, eb, callN_num2 (by decide) ha hb, callN_num2 (by decide) ha hb]
      refine ⟨_, _, rfl, rfl, ?_⟩
      have e1 : pairV [81, 85, 79, 84, 73, 69, 78, 84] a b = quotV a b := by
        unfold pairV
        rw [if_neg (by decide), if_neg (by decide), if_neg (by decide), if_pos rfl]
      have e2 : pairV [77, 79, 68] a b = tldV (remF a b) := by
        unfold pairV
        rw [if_neg (by decide), if_neg (by decide), if_pos rfl]
      rw [e1, e2]
      by_cases h0 : b = 0
      · left
        unfold quotV
        rw [if_pos h0]
        rfl
      · by_cases hw : wholeOk (a.tdiv b) = true
        · obtain ⟨r2, r1⟩ := remF_cases ha hb h0
          have eq : quotV a b = mkN (a.tdiv b * 10000) := by
            unfold quotV
            rw [if_neg h0, if_pos hw]
          have hwr : -900000000000000 ≤ a.tdiv b ∧ a.tdiv b ≤ 900000000000000 := by simpa [wholeOk] using hw
          have oq : okNum (a.tdiv b * 10000) = true := by simp [okNum]; omega
          have er : tldV (remF a b) = mkN (remF a b).1 := by
            unfold tldV
            rw [if_pos r2]
          rw [eq, er]
          obtain ⟨r, hr⟩ : ∃ r, (remF a b).1 = r := ⟨_, rfl⟩
          rw [hr] at r1 ⊢
          by_cases ho : okNum r = true
          · right
            right
            have e3 : mkN r = ⟨1, r, [], false, 0⟩ := by unfold mkN; rw [if_pos ho]
            have e4 : mkN (a.tdiv b * 10000) = ⟨1, a.tdiv b * 10000, [], false, 0⟩ := by unfold mkN; rw [if_pos oq]
            rw [e3, e4]
            exact ⟨rfl, rfl, h0, Int.mul_tmod_left _ _, ha, hb, ho, r1⟩
          · right
            left
            unfold mkN
            rw [if_neg ho]
            rfl
        · left
          unfold quotV
          rw [if_neg h0, if_neg hw]
          rfl
    · refine bad ?_
      rw [nums2]
      split
      · exact num_bad hb
      · assumption
  · refine bad ?_
    rw [nums2, if_neg (num_bad ha)]
    exact num_bad ha
/-- The greatest divisor of two whole numbers that are not negative. -/
theorem gcd_law (p q : Nat) (hp : p < 1099511627776) (hq : q < 1099511627776) : ∃ d : Nat, gcdV ((p : Int) * 10000) ((q : Int) * 10000) = ⟨1, (d : Int), [], false, 0⟩ ∧ gcdV ((q : Int) * 10000) ((p : Int) * 10000) = ⟨1, (d : Int), [], false, 0⟩ ∧ (d : Int) ≤ 9223372036854775807 ∧ (((d : Int) = 0 ∧ (p : Int) * 10000 = 0 ∧ (q : Int) * 10000 = 0) ∨ (0 < (d : Int) ∧ ((p : Int) * 10000).tmod (d : Int) = 0 ∧ ((q : Int) * 10000).tmod (d : Int) = 0)) := by
  have e1 : ((p : Int) * 10000).natAbs = p * 10000 := by omega
  have e2 : ((q : Int) * 10000).natAbs = q * 10000 := by omega
  obtain ⟨d, hd⟩ : ∃ d, Nat.gcd (p * 10000) (q * 10000) = d := ⟨_, rfl⟩
  have h1 : d ∣ p * 10000 := by rw [← hd]; exact Nat.gcd_dvd_left _ _
  have h2 : d ∣ q * 10000 := by rw [← hd]; exact Nat.gcd_dvd_right _ _
  have hb : d ≤ 10995116277750000 := by
    by_cases h : p = 0
    · by_cases h' : q = 0
      · subst h h'
        have : d = 0 := by rw [← hd]; rfl
        omega
      · have := Nat.le_of_dvd (by omega) h2
        omega
    · have := Nat.le_of_dvd (by omega) h1
      omega
  have ok : okNum (d : Int) = true := by simp [okNum]; omega
  have en : mkN (d : Int) = ⟨1, (d : Int), [], false, 0⟩ := by unfold mkN; rw [if_pos ok]
  have g : ∀ x y : Nat, Nat.gcd (x * 10000) (y * 10000) = d → gcdV ((x : Int) * 10000) ((y : Int) * 10000) = ⟨1, (d : Int), [], false, 0⟩ := fun x y h => by
    unfold gcdV
    rw [if_neg (by
      rintro (h | h | h | h)
      · exact h (Int.mul_tmod_left _ _)
      · exact h (Int.mul_tmod_left _ _)
      · omega
      · omega), show ((x : Int) * 10000).natAbs = x * 10000 by omega, show ((y : Int) * 10000).natAbs = y * 10000 by omega, h, en]
  refine ⟨d, g p q hd, g q p (by rw [Nat.gcd_comm]; exact hd), by omega, ?_⟩
  by_cases h0 : d = 0
  · left
    subst h0
    have := Nat.eq_zero_of_zero_dvd h1
    have := Nat.eq_zero_of_zero_dvd h2
    omega
  · right
    refine ⟨by omega, ?_, ?_⟩
    · have : (d : Int) ∣ (p : Int) * 10000 := by have := Int.natCast_dvd_natCast.2 h1; simpa using this
      exact Int.tmod_eq_zero_of_dvd this
    · have : (d : Int) ∣ (q : Int) * 10000 := by have := Int.natCast_dvd_natCast.2 h2; simpa using this
      exact Int.tmod_eq_zero_of_dvd this
end Go.Proofs.YtmfngdjhkpddoaaGreatDoor
