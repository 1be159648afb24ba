/- What numbers tell, as data: results, powers, products of whole numbers, whole parts (plain). -/
import Derived.Test.YtmfngdjhkpddoaaGreatDoorJ20
/- What numbers tell, as data: results, powers, products of whole numbers, whole parts (plain). -/
set_option maxRecDepth 100000
namespace Go.Proofs.YtmfngdjhkpddoaaGreatDoor
open Go.RowKit Go.Lat Go.Lib

theorem asNumV_ok (y : Vl) (V E : Int) (hy : y.k = 1 → okNum y.n = true) (hV : okNum V = true) : okNum (asNumV y V E).1 = true := by
  unfold asNumV
  by_cases h0 : y.k = 0
  · rw [if_pos h0]; decide
  rw [if_neg h0]
  by_cases h1 : y.k = 1
  · rw [if_pos h1]; exact hy h1
  rw [if_neg h1]
  by_cases h2 : y.k = 2
  · rw [if_pos h2]
    by_cases hE : E = 0
    · rw [if_pos hE]; exact hV
    · rw [if_neg hE]; decide
  rw [if_neg h2]
  by_cases h3 : y.k = 3
  · rw [if_pos h3]
    cases y.b <;> decide
  · rw [if_neg h3]; exact (by decide : okNum 0 = true)
theorem soundV_n (x : Vl) (h : (soundV x).k = 1) : okNum (soundV x).n = true := by
  unfold soundV at h ⊢
  cases hg : goodV x with
  | false => rw [hg] at h; simp [mkE] at h
  | true =>
    rw [hg] at h
    simp only [if_true] at h ⊢
    rw [← rgood_eq] at hg
    unfold rgoodV at hg
    simp only [h] at hg
    simp at hg
    exact hg.1.1.1
/-- What is read as a number is one. -/
theorem numF_ok (x : Vl) : okNum (numF x).1 = true := asNumV_ok _ _ _ (soundV_n x) (parseF_ok _)

/-- A number, or the error of its code. -/
def tldV (r : Int × Int) : Vl := if r.2 = 0 then mkN r.1 else if r.2 = 6 then mkE 1 else mkE 2
theorem mulF_ok (a b : Int) : okNum (mulF a b).1 = true := by
  unfold mulF
  split
  · exact numV_ok _ _
  · decide
/-- Products of equal factors, to the first error. -/
def timesF (a : Int) : Nat → Int × Int
  | 0 => (10000, 0)
  | n + 1 => if (timesF a n).2 = 0 then mulF (timesF a n).1 a else timesF a n
theorem timesF_stay {a : Int} {n : Nat} (h : (timesF a n).2 ≠ 0) : ∀ k, timesF a (n + k) = timesF a n
  | 0 => rfl
  | k + 1 => by
    have ih := timesF_stay h k
    show timesF a ((n + k) + 1) = _
    rw [timesF, ih, if_neg h]
/-- A number to the power of another one. -/
def powV (a b : Int) : Vl :=
  if b.tmod 10000 ≠ 0 ∨ b < -10000000 ∨ 10000000 < b then mkE 2
  else if (timesF a (b.tdiv 10000).natAbs).2 = 0 ∧ b < 0 then tldV (divF 10000 (timesF a (b.tdiv 10000).natAbs).1)
  else tldV (timesF a (b.tdiv 10000).natAbs)
/-- The product of the whole numbers up to n + 1, to the first error. -/
def prodF : Nat → Int × Int
  | 0 => (10000, 0)
  | n + 1 => if (prodF n).2 = 0 then mulF (prodF n).1 (((n : Int) + 2) * 10000) else prodF n
theorem prodF_stay {n : Nat} (h : (prodF n).2 ≠ 0) : ∀ k, prodF (n + k) = prodF n
  | 0 => rfl
  | k + 1 => by
    have ih := prodF_stay h k
    show prodF ((n + k) + 1) = _
    rw [prodF, ih, if_neg h]
def factV (a : Int) : Vl := if a.tmod 10000 ≠ 0 ∨ a < 0 then mkE 2 else tldV (prodF ((a.tdiv 10000).natAbs - 1))
theorem mod10000 (a : Int) : a.tmod 10000 = 0 ↔ a.natAbs % 10000 = 0 := by
  rcases Int.natAbs_eq a with h | h
  · rw [h]
    simp only [Int.natAbs_natCast]
    rw [Int.tmod_eq_emod_of_nonneg (by omega)]
    omega
  · rw [h]
    simp only [Int.natAbs_neg, Int.natAbs_natCast, Int.neg_tmod]
    rw [Int.tmod_eq_emod_of_nonneg (by omega)]
    omega
/-- A number is whole exactly where its floor is itself. -/
theorem flr_iff {a : Int} (h : okNum a = true) : flrF a = a ↔ a.tmod 10000 = 0 := by
  unfold flrF
  rw [if_pos h, mod10000]
  have hm : modV (sgn a) false a.natAbs 10000 = 0 ↔ a.natAbs % 10000 = 0 := by
    unfold modV modN
    simp only [Bool.false_eq_true, if_false]
    have := Nat.mod_lt a.natAbs (show 0 < 10000 by decide)
    split
    · omega
    · rename_i hh
      simp only [not_or] at hh
      omega
  omega
theorem wholeF_of {a : Int} (h : okNum a = true) : wholeF a = a.tdiv 10000 := by
  unfold wholeF
  rw [if_pos h]
theorem whole_mul {a : Int} (h : a.tmod 10000 = 0) : a = a.tdiv 10000 * 10000 := by
  have := Int.mul_tdiv_add_tmod a 10000
  omega
end Go.Proofs.YtmfngdjhkpddoaaGreatDoor
/- Rounding away from 0: by a step onto what is nearest, and by the next multiple: one result (plain). -/
set_option maxRecDepth 100000
namespace Go.Proofs.YtmfngdjhkpddoaaGreatDoor
open Go.RowKit Go.Lat Go.Lib

def ceilN (x T : Nat) : Nat := x / T + if x % T = 0 then 0 else 1
def upV (a p : Int) : Vl := if 4 ≤ p then mkN a else tldV (numV (sgn a) (ceilN a.natAbs (10 ^ (4 - p).toNat) * 10 ^ (4 - p).toNat), numE (ceilN a.natAbs (10 ^ (4 - p).toNat) * 10 ^ (4 - p).toNat))
/-- A step of so many places more than one. -/
def stepL : Nat → Int × Int
  | 0 => (10000, 0)
  | n + 1 => if (stepL n).2 = 0 then mulF (stepL n).1 100000 else stepL n
def stepF (p : Int) : Int × Int := if 0 ≤ p then (((10 ^ (4 - p).toNat : Nat) : Int), 0) else stepL (-p).toNat
def rupF (a p : Int) : Vl :=
  if (rndF a p).2 ≠ 0 ∨ a.natAbs ≤ (rndF a p).1.natAbs then tldV (rndF a p)
  else if (stepF p).2 ≠ 0 then tldV (stepF p)
  else tldV (addV (rndF a p).1 (if a < 0 then -(stepF p).1 else (stepF p).1), addE (rndF a p).1 (if a < 0 then -(stepF p).1 else (stepF p).1))
end Go.Proofs.YtmfngdjhkpddoaaGreatDoor
/- Greatest divisors, whole quotients, ratios as data; what a quotient and what is left are (plain). -/
set_option maxRecDepth 100000
namespace Go.Proofs.YtmfngdjhkpddoaaGreatDoor
open Go.RowKit Go.Lat Go.Lib

def gcdV (a b : Int) : Vl := if a.tmod 10000 ≠ 0 ∨ b.tmod 10000 ≠ 0 ∨ a < 0 ∨ b < 0 then mkE 2 else mkN (Nat.gcd a.natAbs b.natAbs : Nat)
def quotV (a b : Int) : Vl := if b = 0 then mkE 1 else if wholeOk (a.tdiv b) = true then mkN (a.tdiv b * 10000) else mkE 2
def signV (a : Int) : Int := if a < 0 then -10000 else if 0 < a then 10000 else 0
def evenV (a : Int) : Vl := if a.tmod 10000 ≠ 0 then mkE 2 else mkB (decide (a.tmod 20000 = 0))
/-- The greatest divisor of whole numbers, in parts. -/
theorem gcd_parts (x y : Nat) : Nat.gcd (x * 10000) (y * 10000) = Nat.gcd x y * 10000 := Nat.gcd_mul_right x 10000 y
theorem even_whole {a : Int} (h : a.tmod 10000 = 0) : a.tmod 20000 = 0 ↔ (a.tdiv 10000).tmod 2 = 0 := by
  have e := whole_mul h
  generalize a.tdiv 10000 = q at *
  subst e
  constructor
  · intro h
    have := Int.dvd_of_tmod_eq_zero h
    exact Int.tmod_eq_zero_of_dvd (by omega)
  · intro h
    have := Int.dvd_of_tmod_eq_zero h
    exact Int.tmod_eq_zero_of_dvd (by omega)
end Go.Proofs.YtmfngdjhkpddoaaGreatDoor
/- The walks of nums' code, told, whole, times, power, sign, even, places. -/
set_option maxRecDepth 100000
namespace Go.Proofs.YtmfngdjhkpddoaaGreatDoor
open Go.RowKit Go.Lat Go.Lib

theorem code_any (w : World) (e : Int) : Calls Tryz.prog 111 #[.int .i64 e] w fun e' w' => e' = .returned (if e = 6 then mkE 1 else mkE 2).val ∧ Upd w w' (fun _ => False) := by
  have HU0 : Hid (Upd w (w.alloc (.cells #[.int .i64 0, .int .i64 0, .string ⟨#[]⟩, .bool false, .int .i64 0] 26)) (fun _ => False)) := hide ((Upd.refl w _).alloc _)
  have HV0 := hide (Vnew1 w (.cells #[.int .i64 0, .int .i64 0, .string ⟨#[]⟩, .bool false, .int .i64 0] 26))
  by_cases h : e = 6
  · have b1 : (e == 6) = true := by simpa using h
    rw [if_pos h]
    have EA := fun w => E_any w 1
    obtain ⟨⟨k0, n0, t0, b0, e0'⟩, hev⟩ : ∃ v, mkE 1 = v := ⟨_, rfl⟩
    rw [hev] at EA ⊢
    unfold Vl.val at EA ⊢
    simp only at EA ⊢
    clear h hev
    go_enter Tryz.func111, Tryz.ntmps111
    go_wp2_with fail
    refine Calls.mono (EA _) ?_
    rintro e w9 ⟨rfl, u9⟩
    have HU9 := hide (HU0.out.then u9 (fun _ _ => id))
    have bV := u9.get HV0.out id
    obtain ⟨v0, v1, v2, v3, v4⟩ := cells5 bV
    have vl := lt_at bV
    have fv0 := free_at bV 0
    have fv1 := free_at bV 1
    have fv2 := free_at bV 2
    have fv3 := free_at bV 3
    have fv4 := free_at bV 4
    have HB := hide bV
    clear bV u9
    go_wp2_with fail
    (try simp only [Exit.inBlock, Exit.then])
    refine bodyPost_ret (ret_vl rfl _ _ w.heap.size ⟨k0, n0, t0, b0, e0'⟩ rfl (block5 (x := vZero) HB.out _ _ _ _ _)) rfl ?_
    exact ⟨rfl, upd5 HU9.out (Nat.le_refl _) _ _ _ _ _⟩
  · have b1 : (e == 6) = false := by simpa using h
    rw [if_neg h]
    have EA := fun w => E_any w 2
    obtain ⟨⟨k0, n0, t0, b0, e0'⟩, hev⟩ : ∃ v, mkE 2 = v := ⟨_, rfl⟩
    rw [hev] at EA ⊢
    unfold Vl.val at EA ⊢
    simp only at EA ⊢
    clear h hev
    go_enter Tryz.func111, Tryz.ntmps111
    go_wp2_with fail
    refine Calls.mono (EA _) ?_
    rintro e w9 ⟨rfl, u9⟩
    have HU9 := hide (HU0.out.then u9 (fun _ _ => id))
    have bV := u9.get HV0.out id
    obtain ⟨v0, v1, v2, v3, v4⟩ := cells5 bV
    have vl := lt_at bV
    have fv0 := free_at bV 0
    have fv1 := free_at bV 1
    have fv2 := free_at bV 2
    have fv3 := free_at bV 3
    have fv4 := free_at bV 4
    have HB := hide bV
    clear bV u9
    go_wp2_with fail
    (try simp only [Exit.inBlock, Exit.then])
    refine bodyPost_ret (ret_vl rfl _ _ w.heap.size ⟨k0, n0, t0, b0, e0'⟩ rfl (block5 (x := vZero) HB.out _ _ _ _ _)) rfl ?_
    exact ⟨rfl, upd5 HU9.out (Nat.le_refl _) _ _ _ _ _⟩
theorem nTold_any (w : World) (n e : Int) : Calls Tryz.prog 59 #[.int .i64 n, .int .i64 e] w fun e' w' => e' = .returned (tldV (n, e)).val ∧ Upd w w' (fun _ => False) := by
  have HU0 : Hid (Upd w (w.alloc (.cells #[.int .i64 0, .int .i64 0, .string ⟨#[]⟩, .bool false, .int .i64 0] 26)) (fun _ => False)) := hide ((Upd.refl w _).alloc _)
  have HV0 := hide (Vnew1 w (.cells #[.int .i64 0, .int .i64 0, .string ⟨#[]⟩, .bool false, .int .i64 0] 26))
  unfold tldV
  simp only
  by_cases h : e = 0
  · have b1 : (e != 0) = false := by simpa using h
    rw [if_pos h]
    have NA := fun w => N_any w n
    obtain ⟨⟨k0, n0, t0, b0, e0'⟩, hev⟩ : ∃ v, mkN n = v := ⟨_, rfl⟩
    rw [hev] at NA ⊢
    unfold Vl.val at NA ⊢
    simp only at NA ⊢
    clear h hev
    go_enter Tryz.func59, Tryz.ntmps59
    go_wp2_with fail
    refine Calls.mono (NA _) ?_
    rintro e w9 ⟨rfl, u9⟩
    have HU9 := hide (HU0.out.then u9 (fun _ _ => id))
    have bV := u9.get HV0.out id
    obtain ⟨v0, v1, v2, v3, v4⟩ := cells5 bV
    have vl := lt_at bV
    have fv0 := free_at bV 0
    have fv1 := free_at bV 1
    have fv2 := free_at bV 2
    have fv3 := free_at bV 3
    have fv4 := free_at bV 4
    have HB := hide bV
    clear bV u9
    go_wp2_with fail
    (try simp only [Exit.inBlock, Exit.then])
    refine bodyPost_ret (ret_vl rfl _ _ w.heap.size ⟨k0, n0, t0, b0, e0'⟩ rfl (block5 (x := vZero) HB.out _ _ _ _ _)) rfl ?_
    exact ⟨rfl, upd5 HU9.out (Nat.le_refl _) _ _ _ _ _⟩
  · have b1 : (e != 0) = true := by simpa using h
    rw [if_neg h]
    have CA := fun w => code_any w e
    obtain ⟨⟨k0, n0, t0, b0, e0'⟩, hev⟩ : ∃ v, (if e = 6 then mkE 1 else mkE 2) = v := ⟨_, rfl⟩
    rw [hev] at CA ⊢
    unfold Vl.val at CA ⊢
    simp only at CA ⊢
    clear h hev
    go_enter Tryz.func59, Tryz.ntmps59
    go_wp2_with fail
    refine Calls.mono (CA _) ?_
    rintro e w9 ⟨rfl, u9⟩
    have HU9 := hide (HU0.out.then u9 (fun _ _ => id))
    have bV := u9.get HV0.out id
    obtain ⟨v0, v1, v2, v3, v4⟩ := cells5 bV
    have vl := lt_at bV
    have fv0 := free_at bV 0
    have fv1 := free_at bV 1
    have fv2 := free_at bV 2
    have fv3 := free_at bV 3
    have fv4 := free_at bV 4
    have HB := hide bV
    clear bV u9
    go_wp2_with fail
    (try simp only [Exit.inBlock, Exit.then])
    refine bodyPost_ret (ret_vl rfl _ _ w.heap.size ⟨k0, n0, t0, b0, e0'⟩ rfl (block5 (x := vZero) HB.out _ _ _ _ _)) rfl ?_
    exact ⟨rfl, upd5 HU9.out (Nat.le_refl _) _ _ _ _ _⟩
theorem whole_any (w : World) (a : Int) : Calls Tryz.prog 120 #[.int .i64 a] w fun e w' => e = .returned (.tuple #[.int .i64 (wholeF a), .bool (flrF a == a)]) ∧ Upd w w' (fun _ => False) := by
  have W := fun w => wholeP_any w a
  have F := (flrB a).1
  obtain ⟨z, hz⟩ : ∃ z, wholeF a = z := ⟨_, rfl⟩
  obtain ⟨y, hy⟩ : ∃ y, flrF a = y := ⟨_, rfl⟩
  rw [hz] at W ⊢
  rw [hy] at F ⊢
  clear hz hy
  go_enter Tryz.func120, Tryz.ntmps120
  go_wp2_with fail
  refine Calls.mono (W _) ?_
  rintro e w1 ⟨rfl, u1⟩
  go_wp2_with fail
  refine Calls.mono (F _) ?_
  rintro e w2 ⟨rfl, u2⟩
  go_wp2_with fail
  go_ret2
  exact ⟨rfl, u1.then u2 (fun _ _ => id)⟩
theorem wholeb {a : Int} (h : okNum a = true) : (flrF a == a) = decide (a.tmod 10000 = 0) := by
  have := flr_iff h
  by_cases q : a.tmod 10000 = 0
  · simp [q, this.2 q]
  · have h2 : ¬ flrF a = a := fun e => q (this.1 e)
    simp [q, h2]
theorem times_any (w : World) (a : Int) (n : Nat) (hn : n ≤ 1000000) : Calls Tryz.prog 123 #[.int .i64 a, .int .i64 (n : Int)] w fun e w' => e = .returned (.tuple #[.int .i64 (timesF a n).1, .int .i64 (timesF a n).2]) ∧ Upd w w' (fun _ => False) := by
  obtain ⟨⟨P, C⟩, hPC⟩ : ∃ r, timesF a n = r := ⟨_, rfl⟩
  rw [hPC]
  simp only
  have HT := hide hPC
  clear hPC
  go_enter Tryz.func123, Tryz.ntmps123
  go_wp2_with fail
  go_loopg [1, 6, 7] n (fun q nv pv ev wr => ∃ k : Nat, k + q = n ∧ nv = .int .i64 (q : Int) ∧ pv = .int .i64 (timesF a k).1 ∧ ev = .int .i64 (timesF a k).2 ∧ Upd w wr (fun _ => False))
  case atStart => exact ⟨0, by omega, rfl, rfl, rfl, Upd.refl _ _⟩
  case round =>
    obtain ⟨k, hk, rfl, rfl, rfl, hu⟩ := hrel
    have HU := hide hu
    by_cases hq : gk = 0
    · have e0 : timesF a n = timesF a k := by have : k = n := by omega
                                              rw [this]
      rw [HT.out] at e0
      obtain ⟨⟨p, c⟩, hp⟩ : ∃ r, timesF a k = r := ⟨_, rfl⟩
      rw [hp] at e0
      rw [hp]
      simp only
      have EP := hide e0
      have d1 : decide (0 < gk) = false := by simp; omega
      clear hu hp e0 hk hq
      go_wp2_with fail
      go_ret2
      exact ⟨by have := Prod.mk.inj EP.out; rw [this.1, this.2]; rfl, HU.out⟩
    · have d1 : decide (0 < gk) = true := by simp; omega
      by_cases hc : (timesF a k).2 = 0
      · have M := (mulB (timesF a k).1 a).1
        have e1 : timesF a (k + 1) = mulF (timesF a k).1 a := by rw [timesF, if_pos hc]
        rw [← e1] at M
        have HE := hide e1
        obtain ⟨⟨p, c⟩, hp⟩ : ∃ r, timesF a k = r := ⟨_, rfl⟩
        rw [hp] at M hc ⊢
        simp only at M hc ⊢
        have b1 : (c == 0) = true := by simpa using hc
        have w1 : IntKind.i64.wrap ((gk : Int) - 1) = ((gk - 1 : Nat) : Int) := by rw [IntWalk.i64_in _ (by omega)]; omega
        obtain ⟨⟨p', c'⟩, hp'⟩ : ∃ r, timesF a (k + 1) = r := ⟨_, rfl⟩
        rw [hp'] at M
        simp only at M
        have HP := hide hp'
        have HK := hide hk
        have HQ := hide hq
        clear hu hp e1 hc hp' hk hq HE
        go_wp2_with fail
        refine Calls.mono (M _) ?_
        rintro e w2 ⟨rfl, u2⟩
        go_wp2_with fail
        go_roundg (gk - 1)
        case measure => have := HQ.out; omega
        case rel => exact ⟨k + 1, by have := HK.out; have := HQ.out; omega, rfl, by rw [HP.out], by rw [HP.out], HU.out.then u2 (fun _ _ => id)⟩
      · have e0 : timesF a n = timesF a k := by have := timesF_stay hc gk
                                                rwa [hk] at this
        rw [HT.out] at e0
        obtain ⟨⟨p, c⟩, hp⟩ : ∃ r, timesF a k = r := ⟨_, rfl⟩
        rw [hp] at e0
        rw [hp] at hc ⊢
        simp only at hc ⊢
        have EP := hide e0
        have b1 : (c == 0) = false := by simpa using hc
        clear hu hp e0 hk hq hc
        go_wp2_with fail
        go_ret2
        exact ⟨by have := Prod.mk.inj EP.out; rw [this.1, this.2]; rfl, HU.out⟩
theorem sign_any (w : World) (a : Int) : Calls Tryz.prog 63 #[.int .i64 a] w fun e w' => e = .returned (.int .i64 (signV a)) ∧ w' = w := by
  unfold signV
  go_enter Tryz.func63, Tryz.ntmps63
  go_wp2_with fail
  all_goals go_ret
  all_goals exact ⟨by simp_all, rfl⟩
theorem even_any (w : World) (a : Int) (ha : okNum a = true) : Calls Tryz.prog 69 #[.int .i64 a] w fun e w' => e = .returned (evenV a).val ∧ Upd w w' (fun _ => False) := by
  have HU0 : Hid (Upd w (w.alloc (.cells #[.int .i64 0, .int .i64 0, .string ⟨#[]⟩, .bool false, .int .i64 0] 26)) (fun _ => False)) := hide ((Upd.refl w _).alloc _)
  have HV0 := hide (Vnew1 w (.cells #[.int .i64 0, .int .i64 0, .string ⟨#[]⟩, .bool false, .int .i64 0] 26))
  have WA := fun w => whole_any w a
  rw [wholeb ha, wholeF_of ha] at WA
  unfold evenV
  by_cases h : a.tmod 10000 = 0
  · have e2 : decide (a.tmod 20000 = 0) = ((a.tdiv 10000).tmod 2 == 0) := by
      rw [Bool.eq_iff_iff]
      simp [even_whole h]
    rw [if_neg (by simp [h]), e2]
    have hd : decide (a.tmod 10000 = 0) = true := by simpa using h
    rw [hd] at WA
    have hr := wholeF_rng a
    rw [wholeF_of ha] at hr
    obtain ⟨z, hz⟩ : ∃ z, a.tdiv 10000 = z := ⟨_, rfl⟩
    rw [hz] at WA hr ⊢
    clear hz
    have BA := fun w => B_any w (z.tmod 2 == 0)
    obtain ⟨⟨k0, n0, t0, b0, e0'⟩, hev⟩ : ∃ v, mkB (z.tmod 2 == 0) = v := ⟨_, rfl⟩
    rw [hev] at BA ⊢
    unfold Vl.val at BA ⊢
    simp only at BA ⊢
    clear h hev hd ha e2
    obtain ⟨hr1, hr2⟩ := hr
    go_enter Tryz.func69, Tryz.ntmps69
    go_wp2_with fail
    refine Calls.mono (WA _) ?_
    rintro e w1 ⟨rfl, u1⟩
    have HU1 := hide (HU0.out.then u1 (fun _ _ => id))
    have HV1 := hide (u1.get HV0.out id)
    clear u1
    go_wp2_with fail
    refine Calls.mono (BA _) ?_
    rintro e w9 ⟨rfl, u9⟩
    have HU9 := hide (HU1.out.then u9 (fun _ _ => id))
    have bV := u9.get HV1.out id
    obtain ⟨v0, v1, v2, v3, v4⟩ := cells5 bV
    have vl := lt_at bV
    have fv0 := free_at bV 0
    have fv1 := free_at bV 1
    have fv2 := free_at bV 2
    have fv3 := free_at bV 3
    have fv4 := free_at bV 4
    have HB := hide bV
    clear bV u9
    go_wp2_with fail
    (try simp only [Exit.inBlock, Exit.then])
    refine bodyPost_ret (ret_vl rfl _ _ w.heap.size ⟨k0, n0, t0, b0, e0'⟩ rfl (block5 (x := vZero) HB.out _ _ _ _ _)) rfl ?_
    exact ⟨rfl, upd5 HU9.out (Nat.le_refl _) _ _ _ _ _⟩
  · rw [if_pos h]
    have hd : decide (a.tmod 10000 = 0) = false := by simpa using h
    rw [hd] at WA
    have EA := fun w => E_any w 2
    obtain ⟨z, hz⟩ : ∃ z, a.tdiv 10000 = z := ⟨_, rfl⟩
    rw [hz] at WA
    clear hz
    obtain ⟨⟨k0, n0, t0, b0, e0'⟩, hev⟩ : ∃ v, mkE 2 = v := ⟨_, rfl⟩
    rw [hev] at EA ⊢
    unfold Vl.val at EA ⊢
    simp only at EA ⊢
    clear h hev hd ha
    go_enter Tryz.func69, Tryz.ntmps69
    go_wp2_with fail
    refine Calls.mono (WA _) ?_
    rintro e w1 ⟨rfl, u1⟩
    have HU1 := hide (HU0.out.then u1 (fun _ _ => id))
    have HV1 := hide (u1.get HV0.out id)
    clear u1
    go_wp2_with fail
    refine Calls.mono (EA _) ?_
    rintro e w9 ⟨rfl, u9⟩
    have HU9 := hide (HU1.out.then u9 (fun _ _ => id))
    have bV := u9.get HV1.out id
    obtain ⟨v0, v1, v2, v3, v4⟩ := cells5 bV
    have vl := lt_at bV
    have fv0 := free_at bV 0
    have fv1 := free_at bV 1
    have fv2 := free_at bV 2
    have fv3 := free_at bV 3
    have fv4 := free_at bV 4
    have HB := hide bV
    clear bV u9
    go_wp2_with fail
    (try simp only [Exit.inBlock, Exit.then])
    refine bodyPost_ret (ret_vl rfl _ _ w.heap.size ⟨k0, n0, t0, b0, e0'⟩ rfl (block5 (x := vZero) HB.out _ _ _ _ _)) rfl ?_
    exact ⟨rfl, upd5 HU9.out (Nat.le_refl _) _ _ _ _ _⟩
end Go.Proofs.YtmfngdjhkpddoaaGreatDoor
/- What operators of numbers tell, as data (plain). -/
set_option maxRecDepth 100000
namespace Go.Proofs.YtmfngdjhkpddoaaGreatDoor
open Go.RowKit Go.Lat Go.Lib

noncomputable def negV (x : Vl) : Vl := if (numF x).2 = 0 then mkN (-(numF x).1) else mkE (numF x).2
noncomputable def pctV (x : Vl) : Vl := if (numF x).2 = 0 then tldV (divF (numF x).1 1000000) else mkE (numF x).2
def addF (a b : Int) : Int × Int := (addV a b, addE a b)
def subF (a b : Int) : Int × Int := (addV a (-b), addE a (-b))
def joinV (s t : List UInt8 × Int) : Vl := if s.2 = 0 then (if t.2 = 0 then mkT (s.1 ++ t.1) else mkE t.2) else mkE s.2
/-- What an operator of numbers tells. -/
def reckV (n : List UInt8) (a b : Int) : Vl × Bool :=
  if n = [43] then (tldV (addF a b), true) else if n = [45] then (tldV (subF a b), true) else if n = [42] then (tldV (mulF a b), true)
  else if n = [47] then (tldV (divF a b), true) else if n = [94] then (powV a b, true) else (vZero, false)
def isCmp (n : List UInt8) : Bool := decide (n = [61]) || (decide (n = [60, 62]) || (decide (n = [60]) || (decide (n = [60, 61]) || (decide (n = [62]) || decide (n = [62, 61])))))
/-- Does a comparison hold of an order? -/
def holdB (n : List UInt8) (o : Int) : Bool :=
  if n = [61] then (o == 0) else if n = [60, 62] then (o != 0) else if n = [60] then decide (o < 0) else if n = [60, 61] then decide (o ≤ 0)
  else if n = [62] then decide (0 < o) else if n = [62, 61] then decide (0 ≤ o) else false
theorem op_cases (n : List UInt8) : (n = [43] ∧ (n == [43]) = true ∧ (n == [45]) = false ∧ (n == [42]) = false ∧ (n == [47]) = false ∧ (n == [94]) = false) ∨
    (n = [45] ∧ (n == [43]) = false ∧ (n == [45]) = true ∧ (n == [42]) = false ∧ (n == [47]) = false ∧ (n == [94]) = false) ∨
    (n = [42] ∧ (n == [43]) = false ∧ (n == [45]) = false ∧ (n == [42]) = true ∧ (n == [47]) = false ∧ (n == [94]) = false) ∨
    (n = [47] ∧ (n == [43]) = false ∧ (n == [45]) = false ∧ (n == [42]) = false ∧ (n == [47]) = true ∧ (n == [94]) = false) ∨
    (n = [94] ∧ (n == [43]) = false ∧ (n == [45]) = false ∧ (n == [42]) = false ∧ (n == [47]) = false ∧ (n == [94]) = true) ∨
    (n ≠ [43] ∧ n ≠ [45] ∧ n ≠ [42] ∧ n ≠ [47] ∧ n ≠ [94] ∧ (n == [43]) = false ∧ (n == [45]) = false ∧ (n == [42]) = false ∧ (n == [47]) = false ∧ (n == [94]) = false) := by
  by_cases h0 : n = [43]
  · left
    subst h0
    exact ⟨rfl, by decide, by decide, by decide, by decide, by decide⟩
  by_cases h1 : n = [45]
  · right; left
    subst h1
    exact ⟨rfl, by decide, by decide, by decide, by decide, by decide⟩
  by_cases h2 : n = [42]
  · right; right; left
    subst h2
    exact ⟨rfl, by decide, by decide, by decide, by decide, by decide⟩
  by_cases h3 : n = [47]
  · right; right; right; left
    subst h3
    exact ⟨rfl, by decide, by decide, by decide, by decide, by decide⟩
  by_cases h4 : n = [94]
  · right; right; right; right; left
    subst h4
    exact ⟨rfl, by decide, by decide, by decide, by decide, by decide⟩
  right; right; right; right; right
  exact ⟨h0, h1, h2, h3, h4, by simpa using h0, by simpa using h1, by simpa using h2, by simpa using h3, by simpa using h4⟩
theorem cmp_cases (n : List UInt8) : (n = [61] ∧ (n == [61]) = true ∧ (n == [60, 62]) = false ∧ (n == [60]) = false ∧ (n == [60, 61]) = false ∧ (n == [62]) = false ∧ (n == [62, 61]) = false) ∨
    (n = [60, 62] ∧ (n == [61]) = false ∧ (n == [60, 62]) = true ∧ (n == [60]) = false ∧ (n == [60, 61]) = false ∧ (n == [62]) = false ∧ (n == [62, 61]) = false) ∨
    (n = [60] ∧ (n == [61]) = false ∧ (n == [60, 62]) = false ∧ (n == [60]) = true ∧ (n == [60, 61]) = false ∧ (n == [62]) = false ∧ (n == [62, 61]) = false) ∨
    (n = [60, 61] ∧ (n == [61]) = false ∧ (n == [60, 62]) = false ∧ (n == [60]) = false ∧ (n == [60, 61]) = true ∧ (n == [62]) = false ∧ (n == [62, 61]) = false) ∨
    (n = [62] ∧ (n == [61]) = false ∧ (n == [60, 62]) = false ∧ (n == [60]) = false ∧ (n == [60, 61]) = false ∧ (n == [62]) = true ∧ (n == [62, 61]) = false) ∨
    (n = [62, 61] ∧ (n == [61]) = false ∧ (n == [60, 62]) = false ∧ (n == [60]) = false ∧ (n == [60, 61]) = false ∧ (n == [62]) = false ∧ (n == [62, 61]) = true) ∨
    (n ≠ [61] ∧ n ≠ [60, 62] ∧ n ≠ [60] ∧ n ≠ [60, 61] ∧ n ≠ [62] ∧ n ≠ [62, 61] ∧ (n == [61]) = false ∧ (n == [60, 62]) = false ∧ (n == [60]) = false ∧ (n == [60, 61]) = false ∧ (n == [62]) = false ∧ (n == [62, 61]) = false) := by
  by_cases h0 : n = [61]
  · left
    subst h0
    exact ⟨rfl, by decide, by decide, by decide, by decide, by decide, by decide⟩
  by_cases h1 : n = [60, 62]
  · right; left
    subst h1
    exact ⟨rfl, by decide, by decide, by decide, by decide, by decide, by decide⟩
  by_cases h2 : n = [60]
  · right; right; left
    subst h2
    exact ⟨rfl, by decide, by decide, by decide, by decide, by decide, by decide⟩
  by_cases h3 : n = [60, 61]
  · right; right; right; left
    subst h3
    exact ⟨rfl, by decide, by decide, by decide, by decide, by decide, by decide⟩
  by_cases h4 : n = [62]
  · right; right; right; right; left
    subst h4
    exact ⟨rfl, by decide, by decide, by decide, by decide, by decide, by decide⟩
  by_cases h5 : n = [62, 61]
  · right; right; right; right; right; left
    subst h5
    exact ⟨rfl, by decide, by decide, by decide, by decide, by decide, by decide⟩
  right; right; right; right; right; right
  exact ⟨h0, h1, h2, h3, h4, h5, by simpa using h0, by simpa using h1, by simpa using h2, by simpa using h3, by simpa using h4, by simpa using h5⟩
end Go.Proofs.YtmfngdjhkpddoaaGreatDoor
