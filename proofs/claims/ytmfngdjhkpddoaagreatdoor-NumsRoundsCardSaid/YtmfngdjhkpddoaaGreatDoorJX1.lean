/- Theorems of earlier texts that only the later ones need. -/
import Derived.Test.YtmfngdjhkpddoaaGreatDoorJ10
import Derived.Test.YtmfngdjhkpddoaaGreatDoorJ21
import Derived.Test.YtmfngdjhkpddoaaGreatDoorJ24
import Derived.Test.YtmfngdjhkpddoaaGreatDoorJ39
set_option maxRecDepth 100000
namespace Go.Proofs.YtmfngdjhkpddoaaGreatDoor
open Go.RowKit Go.Lat
theorem neq_vl (w : World) {x y : Vl} (hx : x.ok) (hy : y.ok) : (binOp .neq 26 x.val y.val).run Tryz.prog w = .ok (.bool (!eqV x y)) w := by
  have h := eqIn_vl w hx hy
  unfold Vl.val at h ⊢
  rw [run_neq_struct, h]
  rfl
end Go.Proofs.YtmfngdjhkpddoaaGreatDoor
namespace Go.Proofs.YtmfngdjhkpddoaaGreatDoor
open Go.RowKit Go.Lat Go.Lib
theorem tldV_ok (r : Int × Int) : (tldV r).ok := by
  unfold tldV
  split
  · exact mkN_ok _
  · split
    · exact mkE_ok _
    · exact mkE_ok _
end Go.Proofs.YtmfngdjhkpddoaaGreatDoor
namespace Go.Proofs.YtmfngdjhkpddoaaGreatDoor
open Go.RowKit Go.Lat Go.Lib
theorem stepL_eq : ∀ n : Nat, n ≤ 14 → stepL n = (((10 ^ (4 + n) : Nat) : Int), 0)
  | 0, _ => rfl
  | n + 1, h => by
    have ih := stepL_eq n (by omega)
    rw [stepL]
    have e1 : (10 : Nat) ^ (4 + (n + 1)) = 10 ^ (4 + n) * 10 := by rw [← Nat.pow_succ]; rfl
    have hp : (10 : Nat) ^ (4 + n) ≤ 100000000000000000 := Nat.le_trans (Nat.pow_le_pow_right (by decide) (show 4 + n ≤ 17 by omega)) (by decide)
    rw [e1]
    clear e1
    obtain ⟨P, hP⟩ : ∃ P, (10 : Nat) ^ (4 + n) = P := ⟨_, rfl⟩
    rw [hP] at hp ih ⊢
    rw [ih]
    simp only [if_true]
    have o1 : okNum (P : Int) = true := by simp [okNum]; omega
    have o2 : okNum 100000 = true := by decide
    have s1 : sgn (P : Int) = false := by simp [sgn]
    have s2 : sgn 100000 = false := by decide
    have r1 : rnd (P * 100000) 10000 = P * 10 := by
      have m1 : P * 100000 % 10000 = 0 := by omega
      have m2 : P * 100000 / 10000 = P * 10 := by omega
      unfold rnd
      rw [m1, m2]
      rfl
    have hn : ¬ 9000000000000000000 < P * 10 := by omega
    have hm : mulF (P : Int) 100000 = (numV false (P * 10), numE (P * 10)) := by
      unfold mulF
      rw [o1, o2, s1, s2]
      simp only [Bool.and_self, if_true, Int.natAbs_natCast, bne_self_eq_false]
      rw [show ((100000 : Int).natAbs) = 100000 from rfl, r1]
    rw [hm]
    unfold numV numE
    rw [if_neg hn, if_neg hn]
    simp
theorem stepL_15 : stepL 15 = (0, 5) := by
  have ih := stepL_eq 14 (by omega)
  rw [stepL, ih]
  rfl
theorem stepF_eq {p : Int} (h1 : -15 ≤ p) (h2 : p ≤ 3) : stepF p = if p = -15 then (0, 5) else (((10 ^ (4 - p).toNat : Nat) : Int), 0) := by
  unfold stepF
  by_cases h0 : 0 ≤ p
  · rw [if_pos h0, if_neg (by omega)]
  · rw [if_neg h0]
    obtain ⟨n, hn⟩ : ∃ n : Nat, p = -(n : Int) := ⟨(-p).toNat, by omega⟩
    subst hn
    have e1 : (- -(n : Int)).toNat = n := by omega
    have e2 : (4 - -(n : Int)).toNat = 4 + n := by omega
    rw [e1, e2]
    by_cases h : n = 15
    · subst h
      rw [if_pos (by rfl)]
      exact stepL_15
    · rw [if_neg (by omega)]
      exact stepL_eq n (by omega)
theorem numV_abs (s : Bool) (X : Nat) (h : X ≤ 9000000000000000000) : (numV s X).natAbs = X := by
  unfold numV
  rw [if_neg (by omega)]
  cases s <;> simp
theorem rup_up {a p : Int} (ha : okNum a = true) (h1 : -15 ≤ p) (h2 : p ≤ 15) : rupF a p = upV a p := by
  unfold upV
  by_cases h4 : 4 ≤ p
  · rw [if_pos h4]
    have hr : rndF a p = (a, 0) := by
      unfold rndF
      rw [if_pos ha, if_neg (by omega), if_pos h4]
    unfold rupF
    rw [hr, if_pos (.inr (Nat.le_refl _))]
    rfl
  rw [if_neg h4]
  have hst := stepF_eq h1 (by omega : p ≤ 3)
  have hT : 10 ^ (4 - p).toNat = 10 ^ (4 - p).toNat := rfl
  have hp15 : p = -15 → (10 : Nat) ^ (4 - p).toNat = 10000000000000000000 := fun h => by subst h; decide
  have hp14 : p ≠ -15 → (10 : Nat) ^ (4 - p).toNat ≤ 1000000000000000000 := fun h => by
    have : (10 : Nat) ^ (4 - p).toNat ≤ 10 ^ 18 := Nat.pow_le_pow_right (by decide) (by omega)
    exact Nat.le_trans this (by decide)
  have hT0 : 0 < (10 : Nat) ^ (4 - p).toNat := Nat.pow_pos (by decide)
  have hr : rndF a p = (numV (sgn a) (rnd a.natAbs (10 ^ (4 - p).toNat) * 10 ^ (4 - p).toNat), numE (rnd a.natAbs (10 ^ (4 - p).toNat) * 10 ^ (4 - p).toNat)) := by
    unfold rndF
    rw [if_pos ha, if_neg (by omega), if_neg h4]
  clear hT
  generalize (10 : Nat) ^ (4 - p).toNat = T at *
  have ba := okNum_true ha
  obtain ⟨x, hx⟩ : ∃ x, a.natAbs = x := ⟨_, rfl⟩
  have hxb : x ≤ 9000000000000000000 := by omega
  unfold rupF
  rw [hr]
  simp only [hx]
  rw [hst]
  have hdm := Nat.div_add_mod x T
  have hlt := Nat.mod_lt x hT0
  obtain ⟨q, hq⟩ : ∃ q, x / T = q := ⟨_, rfl⟩
  obtain ⟨m, hm⟩ : ∃ m, x % T = m := ⟨_, rfl⟩
  rw [hq, hm] at hdm
  rw [hm] at hlt
  have eR : rnd x T = q + if 2 * m < T then 0 else 1 := by unfold rnd; rw [hq, hm]
  have eC : ceilN x T = q + if m = 0 then 0 else 1 := by unfold ceilN; rw [hq, hm]
  have hmul : T * q = q * T := Nat.mul_comm _ _
  have hmul1 : (q + 1) * T = q * T + T := Nat.succ_mul q T
  by_cases hup : m = 0 ∨ ¬ 2 * m < T
  · -- what is nearest is not nearer to 0
    have e : rnd x T = ceilN x T := by
      rw [eR, eC]
      rcases hup with h | h
      · rw [if_pos (by omega), if_pos h]
      · rw [if_neg h, if_neg (by omega)]
    rw [← e]
    have hge : x ≤ rnd x T * T := by
      rw [eR]
      split
      · rename_i h2'
        have : m = 0 := hup.elim id (fun h => absurd h2' h)
        simp only [Nat.add_zero]
        omega
      · omega
    by_cases hov : 9000000000000000000 < rnd x T * T
    · have : numE (rnd x T * T) = 5 := by unfold numE; rw [if_pos hov]
      rw [this, if_pos (.inl (by decide))]
    · have hh : x ≤ (numV (sgn a) (rnd x T * T)).natAbs := by
        rw [numV_abs _ _ (by omega)]
        exact hge
      rw [if_pos (.inr hh)]
  · simp only [not_or, Decidable.not_not] at hup
    obtain ⟨m0, m1⟩ := hup
    have e1 : rnd x T = q := by rw [eR, if_pos m1]; rfl
    have e2 : ceilN x T = q + 1 := by rw [eC, if_neg m0]
    rw [e1, e2, hmul1]
    have hqx : q * T < x := by omega
    have hE : numE (q * T) = 0 := by unfold numE; rw [if_neg (by omega)]
    rw [hE, numV_abs _ _ (by omega), if_neg (by simp; omega)]
    by_cases h15 : p = -15
    · rw [if_pos h15]
      simp only [ne_eq, show ¬ (5 : Int) = 0 from by decide, not_false_eq_true, if_true]
      have hTv := hp15 h15
      have hbig : 9000000000000000000 < q * T + T := by omega
      unfold numE
      rw [if_pos hbig]
      rfl
    · rw [if_neg h15]
      have hTv := hp14 h15
      simp only [ne_eq, not_true_eq_false, if_false]
      have key : ∀ s : Bool, sgn a = s → (addV (numV s (q * T)) (if a < 0 then -(T : Int) else T), addE (numV s (q * T)) (if a < 0 then -(T : Int) else T)) = (numV s (q * T + T), numE (q * T + T)) := by
        intro s hs
        have hsa : (a < 0) ↔ s = true := by rw [← hs]; simp [sgn]
        have hv : numV s (q * T) = if s then -((q * T : Nat) : Int) else ((q * T : Nat) : Int) := by
          unfold numV
          rw [if_neg (by omega)]
        rw [hv]
        generalize q * T = Y at *
        have o1 : okNum (if s then -(Y : Int) else (Y : Int)) = true := by cases s <;> simp [okNum] <;> omega
        have o2 : okNum (if a < 0 then -(T : Int) else (T : Int)) = true := by split <;> simp [okNum] <;> omega
        have hsum : (if s then -(Y : Int) else (Y : Int)) + (if a < 0 then -(T : Int) else (T : Int)) = if s then -((Y + T : Nat) : Int) else ((Y + T : Nat) : Int) := by
          cases s with
          | true => rw [if_pos (hsa.2 rfl)]; simp; omega
          | false =>
            rw [if_neg (fun h => Bool.noConfusion (hsa.1 h))]
            simp
        unfold addV addE numV numE
        rw [hsum, o1, o2]
        by_cases hov : 9000000000000000000 < Y + T
        · have o3 : okNum (if s then -((Y + T : Nat) : Int) else ((Y + T : Nat) : Int)) = false := by cases s <;> simp [okNum] <;> omega
          rw [o3, if_pos hov, if_pos hov]
          rfl
        · have o3 : okNum (if s then -((Y + T : Nat) : Int) else ((Y + T : Nat) : Int)) = true := by cases s <;> simp [okNum] <;> omega
          rw [o3, if_neg hov, if_neg hov]
          rfl
      rw [key _ rfl]
end Go.Proofs.YtmfngdjhkpddoaaGreatDoor
namespace Go.Proofs.YtmfngdjhkpddoaaGreatDoor
open Go.RowKit Go.Lat Go.Lib
/-- What is left has the divisor's sign, and is what Go leaves, or that and the divisor. -/
theorem remF_cases {a b : Int} (ha : okNum a = true) (hb : okNum b = true) (h0 : b ≠ 0) : (remF a b).2 = 0 ∧ ((remF a b).1 = a.tmod b ∨ (remF a b).1 = a.tmod b + b) := by
  unfold remF
  rw [ha, hb]
  simp only [Bool.and_self, if_true]
  rw [if_neg h0]
  refine ⟨rfl, ?_⟩
  obtain ⟨s, x, ea, hs0, hs, hx⟩ := signed a
  obtain ⟨t, y, eb, ht0, ht, hy⟩ := signed b
  have e1 : sgn a = s := hs
  have e2 : sgn b = t := ht
  rw [e1, e2, ← hx, ← hy]
  have hy0 : 0 < y := by
    rcases Nat.eq_zero_or_pos y with h | h
    · subst h
      exfalso
      apply h0
      rw [eb]
      cases t <;> rfl
    · exact h
  have hlt := Nat.mod_lt x hy0
  have hm : a.tmod b = if s then -((x % y : Nat) : Int) else ((x % y : Nat) : Int) := by rw [ea, eb]; exact tmod_signed s t x y
  rw [hm, eb]
  simp only
  unfold modV modN
  generalize x % y = m at *
  cases s <;> cases t
  · left
    simp
  · by_cases h : m = 0
    · left
      simp [h]
    · right
      simp [h]
      omega
  · by_cases h : m = 0
    · left
      simp [h]
    · right
      simp [h]
      omega
  · left
    simp
end Go.Proofs.YtmfngdjhkpddoaaGreatDoor
namespace Go.Proofs.YtmfngdjhkpddoaaGreatDoor
open Go.RowKit Go.Lat Go.Lib
theorem reckV_ok (n : List UInt8) (a b : Int) : (reckV n a b).1.ok := by
  unfold reckV
  repeat' split
  all_goals first | exact tldV_ok _ | (simp only []; exact tldV_ok _) | (simp only [powV]; repeat' split) | exact vZero_ok
  all_goals first | exact tldV_ok _ | exact mkE_ok _ | exact vZero_ok
end Go.Proofs.YtmfngdjhkpddoaaGreatDoor
namespace Go.Proofs.YtmfngdjhkpddoaaGreatDoor
open Go.RowKit Go.Lat Go.Lib
theorem num9_any (w : World) (x : Vl) : Calls Tryz.prog 23 #[x.val] w fun e w' => e = .returned (.tuple #[.int .i64 x.n, .bool (x.k == 1)]) ∧ Upd w w' (fun _ => False) := by
  obtain ⟨k, n, t, b, f⟩ := x
  unfold Vl.val
  simp only
  obtain ⟨q, hq⟩ : ∃ q, (k == 1) = q := ⟨_, rfl⟩
  rw [hq]
  go_enter Tryz.func23, Tryz.ntmps23
  go_wp2_with fail
  go_quiet (fail)
  go_wp2_with fail
  go_ret2
  exact ⟨rfl, ((Upd.refl w _).alloc _).drewN _⟩
end Go.Proofs.YtmfngdjhkpddoaaGreatDoor
