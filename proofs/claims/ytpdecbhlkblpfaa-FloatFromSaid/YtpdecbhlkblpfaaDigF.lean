/- The walks of the reference's digits of a word, of its powers of 2, and of its trimming. -/
import Derived.Test.YtpdecbhlkblpfaaSqLaw
set_option maxRecDepth 100000
namespace Go.Proofs.Ytpdecbhlkblpfaa
open Go.RowKit Go.Lat

set_option maxHeartbeats 1600000 in
theorem digits2_any (w : World) (n : Nat) (hn : n < 18446744073709551616) :
    Calls Try.prog 33 #[.int .u64 n] w fun e w' => ∃ v, e = .returned v ∧ DgAt w' v (dg n) ∧ Upd w w' (fun _ => False) := by
  obtain ⟨i0, hi, hz0, hz1, hz2⟩ := info_parts Try.info3
  have hlen := dg_len n 20 (by omega)
  go_enter Try.func33, Try.ntmps33
  go_wp2
  go_loopg [0, 3] n (fun q a v wr => ∃ (m : Nat) (l : List Nat), m ≤ q ∧ m ≤ n ∧ a = .int .u64 (m : Nat) ∧ DgAt wr v l ∧ l ++ dg m = dg n ∧ Upd w wr (fun _ => False) ∧ (∀ k, v.ownBlock = some k → w.heap.size ≤ k))
  case atStart => exact ⟨n, [], Nat.le_refl _, Nat.le_refl _, rfl, Rw.nil _ _ _, by simp, Upd.refl _ _, by simp [Value.ownBlock]⟩
  case round =>
    obtain ⟨m, l, hm, hmn, rfl, hv, hl, hu, hob⟩ := hrel
    have hll : l.length ≤ 20 := by
      have := congrArg List.length hl
      rw [List.length_append] at this
      omega
    unfold DgAt at hv
    obtain ⟨k, hk⟩ : ∃ k, m % 10 = k := ⟨_, rfl⟩
    obtain ⟨m2, hm2⟩ : ∃ m2, m / 10 = m2 := ⟨_, rfl⟩
    have hk10 : k < 10 := by omega
    by_cases hm0 : m = 0
    · subst hm0
      rw [dg_zero, List.append_nil] at hl
      have e0 : ((0 : Nat) : Int) = 0 := rfl
      rw [e0]
      go_wp2
      go_ret
      exact ⟨_, rfl, by rw [← hl]; exact hv, hu⟩
    · have hl2 : (l ++ [k]) ++ dg m2 = dg n := by rw [← hl, dg_pos hm0, hk, hm2, List.append_assoc]; rfl
      have e1 : (m : Int) % 10 = (k : Int) := by omega
      have e2 : (m : Int) / 10 = (m2 : Int) := by omega
      have HL := hide hl2
      have hm2b : m2 ≤ gk - 1 ∧ m2 ≤ n ∧ 1 ≤ gk := by omega
      have d1 : ((m : Int) != 0) = true := by simpa using hm0
      clear hk hm2 hl hl2 hm0
      go_wp2_with (at_builtin; go_loud (refine wpList_append_rw _ rfl _ _ 61 61 rfl 3 _ i0 _ 1 8 Try.underlying61 Try.underlying61 (by simp) hi hz0 hz1 hz2 rfl _ l.length _ rfl (hv.alloc _) _ 1 _ rfl (Rw.made _ _ _ 1 1 rfl).src rfl (by simp [Value.oneCell']) (by omega) (by omega) ?_); intro ga gc w1 hv' hg hob')
      go_roundg (gk - 1)
      case measure => omega
      case rel =>
        refine ⟨m2, l ++ [k], by omega, by omega, by first | rfl | go_num, ?_, HL.out, (hu.alloc _).grown hg (fun i hi => .inl (hob i hi)), ?_⟩
        · unfold DgAt
          simpa using hv'
        · intro i hi
          rcases hob' with e | e
          · exact hob i (Eq.trans (show _ = _ from e.symm) hi)
          · rw [e] at hi; simp at hi; have := hu.size; omega

set_option maxHeartbeats 800000 in
theorem power2_any (w : World) (n : Nat) (hn : n ≤ 200) :
    Calls Try.prog 35 #[.int .i64 n] w fun e w' => ∃ v, e = .returned v ∧ DgAt w' v (dg (2 ^ n)) ∧ Upd w w' (fun _ => False) := by
  have hd1 : dg 1 = [1] := by rw [dg_pos (by omega), dg_zero]
  go_enter Try.func35, Try.ntmps35
  go_wp2_with fail
  go_loopg [3, 4] n (fun q v i wr => ∃ k : Nat, k + q = n ∧ i = .int .i64 k ∧ DgAt wr v (dg (2 ^ k)) ∧ Upd w wr (fun _ => False))
  case atStart =>
    refine ⟨0, by omega, rfl, ?_, (Upd.refl w _).alloc _⟩
    rw [Nat.pow_zero, hd1]
    exact Rw.made w _ _ 1 1 rfl
  case round =>
    obtain ⟨k, hk, rfl, hv, hu⟩ := hrel
    by_cases hkn : k < n
    · have d1 : decide (k < n) = true := by simpa using hkn
      have hb : 2 ^ k < 10 ^ 100 := by
        have a1 : 2 ^ k ≤ 2 ^ 200 := Nat.pow_le_pow_right (by omega) (by omega)
        have a2 : (2 : Nat) ^ 200 < 10 ^ 100 := by
          rw [show (2 : Nat) ^ 200 = (2 ^ 2) ^ 100 from by rw [← Nat.pow_mul]]
          exact Nat.pow_lt_pow_left (by omega) (by omega)
        exact Nat.lt_of_le_of_lt a1 a2
      have P := fun w v1 v2 h1 h2 => product_dg w v1 v2 (2 ^ k) [2] h1 h2 (by unfold Norm; decide) hb (by decide)
      rw [show val [2] = 2 from by decide, show 2 ^ k * 2 = 2 ^ (k + 1) from (Nat.pow_succ ..).symm] at P
      have HB := hide hb
      clear hb
      go_wp2_with fail
      have m2 : DgAt (wr.alloc (.cells #[.int .i64 2] 3)) (.slice (some ⟨wr.heap.size, 0, none⟩) 1 1) [2] := Rw.made wr _ _ 1 1 rfl
      refine Calls.mono (P _ _ _ (hv.upd ((Upd.refl wr _).alloc _)) m2) ?_
      rintro e w2 ⟨v2, rfl, q2, u2⟩
      clear P
      go_wp2_with fail
      go_roundg (gk - 1)
      case measure => omega
      case rel => exact ⟨k + 1, by omega, by go_num, q2, (hu.alloc _).then u2 (fun _ _ => id)⟩
    · have hke : k = n := by omega
      subst hke
      have d1 : decide (k < k) = false := by simp
      go_wp2_with fail
      go_ret
      exact ⟨_, rfl, hv, hu⟩

set_option maxHeartbeats 800000 in
theorem trim1_any (w : World) (v : Value) (l : List Nat) (hv : DgAt w v l) (h10 : ∀ d ∈ l, d < 10) (hl : l.length ≤ 100000) :
    Calls Try.prog 52 #[v] w fun e w' => ∃ v', e = .returned v' ∧ DgAt w' v' (dg (val l)) ∧ (∃ n, w' = w.drewN n) ∧ v'.ownBlock = v.ownBlock := by
  obtain ⟨sa, sc, rfl, -⟩ := Rw.form hv
  have hc := fun j hj => dg_cell hv j hj
  obtain ⟨s, hs⟩ : ∃ s, l.length = s := ⟨_, rfl⟩
  obtain ⟨i0, hi, hz0, hz1, hz2⟩ := info_parts Try.info3
  have hsl := fun m (hm : m ≤ l.length) => Rw.slice_to (P := Try.prog) hv 61 i0 Try.underlying61 hi hz1 m hm
  rw [hs] at hsl hc hl ⊢
  have HS := hide hs
  clear hs
  go_enter Try.func52, Try.ntmps52
  go_wp2_with fail
  go_loopg [3] s (fun q v wr => wr = w ∧ ∃ m : Nat, m ≤ q ∧ m ≤ s ∧ v = .int .i64 m ∧ ∀ k, m ≤ k → k < s → l.getD k 0 = 0)
  case atStart => exact ⟨rfl, s, Nat.le_refl _, Nat.le_refl _, rfl, by omega⟩
  case round =>
    obtain ⟨hwr, m, hm, hms, rfl, hz⟩ := hrel
    replace hwr := hwr.symm
    subst hwr
    obtain ⟨a, c, s1, s2, s3⟩ := hsl m hms
    have fin : (m = 0 ∨ l.getD (m - 1) 0 ≠ 0) → DgAt w (.slice a m c) (dg (val l)) := by
      intro hl'
      have e : l.take m = dg (val l) := by
        rw [norm_dg (l.take m) (norm_strike l m (by rw [HS.out]; exact hms) h10 hl'), val_strike l m (by rw [HS.out]; exact hz)]
      unfold DgAt
      rw [← e, List.length_take, HS.out, Nat.min_eq_left hms, List.map_take]
      simpa using s2
    have FIN := hide fin
    have HZ := hide hz
    clear fin hz s2
    obtain ⟨m2, hm2⟩ : ∃ m2, m = m2 := ⟨_, rfl⟩
    by_cases hm0 : m = 0
    · have d3 : decide (0 < m) = false := by simp; omega
      have hF := FIN.out (.inl hm0)
      have HF := hide hF
      clear hF hc hsl hm0 hm2
      go_wp2_with fail
      go_ret
      exact ⟨_, rfl, HF.out, ⟨0, rfl⟩, s3⟩
    · obtain ⟨j, hj⟩ : ∃ j, m = j + 1 := ⟨m - 1, by omega⟩
      have d3 : decide (0 < m) = true := by simp; omega
      have hmp : 0 < m := by omega
      have em : (m : Int) - 1 = (j : Int) := by omega
      obtain ⟨g, off, rfl, k1⟩ := hc j (by omega)
      obtain ⟨z, hzz⟩ : ∃ z, l.getD j 0 = z := ⟨_, rfl⟩
      rw [hzz] at k1
      have ZZ := hide hzz
      have hj0 : (0 : Int) ≤ (j : Int) := Int.natCast_nonneg _
      have hjs : (j : Int) < (s : Int) := by omega
      have HJ := hide hj
      clear hzz hj hm2 hm0 hc hsl
      by_cases hz0' : z = 0
      · have d4 : ((z : Int) == 0) = true := by simp; omega
        go_wp2_with fail
        go_roundg (gk - 1)
        case measure => have := HJ.out; omega
        case rel =>
          refine ⟨rfl, j, by have := HJ.out; omega, by omega, by first | rfl | go_num, ?_⟩
          intro k hk hks
          by_cases e : k = j
          · rw [e, ZZ.out]; exact hz0'
          · exact HZ.out k (by have := HJ.out; omega) hks
      · have d4 : ((z : Int) == 0) = false := by simp; omega
        have hF := FIN.out (.inr (by rw [show m - 1 = j from by have := HJ.out; omega, ZZ.out]; exact hz0'))
        have HF := hide hF
        clear hF
        go_wp2_with fail
        go_ret
        exact ⟨_, rfl, HF.out, ⟨0, rfl⟩, s3⟩
end Go.Proofs.Ytpdecbhlkblpfaa
