/- NumsRounds' law (plain). -/
import Derived.Test.YtmfngdjhkpddoaaGreatDoorJ42
import Derived.Test.YtmfngdjhkpddoaaGreatDoorJ21
import Derived.Test.YtmfngdjhkpddoaaGreatDoorJ40
import Derived.Test.YtmfngdjhkpddoaaGreatDoorJX1
/- NumsRounds' law (plain). -/
set_option maxRecDepth 100000
namespace Go.Proofs.YtmfngdjhkpddoaaGreatDoor
open Go.RowKit Go.Lat Go.Lib

/-- What is rounded up and what is rounded, at a step of so many parts. -/
theorem up_parts {x T c r : Nat} (hT : 0 < T) (hc : ceilN x T = c) (hr : rnd x T = r) : x ≤ c * T ∧ c * T < x + T ∧ (c = r ∨ c = r + 1) ∧ (c * T = 0 ↔ x = 0) ∧ ceilN (c * T) T = c := by
  have hdm := Nat.div_add_mod x T
  have hlt := Nat.mod_lt x hT
  have h5 : ceilN (c * T) T = c := by
    unfold ceilN
    rw [Nat.mul_div_cancel _ hT, Nat.mul_mod_left, if_pos rfl]
    rfl
  unfold ceilN at hc
  unfold rnd at hr
  obtain ⟨q, hq⟩ : ∃ q, x / T = q := ⟨_, rfl⟩
  obtain ⟨m, hm⟩ : ∃ m, x % T = m := ⟨_, rfl⟩
  rw [hq, hm] at hdm hc hr
  rw [hm] at hlt
  by_cases h0 : m = 0
  · rw [if_pos h0] at hc
    rw [if_pos (by omega)] at hr
    have hcq : c = q := by omega
    have hrq : r = q := by omega
    rw [hcq] at h5 ⊢
    rw [hrq]
    have e : T * q = q * T := Nat.mul_comm _ _
    refine ⟨by omega, by omega, .inl rfl, ?_, h5⟩
    omega
  · rw [if_neg h0] at hc
    have hcq : c = q + 1 := by omega
    have e : c * T = T * q + T := by rw [hcq, Nat.mul_comm, Nat.mul_add]; omega
    refine ⟨by omega, by omega, ?_, ?_, h5⟩
    · split at hr <;> omega
    · omega
/-- All that NumsRounds asks of what is rounded, as numbers: the step T, what is rounded up n, what is rounded m. -/
structure RoundsOk (a n m T : Int) : Prop where
  r1 : -1152921504606856976 ≤ n ∧ n ≤ 1152921504606856976
  r2 : -1152921504606856976 ≤ m ∧ m ≤ 1152921504606856976
  far : (a.natAbs : Int) ≤ (n.natAbs : Int)
  near : (n.natAbs : Int) - (a.natAbs : Int) < T
  step : n.tmod T = 0
  one : n = m ∨ n = m + T ∨ n = m - T
  zero : n = 0 ↔ a = 0
  sign : n < 0 ↔ a < 0
theorem rounds_ok {x T c r : Nat} (hT : 0 < T) (hT2 : T ≤ 10000) (hx : x ≤ 1152921504606846976) (hc : ceilN x T = c) (hr : rnd x T = r) {a : Int} (ha : a.natAbs = x) :
    RoundsOk a (if sgn a then -((c * T : Nat) : Int) else ((c * T : Nat) : Int)) (if sgn a then -((r * T : Nat) : Int) else ((r * T : Nat) : Int)) (T : Int) := by
  obtain ⟨h1, h2, h3, h4, -⟩ := up_parts hT hc hr
  have hs : sgn a = decide (a < 0) := rfl
  have hd : ((c * T : Nat) : Int).tmod (T : Int) = 0 := by
    rw [Int.natCast_mul]
    exact Int.mul_tmod_left _ _
  have hd2 : (-((c * T : Nat) : Int)).tmod (T : Int) = 0 := by rw [Int.neg_tmod, hd]; rfl
  have h3' : c * T = r * T ∨ c * T = r * T + T := by
    rcases h3 with h | h
    · exact .inl (by rw [h])
    · exact .inr (by rw [h, Nat.add_mul, Nat.one_mul])
  obtain ⟨C, hC⟩ : ∃ C, c * T = C := ⟨_, rfl⟩
  obtain ⟨R, hR⟩ : ∃ R, r * T = R := ⟨_, rfl⟩
  rw [hC] at h1 h2 h3' h4 hd hd2 ⊢
  rw [hR] at h3' ⊢
  have hRC : R ≤ C := by omega
  by_cases h : a < 0
  · have e : sgn a = true := by rw [hs]; simpa using h
    rw [e]
    simp only [if_true]
    exact ⟨by omega, by omega, by omega, by omega, hd2, by omega, by omega, by omega⟩
  · have e : sgn a = false := by rw [hs]; simpa using h
    rw [e]
    simp only [Bool.false_eq_true, if_false]
    exact ⟨by omega, by omega, by omega, by omega, hd, by omega, by omega, by omega⟩
/-- Rounded up, rounded, and rounded up again. -/
theorem rounds_law {a p : Int} (ha : -1152921504606846976 ≤ a ∧ a ≤ 1152921504606846976) (h1 : 0 ≤ p) (h2 : p ≤ 4) {T : Int} (hT : T = ((10 ^ (4 - p).toNat : Nat) : Int)) :
    ∃ n m : Int, rupV a (p * 10000) = ⟨1, n, [], false, 0⟩ ∧ rndV a (p * 10000) = ⟨1, m, [], false, 0⟩ ∧ rupV n (p * 10000) = ⟨1, n, [], false, 0⟩ ∧ RoundsOk a n m T := by
  have okn : ∀ z : Int, -1152921504606856976 ≤ z ∧ z ≤ 1152921504606856976 → okNum z = true := fun z hz => by simp [okNum]; omega
  have oa : okNum a = true := okn a ⟨by omega, by omega⟩
  have em : (p * 10000).tmod 10000 = 0 := Int.mul_tmod_left _ _
  have ed : (p * 10000).tdiv 10000 = p := Int.mul_tdiv_cancel _ (by decide)
  have eu : ∀ z : Int, okNum z = true → rupV z (p * 10000) = upV z p := fun z hz => by
    unfold rupV
    rw [em, ed, if_neg (by omega)]
    exact rup_up hz (by omega) (by omega)
  have er : rndV a (p * 10000) = tldV (rndF a p) := by
    unfold rndV
    rw [em, ed, if_neg (by omega)]
  have tn : ∀ z : Int, okNum z = true → tldV (z, 0) = ⟨1, z, [], false, 0⟩ := fun z hz => by unfold tldV mkN; rw [if_pos rfl, hz]; rfl
  by_cases h4 : p = 4
  · subst h4
    have hT' : T = 1 := hT
    subst hT'
    have hm : mkN a = ⟨1, a, [], false, 0⟩ := by unfold mkN; rw [if_pos oa]
    refine ⟨a, a, ?_, ?_, ?_, ?_⟩
    · rw [eu a oa]
      unfold upV
      rw [if_pos (by decide), hm]
    · rw [er]
      unfold rndF
      rw [if_pos oa, if_neg (by decide), if_pos (by decide), tn a oa]
    · rw [eu a oa]
      unfold upV
      rw [if_pos (by decide), hm]
    · exact ⟨by omega, by omega, by omega, by omega, Int.tmod_one _, .inl rfl, Iff.rfl, Iff.rfl⟩
  · obtain ⟨K, hK⟩ : ∃ K, (10 : Nat) ^ (4 - p).toNat = K := ⟨_, rfl⟩
    have hK0 : 0 < K := by rw [← hK]; exact Nat.pow_pos (by decide)
    have hK1 : K ≤ 10000 := by
      rw [← hK]
      exact Nat.le_trans (Nat.pow_le_pow_right (by decide) (show (4 - p).toNat ≤ 4 by omega)) (by decide)
    obtain ⟨x, hx⟩ : ∃ x, a.natAbs = x := ⟨_, rfl⟩
    obtain ⟨c, hc⟩ : ∃ c, ceilN x K = c := ⟨_, rfl⟩
    obtain ⟨r, hr⟩ : ∃ r, rnd x K = r := ⟨_, rfl⟩
    have hxb : x ≤ 1152921504606846976 := by omega
    have RO := rounds_ok hK0 hK1 hxb hc hr hx
    obtain ⟨u1, u2, u3, -, u5⟩ := up_parts hK0 hc hr
    rw [hK] at hT
    rw [← hT] at RO
    have nv : ∀ (s : Bool) (z : Nat), z ≤ 1152921504606856976 → (numV s z, numE z) = (if s then -(z : Int) else (z : Int), 0) := fun s z hz => by
      unfold numV numE
      rw [if_neg (show ¬ 9000000000000000000 < z by omega), if_neg (show ¬ 9000000000000000000 < z by omega)]
    have hcb : c * K ≤ 1152921504606856976 := by omega
    have hrb : r * K ≤ 1152921504606856976 := by
      have : r * K ≤ c * K := Nat.mul_le_mul_right _ (by omega)
      omega
    have up : ∀ z : Int, okNum z = true → z.natAbs ≤ 1152921504606856976 → ceilN z.natAbs K * K ≤ 1152921504606856976 → upV z p = ⟨1, if sgn z then -((ceilN z.natAbs K * K : Nat) : Int) else ((ceilN z.natAbs K * K : Nat) : Int), [], false, 0⟩ := fun z hz h5 h6 => by
      unfold upV
      rw [if_neg (by omega), hK, nv _ _ h6, tn]
      apply okn
      split <;> omega
    refine ⟨_, _, ?_, ?_, ?_, RO⟩
    · rw [eu a oa, up a oa (by omega) (by rw [hx, hc]; exact hcb), hx, hc]
    · rw [er]
      unfold rndF
      rw [if_pos oa, if_neg (by omega), if_neg (by omega), hK, hx, hr, nv _ _ hrb, tn]
      apply okn
      split <;> omega
    · have sg : ∀ z : Int, (sgn z = true → z < 0) ∧ (sgn z = false → 0 ≤ z) := fun z => by
        have : sgn z = decide (z < 0) := rfl
        rw [this]
        refine ⟨fun h => by simpa using h, fun h => by have : ¬ z < 0 := by simpa using h
                                                       omega⟩
      obtain ⟨n, hn⟩ : ∃ n, (if sgn a then -((c * K : Nat) : Int) else ((c * K : Nat) : Int)) = n := ⟨_, rfl⟩
      have hna : n.natAbs = c * K := by rw [← hn]; split <;> omega
      have ok2 : okNum n = true := okn n (by rw [← hn]; split <;> omega)
      have hz := RO.zero
      have hsn := RO.sign
      rw [hn] at hz hsn ⊢
      rw [eu n ok2, up n ok2 (by omega) (by rw [hna, u5]; exact hcb), hna, u5]
      have es : sgn n = sgn a := by
        show decide (n < 0) = decide (a < 0)
        rw [Bool.eq_iff_iff]
        simpa using hsn
      rw [es, hn]
end Go.Proofs.YtmfngdjhkpddoaaGreatDoor
/- The walk of NumsRounds. -/
set_option maxRecDepth 100000
namespace Go.Proofs.YtmfngdjhkpddoaaGreatDoor
open Go.RowKit Go.Lat Go.Lib

set_option maxHeartbeats 12800000 in
theorem NumsRounds_any (w : World) (hg : Sig w) (hp : Pow w) (a p : Int) (hp0 : 0 ≤ p) (hp1 : p < 256) : Calls Tryz.prog 7 #[.int .i64 a, .int .u8 p] w fun e w' => e = .returned (.bool true) ∧ Upd w w' (fun _ => False) := by
  have ra := tmod_rng a 1152921504606846976 (by decide)
  have rp := tmod_rng p 5 (by decide)
  have rp0 : 0 ≤ p.tmod 5 := Int.tmod_nonneg _ hp0
  obtain ⟨x, hx⟩ : ∃ x, a.tmod 1152921504606846976 = x := ⟨_, rfl⟩
  obtain ⟨k, hk⟩ : ∃ k, p.tmod 5 = k := ⟨_, rfl⟩
  rw [hx] at ra
  rw [hk] at rp rp0
  have ox : okNum x = true := by simp [okNum]; omega
  have wx : IntKind.i64.wrap x = x := by rw [IntWalk.i64_in _ (by omega)]
  have wk : IntKind.u8.wrap k = k := by rw [IntWalk.u8_in _ (by omega)]
  have wk2 : IntKind.i64.wrap k = k := by rw [IntWalk.i64_in _ (by omega)]
  obtain ⟨T, hT⟩ : ∃ T : Int, T = ((10 ^ (4 - k).toNat : Nat) : Int) := ⟨_, rfl⟩
  obtain ⟨n, m, e1, e2, e3, RO⟩ := rounds_law (a := x) (p := k) ⟨by omega, by omega⟩ rp0 (by omega) hT
  obtain ⟨q, hq⟩ : ∃ q, k * 10000 = q := ⟨_, rfl⟩
  rw [hq] at e1 e2 e3
  have oq : okNum q = true := by simp [okNum]; omega
  have wq : IntKind.i64.wrap q = q := by rw [IntWalk.i64_in _ (by omega)]
  have rn := RO.r1
  have rm := RO.r2
  have on : okNum n = true := by simp [okNum]; omega
  have NX := N_num x ox
  have NQ := N_num q oq
  have CU : ∀ w g, RdV w (some ⟨g, 0, none⟩) [⟨1, x, [], false, 0⟩, ⟨1, q, [], false, 0⟩] → Calls Tryz.prog 11 #[.string ⟨#[82, 79, 85, 78, 68, 85, 80]⟩, .slice (some ⟨g, 0, none⟩) 2 2] w (fun e w' => e = .returned (.tuple #[.agg #[.int .i64 1, .int .i64 n, .string ⟨#[]⟩, .bool false, .int .i64 0], .bool true]) ∧ Upd w w' (fun _ => False)) := fun w g h => call2_num w [82, 79, 85, 78, 68, 85, 80] (by decide) g ox oq (⟨1, n, [], false, 0⟩ : Vl) (by
    unfold pairV
    rw [if_neg (by decide), if_pos rfl]
    exact e1) h
  have CR : ∀ w g, RdV w (some ⟨g, 0, none⟩) [⟨1, x, [], false, 0⟩, ⟨1, q, [], false, 0⟩] → Calls Tryz.prog 11 #[.string ⟨#[82, 79, 85, 78, 68]⟩, .slice (some ⟨g, 0, none⟩) 2 2] w (fun e w' => e = .returned (.tuple #[.agg #[.int .i64 1, .int .i64 m, .string ⟨#[]⟩, .bool false, .int .i64 0], .bool true]) ∧ Upd w w' (fun _ => False)) := fun w g h => call2_num w [82, 79, 85, 78, 68] (by decide) g ox oq (⟨1, m, [], false, 0⟩ : Vl) (by
    unfold pairV
    rw [if_pos rfl]
    exact e2) h
  have CA : ∀ w g, RdV w (some ⟨g, 0, none⟩) [⟨1, n, [], false, 0⟩, ⟨1, q, [], false, 0⟩] → Calls Tryz.prog 11 #[.string ⟨#[82, 79, 85, 78, 68, 85, 80]⟩, .slice (some ⟨g, 0, none⟩) 2 2] w (fun e w' => e = .returned (.tuple #[.agg #[.int .i64 1, .int .i64 n, .string ⟨#[]⟩, .bool false, .int .i64 0], .bool true]) ∧ Upd w w' (fun _ => False)) := fun w g h => call2_num w [82, 79, 85, 78, 68, 85, 80] (by decide) g on oq (⟨1, n, [], false, 0⟩ : Vl) (by
    unfold pairV
    rw [if_neg (by decide), if_pos rfl]
    exact e3) h
  have MN : ∀ w, Calls Tryz.prog 23 #[.agg #[.int .i64 1, .int .i64 n, .string ⟨#[]⟩, .bool false, .int .i64 0]] w (fun e w' => e = .returned (.tuple #[.int .i64 n, .bool true]) ∧ Upd w w' (fun _ => False)) := fun w => num9_any w ⟨1, n, [], false, 0⟩
  have MM : ∀ w, Calls Tryz.prog 23 #[.agg #[.int .i64 1, .int .i64 m, .string ⟨#[]⟩, .bool false, .int .i64 0]] w (fun e w' => e = .returned (.tuple #[.int .i64 m, .bool true]) ∧ Upd w w' (fun _ => False)) := fun w => num9_any w ⟨1, m, [], false, 0⟩
  have EQ : ∀ w, (binOp .neq 26 (.agg #[.int .i64 1, .int .i64 n, .string ⟨#[]⟩, .bool false, .int .i64 0]) (.agg #[.int .i64 1, .int .i64 n, .string ⟨#[]⟩, .bool false, .int .i64 0])).run Tryz.prog w = .ok (.bool false) w := fun w => by
    have k := neq_vl w (num_ok on) (num_ok on)
    have e : eqV (Vl.mk 1 n [] false 0) (Vl.mk 1 n [] false 0) = true := by rw [eqV_iff]
    rw [e] at k
    exact k
  have HG := hide hg
  have HP := hide hp
  have HRO := hide RO
  have HEQ := hide EQ
  have HRA := hide ra
  have HK := hide (And.intro rp0 rp.2)
  have HT := hide hT
  have HU0 : Hid (Upd w w (fun _ => False)) := hide (Upd.refl w _)
  clear hg hp RO EQ e1 e2 e3 rn rm on ox oq hT ra rp rp0 hp0 hp1
  go_enter Tryz.func7, Tryz.ntmps7
  go_wp2_with fail
  with_reducible refine Calls.mono (NX _) ?_
  rintro e w1 ⟨rfl, u1⟩
  have HU1 := hide (HU0.out.then u1 (fun _ _ => id))
  clear u1
  go_wp2_with fail
  with_reducible refine Calls.mono (NQ _) ?_
  rintro e w2 ⟨rfl, u2⟩
  have HU2 := hide (HU1.out.then u2 (fun _ _ => id))
  clear u2
  go_wp2_with fail
  have HM := hide (rdV_made (w := ((w2.alloc (.cells #[.int .i64 1, .int .i64 x, .string ⟨#[]⟩, .bool false, .int .i64 0] 26)).alloc (.cells #[.int .i64 1, .int .i64 q, .string ⟨#[]⟩, .bool false, .int .i64 0] 26))) (T := 26) (l := [⟨1, x, [], false, 0⟩, ⟨1, q, [], false, 0⟩]) (cur := #[.int .i64 1, .int .i64 x, .string ⟨#[]⟩, .bool false, .int .i64 0, .int .i64 1, .int .i64 q, .string ⟨#[]⟩, .bool false, .int .i64 0]) rfl)
  have hsz : ((w2.alloc (.cells #[.int .i64 1, .int .i64 x, .string ⟨#[]⟩, .bool false, .int .i64 0] 26)).alloc (.cells #[.int .i64 1, .int .i64 q, .string ⟨#[]⟩, .bool false, .int .i64 0] 26)).heap.size = w2.heap.size + 1 + 1 := by simp
  rw [hsz] at HM
  refine Calls.mono (CU _ _ HM) ?_
  rintro e w3 ⟨rfl, u3⟩
  have HX : Hid (w3.heap[w2.heap.size]? = some (.cells #[.int .i64 1, .int .i64 x, .string ⟨#[]⟩, .bool false, .int .i64 0] 26 (0, 0))) := hide (u3.get (block_alloc (block_alloc (Vnew1 w2 (.cells #[.int .i64 1, .int .i64 x, .string ⟨#[]⟩, .bool false, .int .i64 0] 26)) (.cells #[.int .i64 1, .int .i64 q, .string ⟨#[]⟩, .bool false, .int .i64 0] 26)) (.cells #[.int .i64 1, .int .i64 x, .string ⟨#[]⟩, .bool false, .int .i64 0, .int .i64 1, .int .i64 q, .string ⟨#[]⟩, .bool false, .int .i64 0] 26)) id)
  have HY : Hid (w3.heap[w2.heap.size + 1]? = some (.cells #[.int .i64 1, .int .i64 q, .string ⟨#[]⟩, .bool false, .int .i64 0] 26 (0, 0))) := hide (u3.get (block_alloc (Vnew2 w2 (.cells #[.int .i64 1, .int .i64 x, .string ⟨#[]⟩, .bool false, .int .i64 0] 26) (.cells #[.int .i64 1, .int .i64 q, .string ⟨#[]⟩, .bool false, .int .i64 0] 26)) (.cells #[.int .i64 1, .int .i64 x, .string ⟨#[]⟩, .bool false, .int .i64 0, .int .i64 1, .int .i64 q, .string ⟨#[]⟩, .bool false, .int .i64 0] 26)) id)
  have HU3 := hide ((((HU2.out.alloc _).alloc _).alloc _).then u3 (fun _ _ => id))
  clear u3
  clear HM hsz
  have bX := HX.out
  obtain ⟨x0, x1, x2, x3, x4⟩ := cells5 bX
  have xl := lt_at bX
  clear bX
  have bY := HY.out
  obtain ⟨y0, y1, y2, y3, y4⟩ := cells5 bY
  have yl := lt_at bY
  clear bY
  have yl_ : w2.heap.size < w3.heap.size := by omega
  go_wp2_with fail
  have HM := hide (rdV_made (w := (w3.alloc (.cells #[.int .i64 1, .int .i64 n, .string ⟨#[]⟩, .bool false, .int .i64 0] 26))) (T := 26) (l := [⟨1, x, [], false, 0⟩, ⟨1, q, [], false, 0⟩]) (cur := #[.int .i64 1, .int .i64 x, .string ⟨#[]⟩, .bool false, .int .i64 0, .int .i64 1, .int .i64 q, .string ⟨#[]⟩, .bool false, .int .i64 0]) rfl)
  have hsz : (w3.alloc (.cells #[.int .i64 1, .int .i64 n, .string ⟨#[]⟩, .bool false, .int .i64 0] 26)).heap.size = w3.heap.size + 1 := by simp
  rw [hsz] at HM
  refine Calls.mono (CR _ _ HM) ?_
  rintro e w4 ⟨rfl, u4⟩
  have HX := hide (u4.get (block_alloc (block_alloc HX.out (.cells #[.int .i64 1, .int .i64 n, .string ⟨#[]⟩, .bool false, .int .i64 0] 26)) (.cells #[.int .i64 1, .int .i64 x, .string ⟨#[]⟩, .bool false, .int .i64 0, .int .i64 1, .int .i64 q, .string ⟨#[]⟩, .bool false, .int .i64 0] 26)) id)
  have HY := hide (u4.get (block_alloc (block_alloc HY.out (.cells #[.int .i64 1, .int .i64 n, .string ⟨#[]⟩, .bool false, .int .i64 0] 26)) (.cells #[.int .i64 1, .int .i64 x, .string ⟨#[]⟩, .bool false, .int .i64 0, .int .i64 1, .int .i64 q, .string ⟨#[]⟩, .bool false, .int .i64 0] 26)) id)
  have HU : Hid (w4.heap[w3.heap.size]? = some (.cells #[.int .i64 1, .int .i64 n, .string ⟨#[]⟩, .bool false, .int .i64 0] 26 (0, 0))) := hide (u4.get (block_alloc (Vnew1 w3 (.cells #[.int .i64 1, .int .i64 n, .string ⟨#[]⟩, .bool false, .int .i64 0] 26)) (.cells #[.int .i64 1, .int .i64 x, .string ⟨#[]⟩, .bool false, .int .i64 0, .int .i64 1, .int .i64 q, .string ⟨#[]⟩, .bool false, .int .i64 0] 26)) id)
  have HU4 := hide (((HU3.out.alloc _).alloc _).then u4 (fun _ _ => id))
  clear u4
  clear HM hsz
  clear x0 x1 x2 x3 x4 xl y0 y1 y2 y3 y4 yl yl_
  have bU := HU.out
  obtain ⟨u0, u1, u2, u3, u4⟩ := cells5 bU
  have ul := lt_at bU
  clear bU
  have bY := HY.out
  obtain ⟨y0, y1, y2, y3, y4⟩ := cells5 bY
  have yl := lt_at bY
  clear bY
  have yl_ : w2.heap.size < w4.heap.size := by omega
  go_wp2_with fail
  have HM := hide (rdV_made (w := (w4.alloc (.cells #[.int .i64 1, .int .i64 m, .string ⟨#[]⟩, .bool false, .int .i64 0] 26))) (T := 26) (l := [⟨1, n, [], false, 0⟩, ⟨1, q, [], false, 0⟩]) (cur := #[.int .i64 1, .int .i64 n, .string ⟨#[]⟩, .bool false, .int .i64 0, .int .i64 1, .int .i64 q, .string ⟨#[]⟩, .bool false, .int .i64 0]) rfl)
  have hsz : (w4.alloc (.cells #[.int .i64 1, .int .i64 m, .string ⟨#[]⟩, .bool false, .int .i64 0] 26)).heap.size = w4.heap.size + 1 := by simp
  rw [hsz] at HM
  refine Calls.mono (CA _ _ HM) ?_
  rintro e w5 ⟨rfl, u5⟩
  have HX := hide (u5.get (block_alloc (block_alloc HX.out (.cells #[.int .i64 1, .int .i64 m, .string ⟨#[]⟩, .bool false, .int .i64 0] 26)) (.cells #[.int .i64 1, .int .i64 n, .string ⟨#[]⟩, .bool false, .int .i64 0, .int .i64 1, .int .i64 q, .string ⟨#[]⟩, .bool false, .int .i64 0] 26)) id)
  have HY := hide (u5.get (block_alloc (block_alloc HY.out (.cells #[.int .i64 1, .int .i64 m, .string ⟨#[]⟩, .bool false, .int .i64 0] 26)) (.cells #[.int .i64 1, .int .i64 n, .string ⟨#[]⟩, .bool false, .int .i64 0, .int .i64 1, .int .i64 q, .string ⟨#[]⟩, .bool false, .int .i64 0] 26)) id)
  have HU := hide (u5.get (block_alloc (block_alloc HU.out (.cells #[.int .i64 1, .int .i64 m, .string ⟨#[]⟩, .bool false, .int .i64 0] 26)) (.cells #[.int .i64 1, .int .i64 n, .string ⟨#[]⟩, .bool false, .int .i64 0, .int .i64 1, .int .i64 q, .string ⟨#[]⟩, .bool false, .int .i64 0] 26)) id)
  have HR : Hid (w5.heap[w4.heap.size]? = some (.cells #[.int .i64 1, .int .i64 m, .string ⟨#[]⟩, .bool false, .int .i64 0] 26 (0, 0))) := hide (u5.get (block_alloc (Vnew1 w4 (.cells #[.int .i64 1, .int .i64 m, .string ⟨#[]⟩, .bool false, .int .i64 0] 26)) (.cells #[.int .i64 1, .int .i64 n, .string ⟨#[]⟩, .bool false, .int .i64 0, .int .i64 1, .int .i64 q, .string ⟨#[]⟩, .bool false, .int .i64 0] 26)) id)
  have HU5 := hide (((HU4.out.alloc _).alloc _).then u5 (fun _ _ => id))
  clear u5
  clear HM hsz
  clear u0 u1 u2 u3 u4 ul y0 y1 y2 y3 y4 yl yl_
  have bU := HU.out
  obtain ⟨u0, u1, u2, u3, u4⟩ := cells5 bU
  have ul := lt_at bU
  clear bU
  go_wp2_with fail
  with_reducible refine Calls.mono (MN _) ?_
  rintro e w6 ⟨rfl, u6⟩
  have HX := hide (u6.get (block_alloc HX.out (.cells #[.int .i64 1, .int .i64 n, .string ⟨#[]⟩, .bool false, .int .i64 0] 26)) id)
  have HY := hide (u6.get (block_alloc HY.out (.cells #[.int .i64 1, .int .i64 n, .string ⟨#[]⟩, .bool false, .int .i64 0] 26)) id)
  have HU := hide (u6.get (block_alloc HU.out (.cells #[.int .i64 1, .int .i64 n, .string ⟨#[]⟩, .bool false, .int .i64 0] 26)) id)
  have HR := hide (u6.get (block_alloc HR.out (.cells #[.int .i64 1, .int .i64 n, .string ⟨#[]⟩, .bool false, .int .i64 0] 26)) id)
  have HA : Hid (w6.heap[w5.heap.size]? = some (.cells #[.int .i64 1, .int .i64 n, .string ⟨#[]⟩, .bool false, .int .i64 0] 26 (0, 0))) := hide (u6.get (Vnew1 w5 (.cells #[.int .i64 1, .int .i64 n, .string ⟨#[]⟩, .bool false, .int .i64 0] 26)) id)
  have HU6 := hide ((HU5.out.alloc _).then u6 (fun _ _ => id))
  clear u6
  clear u0 u1 u2 u3 u4 ul
  have bR := HR.out
  obtain ⟨r0, r1, r2, r3, r4⟩ := cells5 bR
  have rl := lt_at bR
  clear bR
  go_wp2_with fail
  with_reducible refine Calls.mono (MM _) ?_
  rintro e w7 ⟨rfl, u7⟩
  have HX := hide (u7.get HX.out id)
  have HY := hide (u7.get HY.out id)
  have HU := hide (u7.get HU.out id)
  have HR := hide (u7.get HR.out id)
  have HA := hide (u7.get HA.out id)
  have HU7 := hide (HU6.out.then u7 (fun _ _ => id))
  clear u7
  clear r0 r1 r2 r3 r4 rl
  go_wp2_with fail
  with_reducible refine Calls.mono (wakes9_any _ (HG.out.upd HU7.out id) (HP.out.upd HU7.out id)) ?_
  rintro e w8 ⟨rfl, u8⟩
  have HX := hide (u8.get HX.out id)
  have HY := hide (u8.get HY.out id)
  have HU := hide (u8.get HU.out id)
  have HR := hide (u8.get HR.out id)
  have HA := hide (u8.get HA.out id)
  have HU8 := hide (HU7.out.then u8 (fun _ _ => id))
  clear u8
  have bA := HA.out
  obtain ⟨b0, b1, b2, b3, b4⟩ := cells5 bA
  have bl := lt_at bA
  clear bA
  have bU := HU.out
  obtain ⟨u0, u1, u2, u3, u4⟩ := cells5 bU
  have ul := lt_at bU
  clear bU
  have bX := HX.out
  obtain ⟨x0, x1, x2, x3, x4⟩ := cells5 bX
  have xl := lt_at bX
  clear bX
  have EQ := HEQ.out
  go_upto_region 10 with fail
  clear b0 b1 b2 b3 b4 bl u0 u1 u2 u3 u4 ul x0 x1 x2 x3 x4 xl EQ
  go_cut [17] (fun s wx => s = .int .i64 T ∧ Upd w8 wx (fun _ => False))
  case first =>
    have ht := HT.out
    have hkk := HK.out
    have h5 : k = 0 ∨ k = 1 ∨ k = 2 ∨ k = 3 ∨ k = 4 := by omega
    clear hkk
    rcases h5 with h | h | h | h | h
    all_goals subst h
    all_goals (replace ht := ht.trans rfl; subst ht)
    all_goals go_wp2_with fail
    all_goals go_meet
    all_goals exact ⟨rfl, (Upd.refl _ _).alloc _⟩
  case rest =>
    obtain ⟨rfl, hux⟩ := hcut
    have HX2 := hide (hux.get HX.out id)
    have HUF := hide (HU8.out.then hux (fun _ _ => id))
    have bX := HX2.out
    obtain ⟨x0, x1, x2, x3, x4⟩ := cells5 bX
    have xl := lt_at bX
    clear bX hux HX HY HU HR HA HX2 NX NQ CU CR CA MN MM
    obtain ⟨rn, rm, hfar, hnear, hstep, hone, hzero, hsign⟩ := HRO.out
    have hra := HRA.out
    have hT1 : 1 ≤ T ∧ T ≤ 10000 := by
      have h := HK.out
      have h5 : k = 0 ∨ k = 1 ∨ k = 2 ∨ k = 3 ∨ k = 4 := by omega
      rw [HT.out]
      rcases h5 with h | h | h | h | h <;> subst h <;> decide
    have nT : ¬ T = 0 := by omega
    have zT : (T == 0) = false := by simpa using nT
    by_cases hneg : x < 0
    · have n0 : n < 0 := hsign.2 hneg
      obtain ⟨F, hF⟩ : ∃ F, -n = F := ⟨_, rfl⟩
      obtain ⟨N, hN⟩ : ∃ N, -x = N := ⟨_, rfl⟩
      have wF : IntKind.i64.wrap F = F := by rw [IntWalk.i64_in _ (by omega)]
      have wN : IntKind.i64.wrap N = N := by rw [IntWalk.i64_in _ (by omega)]
      have m1 : max n F = F := by omega
      have m2 : max x N = N := by omega
      have d1 : N ≤ F := by omega
      obtain ⟨D, hD⟩ : ∃ D, F - N = D := ⟨_, rfl⟩
      have wD : IntKind.i64.wrap D = D := by rw [IntWalk.i64_in _ (by omega)]
      have dT : D < T := by omega
      have zn : (n == 0) = false := by simp; omega
      rcases hone with h1 | h1 | h1
      · have q1 : (n == m) = true := by simpa using h1
        clear h1
        clear rn rm hfar hnear hzero hsign hra hT1
        go_wp2_with fail
        go_quiet (fail)
        go_wp2_with fail
        go_ret
        exact ⟨by first | (simp; done) | (simp; omega), HUF.out.drewN nq⟩
      · have g1 : ¬ n = m := fun h => by omega
        have q1 : (n == m) = false := by simpa using g1
        obtain ⟨S, hS⟩ : ∃ S, m + T = S := ⟨_, rfl⟩
        have wS : IntKind.i64.wrap S = S := by rw [IntWalk.i64_in _ (by omega)]
        have q2 : (n == S) = true := by rw [← hS]; simpa using h1
        clear g1
        clear h1
        clear rn rm hfar hnear hzero hsign hra hT1
        go_wp2_with fail
        go_quiet (fail)
        go_wp2_with fail
        go_ret
        exact ⟨by first | (simp; done) | (simp; omega), HUF.out.drewN nq⟩
      · have g1 : ¬ n = m := fun h => by omega
        have q1 : (n == m) = false := by simpa using g1
        obtain ⟨S, hS⟩ : ∃ S, m + T = S := ⟨_, rfl⟩
        have wS : IntKind.i64.wrap S = S := by rw [IntWalk.i64_in _ (by omega)]
        have g2 : ¬ n = S := fun h => by omega
        have q2 : (n == S) = false := by simpa using g2
        obtain ⟨S2, hS2⟩ : ∃ S, m - T = S := ⟨_, rfl⟩
        have wS2 : IntKind.i64.wrap S2 = S2 := by rw [IntWalk.i64_in _ (by omega)]
        have q3 : (n == S2) = true := by rw [← hS2]; simpa using h1
        clear g1 g2
        clear h1
        clear rn rm hfar hnear hzero hsign hra hT1
        go_wp2_with fail
        go_quiet (fail)
        go_wp2_with fail
        go_ret
        exact ⟨by first | (simp; done) | (simp; omega), HUF.out.drewN nq⟩
    · have n0 : ¬ n < 0 := fun h => hneg (hsign.1 h)
      obtain ⟨F, hF⟩ : ∃ F, -n = F := ⟨_, rfl⟩
      obtain ⟨N, hN⟩ : ∃ N, -x = N := ⟨_, rfl⟩
      have wF : IntKind.i64.wrap F = F := by rw [IntWalk.i64_in _ (by omega)]
      have wN : IntKind.i64.wrap N = N := by rw [IntWalk.i64_in _ (by omega)]
      have m1 : max n F = n := by omega
      have m2 : max x N = x := by omega
      have d1 : x ≤ n := by omega
      obtain ⟨D, hD⟩ : ∃ D, n - x = D := ⟨_, rfl⟩
      have wD : IntKind.i64.wrap D = D := by rw [IntWalk.i64_in _ (by omega)]
      have dT : D < T := by omega
      by_cases hz : n = 0
      · have zn : (n == 0) = true := by simpa using hz
        rcases hone with h1 | h1 | h1
        · have q1 : (n == m) = true := by simpa using h1
          clear h1
          clear hz
          clear rn rm hfar hnear hzero hsign hra hT1
          go_wp2_with fail
          go_quiet (fail)
          go_wp2_with fail
          go_ret
          exact ⟨by first | (simp; done) | (simp; omega), HUF.out.drewN nq⟩
        · have g1 : ¬ n = m := fun h => by omega
          have q1 : (n == m) = false := by simpa using g1
          obtain ⟨S, hS⟩ : ∃ S, m + T = S := ⟨_, rfl⟩
          have wS : IntKind.i64.wrap S = S := by rw [IntWalk.i64_in _ (by omega)]
          have q2 : (n == S) = true := by rw [← hS]; simpa using h1
          clear g1
          clear h1
          clear hz
          clear rn rm hfar hnear hzero hsign hra hT1
          go_wp2_with fail
          go_quiet (fail)
          go_wp2_with fail
          go_ret
          exact ⟨by first | (simp; done) | (simp; omega), HUF.out.drewN nq⟩
        · have g1 : ¬ n = m := fun h => by omega
          have q1 : (n == m) = false := by simpa using g1
          obtain ⟨S, hS⟩ : ∃ S, m + T = S := ⟨_, rfl⟩
          have wS : IntKind.i64.wrap S = S := by rw [IntWalk.i64_in _ (by omega)]
          have g2 : ¬ n = S := fun h => by omega
          have q2 : (n == S) = false := by simpa using g2
          obtain ⟨S2, hS2⟩ : ∃ S, m - T = S := ⟨_, rfl⟩
          have wS2 : IntKind.i64.wrap S2 = S2 := by rw [IntWalk.i64_in _ (by omega)]
          have q3 : (n == S2) = true := by rw [← hS2]; simpa using h1
          clear g1 g2
          clear h1
          clear hz
          clear rn rm hfar hnear hzero hsign hra hT1
          go_wp2_with fail
          go_quiet (fail)
          go_wp2_with fail
          go_ret
          exact ⟨by first | (simp; done) | (simp; omega), HUF.out.drewN nq⟩
      · have zn : (n == 0) = false := by simpa using hz
        clear hz
        rcases hone with h1 | h1 | h1
        · have q1 : (n == m) = true := by simpa using h1
          clear h1
          clear rn rm hfar hnear hzero hsign hra hT1
          go_wp2_with fail
          go_quiet (fail)
          go_wp2_with fail
          go_ret
          exact ⟨by first | (simp; done) | (simp; omega), HUF.out.drewN nq⟩
        · have g1 : ¬ n = m := fun h => by omega
          have q1 : (n == m) = false := by simpa using g1
          obtain ⟨S, hS⟩ : ∃ S, m + T = S := ⟨_, rfl⟩
          have wS : IntKind.i64.wrap S = S := by rw [IntWalk.i64_in _ (by omega)]
          have q2 : (n == S) = true := by rw [← hS]; simpa using h1
          clear g1
          clear h1
          clear rn rm hfar hnear hzero hsign hra hT1
          go_wp2_with fail
          go_quiet (fail)
          go_wp2_with fail
          go_ret
          exact ⟨by first | (simp; done) | (simp; omega), HUF.out.drewN nq⟩
        · have g1 : ¬ n = m := fun h => by omega
          have q1 : (n == m) = false := by simpa using g1
          obtain ⟨S, hS⟩ : ∃ S, m + T = S := ⟨_, rfl⟩
          have wS : IntKind.i64.wrap S = S := by rw [IntWalk.i64_in _ (by omega)]
          have g2 : ¬ n = S := fun h => by omega
          have q2 : (n == S) = false := by simpa using g2
          obtain ⟨S2, hS2⟩ : ∃ S, m - T = S := ⟨_, rfl⟩
          have wS2 : IntKind.i64.wrap S2 = S2 := by rw [IntWalk.i64_in _ (by omega)]
          have q3 : (n == S2) = true := by rw [← hS2]; simpa using h1
          clear g1 g2
          clear h1
          clear rn rm hfar hnear hzero hsign hra hT1
          go_wp2_with fail
          go_quiet (fail)
          go_wp2_with fail
          go_ret
          exact ⟨by first | (simp; done) | (simp; omega), HUF.out.drewN nq⟩
end Go.Proofs.YtmfngdjhkpddoaaGreatDoor
/- Bytes among the arguments, opened. -/
set_option maxRecDepth 100000
namespace Go.Proofs.YtmfngdjhkpddoaaGreatDoor
open Go.ChangeShapes Go.WideShapes Go.ChangeAt Go.RowKit Go.Lat Go.Deep

theorem bounds_u8 {n : Int} (h : (Lit.int .u8 n).wf = true) : 0 ≤ n ∧ n < 256 := by
  have h' : IntKind.u8.min ≤ n ∧ n ≤ IntKind.u8.max := by simpa [Lit.wf] using h
  have e1 : IntKind.u8.min = 0 := by decide
  have e2 : IntKind.u8.max = 255 := by decide
  omega
end Go.Proofs.YtmfngdjhkpddoaaGreatDoor
