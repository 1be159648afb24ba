/- The walk of math/bits.Div64 at a high word that is not 0. -/
import Derived.Test.YtmfngdjhkpddoaaGreatDoorJ01
import Derived.Test.YtmfngdjhkpddoaaGreatDoorJ03
import Derived.Test.YtmfngdjhkpddoaaGreatDoorJ02
/- The walk of math/bits.Div64 at a high word that is not 0. -/
set_option maxRecDepth 100000
namespace Go.Proofs.YtmfngdjhkpddoaaGreatDoor
open Go.RowKit Go.Lat

theorem bitLenAux_spec : ∀ (f x : Nat), x < 2 ^ f → Lib.bitLenAux f x ≤ f ∧ x < 2 ^ Lib.bitLenAux f x ∧ (0 < x → 1 ≤ Lib.bitLenAux f x ∧ 2 ^ (Lib.bitLenAux f x - 1) ≤ x)
  | 0, x, h => by simp [Lib.bitLenAux] at h ⊢; omega
  | f + 1, x, h => by
    unfold Lib.bitLenAux
    by_cases hx : x = 0
    · simp [hx]
    · rw [if_neg hx]
      have hp := Nat.pow_succ (n := 2) (m := f)
      obtain ⟨a, b, c⟩ := bitLenAux_spec f (x / 2) (by omega)
      refine ⟨by omega, ?_, fun _ => ⟨by omega, ?_⟩⟩
      · rw [Nat.add_comm 1, Nat.pow_succ]
        omega
      · rw [Nat.add_sub_cancel_left]
        by_cases h2 : x / 2 = 0
        · have h1 : x = 1 := by omega
          subst h1
          have : Lib.bitLenAux f 0 = 0 := by cases f <;> rfl
          simp [this]
        · obtain ⟨c1, c2⟩ := c (by omega)
          have e : 2 ^ Lib.bitLenAux f (x / 2) = 2 * 2 ^ (Lib.bitLenAux f (x / 2) - 1) := by
            rw [← Nat.pow_succ']
            congr 1
            omega
          omega

theorem wrap_u64n (n : Nat) (h : n < 18446744073709551616) : IntKind.u64.wrap (n : Int) = (n : Int) := by rw [IntKind.wrap_u64]; omega
/-- What a loop of the division holds. -/
structure Kn (y1 y0 u d : Nat) (q r : Nat) : Prop where
  s : q * y1 + r = u
  ge : (u * 4294967296 + d) / (y1 * 4294967296 + y0) ≤ q
  r0 : r < 4294967296
  q1 : q ≤ 4294967297

theorem Kn.start {y1 y0 u d : Nat} (hy1 : 4294967296 ≤ 2 * y1) (hy2 : y1 < 4294967296) (h0 : y0 < 4294967296) (hd : d < 4294967296) (hu : u < y1 * 4294967296 + y0) : Kn y1 y0 u d (u / y1) (u % y1) := by
  obtain ⟨a, b⟩ := kn_start y1 y0 u d hy1 h0 hd hu
  refine ⟨by rw [Nat.mul_comm]; exact Nat.div_add_mod u y1, a, ?_, b⟩
  have := Nat.mod_lt u (show 0 < y1 by omega)
  omega

set_option maxHeartbeats 3200000 in
theorem Div64_core (w : World) (h l z s t y y1 y0 H L u v d1 d0 : Nat) (hz : h < z) (h0 : 0 < h) (hz64 : z < 18446744073709551616) (hs : 64 - Lib.bitLen z = s) (hs2 : s ≤ 63) (hbl : Lib.bitLen z ≤ 64) (ht : t + s = 64)
    (ey : z * 2 ^ s = y) (hy64 : y < 18446744073709551616) (hyn : 9223372036854775808 ≤ y) (ey1 : y / 4294967296 = y1) (ey0 : y % 4294967296 = y0) (eH : h * 2 ^ s = H) (eL : l / 2 ^ t = L) (eu : H + L = u) (hLs : L < 2 ^ s) (huy : u < y) (ev : l * 2 ^ s % 18446744073709551616 = v) (ed1 : v / 4294967296 = d1) (ed0 : v % 4294967296 = d0) :
    Calls Tryz.prog 159 #[.int .u64 h, .int .u64 l, .int .u64 z] w fun e w' =>
      e = .returned (.tuple #[.int .u64 (((u * 4294967296 + d1) / y * 4294967296 + ((u * 4294967296 + d1) % y * 4294967296 + d0) / y : Nat) : Int), .int .u64 ((((u * 4294967296 + d1) % y * 4294967296 + d0) % y / 2 ^ s : Nat) : Int)]) ∧ w' = w := by
  have hLZ : ∀ w, Calls Tryz.prog 179 #[.int .u64 z] w fun e w' => e = .returned (.int .i64 s) ∧ w' = w := by
    intro w
    have := Tryz.bits_LeadingZeros64 (z : Int) w (by omega) (by omega)
    rw [show (64 : Int) - (Lib.bitLen (z : Int).toNat : Int) = (s : Int) from by simp only [Int.toNat_natCast]; omega] at this
    exact this
  have hsI : IntKind.u64.wrap (s : Int) = (s : Int) := wrap_u64n s (by omega)
  have htI : IntKind.u64.wrap (64 - (s : Int)) = (t : Int) := by rw [show (64 : Int) - (s : Int) = (t : Int) from by omega]; exact wrap_u64n t (by omega)
  have f1 : IntKind.u64.wrap ((z : Int) * 2 ^ s) = (y : Int) := by rw [show (z : Int) * 2 ^ s = (y : Int) from by rw [← ey]; simp]; exact wrap_u64n y hy64
  have f2 : (y : Int) / 4294967296 = (y1 : Int) := by omega
  have f3 : bits .and .u64 (y : Int) 4294967295 = (y0 : Int) := by
    have := u64_and_nat y 4294967295 hy64 (by omega)
    rw [show y &&& 4294967295 = y % 2 ^ 32 from Nat.and_two_pow_sub_one_eq_mod y 32] at this
    rw [← ey0]
    exact this
  have hH64 : H < 18446744073709551616 := by omega
  have hor : H ||| L = u := by
    rw [← eu]
    refine nat_join s H L ?_ hLs
    rw [← eH]
    exact Nat.mul_mod_left _ _
  have f4 : bits .or .u64 (IntKind.u64.wrap ((h : Int) * 2 ^ s)) ((l : Int) / 2 ^ min t 64) = (u : Int) := by
    rw [Nat.min_eq_left (show t ≤ 64 by omega), show (h : Int) * 2 ^ s = (H : Int) from by rw [← eH]; simp, show (l : Int) / 2 ^ t = (L : Int) from by rw [← eL]; simp, wrap_u64n H hH64, u64_or_nat H L hH64 (by omega), hor]
  have f5 : IntKind.u64.wrap ((l : Int) * 2 ^ s) = (v : Int) := by
    rw [show (l : Int) * 2 ^ s = ((l * 2 ^ s : Nat) : Int) from by simp, IntKind.wrap_u64, ← ev]
    omega
  have hv : v < 18446744073709551616 := by omega
  have f6 : (v : Int) / 4294967296 = (d1 : Int) := by omega
  have f7 : bits .and .u64 (v : Int) 4294967295 = (d0 : Int) := by
    have := u64_and_nat v 4294967295 hv (by omega)
    rw [show v &&& 4294967295 = v % 2 ^ 32 from Nat.and_two_pow_sub_one_eq_mod v 32] at this
    rw [← ed0]
    exact this
  have hd1 : d1 < 4294967296 := by omega
  have hd0 : d0 < 4294967296 := by omega
  have hy0 : y0 < 4294967296 := by omega
  have hy1 : y1 < 4294967296 := by omega
  have hy1n : 4294967296 ≤ 2 * y1 := by omega
  have eY : y = y1 * 4294967296 + y0 := by omega
  have z1 : ((z : Int) == 0) = false := by simp; omega
  have z1' : (z == 0) = false := by simp; omega
  have z2 : decide (z ≤ h) = false := by simp; omega
  have z3 : ((h : Int) == 0) = false := by simp; omega
  have z3' : (h == 0) = false := by simp; omega
  have y1z : ¬ (y1 : Int) = 0 := by omega
  have y1z' : ¬ y1 = 0 := by omega
  have HS := hide hLs
  clear hor eH eL eu hLs ev ed1 ed0 ey1 ey0 ey hH64 hs hbl ht hz
  obtain ⟨Q1, hQ1⟩ : ∃ Q1, (u * 4294967296 + d1) / y = Q1 := ⟨_, rfl⟩
  obtain ⟨R1, hR1e⟩ : ∃ R1, (u * 4294967296 + d1) % y = R1 := ⟨_, rfl⟩
  have dm1 := Nat.div_add_mod (u * 4294967296 + d1) y
  have rl1 := Nat.mod_lt (u * 4294967296 + d1) (show 0 < y by omega)
  have ql1 : (u * 4294967296 + d1) / y < 4294967296 := by
    rw [Nat.div_lt_iff_lt_mul (by omega)]
    omega
  rw [hQ1, hR1e] at dm1
  rw [hR1e] at rl1
  rw [hQ1] at ql1
  rw [hQ1, hR1e]
  obtain ⟨Q0, hQ0⟩ : ∃ Q0, (R1 * 4294967296 + d0) / y = Q0 := ⟨_, rfl⟩
  obtain ⟨R0, hR0e⟩ : ∃ R0, (R1 * 4294967296 + d0) % y = R0 := ⟨_, rfl⟩
  have dm0 := Nat.div_add_mod (R1 * 4294967296 + d0) y
  have rl0 := Nat.mod_lt (R1 * 4294967296 + d0) (show 0 < y by omega)
  have ql0 : (R1 * 4294967296 + d0) / y < 4294967296 := by
    rw [Nat.div_lt_iff_lt_mul (by omega)]
    omega
  rw [hQ0, hR0e] at dm0
  rw [hR0e] at rl0
  rw [hQ0] at ql0
  rw [hQ0, hR0e]
  obtain ⟨M1, hM1⟩ : ∃ M1, Q1 * y = M1 := ⟨_, rfl⟩
  obtain ⟨M0, hM0⟩ : ∃ M0, Q0 * y = M0 := ⟨_, rfl⟩
  rw [Nat.mul_comm, hM1] at dm1
  rw [Nat.mul_comm, hM0] at dm0
  have i1 : (Q1 : Int) * (y : Int) = (M1 : Int) := by rw [← hM1]; simp
  have i0 : (Q0 : Int) * (y : Int) = (M0 : Int) := by rw [← hM0]; simp
  have j1 : IntKind.u64.wrap (M1 : Int) = ((M1 % 18446744073709551616 : Nat) : Int) := by rw [IntKind.wrap_u64]; omega
  have j0 : IntKind.u64.wrap (M0 : Int) = ((M0 % 18446744073709551616 : Nat) : Int) := by rw [IntKind.wrap_u64]; omega
  obtain ⟨X3, hX3⟩ : ∃ X3, M1 % 18446744073709551616 = X3 := ⟨_, rfl⟩
  obtain ⟨Y3, hY3⟩ : ∃ Y3, M0 % 18446744073709551616 = Y3 := ⟨_, rfl⟩
  rw [hX3] at j1
  rw [hY3] at j0
  obtain ⟨X1, hX1⟩ : ∃ X1, u * 4294967296 % 18446744073709551616 = X1 := ⟨_, rfl⟩
  obtain ⟨X2, hX2⟩ : ∃ X2, (X1 + d1) % 18446744073709551616 = X2 := ⟨_, rfl⟩
  obtain ⟨Y1, hY1⟩ : ∃ Y1, R1 * 4294967296 % 18446744073709551616 = Y1 := ⟨_, rfl⟩
  obtain ⟨Y2, hY2⟩ : ∃ Y2, (Y1 + d0) % 18446744073709551616 = Y2 := ⟨_, rfl⟩
  have k1 : IntKind.u64.wrap ((u : Int) * 4294967296) = (X1 : Int) := by rw [IntKind.wrap_u64]; omega
  have k2 : IntKind.u64.wrap ((X1 : Int) + (d1 : Int)) = (X2 : Int) := by rw [IntKind.wrap_u64]; omega
  have k3 : IntKind.u64.wrap ((X2 : Int) - (X3 : Int)) = (R1 : Int) := by rw [IntKind.wrap_u64]; omega
  have l1 : IntKind.u64.wrap ((R1 : Int) * 4294967296) = (Y1 : Int) := by rw [IntKind.wrap_u64]; omega
  have l2 : IntKind.u64.wrap ((Y1 : Int) + (d0 : Int)) = (Y2 : Int) := by rw [IntKind.wrap_u64]; omega
  have l3 : IntKind.u64.wrap ((Y2 : Int) - (Y3 : Int)) = (R0 : Int) := by rw [IntKind.wrap_u64]; omega
  obtain ⟨A1, hA1⟩ : ∃ A1, Q1 * 4294967296 = A1 := ⟨_, rfl⟩
  rw [hA1]
  obtain ⟨A2, hA2⟩ : ∃ A2, A1 + Q0 = A2 := ⟨_, rfl⟩
  rw [hA2]
  have m1 : (Q1 : Int) * 4294967296 = (A1 : Int) := by omega
  have m2 : IntKind.u64.wrap (A1 : Int) = (A1 : Int) := wrap_u64n A1 (by omega)
  have m3 : (A1 : Int) + (Q0 : Int) = (A2 : Int) := by omega
  have m4 : IntKind.u64.wrap (A2 : Int) = (A2 : Int) := wrap_u64n A2 (by omega)
  obtain ⟨Z, hZ⟩ : ∃ Z, R0 / 2 ^ s = Z := ⟨_, rfl⟩
  rw [hZ]
  have n1 : (R0 : Int) / 2 ^ s = (Z : Int) := by rw [← hZ]; simp
  have huR : R1 < y1 * 4294967296 + y0 := by omega
  have HQ1 := hide hQ1
  have HQ0 := hide hQ0
  have hR1 := huR
  clear hA1 hA2 hX1 hX2 hX3 hY1 hY2 hY3 hM1 hM0 hQ1 hQ0 hR1e hR0e dm1 dm0 rl1 rl0 ql1 ql0 hZ huR
  have KB := Kn.start hy1n hy1 hy0 hd0 hR1
  rw [eY] at huy
  have EY := hide eY
  clear eY
  have KA := Kn.start hy1n hy1 hy0 hd1 huy
  obtain ⟨qb, hqb⟩ : ∃ qb, R1 / y1 = qb := ⟨_, rfl⟩
  obtain ⟨rb, hrb⟩ : ∃ rb, R1 % y1 = rb := ⟨_, rfl⟩
  rw [hqb, hrb] at KB
  obtain ⟨mb, hmb⟩ : ∃ mb, qb * y1 = mb := ⟨_, rfl⟩
  have gB1 : (R1 : Int) / (y1 : Int) = (qb : Int) := by rw [← hqb]; rfl
  have gB0 : (R1 : Int).tdiv (y1 : Int) = (qb : Int) := by rw [← hqb]; rfl
  have gB2 : IntKind.u64.wrap (qb : Int) = (qb : Int) := wrap_u64n qb (by have := KB.q1; omega)
  have gB3 : (qb : Int) * (y1 : Int) = (mb : Int) := by rw [← hmb]; simp
  have gBs := KB.s
  rw [hmb] at gBs
  have gB4 : IntKind.u64.wrap (mb : Int) = (mb : Int) := wrap_u64n mb (by omega)
  have gB5 : (R1 : Int) - (mb : Int) = (rb : Int) := by omega
  have gB6 : IntKind.u64.wrap (rb : Int) = (rb : Int) := wrap_u64n rb (by have := KB.r0; omega)
  clear hqb hrb hmb gBs
  obtain ⟨qa, hqa⟩ : ∃ qa, u / y1 = qa := ⟨_, rfl⟩
  obtain ⟨ra, hra⟩ : ∃ ra, u % y1 = ra := ⟨_, rfl⟩
  rw [hqa, hra] at KA
  obtain ⟨ma, hma⟩ : ∃ ma, qa * y1 = ma := ⟨_, rfl⟩
  have gA1 : (u : Int) / (y1 : Int) = (qa : Int) := by rw [← hqa]; rfl
  have gA0 : (u : Int).tdiv (y1 : Int) = (qa : Int) := by rw [← hqa]; rfl
  have gA2 : IntKind.u64.wrap (qa : Int) = (qa : Int) := wrap_u64n qa (by have := KA.q1; omega)
  have gA3 : (qa : Int) * (y1 : Int) = (ma : Int) := by rw [← hma]; simp
  have gAs := KA.s
  rw [hma] at gAs
  have gA4 : IntKind.u64.wrap (ma : Int) = (ma : Int) := wrap_u64n ma (by omega)
  have gA5 : (u : Int) - (ma : Int) = (ra : Int) := by omega
  have gA6 : IntKind.u64.wrap (ra : Int) = (ra : Int) := wrap_u64n ra (by have := KA.r0; omega)
  clear hqa hra hma gAs
  go_enter Tryz.func159, Tryz.ntmps159
  go_wp2_with fail
  refine Calls.mono (hLZ _) ?_
  rintro e w1 ⟨rfl, hw⟩
  replace hw := hw.symm
  subst hw
  go_wp2_with fail
  obtain ⟨NA, hNA⟩ : ∃ N : Nat, 4294967297 < N := ⟨4294967298, by omega⟩
  go_loopg [15, 16] NA (fun n a b wr => wr = w ∧ ∃ k r : Nat, k < n ∧ a = .int .u64 k ∧ b = .int .u64 r ∧ Kn y1 y0 u d1 k r)
  case atStart => exact ⟨rfl, _, _, by have := KA.q1; omega, rfl, rfl, KA⟩
  case round =>
    clear KA
    obtain ⟨hwr, k, r, hk, rfl, rfl, KK⟩ := hrel
    replace hwr := hwr.symm
    subst hwr
    have kq := KK.q1
    have kr := KK.r0
    obtain ⟨P, hP⟩ : ∃ P, k * y0 = P := ⟨_, rfl⟩
    have hPb : P < 18446744073709551616 := by
      have h1 := Nat.mul_le_mul kq (show y0 ≤ 4294967295 by omega)
      omega
    obtain ⟨B, hB⟩ : ∃ B, 4294967296 * r = B := ⟨_, rfl⟩
    obtain ⟨C, hC⟩ : ∃ C, B + d1 = C := ⟨_, rfl⟩
    have e1 : (k : Int) * (y0 : Int) = (P : Int) := by rw [← hP]; simp
    have e2 : IntKind.u64.wrap (P : Int) = (P : Int) := wrap_u64n P hPb
    have e3 : (4294967296 : Int) * (r : Int) = (B : Int) := by omega
    have e4 : IntKind.u64.wrap (B : Int) = (B : Int) := wrap_u64n B (by omega)
    have e5 : (B : Int) + (d1 : Int) = (C : Int) := by omega
    have e6 : IntKind.u64.wrap (C : Int) = (C : Int) := wrap_u64n C (by omega)
    have tst : (4294967296 ≤ k ∨ C < P) ∨ (¬ 4294967296 ≤ k ∧ ¬ C < P) := by omega
    rcases tst with tst | tst
    · have more := kn_more y1 y0 u d1 k r KK.s hd1 huy (by rw [hP, hB, hC]; exact tst)
      have k1 : 0 < k := Nat.lt_of_le_of_lt (Nat.zero_le _) more
      obtain ⟨k', hk'⟩ : ∃ k', k = k' + 1 := ⟨k - 1, by omega⟩
      obtain ⟨r', hr'⟩ : ∃ r', r + y1 = r' := ⟨_, rfl⟩
      have e7 : (k : Int) - 1 = (k' : Int) := by omega
      have e8 : IntKind.u64.wrap (k' : Int) = (k' : Int) := wrap_u64n k' (by omega)
      have e9 : (r : Int) + (y1 : Int) = (r' : Int) := by omega
      have e10 : IntKind.u64.wrap (r' : Int) = (r' : Int) := wrap_u64n r' (by omega)
      have ks' : k' * y1 + r' = u := by
        have := KK.s
        rw [hk', Nat.add_mul] at this
        omega
      have hge : (u * 4294967296 + d1) / (y1 * 4294967296 + y0) ≤ k' := Nat.le_of_lt_succ (show _ < k' + 1 from hk' ▸ more)
      clear k1
      by_cases hbr : 4294967296 ≤ r'
      · have b1 : decide ((4294967296 : Int) ≤ (r' : Int)) = true := by simp; omega
        have b2 : decide (4294967296 ≤ r') = true := by simp; omega
        have fin := kn_done y1 y0 u d1 k' r' ks' huy (kn_break y0 k' r' d1 hy0 (by omega) hbr) hge
        rw [← EY.out, HQ1.out] at fin
        clear hr' hP hB hC KK ks' hge hbr more
        replace fin := fin.symm
        subst fin
        by_cases t1 : 4294967296 ≤ k
        · have c1 : decide ((4294967296 : Int) ≤ (k : Int)) = true := by simp; omega
          have c2 : decide (4294967296 ≤ k) = true := by simp; omega
          clear tst t1 hk'
          go_wp2_with fail
          obtain ⟨NB, hNB⟩ : ∃ N : Nat, 4294967297 < N := ⟨4294967298, by omega⟩
          go_loopg [16, 18] NB (fun n a b wr => wr = w ∧ ∃ k r : Nat, k < n ∧ b = .int .u64 k ∧ a = .int .u64 r ∧ Kn y1 y0 R1 d0 k r)
          case atStart => exact ⟨rfl, _, _, by have := KB.q1; omega, rfl, rfl, KB⟩
          case round =>
            clear KB
            obtain ⟨hwr, k, r, hk, rfl, rfl, KK⟩ := hrel
            replace hwr := hwr.symm
            subst hwr
            have kq := KK.q1
            have kr := KK.r0
            obtain ⟨P, hP⟩ : ∃ P, k * y0 = P := ⟨_, rfl⟩
            have hPb : P < 18446744073709551616 := by
              have h1 := Nat.mul_le_mul kq (show y0 ≤ 4294967295 by omega)
              omega
            obtain ⟨B, hB⟩ : ∃ B, 4294967296 * r = B := ⟨_, rfl⟩
            obtain ⟨C, hC⟩ : ∃ C, B + d0 = C := ⟨_, rfl⟩
            have e1 : (k : Int) * (y0 : Int) = (P : Int) := by rw [← hP]; simp
            have e2 : IntKind.u64.wrap (P : Int) = (P : Int) := wrap_u64n P hPb
            have e3 : (4294967296 : Int) * (r : Int) = (B : Int) := by omega
            have e4 : IntKind.u64.wrap (B : Int) = (B : Int) := wrap_u64n B (by omega)
            have e5 : (B : Int) + (d0 : Int) = (C : Int) := by omega
            have e6 : IntKind.u64.wrap (C : Int) = (C : Int) := wrap_u64n C (by omega)
            have tst : (4294967296 ≤ k ∨ C < P) ∨ (¬ 4294967296 ≤ k ∧ ¬ C < P) := by omega
            rcases tst with tst | tst
            · have more := kn_more y1 y0 R1 d0 k r KK.s hd0 hR1 (by rw [hP, hB, hC]; exact tst)
              have k1 : 0 < k := Nat.lt_of_le_of_lt (Nat.zero_le _) more
              obtain ⟨k', hk'⟩ : ∃ k', k = k' + 1 := ⟨k - 1, by omega⟩
              obtain ⟨r', hr'⟩ : ∃ r', r + y1 = r' := ⟨_, rfl⟩
              have e7 : (k : Int) - 1 = (k' : Int) := by omega
              have e8 : IntKind.u64.wrap (k' : Int) = (k' : Int) := wrap_u64n k' (by omega)
              have e9 : (r : Int) + (y1 : Int) = (r' : Int) := by omega
              have e10 : IntKind.u64.wrap (r' : Int) = (r' : Int) := wrap_u64n r' (by omega)
              have ks' : k' * y1 + r' = R1 := by
                have := KK.s
                rw [hk', Nat.add_mul] at this
                omega
              have hge : (R1 * 4294967296 + d0) / (y1 * 4294967296 + y0) ≤ k' := Nat.le_of_lt_succ (show _ < k' + 1 from hk' ▸ more)
              clear k1
              by_cases hbr : 4294967296 ≤ r'
              · have b1 : decide ((4294967296 : Int) ≤ (r' : Int)) = true := by simp; omega
                have b2 : decide (4294967296 ≤ r') = true := by simp; omega
                have fin := kn_done y1 y0 R1 d0 k' r' ks' hR1 (kn_break y0 k' r' d0 hy0 (by omega) hbr) hge
                rw [← EY.out, HQ0.out] at fin
                clear hr' hP hB hC KK ks' hge hbr more
                replace fin := fin.symm
                subst fin
                by_cases t1 : 4294967296 ≤ k
                · have c1 : decide ((4294967296 : Int) ≤ (k : Int)) = true := by simp; omega
                  have c2 : decide (4294967296 ≤ k) = true := by simp; omega
                  clear tst t1 hk'
                  go_wp2_with fail
                  go_ret2
                  exact ⟨rfl, rfl⟩
                · have c1 : decide ((4294967296 : Int) ≤ (k : Int)) = false := by simp; omega
                  have c2 : decide (4294967296 ≤ k) = false := by simp; omega
                  have c3 : decide (C < P) = true := by simp; omega
                  clear tst t1 hk'
                  go_wp2_with fail
                  go_ret2
                  exact ⟨rfl, rfl⟩
              · have b1 : decide ((4294967296 : Int) ≤ (r' : Int)) = false := by simp; omega
                have b2 : decide (4294967296 ≤ r') = false := by simp; omega
                have NX : Hid (Kn y1 y0 R1 d0 k' r') := hide ⟨ks', hge, by omega, by omega⟩
                have hkg : k' < gk - 1 := by omega
                have hgk : 1 ≤ gk := by omega
                clear hk' hr' hP hB hC KK ks' hge hbr more
                by_cases t1 : 4294967296 ≤ k
                · have c1 : decide ((4294967296 : Int) ≤ (k : Int)) = true := by simp; omega
                  have c2 : decide (4294967296 ≤ k) = true := by simp; omega
                  clear tst t1
                  go_wp2_with fail
                  go_roundg (gk - 1)
                  case measure => omega
                  case rel => exact ⟨rfl, k', r', hkg, rfl, rfl, NX.out⟩
                · have c1 : decide ((4294967296 : Int) ≤ (k : Int)) = false := by simp; omega
                  have c2 : decide (4294967296 ≤ k) = false := by simp; omega
                  have c3 : decide (C < P) = true := by simp; omega
                  clear tst t1
                  go_wp2_with fail
                  go_roundg (gk - 1)
                  case measure => omega
                  case rel => exact ⟨rfl, k', r', hkg, rfl, rfl, NX.out⟩
            · have fin := kn_done y1 y0 R1 d0 k r KK.s hR1 (by rw [hP, hB, hC]; omega) KK.ge
              rw [← EY.out, HQ0.out] at fin
              have c1 : decide ((4294967296 : Int) ≤ (k : Int)) = false := by simp; omega
              have c2 : decide (4294967296 ≤ k) = false := by simp; omega
              have c3 : decide (C < P) = false := by simp; omega
              clear hP hB hC KK tst
              replace fin := fin.symm
              subst fin
              go_wp2_with fail
              go_ret2
              exact ⟨rfl, rfl⟩
        · have c1 : decide ((4294967296 : Int) ≤ (k : Int)) = false := by simp; omega
          have c2 : decide (4294967296 ≤ k) = false := by simp; omega
          have c3 : decide (C < P) = true := by simp; omega
          clear tst t1 hk'
          go_wp2_with fail
          obtain ⟨NB, hNB⟩ : ∃ N : Nat, 4294967297 < N := ⟨4294967298, by omega⟩
          go_loopg [16, 18] NB (fun n a b wr => wr = w ∧ ∃ k r : Nat, k < n ∧ b = .int .u64 k ∧ a = .int .u64 r ∧ Kn y1 y0 R1 d0 k r)
          case atStart => exact ⟨rfl, _, _, by have := KB.q1; omega, rfl, rfl, KB⟩
          case round =>
            clear KB
            obtain ⟨hwr, k, r, hk, rfl, rfl, KK⟩ := hrel
            replace hwr := hwr.symm
            subst hwr
            have kq := KK.q1
            have kr := KK.r0
            obtain ⟨P, hP⟩ : ∃ P, k * y0 = P := ⟨_, rfl⟩
            have hPb : P < 18446744073709551616 := by
              have h1 := Nat.mul_le_mul kq (show y0 ≤ 4294967295 by omega)
              omega
            obtain ⟨B, hB⟩ : ∃ B, 4294967296 * r = B := ⟨_, rfl⟩
            obtain ⟨C, hC⟩ : ∃ C, B + d0 = C := ⟨_, rfl⟩
            have e1 : (k : Int) * (y0 : Int) = (P : Int) := by rw [← hP]; simp
            have e2 : IntKind.u64.wrap (P : Int) = (P : Int) := wrap_u64n P hPb
            have e3 : (4294967296 : Int) * (r : Int) = (B : Int) := by omega
            have e4 : IntKind.u64.wrap (B : Int) = (B : Int) := wrap_u64n B (by omega)
            have e5 : (B : Int) + (d0 : Int) = (C : Int) := by omega
            have e6 : IntKind.u64.wrap (C : Int) = (C : Int) := wrap_u64n C (by omega)
            have tst : (4294967296 ≤ k ∨ C < P) ∨ (¬ 4294967296 ≤ k ∧ ¬ C < P) := by omega
            rcases tst with tst | tst
            · have more := kn_more y1 y0 R1 d0 k r KK.s hd0 hR1 (by rw [hP, hB, hC]; exact tst)
              have k1 : 0 < k := Nat.lt_of_le_of_lt (Nat.zero_le _) more
              obtain ⟨k', hk'⟩ : ∃ k', k = k' + 1 := ⟨k - 1, by omega⟩
              obtain ⟨r', hr'⟩ : ∃ r', r + y1 = r' := ⟨_, rfl⟩
              have e7 : (k : Int) - 1 = (k' : Int) := by omega
              have e8 : IntKind.u64.wrap (k' : Int) = (k' : Int) := wrap_u64n k' (by omega)
              have e9 : (r : Int) + (y1 : Int) = (r' : Int) := by omega
              have e10 : IntKind.u64.wrap (r' : Int) = (r' : Int) := wrap_u64n r' (by omega)
              have ks' : k' * y1 + r' = R1 := by
                have := KK.s
                rw [hk', Nat.add_mul] at this
                omega
              have hge : (R1 * 4294967296 + d0) / (y1 * 4294967296 + y0) ≤ k' := Nat.le_of_lt_succ (show _ < k' + 1 from hk' ▸ more)
              clear k1
              by_cases hbr : 4294967296 ≤ r'
              · have b1 : decide ((4294967296 : Int) ≤ (r' : Int)) = true := by simp; omega
                have b2 : decide (4294967296 ≤ r') = true := by simp; omega
                have fin := kn_done y1 y0 R1 d0 k' r' ks' hR1 (kn_break y0 k' r' d0 hy0 (by omega) hbr) hge
                rw [← EY.out, HQ0.out] at fin
                clear hr' hP hB hC KK ks' hge hbr more
                replace fin := fin.symm
                subst fin
                by_cases t1 : 4294967296 ≤ k
                · have c1 : decide ((4294967296 : Int) ≤ (k : Int)) = true := by simp; omega
                  have c2 : decide (4294967296 ≤ k) = true := by simp; omega
                  clear tst t1 hk'
                  go_wp2_with fail
                  go_ret2
                  exact ⟨rfl, rfl⟩
                · have c1 : decide ((4294967296 : Int) ≤ (k : Int)) = false := by simp; omega
                  have c2 : decide (4294967296 ≤ k) = false := by simp; omega
                  have c3 : decide (C < P) = true := by simp; omega
                  clear tst t1 hk'
                  go_wp2_with fail
                  go_ret2
                  exact ⟨rfl, rfl⟩
              · have b1 : decide ((4294967296 : Int) ≤ (r' : Int)) = false := by simp; omega
                have b2 : decide (4294967296 ≤ r') = false := by simp; omega
                have NX : Hid (Kn y1 y0 R1 d0 k' r') := hide ⟨ks', hge, by omega, by omega⟩
                have hkg : k' < gk - 1 := by omega
                have hgk : 1 ≤ gk := by omega
                clear hk' hr' hP hB hC KK ks' hge hbr more
                by_cases t1 : 4294967296 ≤ k
                · have c1 : decide ((4294967296 : Int) ≤ (k : Int)) = true := by simp; omega
                  have c2 : decide (4294967296 ≤ k) = true := by simp; omega
                  clear tst t1
                  go_wp2_with fail
                  go_roundg (gk - 1)
                  case measure => omega
                  case rel => exact ⟨rfl, k', r', hkg, rfl, rfl, NX.out⟩
                · have c1 : decide ((4294967296 : Int) ≤ (k : Int)) = false := by simp; omega
                  have c2 : decide (4294967296 ≤ k) = false := by simp; omega
                  have c3 : decide (C < P) = true := by simp; omega
                  clear tst t1
                  go_wp2_with fail
                  go_roundg (gk - 1)
                  case measure => omega
                  case rel => exact ⟨rfl, k', r', hkg, rfl, rfl, NX.out⟩
            · have fin := kn_done y1 y0 R1 d0 k r KK.s hR1 (by rw [hP, hB, hC]; omega) KK.ge
              rw [← EY.out, HQ0.out] at fin
              have c1 : decide ((4294967296 : Int) ≤ (k : Int)) = false := by simp; omega
              have c2 : decide (4294967296 ≤ k) = false := by simp; omega
              have c3 : decide (C < P) = false := by simp; omega
              clear hP hB hC KK tst
              replace fin := fin.symm
              subst fin
              go_wp2_with fail
              go_ret2
              exact ⟨rfl, rfl⟩
      · have b1 : decide ((4294967296 : Int) ≤ (r' : Int)) = false := by simp; omega
        have b2 : decide (4294967296 ≤ r') = false := by simp; omega
        have NX : Hid (Kn y1 y0 u d1 k' r') := hide ⟨ks', hge, by omega, by omega⟩
        have hkg : k' < gk - 1 := by omega
        have hgk : 1 ≤ gk := by omega
        clear hk' hr' hP hB hC KK ks' hge hbr more
        by_cases t1 : 4294967296 ≤ k
        · have c1 : decide ((4294967296 : Int) ≤ (k : Int)) = true := by simp; omega
          have c2 : decide (4294967296 ≤ k) = true := by simp; omega
          clear tst t1
          go_wp2_with fail
          go_roundg (gk - 1)
          case measure => omega
          case rel => exact ⟨rfl, k', r', hkg, rfl, rfl, NX.out⟩
        · have c1 : decide ((4294967296 : Int) ≤ (k : Int)) = false := by simp; omega
          have c2 : decide (4294967296 ≤ k) = false := by simp; omega
          have c3 : decide (C < P) = true := by simp; omega
          clear tst t1
          go_wp2_with fail
          go_roundg (gk - 1)
          case measure => omega
          case rel => exact ⟨rfl, k', r', hkg, rfl, rfl, NX.out⟩
    · have fin := kn_done y1 y0 u d1 k r KK.s huy (by rw [hP, hB, hC]; omega) KK.ge
      rw [← EY.out, HQ1.out] at fin
      have c1 : decide ((4294967296 : Int) ≤ (k : Int)) = false := by simp; omega
      have c2 : decide (4294967296 ≤ k) = false := by simp; omega
      have c3 : decide (C < P) = false := by simp; omega
      clear hP hB hC KK tst
      replace fin := fin.symm
      subst fin
      go_wp2_with fail
      obtain ⟨NB, hNB⟩ : ∃ N : Nat, 4294967297 < N := ⟨4294967298, by omega⟩
      go_loopg [16, 18] NB (fun n a b wr => wr = w ∧ ∃ k r : Nat, k < n ∧ b = .int .u64 k ∧ a = .int .u64 r ∧ Kn y1 y0 R1 d0 k r)
      case atStart => exact ⟨rfl, _, _, by have := KB.q1; omega, rfl, rfl, KB⟩
      case round =>
        clear KB
        obtain ⟨hwr, k, r, hk, rfl, rfl, KK⟩ := hrel
        replace hwr := hwr.symm
        subst hwr
        have kq := KK.q1
        have kr := KK.r0
        obtain ⟨P, hP⟩ : ∃ P, k * y0 = P := ⟨_, rfl⟩
        have hPb : P < 18446744073709551616 := by
          have h1 := Nat.mul_le_mul kq (show y0 ≤ 4294967295 by omega)
          omega
        obtain ⟨B, hB⟩ : ∃ B, 4294967296 * r = B := ⟨_, rfl⟩
        obtain ⟨C, hC⟩ : ∃ C, B + d0 = C := ⟨_, rfl⟩
        have e1 : (k : Int) * (y0 : Int) = (P : Int) := by rw [← hP]; simp
        have e2 : IntKind.u64.wrap (P : Int) = (P : Int) := wrap_u64n P hPb
        have e3 : (4294967296 : Int) * (r : Int) = (B : Int) := by omega
        have e4 : IntKind.u64.wrap (B : Int) = (B : Int) := wrap_u64n B (by omega)
        have e5 : (B : Int) + (d0 : Int) = (C : Int) := by omega
        have e6 : IntKind.u64.wrap (C : Int) = (C : Int) := wrap_u64n C (by omega)
        have tst : (4294967296 ≤ k ∨ C < P) ∨ (¬ 4294967296 ≤ k ∧ ¬ C < P) := by omega
        rcases tst with tst | tst
        · have more := kn_more y1 y0 R1 d0 k r KK.s hd0 hR1 (by rw [hP, hB, hC]; exact tst)
          have k1 : 0 < k := Nat.lt_of_le_of_lt (Nat.zero_le _) more
          obtain ⟨k', hk'⟩ : ∃ k', k = k' + 1 := ⟨k - 1, by omega⟩
          obtain ⟨r', hr'⟩ : ∃ r', r + y1 = r' := ⟨_, rfl⟩
          have e7 : (k : Int) - 1 = (k' : Int) := by omega
          have e8 : IntKind.u64.wrap (k' : Int) = (k' : Int) := wrap_u64n k' (by omega)
          have e9 : (r : Int) + (y1 : Int) = (r' : Int) := by omega
          have e10 : IntKind.u64.wrap (r' : Int) = (r' : Int) := wrap_u64n r' (by omega)
          have ks' : k' * y1 + r' = R1 := by
            have := KK.s
            rw [hk', Nat.add_mul] at this
            omega
          have hge : (R1 * 4294967296 + d0) / (y1 * 4294967296 + y0) ≤ k' := Nat.le_of_lt_succ (show _ < k' + 1 from hk' ▸ more)
          clear k1
          by_cases hbr : 4294967296 ≤ r'
          · have b1 : decide ((4294967296 : Int) ≤ (r' : Int)) = true := by simp; omega
            have b2 : decide (4294967296 ≤ r') = true := by simp; omega
            have fin := kn_done y1 y0 R1 d0 k' r' ks' hR1 (kn_break y0 k' r' d0 hy0 (by omega) hbr) hge
            rw [← EY.out, HQ0.out] at fin
            clear hr' hP hB hC KK ks' hge hbr more
            replace fin := fin.symm
            subst fin
            by_cases t1 : 4294967296 ≤ k
            · have c1 : decide ((4294967296 : Int) ≤ (k : Int)) = true := by simp; omega
              have c2 : decide (4294967296 ≤ k) = true := by simp; omega
              clear tst t1 hk'
              go_wp2_with fail
              go_ret2
              exact ⟨rfl, rfl⟩
            · have c1 : decide ((4294967296 : Int) ≤ (k : Int)) = false := by simp; omega
              have c2 : decide (4294967296 ≤ k) = false := by simp; omega
              have c3 : decide (C < P) = true := by simp; omega
              clear tst t1 hk'
              go_wp2_with fail
              go_ret2
              exact ⟨rfl, rfl⟩
          · have b1 : decide ((4294967296 : Int) ≤ (r' : Int)) = false := by simp; omega
            have b2 : decide (4294967296 ≤ r') = false := by simp; omega
            have NX : Hid (Kn y1 y0 R1 d0 k' r') := hide ⟨ks', hge, by omega, by omega⟩
            have hkg : k' < gk - 1 := by omega
            have hgk : 1 ≤ gk := by omega
            clear hk' hr' hP hB hC KK ks' hge hbr more
            by_cases t1 : 4294967296 ≤ k
            · have c1 : decide ((4294967296 : Int) ≤ (k : Int)) = true := by simp; omega
              have c2 : decide (4294967296 ≤ k) = true := by simp; omega
              clear tst t1
              go_wp2_with fail
              go_roundg (gk - 1)
              case measure => omega
              case rel => exact ⟨rfl, k', r', hkg, rfl, rfl, NX.out⟩
            · have c1 : decide ((4294967296 : Int) ≤ (k : Int)) = false := by simp; omega
              have c2 : decide (4294967296 ≤ k) = false := by simp; omega
              have c3 : decide (C < P) = true := by simp; omega
              clear tst t1
              go_wp2_with fail
              go_roundg (gk - 1)
              case measure => omega
              case rel => exact ⟨rfl, k', r', hkg, rfl, rfl, NX.out⟩
        · have fin := kn_done y1 y0 R1 d0 k r KK.s hR1 (by rw [hP, hB, hC]; omega) KK.ge
          rw [← EY.out, HQ0.out] at fin
          have c1 : decide ((4294967296 : Int) ≤ (k : Int)) = false := by simp; omega
          have c2 : decide (4294967296 ≤ k) = false := by simp; omega
          have c3 : decide (C < P) = false := by simp; omega
          clear hP hB hC KK tst
          replace fin := fin.symm
          subst fin
          go_wp2_with fail
          go_ret2
          exact ⟨rfl, rfl⟩

/-- The quotient and what is left, of two words by one. -/
theorem Div64_any (w : World) (h l z : Nat) (hz : h < z) (hl : l < 18446744073709551616) (hz64 : z < 18446744073709551616) :
    Calls Tryz.prog 159 #[.int .u64 h, .int .u64 l, .int .u64 z] w fun e w' =>
      e = .returned (.tuple #[.int .u64 (((h * 18446744073709551616 + l) / z : Nat) : Int), .int .u64 (((h * 18446744073709551616 + l) % z : Nat) : Int)]) ∧ ∃ n, w' = w.drewN n := by
  by_cases h0 : h = 0
  · subst h0
    rw [Nat.zero_mul, Nat.zero_add]
    exact Div64_low w l z hl (by omega) hz64
  · obtain ⟨s1, s2, s3⟩ := bitLenAux_spec 64 z (by omega)
    obtain ⟨s4, s5⟩ := s3 (by omega)
    have eL : Lib.bitLen z = Lib.bitLenAux 64 z := rfl
    rw [← eL] at s1 s2 s4 s5
    clear s3 eL
    obtain ⟨b, hb⟩ : ∃ b, Lib.bitLen z = b := ⟨_, rfl⟩
    rw [hb] at s1 s2 s4 s5
    have hST : 2 ^ (64 - b) * 2 ^ b = 18446744073709551616 := by
      rw [← Nat.pow_add, Nat.sub_add_cancel s1]
    obtain ⟨k1, k2, k3⟩ := kn_norm h l z (2 ^ (64 - b)) (2 ^ b) hST hz hl
    have hS : 0 < 2 ^ (64 - b) := Nat.two_pow_pos _
    have hy64 : z * 2 ^ (64 - b) < 18446744073709551616 := by
      rw [← hST, Nat.mul_comm]
      exact Nat.mul_lt_mul_of_pos_left s2 hS
    have hyn : 9223372036854775808 ≤ z * 2 ^ (64 - b) := by
      have h1 := Nat.mul_le_mul_right (2 ^ (64 - b)) s5
      have h2 : 2 ^ b = 2 * 2 ^ (b - 1) := by
        rw [← Nat.pow_succ']
        congr 1
        omega
      rw [h2, Nat.mul_comm, Nat.mul_assoc] at hST
      omega
    have C := Div64_core w h l z (64 - b) b (z * 2 ^ (64 - b)) _ _ _ _ _ _ _ _ hz (by omega) hz64 (by rw [hb]) (by omega) (by omega) (by omega) rfl hy64 hyn rfl rfl rfl rfl rfl k3 k2 rfl rfl rfl
    refine C.mono ?_
    rintro e w' ⟨rfl, rfl⟩
    refine ⟨?_, 0, rfl⟩
    have hy0 : 0 < z * 2 ^ (64 - b) := by omega
    obtain ⟨v, hv⟩ : ∃ v, l * 2 ^ (64 - b) % 18446744073709551616 = v := ⟨_, rfl⟩
    obtain ⟨u, hu⟩ : ∃ u, h * 2 ^ (64 - b) + l / 2 ^ b = u := ⟨_, rfl⟩
    rw [hv, hu] at k1 ⊢
    obtain ⟨t1, t2⟩ := kn_two (z * 2 ^ (64 - b)) (u * 4294967296 + v / 4294967296) (v % 4294967296) hy0
    have eN : (u * 4294967296 + v / 4294967296) * 4294967296 + v % 4294967296 = (h * 18446744073709551616 + l) * 2 ^ (64 - b) := by
      rw [k1]
      omega
    obtain ⟨b1, b2⟩ := kn_back (h * 18446744073709551616 + l) z (2 ^ (64 - b)) hS
    rw [eN] at t1 t2
    rw [← t1, ← t2, b1, b2]
end Go.Proofs.YtmfngdjhkpddoaaGreatDoor
/- The walks of package fixed: sums. -/
set_option maxRecDepth 100000
namespace Go.Proofs.YtmfngdjhkpddoaaGreatDoor
open Go.RowKit Go.Lat

/-- The sum, and its error. -/
def addV (a b : Int) : Int := if okNum a && okNum b && okNum (a + b) then a + b else 0
def addE (a b : Int) : Int := if okNum a && okNum b && okNum (a + b) then 0 else 5

theorem Add_any (w : World) (a b : Int) : Calls Tryz.prog 84 #[.int .i64 a, .int .i64 b] w fun e w' => e = .returned (.tuple #[.int .i64 (addV a b), .int .i64 (addE a b)]) ∧ Upd w w' (fun _ => False) := by
  have hg := fixgood2_any (w.alloc (.cells #[.int .i64 a, .int .i64 b] 23)) w.heap.size a b (cells2 (heap_alloc_new w _)).1 (cells2 (heap_alloc_new w _)).2
  unfold addV addE
  cases hx : (okNum a && okNum b) with
  | false =>
    rw [hx] at hg
    simp only [Bool.false_and]
    clear hx
    go_enter Tryz.func84, Tryz.ntmps84
    go_wp2_with fail
    refine Calls.mono hg ?_
    rintro e w1 ⟨rfl, rfl⟩
    go_wp2_with fail
    go_ret2
    exact ⟨rfl, (Upd.refl w _).alloc _⟩
  | true =>
    rw [hx] at hg
    simp only [Bool.true_and]
    have hx' := hx
    simp only [Bool.and_eq_true] at hx'
    have ba := okNum_true hx'.1
    have bb := okNum_true hx'.2
    clear hx hx'
    have w1 : IntKind.i64.wrap (9000000000000000000 - b) = 9000000000000000000 - b ∨ ¬ 0 < b := by
      by_cases h : 0 < b
      · exact .inl (IntWalk.i64_in _ (by omega))
      · exact .inr h
    have w2 : IntKind.i64.wrap (-9000000000000000000 - b) = -9000000000000000000 - b ∨ ¬ b < 0 := by
      by_cases h : b < 0
      · exact .inl (IntWalk.i64_in _ (by omega))
      · exact .inr h
    by_cases hp : 0 < b
    · have d1 : decide (0 < b) = true := by simpa using hp
      have d2 : decide (b < 0) = false := by simp; omega
      have w1' := w1.resolve_right (by omega)
      clear w1 w2
      cases h3 : okNum (a + b) with
      | true =>
        have b3 := okNum_true h3
        have d3 : decide (9000000000000000000 - b < a) = false := by simp; omega
        have w3 : IntKind.i64.wrap (a + b) = a + b := IntWalk.i64_in _ (by omega)
        clear h3 ba bb b3 hp
        go_enter Tryz.func84, Tryz.ntmps84
        go_wp2_with fail
        refine Calls.mono hg ?_
        rintro e w1 ⟨rfl, rfl⟩
        go_wp2_with fail
        go_ret2
        exact ⟨rfl, (Upd.refl w _).alloc _⟩
      | false =>
        have b3 := okNum_false h3
        have d3 : decide (9000000000000000000 - b < a) = true := by simp; omega
        clear h3 ba bb b3 hp
        go_enter Tryz.func84, Tryz.ntmps84
        go_wp2_with fail
        refine Calls.mono hg ?_
        rintro e w1 ⟨rfl, rfl⟩
        go_wp2_with fail
        go_ret2
        exact ⟨rfl, (Upd.refl w _).alloc _⟩
    · have d1 : decide (0 < b) = false := by simpa using hp
      clear w1
      by_cases hn : b < 0
      · have d2 : decide (b < 0) = true := by simpa using hn
        have w2' := w2.resolve_right (by omega)
        clear w2
        cases h3 : okNum (a + b) with
        | true =>
          have b3 := okNum_true h3
          have d3 : decide (a < -9000000000000000000 - b) = false := by simp; omega
          have w3 : IntKind.i64.wrap (a + b) = a + b := IntWalk.i64_in _ (by omega)
          clear h3 ba bb b3 hp hn
          go_enter Tryz.func84, Tryz.ntmps84
          go_wp2_with fail
          refine Calls.mono hg ?_
          rintro e w1 ⟨rfl, rfl⟩
          go_wp2_with fail
          go_ret2
          exact ⟨rfl, (Upd.refl w _).alloc _⟩
        | false =>
          have b3 := okNum_false h3
          have d3 : decide (a < -9000000000000000000 - b) = true := by simp; omega
          clear h3 ba bb b3 hp hn
          go_enter Tryz.func84, Tryz.ntmps84
          go_wp2_with fail
          refine Calls.mono hg ?_
          rintro e w1 ⟨rfl, rfl⟩
          go_wp2_with fail
          go_ret2
          exact ⟨rfl, (Upd.refl w _).alloc _⟩
      · obtain rfl : b = 0 := by omega
        have h3 : okNum (a + 0) = true := by rw [Int.add_zero]; simp [okNum]; omega
        rw [h3]
        have w3 : IntKind.i64.wrap (a + 0) = a + 0 := IntWalk.i64_in _ (by omega)
        have w4 : IntKind.i64.wrap a = a := IntWalk.i64_in _ (by omega)
        clear w2 h3 ba bb hp hn
        go_enter Tryz.func84, Tryz.ntmps84
        go_wp2_with fail
        refine Calls.mono hg ?_
        rintro e w1 ⟨rfl, rfl⟩
        go_wp2_with fail
        go_ret2
        exact ⟨by simp, (Upd.refl w _).alloc _⟩
end Go.Proofs.YtmfngdjhkpddoaaGreatDoor
/- The walks of package fixed: differences, whole numbers. -/
set_option maxRecDepth 100000
namespace Go.Proofs.YtmfngdjhkpddoaaGreatDoor
open Go.RowKit Go.Lat

theorem Sub_any (w : World) (a b : Int) : Calls Tryz.prog 85 #[.int .i64 a, .int .i64 b] w fun e w' => e = .returned (.tuple #[.int .i64 (addV a (-b)), .int .i64 (addE a (-b))]) ∧ Upd w w' (fun _ => False) := by
  have hg := fixgood2_any (w.alloc (.cells #[.int .i64 a, .int .i64 b] 23)) w.heap.size a b (cells2 (heap_alloc_new w _)).1 (cells2 (heap_alloc_new w _)).2
  have hA := fun w => Add_any w a (-b)
  cases hx : (okNum a && okNum b) with
  | false =>
    have e1 : addV a (-b) = 0 := by unfold addV; rw [okNum_neg, hx]; rfl
    have e2 : addE a (-b) = 5 := by unfold addE; rw [okNum_neg, hx]; rfl
    rw [e1, e2]
    rw [hx] at hg
    clear hx hA e1 e2
    go_enter Tryz.func85, Tryz.ntmps85
    go_wp2_with fail
    refine Calls.mono hg ?_
    rintro e w1 ⟨rfl, rfl⟩
    go_wp2_with fail
    go_ret2
    exact ⟨rfl, (Upd.refl w _).alloc _⟩
  | true =>
    rw [hx] at hg
    have bb := okNum_true (show okNum b = true by simp only [Bool.and_eq_true] at hx; exact hx.2)
    have w3 : IntKind.i64.wrap (-b) = -b := IntWalk.i64_in _ (by omega)
    clear hx bb
    generalize addV a (-b) = x at *
    generalize addE a (-b) = y at *
    go_enter Tryz.func85, Tryz.ntmps85
    go_wp2_with fail
    refine Calls.mono hg ?_
    rintro e w1 ⟨rfl, rfl⟩
    go_wp2_with fail
    refine Calls.mono (hA _) ?_
    rintro e w1 ⟨rfl, hu⟩
    go_wp2_with fail
    go_ret2
    exact ⟨rfl, ((Upd.refl w _).alloc _).then hu (fun _ _ => id)⟩

/-- A whole number, and its error. -/
def wholeOk (a : Int) : Bool := decide (-900000000000000 ≤ a) && decide (a ≤ 900000000000000)

theorem Of_any (w : World) (a : Int) : Calls Tryz.prog 65 #[.int .i64 a] w fun e w' => e = .returned (.tuple #[.int .i64 (if wholeOk a then a * 10000 else 0), .int .i64 (if wholeOk a then 0 else 5)]) ∧ w' = w := by
  unfold wholeOk
  by_cases h1 : 900000000000000 < a
  · have d1 : decide (900000000000000 < a) = true := by simpa using h1
    have d2 : decide (a ≤ 900000000000000) = false := by simp; omega
    rw [d2]
    simp only [Bool.and_false]
    clear h1 d2
    go_enter Tryz.func65, Tryz.ntmps65
    go_wp2_with fail
    go_ret2
    exact ⟨rfl, rfl⟩
  · have d1 : decide (900000000000000 < a) = false := by simpa using h1
    have d2 : decide (a ≤ 900000000000000) = true := by simp; omega
    rw [d2]
    simp only [Bool.and_true]
    by_cases h2 : a < -900000000000000
    · have d3 : decide (a < -900000000000000) = true := by simpa using h2
      have d4 : decide (-900000000000000 ≤ a) = false := by simp; omega
      rw [d4]
      clear h1 h2 d2 d4
      go_enter Tryz.func65, Tryz.ntmps65
      go_wp2_with fail
      go_ret2
      exact ⟨rfl, rfl⟩
    · have d3 : decide (a < -900000000000000) = false := by simpa using h2
      have d4 : decide (-900000000000000 ≤ a) = true := by simp; omega
      have w1 : IntKind.i64.wrap (a * 10000) = a * 10000 := IntWalk.i64_in _ (by omega)
      rw [d4]
      clear h1 h2 d2 d4
      go_enter Tryz.func65, Tryz.ntmps65
      go_wp2_with fail
      go_ret2
      exact ⟨rfl, rfl⟩

end Go.Proofs.YtmfngdjhkpddoaaGreatDoor
