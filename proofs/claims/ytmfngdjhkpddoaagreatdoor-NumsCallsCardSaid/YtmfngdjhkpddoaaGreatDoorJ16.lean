/- The walk of the reference's Parse at every text. -/
import Derived.Test.YtmfngdjhkpddoaaGreatDoorJ15
import Derived.Test.YtmfngdjhkpddoaaGreatDoorJ08
/- The walk of the reference's Parse at every text. -/
set_option maxRecDepth 100000
namespace Go.Proofs.YtmfngdjhkpddoaaGreatDoor
open Go.RowKit Go.Lat


set_option maxHeartbeats 1600000 in
theorem RefParse_minus_end_ok (w : World) (s t part : ByteArray) (W P : List UInt8) (stop : Nat) (hts : t.size ≤ 1000) (hs0 : 0 < s.size) (hz0 : s[0].toNat = 45) (ht : s.extract 1 s.size = t)
    (hno : ∀ k : Nat, k < stop → t.data.toList[k]? ≠ some 46) (hWt : t.data.toList = W) (hst : stop = t.size) (hPt : part.data.toList = P) (hP0 : P = []) (hW : isD W = true) : Calls Tryz.prog 94 #[.string s] w fun e w' => e = .returned (.tuple #[.int .i64 (numV true (rnd ((dval W * 10 ^ P.length + dval P) * 10000) (10 ^ P.length))), .int .i64 (numE (rnd ((dval W * 10 ^ P.length + dval P) * 10000) (10 ^ P.length)))]) ∧ Upd w w' (fun _ => False) := by
  have c45 : ((45 : Int) == 45) = true := by decide
  have d0 : decide (0 < s.size) = true := by simpa using hs0
  have HNO := hide hno
  clear hno
  have AW := fun w => all_any w t (by omega)
  rw [hWt, hW] at AW
  obtain ⟨i0, hin, hzA, hzB, hzC⟩ := info_parts Tryz.info3
  have hw' := hW
  simp only [isD, Bool.and_eq_true, decide_eq_true_eq] at hw'
  obtain ⟨⟨hw1, hw2⟩, hw3⟩ := hw'
  have hp2 : P.length ≤ 18 := by rw [hP0]; decide
  have hp3 : P.all dgB = true := by rw [hP0]; rfl
  have HL := hide hp2
  have HLW := hide hw2
  have HSW : Hid (t.size = W.length) := hide (by rw [← hWt]; rfl)
  have HTW := hide hWt
  have HAW := hide hw3
  have HAP := hide hp3
  have hwl : t.size = W.length := by rw [← hWt]; rfl
  have hpl : part.size = P.length := by rw [← hPt]; rfl
  have hw18 : t.size ≤ 18 := by omega
  have hp18 : part.size ≤ 18 := by omega
  have hpw : IntKind.i64.wrap ((part.size : Int) - 1) = (part.size : Int) - 1 := IntWalk.i64_in _ (by omega)
  have hww : IntKind.i64.wrap ((t.size : Int) - 1) = (t.size : Int) - 1 := IntWalk.i64_in _ (by omega)
  have HD1 : Hid (dg 1 = [1]) := hide (by rw [dg_pos (by omega), dg_zero])
  have b100 : (10 : Nat) ^ 18 < 10 ^ 100 := by decide
  have HLK : Hid (∀ k, k < part.size → (dg (10 ^ k)).length ≤ 1000) := hide (fun k hk => by
    have hkl : k ≤ 18 := by omega
    have := dg_len (10 ^ k) 19 (by have h1 : 10 ^ k ≤ 10 ^ 18 := Nat.pow_le_pow_right (by omega) hkl
                                   have h2 : (10 : Nat) ^ 18 < 10 ^ 19 := by decide
                                   omega)
    omega)
  have hDb : dval W * 10 ^ P.length + dval P < 10 ^ 36 := by
    rw [← dval_append]
    have h1 := dval_lt (W ++ P) (by rw [List.all_append, hw3, hp3]; rfl)
    have h2 : 10 ^ (W ++ P).length ≤ 10 ^ 36 := Nat.pow_le_pow_right (by omega) (by rw [List.length_append]; omega)
    omega
  have hT0 : 0 < 10 ^ P.length := Nat.pow_pos (by omega)
  have hTb : 10 ^ P.length ≤ 10 ^ 18 := Nat.pow_le_pow_right (by omega) hp2
  obtain ⟨Dn, hDn⟩ : ∃ Dn, dval W * 10 ^ P.length + dval P = Dn := ⟨_, rfl⟩
  rw [hDn] at hDb ⊢
  have HDN := hide hDn
  have b36 : (10 : Nat) ^ 36 * 10000 < 10 ^ 100 := by decide
  have D4 : ∀ w, Calls Tryz.prog 96 #[.int .i64 10000] w fun e w' => ∃ v, e = .returned v ∧ DgAt w' v (dg 10000) ∧ Upd w w' (fun _ => False) := fun w => Digits_nat w 10000 (by omega)
  have lD := dg_len Dn 100 (by omega)
  have l4 := dg_len 10000 20 (by omega)
  have TM := fun w v1 v2 k1 k2 => times1_any w v1 v2 (dg Dn) (dg 10000) k1 k2 (dg_norm _) (dg_norm _) (by omega) (by omega)
  simp only [val_dg] at TM
  have NE := fun w v1 v2 k1 k2 => nearest_any w v1 v2 (Dn * 10000) (10 ^ P.length) k1 k2 hT0 (by omega) (by omega)
  have hr : rnd (Dn * 10000) (10 ^ P.length) < 10 ^ 100 := by
    have h3 := Nat.div_le_self (Dn * 10000) (10 ^ P.length)
    unfold rnd
    split <;> omega
  have NU := fun w v k => Number_any w v (rnd (Dn * 10000) (10 ^ P.length)) true k hr
  generalize numV true (rnd (Dn * 10000) (10 ^ P.length)) = XV at *
  generalize numE (rnd (Dn * 10000) (10 ^ P.length)) = XE at *
  clear hwl hpl hw1 hw2 hw3 hp2 hp3 hDb hT0 hTb hDn b36 b100 lD l4 hr hWt hPt hW
  have HP0 := hide hP0
  clear hP0
  go_enter Tryz.func94, Tryz.ntmps94
  go_wp2_with fail
  go_loopg [5] stop (fun q v wr => wr = w ∧ ∃ m : Nat, m + q = stop ∧ v = .int .i64 m)
  case atStart => exact ⟨rfl, 0, by omega, rfl⟩
  case round =>
    obtain ⟨hwr, m, hm, rfl⟩ := hrel
    replace hwr := hwr.symm
    subst hwr
    by_cases hms : m < stop
    · have hmt : m < t.size := by omega
      obtain ⟨z, hz⟩ : ∃ z, t[m].toNat = z := ⟨_, rfl⟩
      have hz46 : z ≠ 46 := by
        intro e
        refine HNO.out m hms ?_
        rw [byte_list t m hmt]
        congr 1
        refine UInt8.toNat_inj.1 ?_
        rw [hz, e]
        rfl
      have c1 : decide (m < t.size) = true := by simpa using hmt
      have c2 : ((z : Int) != 46) = true := by simp; omega
      have c2' : (z != 46) = true := by simp; omega
      clear hz46
      go_wp2_with fail
      go_roundg (gk - 1)
      case measure => omega
      case rel => exact ⟨rfl, m + 1, by omega, by go_num⟩
    · obtain rfl : m = stop := by omega
      clear hms hm
      have c1 : decide (m < t.size) = false := by simp; omega
      go_wp2_with fail
      refine Calls.mono (AW _) ?_
      rintro e w2 ⟨rfl, hw⟩
      replace hw := hw.symm
      subst hw
      go_wp2_with fail
      refine wp_loop_rounds 1 ?_
      rw [rounds_succ]
      go_wp2_with fail
      go_loopg [9, 11] t.size (fun q d i wr => ∃ j : Nat, j ≤ q ∧ j ≤ t.size ∧ i = .int .i64 ((j : Int) - 1) ∧ DgAt wr d (((W.drop j).reverse).map dvB) ∧ Upd w wr (fun _ => False) ∧ (∀ k, d.ownBlock = some k → w.heap.size ≤ k))
      case atStart => exact ⟨t.size, Nat.le_refl _, Nat.le_refl _, by first | rfl | go_num, by rw [List.drop_eq_nil_of_le (by rw [HSW.out]; exact Nat.le_refl _)]; exact Rw.nil _ _ _, Upd.refl _ _, by simp [Value.ownBlock]⟩
      case round =>
        obtain ⟨j, hj, hjl, rfl, hd, hu, hob⟩ := hrel
        obtain ⟨l, hl⟩ : ∃ l, ((W.drop j).reverse).map dvB = l := ⟨_, rfl⟩
        rw [hl] at hd
        have hll : l.length ≤ 36 := by
          have h1 := HL.out
          have h2 := HLW.out
          rw [← hl]
          simp
          omega
        cases j with
        | succ k =>
          have ej : ((k + 1 : Nat) : Int) - 1 = (k : Int) := by omega
          rw [ej]
          have hks : k < t.size := by omega
          obtain ⟨z, hz⟩ : ∃ z, t[k].toNat = z := ⟨_, rfl⟩
          obtain ⟨z1, z2, z3⟩ := byte_digit t W k hks HTW.out HAW.out
          have hnew : ((W.drop k).reverse).map dvB = l ++ [z - 48] := by
            rw [drop_get W k _ z3, List.reverse_cons, ← hl]
            simp [dvB, hz]
          rw [hz] at z1 z2
          have e1 : IntKind.u8.wrap ((z : Int) - 48) = ((z - 48 : Nat) : Int) := by rw [IntKind.wrap_u8']; omega
          obtain ⟨y, hy⟩ : ∃ y, z - 48 = y := ⟨_, rfl⟩
          rw [hy] at e1 hnew
          have hyb : y < 10 := by omega
          have e2 : IntKind.i64.wrap (y : Int) = (y : Int) := IntWalk.i64_in _ (by omega)
          have HN := hide hnew
          have c0 : (0 : Int) ≤ (k : Int) := Int.natCast_nonneg _
          have c1 : decide ((0 : Int) ≤ (k : Int)) = true := decide_eq_true c0
          have c2 : (k : Int) < (t.size : Int) := by omega
          have hkq : k ≤ gk - 1 ∧ k ≤ t.size ∧ 1 ≤ gk := by omega
          clear hnew hl ej hy z1 z2 z3 hj hjl
          unfold DgAt at hd
          go_wp2_with (at_builtin; go_loud (refine wpList_append_rw _ rfl _ _ 49 49 rfl 3 _ i0 _ 1 8 Tryz.underlying49 Tryz.underlying49 (by simp) hin hzA hzB hzC rfl _ l.length _ rfl (hd.alloc _) _ 1 _ rfl (Rw.made _ _ _ 1 1 rfl).src rfl (by simp [Value.oneCell']) (by omega) (by omega) ?_); intro ga gc w1 hv' hg hob')
          go_roundg (gk - 1)
          case measure => omega
          case rel =>
            refine ⟨k, by omega, by omega, by first | rfl | go_num, ?_, (hu.alloc _).grown hg (fun i k1 => .inl (hob i k1)), ?_⟩
            · rw [HN.out]
              unfold DgAt
              simpa using hv'
            · intro i k1
              rcases hob' with e | e
              · exact hob i (Eq.trans (show _ = _ from e.symm) k1)
              · rw [e] at k1; simp at k1; have := hu.size; omega
        | zero =>
          have ej : ((0 : Nat) : Int) - 1 = -1 := by omega
          rw [ej]
          rw [List.drop_zero] at hl
          clear hj hjl
          go_wp2_with fail
          have hdl := hd
          have hv : val l = dval W * 10 ^ P.length + dval P := by
            rw [HP0.out, dval_nil, ← hl]
            unfold dval
            simp
          have L10 : ∀ d ∈ l, d < 10 := by
            rw [← hl]
            intro d hd
            obtain ⟨b, hb, rfl⟩ := List.mem_map.1 hd
            exact dgB_lt (List.all_eq_true.1 HAW.out b (List.mem_reverse.1 hb))
          have TR := fun w v k => trim1_any w v l k L10 (by omega)
          rw [hv, HDN.out] at TR
          clear hl L10 hv hll hd
          obtain ⟨wo, hwo⟩ : ∃ wo, wr = wo := ⟨_, rfl⟩
          rw [hwo] at hdl hu ⊢
          clear hwo wr
          obtain ⟨wr, hwr⟩ : ∃ wr, wo.alloc (.cells #[.int .i64 1] 3) = wr := ⟨_, rfl⟩
          have hv2 : DgAt wr (.slice (some ⟨wo.heap.size, 0, none⟩) 1 1) (dg (10 ^ P.length)) := by
            rw [HP0.out, List.length_nil, Nat.pow_zero, HD1.out, ← hwr]
            exact Rw.made wo _ _ 1 1 rfl
          have uo : Upd wo wr (fun _ => False) := by rw [← hwr]; exact (Upd.refl wo _).alloc _
          have hdo := hdl.upd uo
          have huo := hu.then uo (fun _ _ => id)
          rw [hwr]
          clear hwr uo
          refine wp_loop_rounds 1 ?_
          rw [rounds_succ]
          go_wp2_with fail
          refine Calls.mono (TR _ _ (hdo)) ?_
          rintro e w3 ⟨v3, rfl, q3, ⟨n3, hn3⟩, -⟩
          have u3 : Upd wr w3 (fun _ => False) := by rw [hn3]; exact (Upd.refl wr _).drewN n3
          clear hn3
          go_wp2_with fail
          refine Calls.mono (D4 _) ?_
          rintro e w4 ⟨v4, rfl, q4, u4⟩
          go_wp2_with fail
          refine Calls.mono (TM _ _ _ (q3.upd u4) q4) ?_
          rintro e w5 ⟨v5, rfl, q5, u5, -⟩
          go_wp2_with fail
          refine Calls.mono (NE _ _ _ q5 (((hv2.upd u3).upd u4).upd u5)) ?_
          rintro e w6 ⟨v6, rfl, q6, u6⟩
          go_wp2_with fail
          refine Calls.mono (NU _ _ q6) ?_
          rintro e w7 ⟨rfl, u7⟩
          go_wp2_with fail
          go_ret2
          exact ⟨rfl, ((((huo.then u3 (fun _ _ => id)).then u4 (fun _ _ => id)).then u5 (fun _ _ => id)).then u6 (fun _ _ => id)).then u7 (fun _ _ => id)⟩

set_option maxHeartbeats 1600000 in
theorem RefParse_minus_end_whole (w : World) (s t : ByteArray) (W : List UInt8) (stop : Nat) (hts : t.size ≤ 1000) (hs0 : 0 < s.size) (hz0 : s[0].toNat = 45) (ht : s.extract 1 s.size = t)
    (hno : ∀ k : Nat, k < stop → t.data.toList[k]? ≠ some 46) (hWt : t.data.toList = W) (hst : stop = t.size) (hW : isD W = false) : Calls Tryz.prog 94 #[.string s] w fun e w' => e = .returned (.tuple #[.int .i64 0, .int .i64 4]) ∧ Upd w w' (fun _ => False) := by
  have c45 : ((45 : Int) == 45) = true := by decide
  have d0 : decide (0 < s.size) = true := by simpa using hs0
  have HNO := hide hno
  clear hno
  have AW := fun w => all_any w t (by omega)
  rw [hWt, hW] at AW
  go_enter Tryz.func94, Tryz.ntmps94
  go_wp2_with fail
  go_loopg [5] stop (fun q v wr => wr = w ∧ ∃ m : Nat, m + q = stop ∧ v = .int .i64 m)
  case atStart => exact ⟨rfl, 0, by omega, rfl⟩
  case round =>
    obtain ⟨hwr, m, hm, rfl⟩ := hrel
    replace hwr := hwr.symm
    subst hwr
    by_cases hms : m < stop
    · have hmt : m < t.size := by omega
      obtain ⟨z, hz⟩ : ∃ z, t[m].toNat = z := ⟨_, rfl⟩
      have hz46 : z ≠ 46 := by
        intro e
        refine HNO.out m hms ?_
        rw [byte_list t m hmt]
        congr 1
        refine UInt8.toNat_inj.1 ?_
        rw [hz, e]
        rfl
      have c1 : decide (m < t.size) = true := by simpa using hmt
      have c2 : ((z : Int) != 46) = true := by simp; omega
      have c2' : (z != 46) = true := by simp; omega
      clear hz46
      go_wp2_with fail
      go_roundg (gk - 1)
      case measure => omega
      case rel => exact ⟨rfl, m + 1, by omega, by go_num⟩
    · obtain rfl : m = stop := by omega
      clear hms hm
      have c1 : decide (m < t.size) = false := by simp; omega
      go_wp2_with fail
      refine Calls.mono (AW _) ?_
      rintro e w2 ⟨rfl, hw⟩
      replace hw := hw.symm
      subst hw
      go_wp2_with fail
      go_ret2
      exact ⟨rfl, Upd.refl _ _⟩
end Go.Proofs.YtmfngdjhkpddoaaGreatDoor
/- The walk of the reference's Parse at every text. -/
set_option maxRecDepth 100000
namespace Go.Proofs.YtmfngdjhkpddoaaGreatDoor
open Go.RowKit Go.Lat


set_option maxHeartbeats 1600000 in
theorem RefParse_plain_dot_ok (w : World) (s t whole part : ByteArray) (W P : List UInt8) (stop : Nat) (hts : t.size ≤ 1000) (hs0 : 0 < s.size) (z0 : Nat) (hz0 : s[0].toNat = z0) (hn45 : z0 ≠ 45) (ht : s = t)
    (hno : ∀ k : Nat, k < stop → t.data.toList[k]? ≠ some 46) (hWt : whole.data.toList = W) (hst : stop < t.size) (hat : t[stop].toNat = 46) (hWe : t.extract 0 stop = whole) (hPt : part.data.toList = P) (hPe : t.extract (stop + 1) t.size = part) (hW : isD W = true) (hP : isD P = true) : Calls Tryz.prog 94 #[.string s] w fun e w' => e = .returned (.tuple #[.int .i64 (numV false (rnd ((dval W * 10 ^ P.length + dval P) * 10000) (10 ^ P.length))), .int .i64 (numE (rnd ((dval W * 10 ^ P.length + dval P) * 10000) (10 ^ P.length)))]) ∧ Upd w w' (fun _ => False) := by
  subst ht
  have c45 : ((z0 : Int) == 45) = false := by simp; omega
  have c45' : (z0 == 45) = false := by simp; omega
  have d0 : decide (0 < s.size) = true := by simpa using hs0
  clear hn45
  have HNO := hide hno
  clear hno
  have AW := fun w => all_any w whole (by rw [← hWe]; simp; omega)
  rw [hWt, hW] at AW
  have HAT := hide hat
  clear hat
  have AP := fun w => all_any w part (by rw [← hPe]; simp; omega)
  rw [hPt, hP] at AP
  obtain ⟨i0, hin, hzA, hzB, hzC⟩ := info_parts Tryz.info3
  have hw' := hW
  simp only [isD, Bool.and_eq_true, decide_eq_true_eq] at hw'
  obtain ⟨⟨hw1, hw2⟩, hw3⟩ := hw'
  have hp' := hP
  simp only [isD, Bool.and_eq_true, decide_eq_true_eq] at hp'
  obtain ⟨⟨hp1, hp2⟩, hp3⟩ := hp'
  have HL := hide hp2
  have HLW := hide hw2
  have HSW : Hid (whole.size = W.length) := hide (by rw [← hWt]; rfl)
  have HTW := hide hWt
  have HAW := hide hw3
  have HAP := hide hp3
  have HSP : Hid (part.size = P.length) := hide (by rw [← hPt]; rfl)
  have HTP := hide hPt
  have hwl : whole.size = W.length := by rw [← hWt]; rfl
  have hpl : part.size = P.length := by rw [← hPt]; rfl
  have hw18 : whole.size ≤ 18 := by omega
  have hp18 : part.size ≤ 18 := by omega
  have hpw : IntKind.i64.wrap ((part.size : Int) - 1) = (part.size : Int) - 1 := IntWalk.i64_in _ (by omega)
  have hww : IntKind.i64.wrap ((whole.size : Int) - 1) = (whole.size : Int) - 1 := IntWalk.i64_in _ (by omega)
  have HD1 : Hid (dg 1 = [1]) := hide (by rw [dg_pos (by omega), dg_zero])
  have b100 : (10 : Nat) ^ 18 < 10 ^ 100 := by decide
  have HLK : Hid (∀ k, k < part.size → (dg (10 ^ k)).length ≤ 1000) := hide (fun k hk => by
    have hkl : k ≤ 18 := by omega
    have := dg_len (10 ^ k) 19 (by have h1 : 10 ^ k ≤ 10 ^ 18 := Nat.pow_le_pow_right (by omega) hkl
                                   have h2 : (10 : Nat) ^ 18 < 10 ^ 19 := by decide
                                   omega)
    omega)
  have hDb : dval W * 10 ^ P.length + dval P < 10 ^ 36 := by
    rw [← dval_append]
    have h1 := dval_lt (W ++ P) (by rw [List.all_append, hw3, hp3]; rfl)
    have h2 : 10 ^ (W ++ P).length ≤ 10 ^ 36 := Nat.pow_le_pow_right (by omega) (by rw [List.length_append]; omega)
    omega
  have hT0 : 0 < 10 ^ P.length := Nat.pow_pos (by omega)
  have hTb : 10 ^ P.length ≤ 10 ^ 18 := Nat.pow_le_pow_right (by omega) hp2
  obtain ⟨Dn, hDn⟩ : ∃ Dn, dval W * 10 ^ P.length + dval P = Dn := ⟨_, rfl⟩
  rw [hDn] at hDb ⊢
  have HDN := hide hDn
  have b36 : (10 : Nat) ^ 36 * 10000 < 10 ^ 100 := by decide
  have D4 : ∀ w, Calls Tryz.prog 96 #[.int .i64 10000] w fun e w' => ∃ v, e = .returned v ∧ DgAt w' v (dg 10000) ∧ Upd w w' (fun _ => False) := fun w => Digits_nat w 10000 (by omega)
  have lD := dg_len Dn 100 (by omega)
  have l4 := dg_len 10000 20 (by omega)
  have TM := fun w v1 v2 k1 k2 => times1_any w v1 v2 (dg Dn) (dg 10000) k1 k2 (dg_norm _) (dg_norm _) (by omega) (by omega)
  simp only [val_dg] at TM
  have NE := fun w v1 v2 k1 k2 => nearest_any w v1 v2 (Dn * 10000) (10 ^ P.length) k1 k2 hT0 (by omega) (by omega)
  have hr : rnd (Dn * 10000) (10 ^ P.length) < 10 ^ 100 := by
    have h3 := Nat.div_le_self (Dn * 10000) (10 ^ P.length)
    unfold rnd
    split <;> omega
  have NU := fun w v k => Number_any w v (rnd (Dn * 10000) (10 ^ P.length)) false k hr
  generalize numV false (rnd (Dn * 10000) (10 ^ P.length)) = XV at *
  generalize numE (rnd (Dn * 10000) (10 ^ P.length)) = XE at *
  clear hwl hpl hw1 hw2 hw3 hp2 hp3 hDb hT0 hTb hDn b36 b100 lD l4 hr hWt hPt hW hp1 hP
  go_enter Tryz.func94, Tryz.ntmps94
  go_wp2_with fail
  go_loopg [5] stop (fun q v wr => wr = w ∧ ∃ m : Nat, m + q = stop ∧ v = .int .i64 m)
  case atStart => exact ⟨rfl, 0, by omega, rfl⟩
  case round =>
    obtain ⟨hwr, m, hm, rfl⟩ := hrel
    replace hwr := hwr.symm
    subst hwr
    by_cases hms : m < stop
    · have hmt : m < s.size := by omega
      obtain ⟨z, hz⟩ : ∃ z, s[m].toNat = z := ⟨_, rfl⟩
      have hz46 : z ≠ 46 := by
        intro e
        refine HNO.out m hms ?_
        rw [byte_list s m hmt]
        congr 1
        refine UInt8.toNat_inj.1 ?_
        rw [hz, e]
        rfl
      have c1 : decide (m < s.size) = true := by simpa using hmt
      have c2 : ((z : Int) != 46) = true := by simp; omega
      have c2' : (z != 46) = true := by simp; omega
      clear hz46
      go_wp2_with fail
      go_roundg (gk - 1)
      case measure => omega
      case rel => exact ⟨rfl, m + 1, by omega, by go_num⟩
    · obtain rfl : m = stop := by omega
      clear hms hm
      have c1 : decide (m < s.size) = true := by simpa using hst
      have c2 : ((46 : Int) != 46) = false := by decide
      have hz := HAT.out
      go_wp2_with fail
      refine Calls.mono (AW _) ?_
      rintro e w2 ⟨rfl, hw⟩
      replace hw := hw.symm
      subst hw
      go_wp2_with fail
      refine Calls.mono (AP _) ?_
      rintro e w2 ⟨rfl, hw⟩
      replace hw := hw.symm
      subst hw
      go_wp2_with fail
      go_loopg [9, 10] part.size (fun q d i wr => ∃ j : Nat, j ≤ q ∧ j ≤ part.size ∧ i = .int .i64 ((j : Int) - 1) ∧ DgAt wr d (((P.drop j).reverse).map dvB) ∧ Upd w wr (fun _ => False) ∧ (∀ k, d.ownBlock = some k → w.heap.size ≤ k))
      case atStart => exact ⟨part.size, Nat.le_refl _, Nat.le_refl _, by first | rfl | go_num, by rw [List.drop_eq_nil_of_le (by rw [HSP.out]; exact Nat.le_refl _)]; exact Rw.nil _ _ _, Upd.refl _ _, by simp [Value.ownBlock]⟩
      case round =>
        obtain ⟨j, hj, hjl, rfl, hd, hu, hob⟩ := hrel
        obtain ⟨l, hl⟩ : ∃ l, ((P.drop j).reverse).map dvB = l := ⟨_, rfl⟩
        rw [hl] at hd
        have hll : l.length ≤ 36 := by
          have h1 := HL.out
          have h2 := HLW.out
          rw [← hl]
          simp
          omega
        cases j with
        | succ k =>
          have ej : ((k + 1 : Nat) : Int) - 1 = (k : Int) := by omega
          rw [ej]
          have hks : k < part.size := by omega
          obtain ⟨z, hz⟩ : ∃ z, part[k].toNat = z := ⟨_, rfl⟩
          obtain ⟨z1, z2, z3⟩ := byte_digit part P k hks HTP.out HAP.out
          have hnew : ((P.drop k).reverse).map dvB = l ++ [z - 48] := by
            rw [drop_get P k _ z3, List.reverse_cons, ← hl]
            simp [dvB, hz]
          rw [hz] at z1 z2
          have e1 : IntKind.u8.wrap ((z : Int) - 48) = ((z - 48 : Nat) : Int) := by rw [IntKind.wrap_u8']; omega
          obtain ⟨y, hy⟩ : ∃ y, z - 48 = y := ⟨_, rfl⟩
          rw [hy] at e1 hnew
          have hyb : y < 10 := by omega
          have e2 : IntKind.i64.wrap (y : Int) = (y : Int) := IntWalk.i64_in _ (by omega)
          have HN := hide hnew
          have c0 : (0 : Int) ≤ (k : Int) := Int.natCast_nonneg _
          have c1 : decide ((0 : Int) ≤ (k : Int)) = true := decide_eq_true c0
          have c2 : (k : Int) < (part.size : Int) := by omega
          have hkq : k ≤ gk - 1 ∧ k ≤ part.size ∧ 1 ≤ gk := by omega
          clear hnew hl ej hy z1 z2 z3 hj hjl
          unfold DgAt at hd
          go_wp2_with (at_builtin; go_loud (refine wpList_append_rw _ rfl _ _ 49 49 rfl 3 _ i0 _ 1 8 Tryz.underlying49 Tryz.underlying49 (by simp) hin hzA hzB hzC rfl _ l.length _ rfl (hd.alloc _) _ 1 _ rfl (Rw.made _ _ _ 1 1 rfl).src rfl (by simp [Value.oneCell']) (by omega) (by omega) ?_); intro ga gc w1 hv' hg hob')
          go_roundg (gk - 1)
          case measure => omega
          case rel =>
            refine ⟨k, by omega, by omega, by first | rfl | go_num, ?_, (hu.alloc _).grown hg (fun i k1 => .inl (hob i k1)), ?_⟩
            · rw [HN.out]
              unfold DgAt
              simpa using hv'
            · intro i k1
              rcases hob' with e | e
              · exact hob i (Eq.trans (show _ = _ from e.symm) k1)
              · rw [e] at k1; simp at k1; have := hu.size; omega
        | zero =>
          have ej : ((0 : Nat) : Int) - 1 = -1 := by omega
          rw [ej]
          rw [List.drop_zero] at hl
          clear hj hjl
          go_wp2_with fail
          subst hl
          go_loopg [9, 11] whole.size (fun q d i wr => ∃ j : Nat, j ≤ q ∧ j ≤ whole.size ∧ i = .int .i64 ((j : Int) - 1) ∧ DgAt wr d ((P.reverse ++ (W.drop j).reverse).map dvB) ∧ Upd w wr (fun _ => False) ∧ (∀ k, d.ownBlock = some k → w.heap.size ≤ k))
          case atStart => exact ⟨whole.size, Nat.le_refl _, Nat.le_refl _, by first | rfl | go_num, by rw [List.drop_eq_nil_of_le (by rw [HSW.out]; exact Nat.le_refl _)]; simpa using hd, hu, hob⟩
          case round =>
            obtain ⟨j, hj, hjl, rfl, hd, hu, hob⟩ := hrel
            obtain ⟨l, hl⟩ : ∃ l, (P.reverse ++ (W.drop j).reverse).map dvB = l := ⟨_, rfl⟩
            rw [hl] at hd
            have hll : l.length ≤ 36 := by
              have h1 := HL.out
              have h2 := HLW.out
              rw [← hl]
              simp
              omega
            cases j with
            | succ k =>
              have ej : ((k + 1 : Nat) : Int) - 1 = (k : Int) := by omega
              rw [ej]
              have hks : k < whole.size := by omega
              obtain ⟨z, hz⟩ : ∃ z, whole[k].toNat = z := ⟨_, rfl⟩
              obtain ⟨z1, z2, z3⟩ := byte_digit whole W k hks HTW.out HAW.out
              have hnew : (P.reverse ++ (W.drop k).reverse).map dvB = l ++ [z - 48] := by
                rw [drop_get W k _ z3, List.reverse_cons, ← hl]
                simp [dvB, hz]
              rw [hz] at z1 z2
              have e1 : IntKind.u8.wrap ((z : Int) - 48) = ((z - 48 : Nat) : Int) := by rw [IntKind.wrap_u8']; omega
              obtain ⟨y, hy⟩ : ∃ y, z - 48 = y := ⟨_, rfl⟩
              rw [hy] at e1 hnew
              have hyb : y < 10 := by omega
              have e2 : IntKind.i64.wrap (y : Int) = (y : Int) := IntWalk.i64_in _ (by omega)
              have HN := hide hnew
              have c0 : (0 : Int) ≤ (k : Int) := Int.natCast_nonneg _
              have c1 : decide ((0 : Int) ≤ (k : Int)) = true := decide_eq_true c0
              have c2 : (k : Int) < (whole.size : Int) := by omega
              have hkq : k ≤ gk - 1 ∧ k ≤ whole.size ∧ 1 ≤ gk := by omega
              clear hnew hl ej hy z1 z2 z3 hj hjl
              unfold DgAt at hd
              go_wp2_with (at_builtin; go_loud (refine wpList_append_rw _ rfl _ _ 49 49 rfl 3 _ i0 _ 1 8 Tryz.underlying49 Tryz.underlying49 (by simp) hin hzA hzB hzC rfl _ l.length _ rfl (hd.alloc _) _ 1 _ rfl (Rw.made _ _ _ 1 1 rfl).src rfl (by simp [Value.oneCell']) (by omega) (by omega) ?_); intro ga gc w1 hv' hg hob')
              go_roundg (gk - 1)
              case measure => omega
              case rel =>
                refine ⟨k, by omega, by omega, by first | rfl | go_num, ?_, (hu.alloc _).grown hg (fun i k1 => .inl (hob i k1)), ?_⟩
                · rw [HN.out]
                  unfold DgAt
                  simpa using hv'
                · intro i k1
                  rcases hob' with e | e
                  · exact hob i (Eq.trans (show _ = _ from e.symm) k1)
                  · rw [e] at k1; simp at k1; have := hu.size; omega
            | zero =>
              have ej : ((0 : Nat) : Int) - 1 = -1 := by omega
              rw [ej]
              rw [List.drop_zero] at hl
              clear hj hjl
              go_wp2_with fail
              have hdl := hd
              clear hd
              have L10 : ∀ d ∈ l, d < 10 := by
                rw [← hl]
                intro d hd
                obtain ⟨b, hb, rfl⟩ := List.mem_map.1 hd
                rcases List.mem_append.1 hb with k | k
                · exact dgB_lt (List.all_eq_true.1 HAP.out b (List.mem_reverse.1 k))
                · exact dgB_lt (List.all_eq_true.1 HAW.out b (List.mem_reverse.1 k))
              have hv : val l = dval W * 10 ^ P.length + dval P := by
                rw [← dval_append, ← hl]
                unfold dval
                rw [List.reverse_append]
              have TR := fun w v k => trim1_any w v l k L10 (by omega)
              rw [hv, HDN.out] at TR
              clear hl L10 hv hll
              have HTR := hide TR
              clear TR
              obtain ⟨wo, hwo⟩ : ∃ wo, wr = wo := ⟨_, rfl⟩
              rw [hwo] at hdl hu ⊢
              clear hwo
              go_loopg [12, 13] part.size (fun q v i wr => ∃ k : Nat, k + q = part.size ∧ i = .int .i64 k ∧ DgAt wr v (dg (10 ^ k)) ∧ DgAt wr u9 l ∧ Upd w wr (fun _ => False))
              case atStart =>
                refine ⟨0, by omega, by simp, ?_, hdl.upd ((Upd.refl wo _).alloc _), hu.alloc _⟩
                rw [Nat.pow_zero, HD1.out]
                exact Rw.made wo _ _ 1 1 rfl
              case round =>
                clear hdl hu
                obtain ⟨k, hk, rfl, hv, hd, hu⟩ := hrel
                by_cases hkp : k < part.size
                · have d4 : decide (k < part.size) = true := by simpa using hkp
                  have PP := fun w v1 v2 h1 h2 => times1_any w v1 v2 (dg (10 ^ k)) [0, 1] h1 h2 (dg_norm _) (by unfold Norm; decide) (HLK.out k hkp) (by decide)
                  rw [val_dg, show val [0, 1] = 10 from by decide, show 10 ^ k * 10 = 10 ^ (k + 1) from (Nat.pow_succ ..).symm] at PP
                  go_wp2_with fail
                  have m2 : DgAt (wr.alloc (.cells #[.int .i64 0, .int .i64 1] 3)) (.slice (some ⟨wr.heap.size, 0, none⟩) 2 2) [0, 1] := Rw.made wr _ _ 1 2 rfl
                  refine Calls.mono (PP _ _ _ (hv.upd ((Upd.refl wr _).alloc _)) m2) ?_
                  rintro e w2 ⟨v2, rfl, q2, u2, -⟩
                  clear PP
                  go_wp2_with fail
                  go_roundg (gk - 1)
                  case measure => omega
                  case rel => exact ⟨k + 1, by omega, by go_num, q2, (hd.upd ((Upd.refl wr _).alloc _)).upd u2, (hu.alloc _).then u2 (fun _ _ => id)⟩
                · obtain rfl : k = part.size := by omega
                  have d4 : decide (part.size < part.size) = false := by simp
                  have TR := HTR.out
                  have hv2 : DgAt wr u12 (dg (10 ^ P.length)) := by rw [← HSP.out]; exact hv
                  clear hv hk hkp
                  go_wp2_with fail
                  refine Calls.mono (TR _ _ (hd)) ?_
                  rintro e w3 ⟨v3, rfl, q3, ⟨n3, hn3⟩, -⟩
                  have u3 : Upd wr w3 (fun _ => False) := by rw [hn3]; exact (Upd.refl wr _).drewN n3
                  clear hn3
                  go_wp2_with fail
                  refine Calls.mono (D4 _) ?_
                  rintro e w4 ⟨v4, rfl, q4, u4⟩
                  go_wp2_with fail
                  refine Calls.mono (TM _ _ _ (q3.upd u4) q4) ?_
                  rintro e w5 ⟨v5, rfl, q5, u5, -⟩
                  go_wp2_with fail
                  refine Calls.mono (NE _ _ _ q5 (((hv2.upd u3).upd u4).upd u5)) ?_
                  rintro e w6 ⟨v6, rfl, q6, u6⟩
                  go_wp2_with fail
                  refine Calls.mono (NU _ _ q6) ?_
                  rintro e w7 ⟨rfl, u7⟩
                  go_wp2_with fail
                  go_ret2
                  exact ⟨rfl, ((((hu.then u3 (fun _ _ => id)).then u4 (fun _ _ => id)).then u5 (fun _ _ => id)).then u6 (fun _ _ => id)).then u7 (fun _ _ => id)⟩

set_option maxHeartbeats 1600000 in
theorem RefParse_plain_dot_part (w : World) (s t whole part : ByteArray) (W P : List UInt8) (stop : Nat) (hts : t.size ≤ 1000) (hs0 : 0 < s.size) (z0 : Nat) (hz0 : s[0].toNat = z0) (hn45 : z0 ≠ 45) (ht : s = t)
    (hno : ∀ k : Nat, k < stop → t.data.toList[k]? ≠ some 46) (hWt : whole.data.toList = W) (hst : stop < t.size) (hat : t[stop].toNat = 46) (hWe : t.extract 0 stop = whole) (hPt : part.data.toList = P) (hPe : t.extract (stop + 1) t.size = part) (hW : isD W = true) (hP : isD P = false) : Calls Tryz.prog 94 #[.string s] w fun e w' => e = .returned (.tuple #[.int .i64 0, .int .i64 4]) ∧ Upd w w' (fun _ => False) := by
  subst ht
  have c45 : ((z0 : Int) == 45) = false := by simp; omega
  have c45' : (z0 == 45) = false := by simp; omega
  have d0 : decide (0 < s.size) = true := by simpa using hs0
  clear hn45
  have HNO := hide hno
  clear hno
  have AW := fun w => all_any w whole (by rw [← hWe]; simp; omega)
  rw [hWt, hW] at AW
  have HAT := hide hat
  clear hat
  have AP := fun w => all_any w part (by rw [← hPe]; simp; omega)
  rw [hPt, hP] at AP
  go_enter Tryz.func94, Tryz.ntmps94
  go_wp2_with fail
  go_loopg [5] stop (fun q v wr => wr = w ∧ ∃ m : Nat, m + q = stop ∧ v = .int .i64 m)
  case atStart => exact ⟨rfl, 0, by omega, rfl⟩
  case round =>
    obtain ⟨hwr, m, hm, rfl⟩ := hrel
    replace hwr := hwr.symm
    subst hwr
    by_cases hms : m < stop
    · have hmt : m < s.size := by omega
      obtain ⟨z, hz⟩ : ∃ z, s[m].toNat = z := ⟨_, rfl⟩
      have hz46 : z ≠ 46 := by
        intro e
        refine HNO.out m hms ?_
        rw [byte_list s m hmt]
        congr 1
        refine UInt8.toNat_inj.1 ?_
        rw [hz, e]
        rfl
      have c1 : decide (m < s.size) = true := by simpa using hmt
      have c2 : ((z : Int) != 46) = true := by simp; omega
      have c2' : (z != 46) = true := by simp; omega
      clear hz46
      go_wp2_with fail
      go_roundg (gk - 1)
      case measure => omega
      case rel => exact ⟨rfl, m + 1, by omega, by go_num⟩
    · obtain rfl : m = stop := by omega
      clear hms hm
      have c1 : decide (m < s.size) = true := by simpa using hst
      have c2 : ((46 : Int) != 46) = false := by decide
      have hz := HAT.out
      go_wp2_with fail
      refine Calls.mono (AW _) ?_
      rintro e w2 ⟨rfl, hw⟩
      replace hw := hw.symm
      subst hw
      go_wp2_with fail
      refine Calls.mono (AP _) ?_
      rintro e w2 ⟨rfl, hw⟩
      replace hw := hw.symm
      subst hw
      go_wp2_with fail
      go_ret2
      exact ⟨rfl, Upd.refl _ _⟩

set_option maxHeartbeats 1600000 in
theorem RefParse_plain_dot_whole (w : World) (s t whole : ByteArray) (W : List UInt8) (stop : Nat) (hts : t.size ≤ 1000) (hs0 : 0 < s.size) (z0 : Nat) (hz0 : s[0].toNat = z0) (hn45 : z0 ≠ 45) (ht : s = t)
    (hno : ∀ k : Nat, k < stop → t.data.toList[k]? ≠ some 46) (hWt : whole.data.toList = W) (hst : stop < t.size) (hat : t[stop].toNat = 46) (hWe : t.extract 0 stop = whole) (hW : isD W = false) : Calls Tryz.prog 94 #[.string s] w fun e w' => e = .returned (.tuple #[.int .i64 0, .int .i64 4]) ∧ Upd w w' (fun _ => False) := by
  subst ht
  have c45 : ((z0 : Int) == 45) = false := by simp; omega
  have c45' : (z0 == 45) = false := by simp; omega
  have d0 : decide (0 < s.size) = true := by simpa using hs0
  clear hn45
  have HNO := hide hno
  clear hno
  have AW := fun w => all_any w whole (by rw [← hWe]; simp; omega)
  rw [hWt, hW] at AW
  have HAT := hide hat
  clear hat
  go_enter Tryz.func94, Tryz.ntmps94
  go_wp2_with fail
  go_loopg [5] stop (fun q v wr => wr = w ∧ ∃ m : Nat, m + q = stop ∧ v = .int .i64 m)
  case atStart => exact ⟨rfl, 0, by omega, rfl⟩
  case round =>
    obtain ⟨hwr, m, hm, rfl⟩ := hrel
    replace hwr := hwr.symm
    subst hwr
    by_cases hms : m < stop
    · have hmt : m < s.size := by omega
      obtain ⟨z, hz⟩ : ∃ z, s[m].toNat = z := ⟨_, rfl⟩
      have hz46 : z ≠ 46 := by
        intro e
        refine HNO.out m hms ?_
        rw [byte_list s m hmt]
        congr 1
        refine UInt8.toNat_inj.1 ?_
        rw [hz, e]
        rfl
      have c1 : decide (m < s.size) = true := by simpa using hmt
      have c2 : ((z : Int) != 46) = true := by simp; omega
      have c2' : (z != 46) = true := by simp; omega
      clear hz46
      go_wp2_with fail
      go_roundg (gk - 1)
      case measure => omega
      case rel => exact ⟨rfl, m + 1, by omega, by go_num⟩
    · obtain rfl : m = stop := by omega
      clear hms hm
      have c1 : decide (m < s.size) = true := by simpa using hst
      have c2 : ((46 : Int) != 46) = false := by decide
      have hz := HAT.out
      go_wp2_with fail
      refine Calls.mono (AW _) ?_
      rintro e w2 ⟨rfl, hw⟩
      replace hw := hw.symm
      subst hw
      go_wp2_with fail
      go_ret2
      exact ⟨rfl, Upd.refl _ _⟩
end Go.Proofs.YtmfngdjhkpddoaaGreatDoor
