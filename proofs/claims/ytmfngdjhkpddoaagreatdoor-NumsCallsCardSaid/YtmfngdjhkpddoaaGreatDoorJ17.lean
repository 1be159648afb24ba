/- The walk of the reference's Parse at every text. -/
import Derived.Test.YtmfngdjhkpddoaaGreatDoorJ15
import Derived.Test.YtmfngdjhkpddoaaGreatDoorJ08
import Derived.WideShapes
import Derived.Test.YtmfngdjhkpddoaaGreatDoorJ16
import Derived.Test.YtmfngdjhkpddoaaGreatDoorJ14
import Derived.Test.YtmfngdjhkpddoaaGreatDoorJ09
/- The walk of the reference's Parse at every text. -/
set_option maxRecDepth 100000
namespace Go.Proofs.YtmfngdjhkpddoaaGreatDoor
open Go.RowKit Go.Lat


theorem RefParse_empty (w : World) : Calls Tryz.prog 94 #[.string ⟨#[]⟩] w fun e w' => e = .returned (.tuple #[.int .i64 0, .int .i64 4]) ∧ Upd w w' (fun _ => False) := by
  have AW : ∀ w, Calls Tryz.prog 135 #[.string ⟨#[]⟩] w fun e w' => e = .returned (.bool false) ∧ w' = w := fun w => all_any w ⟨#[]⟩ (by decide)
  go_enter Tryz.func94, Tryz.ntmps94
  go_wp2_with fail
  refine wp_loop_rounds 1 ?_
  rw [rounds_succ]
  go_wp2_with fail
  refine Calls.mono (AW _) ?_
  rintro e w2 ⟨rfl, hw⟩
  replace hw := hw.symm
  subst hw
  go_wp2_with fail
  go_ret2
  exact ⟨rfl, Upd.refl _ _⟩

set_option maxHeartbeats 1600000 in
theorem RefParse_plain_end_ok (w : World) (s t part : ByteArray) (W P : List UInt8) (stop : Nat) (hts : t.size ≤ 1000) (hs0 : 0 < s.size) (z0 : Nat) (hz0 : s[0].toNat = z0) (hn45 : z0 ≠ 45) (ht : s = t)
    (hno : ∀ k : Nat, k < stop → t.data.toList[k]? ≠ some 46) (hWt : t.data.toList = W) (hst : stop = t.size) (hPt : part.data.toList = P) (hP0 : P = []) (hW : isD W = true) : Calls Tryz.prog 94 #[.string s] w fun e w' => e = .returned (.tuple #[.int .i64 (numV false (rnd ((dval W * 10 ^ P.length + dval P) * 10000) (10 ^ P.length))), .int .i64 (numE (rnd ((dval W * 10 ^ P.length + dval P) * 10000) (10 ^ P.length)))]) ∧ Upd w w' (fun _ => False) := by
  subst ht
  have c45 : ((z0 : Int) == 45) = false := by simp; omega
  have c45' : (z0 == 45) = false := by simp; omega
  have d0 : decide (0 < s.size) = true := by simpa using hs0
  clear hn45
  have HNO := hide hno
  clear hno
  have AW := fun w => all_any w s (by omega)
  rw [hWt, hW] at AW
  obtain ⟨i0, hin, hzA, hzB, hzC⟩ := info_parts Tryz.info3
  have hw' := hW
  simp only [isD, Bool.and_eq_true, decide_eq_true_eq] at hw'
  obtain ⟨⟨hw1, hw2⟩, hw3⟩ := hw'
  have hp2 : P.length ≤ 18 := by rw [hP0]; decide
  have hp3 : P.all dgB = true := by rw [hP0]; rfl
  have HL := hide hp2
  have HLW := hide hw2
  have HSW : Hid (s.size = W.length) := hide (by rw [← hWt]; rfl)
  have HTW := hide hWt
  have HAW := hide hw3
  have HAP := hide hp3
  have hwl : s.size = W.length := by rw [← hWt]; rfl
  have hpl : part.size = P.length := by rw [← hPt]; rfl
  have hw18 : s.size ≤ 18 := by omega
  have hp18 : part.size ≤ 18 := by omega
  have hpw : IntKind.i64.wrap ((part.size : Int) - 1) = (part.size : Int) - 1 := IntWalk.i64_in _ (by omega)
  have hww : IntKind.i64.wrap ((s.size : Int) - 1) = (s.size : Int) - 1 := IntWalk.i64_in _ (by omega)
  have HD1 : Hid (dg 1 = [1]) := hide (by rw [dg_pos (by omega), dg_zero])
  have b100 : (10 : Nat) ^ 18 < 10 ^ 100 := by decide
  have HLK : Hid (∀ k, k < part.size → (dg (10 ^ k)).length ≤ 1000) := hide (fun k hk => by
    have hkl : k ≤ 18 := by omega
    have := dg_len (10 ^ k) 19 (by have h1 : 10 ^ k ≤ 10 ^ 18 := Nat.pow_le_pow_right (by omega) hkl
                                   have h2 : (10 : Nat) ^ 18 < 10 ^ 19 := by decide
                                   omega)
    omega)
  have hDb : dval W * 10 ^ P.length + dval P < 10 ^ 36 := by
    rw [← dval_append]
    have h1 := dval_lt (W ++ P) (by rw [List.all_append, hw3, hp3]; rfl)
    have h2 : 10 ^ (W ++ P).length ≤ 10 ^ 36 := Nat.pow_le_pow_right (by omega) (by rw [List.length_append]; omega)
    omega
  have hT0 : 0 < 10 ^ P.length := Nat.pow_pos (by omega)
  have hTb : 10 ^ P.length ≤ 10 ^ 18 := Nat.pow_le_pow_right (by omega) hp2
  obtain ⟨Dn, hDn⟩ : ∃ Dn, dval W * 10 ^ P.length + dval P = Dn := ⟨_, rfl⟩
  rw [hDn] at hDb ⊢
  have HDN := hide hDn
  have b36 : (10 : Nat) ^ 36 * 10000 < 10 ^ 100 := by decide
  have D4 : ∀ w, Calls Tryz.prog 96 #[.int .i64 10000] w fun e w' => ∃ v, e = .returned v ∧ DgAt w' v (dg 10000) ∧ Upd w w' (fun _ => False) := fun w => Digits_nat w 10000 (by omega)
  have lD := dg_len Dn 100 (by omega)
  have l4 := dg_len 10000 20 (by omega)
  have TM := fun w v1 v2 k1 k2 => times1_any w v1 v2 (dg Dn) (dg 10000) k1 k2 (dg_norm _) (dg_norm _) (by omega) (by omega)
  simp only [val_dg] at TM
  have NE := fun w v1 v2 k1 k2 => nearest_any w v1 v2 (Dn * 10000) (10 ^ P.length) k1 k2 hT0 (by omega) (by omega)
  have hr : rnd (Dn * 10000) (10 ^ P.length) < 10 ^ 100 := by
    have h3 := Nat.div_le_self (Dn * 10000) (10 ^ P.length)
    unfold rnd
    split <;> omega
  have NU := fun w v k => Number_any w v (rnd (Dn * 10000) (10 ^ P.length)) false k hr
  generalize numV false (rnd (Dn * 10000) (10 ^ P.length)) = XV at *
  generalize numE (rnd (Dn * 10000) (10 ^ P.length)) = XE at *
  clear hwl hpl hw1 hw2 hw3 hp2 hp3 hDb hT0 hTb hDn b36 b100 lD l4 hr hWt hPt hW
  have HP0 := hide hP0
  clear hP0
  go_enter Tryz.func94, Tryz.ntmps94
  go_wp2_with fail
  go_loopg [5] stop (fun q v wr => wr = w ∧ ∃ m : Nat, m + q = stop ∧ v = .int .i64 m)
  case atStart => exact ⟨rfl, 0, by omega, rfl⟩
  case round =>
    obtain ⟨hwr, m, hm, rfl⟩ := hrel
    replace hwr := hwr.symm
    subst hwr
    by_cases hms : m < stop
    · have hmt : m < s.size := by omega
      obtain ⟨z, hz⟩ : ∃ z, s[m].toNat = z := ⟨_, rfl⟩
      have hz46 : z ≠ 46 := by
        intro e
        refine HNO.out m hms ?_
        rw [byte_list s m hmt]
        congr 1
        refine UInt8.toNat_inj.1 ?_
        rw [hz, e]
        rfl
      have c1 : decide (m < s.size) = true := by simpa using hmt
      have c2 : ((z : Int) != 46) = true := by simp; omega
      have c2' : (z != 46) = true := by simp; omega
      clear hz46
      go_wp2_with fail
      go_roundg (gk - 1)
      case measure => omega
      case rel => exact ⟨rfl, m + 1, by omega, by go_num⟩
    · obtain rfl : m = stop := by omega
      clear hms hm
      have c1 : decide (m < s.size) = false := by simp; omega
      go_wp2_with fail
      refine Calls.mono (AW _) ?_
      rintro e w2 ⟨rfl, hw⟩
      replace hw := hw.symm
      subst hw
      go_wp2_with fail
      refine wp_loop_rounds 1 ?_
      rw [rounds_succ]
      go_wp2_with fail
      go_loopg [9, 11] s.size (fun q d i wr => ∃ j : Nat, j ≤ q ∧ j ≤ s.size ∧ i = .int .i64 ((j : Int) - 1) ∧ DgAt wr d (((W.drop j).reverse).map dvB) ∧ Upd w wr (fun _ => False) ∧ (∀ k, d.ownBlock = some k → w.heap.size ≤ k))
      case atStart => exact ⟨s.size, Nat.le_refl _, Nat.le_refl _, by first | rfl | go_num, by rw [List.drop_eq_nil_of_le (by rw [HSW.out]; exact Nat.le_refl _)]; exact Rw.nil _ _ _, Upd.refl _ _, by simp [Value.ownBlock]⟩
      case round =>
        obtain ⟨j, hj, hjl, rfl, hd, hu, hob⟩ := hrel
        obtain ⟨l, hl⟩ : ∃ l, ((W.drop j).reverse).map dvB = l := ⟨_, rfl⟩
        rw [hl] at hd
        have hll : l.length ≤ 36 := by
          have h1 := HL.out
          have h2 := HLW.out
          rw [← hl]
          simp
          omega
        cases j with
        | succ k =>
          have ej : ((k + 1 : Nat) : Int) - 1 = (k : Int) := by omega
          rw [ej]
          have hks : k < s.size := by omega
          obtain ⟨z, hz⟩ : ∃ z, s[k].toNat = z := ⟨_, rfl⟩
          obtain ⟨z1, z2, z3⟩ := byte_digit s W k hks HTW.out HAW.out
          have hnew : ((W.drop k).reverse).map dvB = l ++ [z - 48] := by
            rw [drop_get W k _ z3, List.reverse_cons, ← hl]
            simp [dvB, hz]
          rw [hz] at z1 z2
          have e1 : IntKind.u8.wrap ((z : Int) - 48) = ((z - 48 : Nat) : Int) := by rw [IntKind.wrap_u8']; omega
          obtain ⟨y, hy⟩ : ∃ y, z - 48 = y := ⟨_, rfl⟩
          rw [hy] at e1 hnew
          have hyb : y < 10 := by omega
          have e2 : IntKind.i64.wrap (y : Int) = (y : Int) := IntWalk.i64_in _ (by omega)
          have HN := hide hnew
          have c0 : (0 : Int) ≤ (k : Int) := Int.natCast_nonneg _
          have c1 : decide ((0 : Int) ≤ (k : Int)) = true := decide_eq_true c0
          have c2 : (k : Int) < (s.size : Int) := by omega
          have hkq : k ≤ gk - 1 ∧ k ≤ s.size ∧ 1 ≤ gk := by omega
          clear hnew hl ej hy z1 z2 z3 hj hjl
          unfold DgAt at hd
          go_wp2_with (at_builtin; go_loud (refine wpList_append_rw _ rfl _ _ 49 49 rfl 3 _ i0 _ 1 8 Tryz.underlying49 Tryz.underlying49 (by simp) hin hzA hzB hzC rfl _ l.length _ rfl (hd.alloc _) _ 1 _ rfl (Rw.made _ _ _ 1 1 rfl).src rfl (by simp [Value.oneCell']) (by omega) (by omega) ?_); intro ga gc w1 hv' hg hob')
          go_roundg (gk - 1)
          case measure => omega
          case rel =>
            refine ⟨k, by omega, by omega, by first | rfl | go_num, ?_, (hu.alloc _).grown hg (fun i k1 => .inl (hob i k1)), ?_⟩
            · rw [HN.out]
              unfold DgAt
              simpa using hv'
            · intro i k1
              rcases hob' with e | e
              · exact hob i (Eq.trans (show _ = _ from e.symm) k1)
              · rw [e] at k1; simp at k1; have := hu.size; omega
        | zero =>
          have ej : ((0 : Nat) : Int) - 1 = -1 := by omega
          rw [ej]
          rw [List.drop_zero] at hl
          clear hj hjl
          go_wp2_with fail
          have hdl := hd
          have hv : val l = dval W * 10 ^ P.length + dval P := by
            rw [HP0.out, dval_nil, ← hl]
            unfold dval
            simp
          have L10 : ∀ d ∈ l, d < 10 := by
            rw [← hl]
            intro d hd
            obtain ⟨b, hb, rfl⟩ := List.mem_map.1 hd
            exact dgB_lt (List.all_eq_true.1 HAW.out b (List.mem_reverse.1 hb))
          have TR := fun w v k => trim1_any w v l k L10 (by omega)
          rw [hv, HDN.out] at TR
          clear hl L10 hv hll hd
          obtain ⟨wo, hwo⟩ : ∃ wo, wr = wo := ⟨_, rfl⟩
          rw [hwo] at hdl hu ⊢
          clear hwo wr
          obtain ⟨wr, hwr⟩ : ∃ wr, wo.alloc (.cells #[.int .i64 1] 3) = wr := ⟨_, rfl⟩
          have hv2 : DgAt wr (.slice (some ⟨wo.heap.size, 0, none⟩) 1 1) (dg (10 ^ P.length)) := by
            rw [HP0.out, List.length_nil, Nat.pow_zero, HD1.out, ← hwr]
            exact Rw.made wo _ _ 1 1 rfl
          have uo : Upd wo wr (fun _ => False) := by rw [← hwr]; exact (Upd.refl wo _).alloc _
          have hdo := hdl.upd uo
          have huo := hu.then uo (fun _ _ => id)
          rw [hwr]
          clear hwr uo
          refine wp_loop_rounds 1 ?_
          rw [rounds_succ]
          go_wp2_with fail
          refine Calls.mono (TR _ _ (hdo)) ?_
          rintro e w3 ⟨v3, rfl, q3, ⟨n3, hn3⟩, -⟩
          have u3 : Upd wr w3 (fun _ => False) := by rw [hn3]; exact (Upd.refl wr _).drewN n3
          clear hn3
          go_wp2_with fail
          refine Calls.mono (D4 _) ?_
          rintro e w4 ⟨v4, rfl, q4, u4⟩
          go_wp2_with fail
          refine Calls.mono (TM _ _ _ (q3.upd u4) q4) ?_
          rintro e w5 ⟨v5, rfl, q5, u5, -⟩
          go_wp2_with fail
          refine Calls.mono (NE _ _ _ q5 (((hv2.upd u3).upd u4).upd u5)) ?_
          rintro e w6 ⟨v6, rfl, q6, u6⟩
          go_wp2_with fail
          refine Calls.mono (NU _ _ q6) ?_
          rintro e w7 ⟨rfl, u7⟩
          go_wp2_with fail
          go_ret2
          exact ⟨rfl, ((((huo.then u3 (fun _ _ => id)).then u4 (fun _ _ => id)).then u5 (fun _ _ => id)).then u6 (fun _ _ => id)).then u7 (fun _ _ => id)⟩

set_option maxHeartbeats 1600000 in
theorem RefParse_plain_end_whole (w : World) (s t : ByteArray) (W : List UInt8) (stop : Nat) (hts : t.size ≤ 1000) (hs0 : 0 < s.size) (z0 : Nat) (hz0 : s[0].toNat = z0) (hn45 : z0 ≠ 45) (ht : s = t)
    (hno : ∀ k : Nat, k < stop → t.data.toList[k]? ≠ some 46) (hWt : t.data.toList = W) (hst : stop = t.size) (hW : isD W = false) : Calls Tryz.prog 94 #[.string s] w fun e w' => e = .returned (.tuple #[.int .i64 0, .int .i64 4]) ∧ Upd w w' (fun _ => False) := by
  subst ht
  have c45 : ((z0 : Int) == 45) = false := by simp; omega
  have c45' : (z0 == 45) = false := by simp; omega
  have d0 : decide (0 < s.size) = true := by simpa using hs0
  clear hn45
  have HNO := hide hno
  clear hno
  have AW := fun w => all_any w s (by omega)
  rw [hWt, hW] at AW
  go_enter Tryz.func94, Tryz.ntmps94
  go_wp2_with fail
  go_loopg [5] stop (fun q v wr => wr = w ∧ ∃ m : Nat, m + q = stop ∧ v = .int .i64 m)
  case atStart => exact ⟨rfl, 0, by omega, rfl⟩
  case round =>
    obtain ⟨hwr, m, hm, rfl⟩ := hrel
    replace hwr := hwr.symm
    subst hwr
    by_cases hms : m < stop
    · have hmt : m < s.size := by omega
      obtain ⟨z, hz⟩ : ∃ z, s[m].toNat = z := ⟨_, rfl⟩
      have hz46 : z ≠ 46 := by
        intro e
        refine HNO.out m hms ?_
        rw [byte_list s m hmt]
        congr 1
        refine UInt8.toNat_inj.1 ?_
        rw [hz, e]
        rfl
      have c1 : decide (m < s.size) = true := by simpa using hmt
      have c2 : ((z : Int) != 46) = true := by simp; omega
      have c2' : (z != 46) = true := by simp; omega
      clear hz46
      go_wp2_with fail
      go_roundg (gk - 1)
      case measure => omega
      case rel => exact ⟨rfl, m + 1, by omega, by go_num⟩
    · obtain rfl : m = stop := by omega
      clear hms hm
      have c1 : decide (m < s.size) = false := by simp; omega
      go_wp2_with fail
      refine Calls.mono (AW _) ?_
      rintro e w2 ⟨rfl, hw⟩
      replace hw := hw.symm
      subst hw
      go_wp2_with fail
      go_ret2
      exact ⟨rfl, Upd.refl _ _⟩
end Go.Proofs.YtmfngdjhkpddoaaGreatDoor
/- What fixed's Text writes, fixed's Parse reads. -/
set_option maxRecDepth 100000
namespace Go.Proofs.YtmfngdjhkpddoaaGreatDoor
open Go.RowKit Go.Lat Go.Shelf Go.Sort Go.Lib

theorem dec_len : ∀ (k u : Nat), u < 10 ^ (k + 1) → 1 ≤ (decDigits u).length ∧ (decDigits u).length ≤ k + 1
  | 0, u, h => by
    unfold decDigits
    rw [dif_pos (by simpa using h)]
    simp
  | k + 1, u, h => by
    unfold decDigits
    by_cases hu : u < 10
    · rw [dif_pos hu]
      simp
    · rw [dif_neg hu]
      have h2 : u / 10 < 10 ^ (k + 1) := by
        rw [Nat.pow_succ] at h
        rw [Nat.div_lt_iff_lt_mul (by omega)]
        exact h
      obtain ⟨a, b⟩ := dec_len k (u / 10) h2
      rw [List.length_append]
      simp
      omega

/-- The sign ahead. -/
theorem CutPrefix_sign (s : Bool) (body : List UInt8) (t : ByteArray) (ht : t.data.toList = (if s then [45] else []) ++ body) (hb : body.head? ≠ some 45) :
    ∀ w, Calls Tryz.prog 147 #[.string t, .string ⟨#[45]⟩] w fun e w' => e = .returned (.tuple #[.string ⟨body.toArray⟩, .bool s]) ∧ w' = w := by
  intro w
  have h := Tryz.strings_CutPrefix t ⟨#[45]⟩ w
  have e0 : (⟨#[45]⟩ : ByteArray).data.toList = [45] := rfl
  rw [e0, ht] at h
  have e1 : Lib.hasPrefix ((if s then [45] else []) ++ body) [45] = s := by
    cases s with
    | true => simp [Lib.hasPrefix]
    | false =>
      cases body with
      | nil => rfl
      | cons b l =>
        simp only [List.head?_cons, ne_eq, Option.some.injEq] at hb
        have : ((45 : UInt8) == b) = false := by simpa using fun e => hb (Eq.symm e)
        show ((45 : UInt8) == b && [].isPrefixOf l) = false
        rw [this]
        rfl
  have e2 : Lib.trimPrefix ((if s then [45] else []) ++ body) [45] = body := by
    unfold Lib.trimPrefix
    rw [e1]
    cases s <;> rfl
  rw [e1, e2] at h
  exact h

end Go.Proofs.YtmfngdjhkpddoaaGreatDoor
/- The program's and the reference's Parse are alike at every text of at most 1000 bytes. -/
set_option maxRecDepth 100000
namespace Go.Proofs.YtmfngdjhkpddoaaGreatDoor
open Go.RowKit Go.Lat

/-- How a text begins. -/
theorem prefix_forms (s : ByteArray) : ∃ (t : ByteArray) (neg : Bool), t.size ≤ s.size ∧ (∀ w, Calls Tryz.prog 147 #[.string s, .string ⟨#[45]⟩] w fun e w' => e = .returned (.tuple #[.string t, .bool neg]) ∧ w' = w) ∧
    ((neg = true ∧ ∃ h : 0 < s.size, s[0].toNat = 45 ∧ s.extract 1 s.size = t) ∨ (neg = false ∧ s = t ∧ s.size = 0) ∨ (neg = false ∧ s = t ∧ ∃ h : 0 < s.size, s[0].toNat ≠ 45)) := by
  by_cases h0 : s.size = 0
  · have hl : s.data.toList = [] := List.eq_nil_of_length_eq_zero h0
    refine ⟨s, false, Nat.le_refl _, ?_, .inr (.inl ⟨rfl, rfl, h0⟩)⟩
    have := CutPrefix_sign false [] s (by rw [hl]; rfl) (by simp)
    rw [show (⟨([] : List UInt8).toArray⟩ : ByteArray) = s from Go.WideShapes.bytes_inj (by rw [hl])] at this
    exact this
  · have hp : 0 < s.size := by omega
    have hb := byte_list s 0 hp
    obtain ⟨l, hl⟩ : ∃ l, s.data.toList = s[0] :: l := by
      cases h : s.data.toList with
      | nil => rw [h] at hb; simp at hb
      | cons b l =>
        rw [h] at hb
        simp at hb
        exact ⟨l, by rw [hb]⟩
    by_cases h45 : s[0].toNat = 45
    · have eb : s[0] = 45 := UInt8.toNat_inj.1 h45
      rw [eb] at hl
      have he : (s.extract 1 s.size).data.toList = l := by
        rw [ByteArray.data_extract]
        have hsz : s.size = l.length + 1 := by
          have : s.data.toList.length = s.size := rfl
          rw [← this, hl]
          rfl
        simp [hl, hsz]
      refine ⟨s.extract 1 s.size, true, ?_, ?_, .inl ⟨rfl, hp, h45, rfl⟩⟩
      · simp
      · have hsz2 : s.data.toList = [45] ++ (45 :: l).drop 1 := by rw [hl]; rfl
        by_cases hh : l.head? = some 45
        · intro w
          have h := Tryz.strings_CutPrefix s ⟨#[45]⟩ w
          rw [show (⟨#[45]⟩ : ByteArray).data.toList = [45] from rfl, hl] at h
          have e1 : Lib.hasPrefix (45 :: l) [45] = true := by simp [Lib.hasPrefix]
          have e2 : Lib.trimPrefix (45 :: l) [45] = l := by unfold Lib.trimPrefix; rw [e1]; rfl
          rw [e1, e2, show (⟨l.toArray⟩ : ByteArray) = s.extract 1 s.size from Go.WideShapes.bytes_inj (by rw [he])] at h
          exact h
        · have := CutPrefix_sign true l s (by rw [hl]; rfl) hh
          rw [show (⟨l.toArray⟩ : ByteArray) = s.extract 1 s.size from Go.WideShapes.bytes_inj (by rw [he])] at this
          exact this
    · refine ⟨s, false, Nat.le_refl _, ?_, .inr (.inr ⟨rfl, rfl, hp, h45⟩)⟩
      have := CutPrefix_sign false s.data.toList s (by simp) (by
        rw [hl]
        simp only [List.head?_cons, ne_eq, Option.some.injEq]
        intro e
        exact h45 (by rw [e]; rfl))
      exact this

theorem numV_ok (neg : Bool) (X : Nat) : okNum (numV neg X) = true := by
  unfold numV
  split
  · decide
  · cases neg <;> simp [okNum] <;> omega
/-- The program and the reference read alike; a number that may be. -/
theorem Parse_bothN (s : ByteArray) (hs : s.size ≤ 1000) : ∃ V E : Int, okNum V = true ∧
    (∀ w, Calls Tryz.prog 109 #[.string s] w fun e w' => e = .returned (.tuple #[.int .i64 V, .int .i64 E]) ∧ Upd w w' (fun _ => False)) ∧
    (∀ w, Calls Tryz.prog 94 #[.string s] w fun e w' => e = .returned (.tuple #[.int .i64 V, .int .i64 E]) ∧ Upd w w' (fun _ => False)) := by
  obtain ⟨t, neg, hts, CP, hform⟩ := prefix_forms s
  have hts2 : t.size ≤ 1000 := by omega
  rcases Cut_forms t hts2 with ⟨hno, hC⟩ | ⟨i, hi, hat, hno, hC⟩
  · have hnoS : ∀ k : Nat, k < t.size → t.data.toList[k]? ≠ some 46 := fun k _ => hno k
    cases hW : isD t.data.toList with
    | false =>
      refine ⟨0, 4, by decide, fun w => Parse_bad w s t t ⟨#[]⟩ neg false CP hC hts2 (by decide) (.inl hW), fun w => ?_⟩
      rcases hform with ⟨rfl, h, hz, ht⟩ | ⟨rfl, ht, h⟩ | ⟨rfl, ht, h, hz⟩
      · exact RefParse_minus_end_whole w s t _ t.size hts2 h hz ht hnoS rfl rfl hW
      · have e : s = ⟨#[]⟩ := Go.WideShapes.bytes_inj (List.eq_nil_of_length_eq_zero h)
        rw [e]
        exact RefParse_empty w
      · exact RefParse_plain_end_whole w s t _ t.size hts2 h _ rfl hz ht hnoS rfl rfl hW
    | true =>
      have k := fun w => Parse_ok w s t t ⟨#[]⟩ neg false CP hC hts2 (by decide) hW rfl (fun h => Bool.noConfusion h)
      have key := two_ways (dval t.data.toList) (dval []) (10 ^ ([] : List UInt8).length) (Nat.pow_pos (by omega))
      have e0 : (⟨#[]⟩ : ByteArray).data.toList = [] := rfl
      rw [e0] at k
      unfold parseX at k
      rw [← key] at k
      refine ⟨_, _, numV_ok _ _, k, fun w => ?_⟩
      rcases hform with ⟨rfl, h, hz, ht⟩ | ⟨rfl, ht, h⟩ | ⟨rfl, ht, h, hz⟩
      · exact RefParse_minus_end_ok w s t ⟨#[]⟩ _ [] t.size hts2 h hz ht hnoS rfl rfl e0 rfl hW
      · exfalso
        subst ht
        have hl : s.data.toList = [] := List.eq_nil_of_length_eq_zero h
        rw [hl] at hW
        cases hW
      · exact RefParse_plain_end_ok w s t ⟨#[]⟩ _ [] t.size hts2 h _ rfl hz ht hnoS rfl rfl e0 rfl hW
  · have hat2 : t[i].toNat = 46 := by
      rw [byte_list t i hi] at hat
      have := Option.some.inj hat
      rw [this]
      rfl
    have hb1 : (t.extract 0 i).size ≤ 1000 := by simp; omega
    have hb2 : (t.extract (i + 1) t.size).size ≤ 1000 := by simp; omega
    obtain ⟨whole, hwe⟩ : ∃ whole, t.extract 0 i = whole := ⟨_, rfl⟩
    obtain ⟨part, hpe⟩ : ∃ part, t.extract (i + 1) t.size = part := ⟨_, rfl⟩
    rw [hwe] at hb1 hC
    rw [hpe] at hb2 hC
    have noEmpty : ¬ (s = t ∧ s.size = 0) := by
      rintro ⟨rfl, h⟩
      omega
    cases hW : isD whole.data.toList with
    | false =>
      refine ⟨0, 4, by decide, fun w => Parse_bad w s t whole part neg true CP hC hb1 hb2 (.inl hW), fun w => ?_⟩
      rcases hform with ⟨rfl, h, hz, ht⟩ | ⟨rfl, ht, h⟩ | ⟨rfl, ht, h, hz⟩
      · exact RefParse_minus_dot_whole w s t whole _ i hts2 h hz ht hno rfl hi hat2 hwe hW
      · exact absurd ⟨ht, h⟩ noEmpty
      · exact RefParse_plain_dot_whole w s t whole _ i hts2 h _ rfl hz ht hno rfl hi hat2 hwe hW
    | true =>
      cases hP : isD part.data.toList with
      | false =>
        refine ⟨0, 4, by decide, fun w => Parse_bad w s t whole part neg true CP hC hb1 hb2 (.inr ⟨hW, rfl, hP⟩), fun w => ?_⟩
        rcases hform with ⟨rfl, h, hz, ht⟩ | ⟨rfl, ht, h⟩ | ⟨rfl, ht, h, hz⟩
        · exact RefParse_minus_dot_part w s t whole part _ _ i hts2 h hz ht hno rfl hi hat2 hwe rfl hpe hW hP
        · exact absurd ⟨ht, h⟩ noEmpty
        · exact RefParse_plain_dot_part w s t whole part _ _ i hts2 h _ rfl hz ht hno rfl hi hat2 hwe rfl hpe hW hP
      | true =>
        have hPall : part.data.toList.all dgB = true := by
          have := hP
          simp only [isD, Bool.and_eq_true] at this
          exact this.2
        have k := fun w => Parse_ok w s t whole part neg true CP hC hb1 hb2 hW hPall (fun _ => hP)
        have key := two_ways (dval whole.data.toList) (dval part.data.toList) (10 ^ part.data.toList.length) (Nat.pow_pos (by omega))
        unfold parseX at k
        rw [← key] at k
        refine ⟨_, _, numV_ok _ _, k, fun w => ?_⟩
        rcases hform with ⟨rfl, h, hz, ht⟩ | ⟨rfl, ht, h⟩ | ⟨rfl, ht, h, hz⟩
        · exact RefParse_minus_dot_ok w s t whole part _ _ i hts2 h hz ht hno rfl hi hat2 hwe rfl hpe hW hP
        · exact absurd ⟨ht, h⟩ noEmpty
        · exact RefParse_plain_dot_ok w s t whole part _ _ i hts2 h _ rfl hz ht hno rfl hi hat2 hwe rfl hpe hW hP
end Go.Proofs.YtmfngdjhkpddoaaGreatDoor
/- The parts of the law's wakes. -/
set_option maxRecDepth 100000
namespace Go.Proofs.YtmfngdjhkpddoaaGreatDoor
open Go.RowKit Go.Lat Go.Lib

def b150 : List UInt8 := [49, 46, 53, 48]
def bTrue : List UInt8 := [116, 114, 117, 101]
end Go.Proofs.YtmfngdjhkpddoaaGreatDoor
/- Plain laws: the digits of a number's text. -/
set_option maxRecDepth 100000
namespace Go.Proofs.YtmfngdjhkpddoaaGreatDoor
open Go.RowKit Go.Lat Go.Shelf Go.Sort
open Go.Lib (decDigits trimRightB)

/-- A digit's byte. -/
def ch (d : Nat) : UInt8 := UInt8.ofNat (48 + d)

theorem dec_dg : ∀ u, 0 < u → decDigits u = (Lat.dg u).reverse.map ch := by
  intro u
  induction u using Nat.strongRecOn with
  | ind u ih =>
    intro hu
    rw [dg_pos (by omega), List.reverse_cons, List.map_append]
    unfold decDigits
    by_cases h : u < 10
    · rw [dif_pos h, show u / 10 = 0 from by omega, dg_zero, show u % 10 = u from by omega]
      rfl
    · rw [dif_neg h, ih (u / 10) (by omega) (by omega)]
      rfl

theorem val_zeros (z : Nat) : val (List.replicate z 0) = 0 := val_zero _ (fun _ hd => List.eq_of_mem_replicate hd)

/-- The whole part, from above. -/
theorem text_whole (x z : Nat) (dl : List Nat) (h : dl = Lat.dg x ++ List.replicate z 0) (h5 : 5 ≤ dl.length) (hz : dl.length ≤ 5 ∨ z = 0) : (dl.drop 4).reverse.map ch = decDigits (x / 10000) := by
  by_cases hz0 : z = 0
  · subst hz0
    rw [List.replicate_zero, List.append_nil] at h
    have hd := dg_drop 4 x
    rw [show (10 : Nat) ^ 4 = 10000 from by decide, ← h] at hd
    have hu : 0 < x / 10000 := by
      rcases Nat.eq_zero_or_pos (x / 10000) with e | e
      · rw [e, dg_zero] at hd
        have := congrArg List.length hd
        rw [List.length_drop] at this
        simp at this
        omega
      · exact e
    rw [hd, dec_dg _ hu]
  · have h5' : dl.length = 5 := by omega
    have hl : (Lat.dg x).length + z = 5 := by
      rw [h, List.length_append, List.length_replicate] at h5'
      exact h5'
    have hx := val_lt (Lat.dg x) (dg_norm x).1
    rw [val_dg] at hx
    have hp : 10 ^ (Lat.dg x).length ≤ 10 ^ 4 := Nat.pow_le_pow_right (by omega) (by omega)
    have e4 : (10 : Nat) ^ 4 = 10000 := by decide
    have hu : x / 10000 = 0 := Nat.div_eq_of_lt (by omega)
    have hd : dl.drop 4 = [0] := by
      rw [h, List.drop_append, List.drop_eq_nil_of_le (by omega), List.drop_replicate, show z - (4 - (Lat.dg x).length) = 1 from by omega]
      rfl
    rw [hd, hu]
    unfold decDigits
    rw [dif_pos (by omega)]
    rfl

/-- The four places behind the point. -/
theorem text_four (x z : Nat) (dl : List Nat) (h : dl = Lat.dg x ++ List.replicate z 0) (h5 : 5 ≤ dl.length) :
    (dl.take 4).length = 4 ∧ (∀ d ∈ dl, d < 10) ∧ val (dl.take 4) = x % 10000 ∧ (decDigits (10000 + x % 10000)).drop 1 = (dl.take 4).reverse.map ch := by
  have h10 : ∀ d ∈ dl, d < 10 := by
    intro d hd
    rw [h] at hd
    rcases List.mem_append.1 hd with k | k
    · exact (dg_norm x).1 d k
    · rw [List.eq_of_mem_replicate k]
      omega
  have hv : val dl = x := by rw [h, val_append, val_dg, val_zeros, Nat.mul_zero, Nat.add_zero]
  have hl : (dl.take 4).length = 4 := by rw [List.length_take]; omega
  have h10' : ∀ d ∈ dl.take 4, d < 10 := fun d hd => h10 d (List.mem_of_mem_take hd)
  have hlt := val_lt (dl.take 4) h10'
  rw [hl, show (10 : Nat) ^ 4 = 10000 from by decide] at hlt
  have hs := val_append (dl.take 4) (dl.drop 4)
  rw [List.take_append_drop, hv, hl, show (10 : Nat) ^ 4 = 10000 from by decide] at hs
  have hm : val (dl.take 4) = x % 10000 := by omega
  refine ⟨hl, h10, hm, ?_⟩
  have hn : dl.take 4 ++ [1] = Lat.dg (10000 + x % 10000) := by
    have e : val (dl.take 4 ++ [1]) = 10000 + x % 10000 := by
      rw [val_append, hl, show (10 : Nat) ^ 4 = 10000 from by decide, hm]
      simp [val]
      omega
    rw [← e]
    refine norm_dg _ ⟨?_, ?_⟩
    · intro d hd
      rcases List.mem_append.1 hd with k | k
      · exact h10' d k
      · simp at k; omega
    · intro hne
      simp
  rw [dec_dg _ (by omega), ← hn]
  simp

/-- What is struck behind the part. -/
theorem text_part (f : List Nat) (n : Nat) (h10 : ∀ d ∈ f, d < 10) (hz : ∀ k, k < n → f.getD k 0 = 0) (hn : n < f.length) (h : f.getD n 0 ≠ 0) : trimRightB (f.reverse.map ch) 48 = (f.drop n).reverse.map ch := by
  have key : ∀ (n : Nat) (f : List Nat), (∀ d ∈ f, d < 10) → (∀ k, k < n → f.getD k 0 = 0) → n < f.length → f.getD n 0 ≠ 0 → (f.map ch).dropWhile (· == 48) = (f.drop n).map ch := by
    intro n
    induction n with
    | zero =>
      intro f h10 _ hl h
      cases f with
      | nil => simp at hl
      | cons d l =>
        have hd := h10 d (by simp)
        have hd0 : d ≠ 0 := by simpa using h
        have e : (ch d == 48) = false := by
          have : ch d ≠ 48 := by
            intro e
            have := congrArg UInt8.toNat e
            simp [ch] at this
            omega
          simpa using this
        simp [e]
    | succ n ih =>
      intro f h10 hz hl h
      cases f with
      | nil => simp at hl
      | cons d l =>
        have h0 := hz 0 (by omega)
        simp at h0
        subst h0
        have e : (ch 0 == 48) = true := by decide
        simp only [List.map_cons, List.dropWhile, e, List.drop_succ_cons]
        refine ih l (fun d hd => h10 d (by simp [hd])) (fun k hk => ?_) (by simpa using hl) (by simpa using h)
        have := hz (k + 1) (by omega)
        simpa using this
  unfold trimRightB
  rw [← List.map_reverse, List.reverse_reverse, key n f h10 hz hn h, List.map_reverse]

/-- A number's text. -/
def txt (s : Bool) (x : Nat) : List UInt8 := (if s then [45] else []) ++ (decDigits (x / 10000) ++ if x % 10000 = 0 then [] else 46 :: trimRightB ((decDigits (10000 + x % 10000)).drop 1) 48)

theorem Text_any (s : Bool) (x : Nat) (hx : x ≤ 9000000000000000000) (h0 : s = true → 0 < x) (w : World) (ht : Pow w) :
    Calls Tryz.prog 168 #[.int .i64 (if s then -(x : Int) else x)] w fun e w' => e = .returned (.string ⟨(txt s x).toArray⟩) ∧ Upd w w' (fun _ => False) := by
  unfold txt
  by_cases hr : x % 10000 = 0
  · rw [if_pos hr, List.append_nil]
    refine Calls.mono (Text_whole w s x hx h0 hr ht) ?_
    rintro e w' ⟨⟨t, rfl, et⟩, u⟩
    exact ⟨by rw [Go.WideShapes.bytes_inj (show t.data.toList = (⟨((if s then [45] else []) ++ decDigits (x / 10000)).toArray⟩ : ByteArray).data.toList from et)], u⟩
  · rw [if_neg hr]
    refine Calls.mono (Text_part w s x hx h0 hr ht) ?_
    rintro e w' ⟨⟨t, rfl, et⟩, u⟩
    exact ⟨by rw [Go.WideShapes.bytes_inj (show t.data.toList = (⟨((if s then [45] else []) ++ (decDigits (x / 10000) ++ 46 :: trimRightB ((decDigits (10000 + x % 10000)).drop 1) 48)).toArray⟩ : ByteArray).data.toList from et)], u⟩

theorem Text_bad (w : World) (a : Int) (h : okNum a = false) : Calls Tryz.prog 168 #[.int .i64 a] w fun e w' => e = .returned (.string ⟨#[]⟩) ∧ Upd w w' (fun _ => False) := by
  have G := fun w B k => fixgood_any w B a k
  rw [h] at G
  clear h
  go_enter Tryz.func168, Tryz.ntmps168
  go_wp2_with fail
  refine Calls.mono (G _ _ (cells1 (heap_alloc_new w _))) ?_
  rintro e' w1 ⟨rfl, rfl⟩
  go_wp2_with fail
  go_ret
  exact ⟨rfl, (Upd.refl w _).alloc _⟩

theorem RefText_bad (w : World) (a : Int) (h : okNum a = false) : Calls Tryz.prog 133 #[.int .i64 a] w fun e w' => e = .returned (.string ⟨#[]⟩) ∧ Upd w w' (fun _ => False) := by
  have G := fun w => RefGood_any w a
  rw [h] at G
  clear h
  go_enter Tryz.func133, Tryz.ntmps133
  go_wp2_with fail
  refine Calls.mono (G _) ?_
  rintro e' w1 ⟨rfl, hw⟩
  replace hw := hw.symm
  subst hw
  go_wp2_with fail
  go_ret
  exact ⟨rfl, Upd.refl _ _⟩
end Go.Proofs.YtmfngdjhkpddoaaGreatDoor
