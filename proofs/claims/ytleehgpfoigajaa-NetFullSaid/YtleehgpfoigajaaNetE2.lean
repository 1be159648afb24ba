/- The walk of NetFull: case 2 of four. -/
import Derived.Test.YtleehgpfoigajaaNetF
set_option maxRecDepth 100000
namespace Go.Proofs.Ytleehgpfoigajaa
open Go.RowKit Go.Lat

set_option maxHeartbeats 16000000 in
theorem NetFull_c2 (w : World) (f t F T : ByteArray) (z : Int) (hz1 : -9223372036854775808 ≤ z) (hz2 : z ≤ 9223372036854775807) (h1 : f.size ≤ 10) (e1 : f = F) (h2 : 10 < t.size) (e2 : t.extract 0 10 = T) (hF10 : F.size ≤ 10) (hT10 : T.size ≤ 10) :
    Calls Try.prog 3 #[.string f, .string t, .int .i64 z] w fun e w' => e = .returned (.bool true) ∧ Upd w w' (fun _ => False) := by
  have hF : F.size ≤ maxLen := by unfold maxLen; omega
  have hT : T.size ≤ maxLen := by unfold maxLen; omega
  have hTz : (T ++ ⟨#[122]⟩ : ByteArray).size ≤ maxLen := by
    rw [ByteArray.size_append]
    have h1 : (⟨#[122]⟩ : ByteArray).size = 1 := rfl
    unfold maxLen
    omega
  have q1 : ¬ 9223372036854775807 < T.size + 1 := by omega
  obtain ⟨U, hU⟩ : ∃ U, T ++ (⟨#[122]⟩ : ByteArray) = U := ⟨_, rfl⟩
  rw [hU] at hTz
  have HUs : Hid (U.size = T.size + 1) := hide (by rw [← hU, ByteArray.size_append]; rfl)
  obtain ⟨m, hm⟩ : ∃ m : Nat, max 0 z = (m : Int) := ⟨z.toNat, by omega⟩
  have hm2 : max z 0 = (m : Int) := by omega
  obtain ⟨A, hA⟩ : ∃ A, m % 256 = A := ⟨_, rfl⟩
  have a1 : (m : Int).tmod 256 = (A : Int) := by rw [← hA]; rfl
  have a2 : (m : Int) % 256 = (A : Int) := by omega
  have a3 : IntKind.i64.wrap (A : Int) = (A : Int) := IntWalk.i64_in _ (by omega)
  have HA : Hid (A < 256) := hide (by omega)
  obtain ⟨N, hN⟩ : ∃ N : Nat, N = 256 := ⟨_, rfl⟩
  have HNN := hide hN
  clear hA hN hz1 hz2
  go_enter Try.func3, Try.ntmps3
  go_wp2_with fail
  refine Calls.mono (New_any w) ?_
  rintro e w1 ⟨rfl, n1, u1⟩
  have HN1 : Hid (NetAt w1.drew (w.heap.size + 1) w.heap.size 0 (.map []) 0) := hide ⟨n1.c, n1.m⟩
  have HU1 : Hid (Upd w w1.drew (fun _ => False)) := hide u1.drew
  clear n1 u1
  go_wp2_with fail
  replace e1 := e1.symm
  subst e1
  have p1 : min (F.size : Int) 10 = (F.size : Int) := by omega
  have p2 : min (t.size : Int) 10 = 10 := by omega
  have c2 : (10 : Int) ≤ (t.size : Int) := by omega
  go_region
  go_wp2_with fail
  have n2 : Hid (pairLit F T ≠ pairLit F U) := hide (fun e => by
    have := congrArg ByteArray.size (pairLit_inj hF hT hF hTz e).2
    have hu := HUs.out
    omega)
  go_loopg [20] N (fun q iv wr => ∃ (i n : Nat) (D : DataW Value) (v : Value) (zs : List (List UInt8)), i + q = N ∧ n ≤ i ∧ zs.length = i ∧ (∀ k, k < i → zs[k]? = some [120]) ∧ iv = .int .i64 i ∧ NetAt wr (w.heap.size + 1) w.heap.size n D 0 ∧ LineV w.heap.size wr (w.heap.size + 1) w.heap.size D F T zs v ∧ (∀ kl, kl ≠ pairLit F T → D.atKey kl (.held noRow) = .held noRow) ∧ Upd w wr (fun _ => False))
  case atStart => exact ⟨0, 0, _, noRow, [], by omega, Nat.le_refl _, rfl, fun k hk => absurd hk (by omega), rfl, HN1.out, LineV.empty _ _ _ _ _ _ _ (atKey_none _ _), fun kl _ => atKey_none _ _, HU1.out⟩
  case round =>
    obtain ⟨i, n, D, v, zs, hi, hni, hzl, hzs, rfl, nn, ln, oth, hu⟩ := hrel
    have HZS := hide hzs
    clear hzs
    have hN := HNN.out
    have HO := hide oth
    clear oth
    by_cases hi256 : i < 256
    · have d1 : decide (i < 256) = true := by simpa using hi256
      have d2 : decide ((i : Int) < 256) = true := by simp; omega
      have hn1 : n < 1000000 := by omega
      have hz1 : zs.length < 256 := by omega
      have SD := Send_ln wr _ _ _ _ _ nn hn1 F T hF hT _ _ _ ln hu.size hz1 [120]
      have HZL := hide hzl
      clear hN hn1 hz1 hzl
      go_wp2_with fail
      refine Calls.mono SD ?_
      rintro e w2 ⟨rfl, v2, nn2, ln2, u2⟩
      go_wp2_with fail
      go_roundg (gk - 1)
      case measure => have := HNN.out; omega
      case rel =>
        refine ⟨i + 1, n + 1, _, v2, zs ++ [[120]], by have := HNN.out; omega, by omega, by rw [List.length_append, HZL.out]; rfl, fun k hk => ?_, by first | rfl | go_num, nn2, ln2, fun kl hkl => ?_, hu.then u2 (ln.new (Nat.le_refl _))⟩
        · by_cases hki : k < i
          · rw [List.getElem?_append_left (by rw [HZL.out]; exact hki)]
            exact HZS.out k hki
          · obtain rfl : k = i := by omega
            rw [List.getElem?_append_right (by rw [HZL.out]; exact Nat.le_refl _), HZL.out, Nat.sub_self]
            rfl
        · rw [Go.Maps.atKey_put_other hkl]
          exact HO.out kl hkl
    · obtain rfl : i = 256 := by omega
      have d2 : decide ((256 : Int) < 256) = false := by decide
      have HZL := hide hzl
      clear hi hN hzl
      have HNi := hide hni
      clear hni
      go_wp2_with fail
      refine Calls.mono (wakes_any wr) ?_
      rintro e w3 ⟨rfl, u3⟩
      have nn3 := nn.upd u3 id id
      have ln3 := ln.upd u3 (fun _ _ => id)
      have hu3 := hu.then u3 (fun _ _ => id)
      obtain ⟨sa, sc, hvv, -⟩ := Rw.form ln3.2.1
      have lv := ln3.1
      rw [hvv] at lv
      have hlen : zs.length = 256 := HZL.out
      rw [hlen] at lv
      go_wp2_with fail
      refine Calls.mono (Send_full w3 _ _ _ _ _ nn3 (by omega) F T ⟨#[121]⟩ hF hT sa 256 sc (by omega) lv) ?_
      rintro e w4 ⟨rfl, nn4, u4⟩
      have ln4 := ln3.upd u4 (fun k hk e => ln3.2.2.2.1 (by rw [hk, e]))
      have hu4 := hu3.then u4 (fun i hi e => by omega)
      clear lv hvv
      go_wp2_with fail
      refine Calls.mono (Lost_any w4 _ _ _ _ _ nn4) ?_
      rintro e w5 ⟨rfl, hw⟩
      replace hw := hw.symm
      subst hw
      have hx : zs[A]? = some [120] := HZS.out A HA.out
      have HLEN := hide hlen
      clear hlen
      go_wp2_with fail
      refine Calls.mono (Twice_full w4 _ _ _ _ _ nn4 F T hF hT _ _ _ ln4 (by rw [HLEN.out]; exact Nat.le_refl _) A [120] hx) ?_
      rintro e w5 ⟨rfl, hw⟩
      replace hw := hw.symm
      subst hw
      have lnz := line_z w.heap.size w4 (w.heap.size + 1) w.heap.size D F T U HO n2
      go_wp2_with fail
      refine Calls.mono (Send_ln w4 _ _ _ _ _ nn4 (by have := HNi.out; omega) F U hF hTz _ _ _ lnz hu4.size (by decide) [120]) ?_
      rintro e w5 ⟨rfl, vz, nn5, lnz5, u5⟩
      have ln5 := ln4.other (v' := vz) n2.out u5 (fun k hk e => by
        rcases e with e | e
        · exact ln4.2.2.2.2.1 (by rw [hk, e])
        · cases e)
      have hu5 := hu4.then u5 (lnz.new (Nat.le_refl _))
      go_wp2_with fail
      refine Calls.mono (Drop_ln w5 _ _ _ _ _ nn5 (by have := HNi.out; omega) F T hF hT _ _ _ ln5 (by rw [HLEN.out]; omega) (by rw [HLEN.out]; omega) A [120] hx) ?_
      rintro e w6 ⟨rfl, v6, ho6, nn6, ln6, u6⟩
      have hu6 := hu5.then u6 (ln5.new (Nat.le_refl _))
      have hlen6 : (zs.take A ++ zs.drop (A + 1)).length = 255 := by
        have := HA.out
        have := HLEN.out
        rw [List.length_append, List.length_take, List.length_drop]
        omega
      obtain ⟨x0, hx0⟩ : ∃ x0, (zs.take A ++ zs.drop (A + 1))[0]? = some x0 := ⟨_, List.getElem?_eq_getElem (by omega)⟩
      go_wp2_with fail
      refine Calls.mono (Twice_room w6 _ _ _ _ _ nn6 (by have := HNi.out; omega) F T hF hT _ _ _ ln6 hu6.size (by omega) 0 x0 hx0) ?_
      rintro e w7 ⟨rfl, v7, nn7, ln7, u7⟩
      have hu7 := hu6.then u7 (ln6.new (Nat.le_refl _))
      have LN := Len_ln w7 _ _ _ _ _ nn7 F T hF hT _ _ _ ln7
      rw [List.length_append, hlen6] at LN
      go_wp2_with fail
      refine Calls.mono LN ?_
      rintro e w8 ⟨rfl, hw⟩
      replace hw := hw.symm
      subst hw
      go_wp2_with fail
      go_ret
      exact ⟨rfl, hu7⟩
end Go.Proofs.Ytleehgpfoigajaa
