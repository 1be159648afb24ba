/- A number's text is read as the number; texts that are no number; a value's bytes, and what is shown, are read back (plain laws, and Parse). -/
import Derived.Test.YthahgablbdfodaaDoorJ10
import Derived.Test.YthahgablbdfodaaDoorJ09
import Derived.Test.YthahgablbdfodaaDoorJ07
/- A number's text is read as the number; texts that are no number; a value's bytes, and what is shown, are read back (plain laws, and Parse). -/
set_option maxRecDepth 100000
namespace Go.Proofs.YthahgablbdfodaaDoor
open Go.RowKit Go.Lat Go.Lib

theorem parse_txt (s : Bool) (x : Nat) (hx : x ≤ 9000000000000000000) :
    ∀ w, Calls Tryd.prog 26 #[enS (txt s x)] w fun e w' => e = .returned (.tuple #[.int .i64 (if s then -(x : Int) else x), .int .i64 0]) ∧ Upd w w' (fun _ => False) := by
  unfold txt
  by_cases hr : x % 10000 = 0
  · rw [if_pos hr, List.append_nil]
    refine parse_text s x hx (decDigits (x / 10000)) [] false _ (by simp) (dec_isD _ (by omega)) (fun h => Bool.noConfusion h) (fun _ => rfl) ?_
    unfold parseX
    rw [(dec_all _).2, dval_nil]
    simp
    omega
  · rw [if_neg hr]
    obtain ⟨p1, p2⟩ := part_text (x % 10000) (by omega) (by omega)
    refine parse_text s x hx (decDigits (x / 10000)) (trimRightB ((decDigits (10000 + x % 10000)).drop 1) 48) true _ (by simp) (dec_isD _ (by omega)) (fun _ => p1) (fun h => Bool.noConfusion h) ?_
    unfold parseX
    rw [(dec_all _).2, p2]
    omega
theorem isD_len {l : List UInt8} (h : isD l = true) : 0 < l.length ∧ l.length ≤ 18 := by
  simp only [isD, Bool.and_eq_true, decide_eq_true_eq] at h
  obtain ⟨⟨h1, h2⟩, h3⟩ := h
  omega
theorem txt_len (s : Bool) (x : Nat) (hx : x ≤ 9000000000000000000) : txt s x ≠ [] ∧ (txt s x).length ≤ 1000 := by
  have h1 := isD_len (dec_isD (x / 10000) (by omega))
  unfold txt
  have hs : (if s then ([45] : List UInt8) else []).length ≤ 1 := by cases s <;> decide
  constructor
  · intro e
    have := congrArg List.length e
    simp only [List.length_append, List.length_nil] at this
    omega
  · by_cases hr : x % 10000 = 0
    · rw [if_pos hr]
      simp only [List.length_append, List.length_nil]
      omega
    · rw [if_neg hr]
      have h2 := isD_len (part_text (x % 10000) (by omega) (by omega)).1
      simp only [List.length_append, List.length_cons]
      omega
/-- A text that is no number. -/
theorem parse_none (l : List UInt8) (h1 : l.head? ≠ some 45) (h2 : l.all (fun c => c != 46) = true) (h3 : isD l = false) (h4 : l.length ≤ 1000) : ∀ w, Calls Tryd.prog 26 #[enS l] w fun e w' => e = .returned (.tuple #[.int .i64 0, .int .i64 4]) ∧ Upd w w' (fun _ => False) := by
  intro w
  have CP := CutPrefix_sign false l ⟨l.toArray⟩ rfl h1
  rcases Cut_forms ⟨l.toArray⟩ h4 with ⟨hno, hC⟩ | ⟨i, hi, hat, hno, hC⟩
  · exact Parse_bad w ⟨l.toArray⟩ ⟨l.toArray⟩ ⟨l.toArray⟩ ⟨#[]⟩ false false CP hC h4 (by decide) (.inl h3)
  · exfalso
    have hm : (46 : UInt8) ∈ l := List.mem_of_getElem? hat
    have := List.all_eq_true.1 h2 46 hm
    exact absurd this (by decide)

theorem numBs_len (n : Int) : (numBs n 8).length = 8 := by simp [numBs]
theorem numOf_back {n : Int} (h : i64ok n) : numOf (numBs n 8) = n := by
  obtain ⟨h1, h2⟩ := h
  have e : natOf (numBs n 8) = (n % 18446744073709551616).toNat := by
    obtain ⟨N, hN⟩ : ∃ N : Nat, (n % 18446744073709551616).toNat = N := ⟨_, rfl⟩
    have hlt : N < 18446744073709551616 := by omega
    have r8 : List.range 8 = [0, 1, 2, 3, 4, 5, 6, 7] := by decide
    unfold numBs natOf numB
    rw [r8, hN]
    simp only [List.map_cons, List.map_nil, List.foldl_cons, List.foldl_nil, UInt8.toNat_ofNat']
    simp only [show (2 : Nat) ^ (8 * (7 - 0)) = 72057594037927936 by decide, show (2 : Nat) ^ (8 * (7 - 1)) = 281474976710656 by decide, show (2 : Nat) ^ (8 * (7 - 2)) = 1099511627776 by decide, show (2 : Nat) ^ (8 * (7 - 3)) = 4294967296 by decide, show (2 : Nat) ^ (8 * (7 - 4)) = 16777216 by decide, show (2 : Nat) ^ (8 * (7 - 5)) = 65536 by decide, show (2 : Nat) ^ (8 * (7 - 6)) = 256 by decide, show (2 : Nat) ^ (8 * (7 - 7)) = 1 by decide]
    omega
  unfold numOf
  rw [e, IntWalk.i64_left]
  unfold wrap64
  omega
/-- A good value's bytes, whatever stands behind them, tell the value. -/
theorem tell_put {x : Vl} (h : goodV x = true) (q : List UInt8) : tellV ((putV x).1 ++ q) = some (x, (putV x).1.length) := by
  rcases good_forms h with rfl | ⟨n, hn, rfl⟩ | ⟨t, ht, rfl⟩ | ⟨b, rfl⟩ | ⟨f, hf, rfl⟩
  · rfl
  · have e : putV ⟨1, n, [], false, 0⟩ = (1 :: numBs n 8, 0) := by
      unfold putV
      rw [if_pos h]
      simp only [show ¬ ((1 : Int) = 0) by decide, if_false, if_true]
    rw [e]
    have e2 : (numBs n 8 ++ q).take 8 = numBs n 8 := by
      rw [List.take_append_of_le_length (by rw [numBs_len]; exact Nat.le_refl _), List.take_of_length_le (by rw [numBs_len]; exact Nat.le_refl _)]
    show tellV (1 :: (numBs n 8 ++ q)) = _
    unfold tellV
    dsimp only
    rw [e2, numOf_back (okNum_i64 hn), if_neg (by decide), if_pos (by decide), if_pos ⟨by rw [List.length_append, numBs_len]; omega, hn⟩, List.length_cons, numBs_len]
  · have e : putV ⟨2, 0, t, false, 0⟩ = (2 :: UInt8.ofNat t.length :: t, 0) := by
      unfold putV
      rw [if_pos h]
      simp only [show ¬ ((2 : Int) = 0) by decide, show ¬ ((2 : Int) = 1) by decide, if_false, if_true]
    rw [e]
    have e3 : (UInt8.ofNat t.length).toNat = t.length := by rw [UInt8.toNat_ofNat']; omega
    show tellV (2 :: UInt8.ofNat t.length :: (t ++ q)) = _
    unfold tellV
    dsimp only
    rw [if_neg (by decide), if_neg (by decide), if_pos (by decide), e3, if_pos (by rw [List.length_append]; omega)]
    rw [List.take_append_of_le_length (Nat.le_refl _), List.take_length]
    simp only [List.length_cons]
    rw [Nat.add_comm 2]
  · cases b <;> rfl
  · have e : putV ⟨4, 0, [], false, f⟩ = ([4, UInt8.ofNat f.toNat], 0) := by
      unfold putV
      rw [if_pos h]
      simp only [show ¬ ((4 : Int) = 0) by decide, show ¬ ((4 : Int) = 1) by decide, show ¬ ((4 : Int) = 2) by decide, show ¬ ((4 : Int) = 3) by decide, if_false]
    have hfr : 0 < f ∧ f < 9 := by simpa [okFail] using hf
    have e3 : (((UInt8.ofNat f.toNat).toNat : Nat) : Int) = f := by rw [UInt8.toNat_ofNat']; omega
    rw [e]
    show tellV (4 :: UInt8.ofNat f.toNat :: q) = _
    unfold tellV
    dsimp only
    rw [if_neg (by decide), if_neg (by decide), if_neg (by decide), if_neg (by decide), if_pos (by decide), e3, if_pos hf]
    rfl
theorem get_put {x : Vl} (h : goodV x = true) (a q : List UInt8) : getV (a ++ ((putV x).1 ++ q)) (a.length : Int) = (x, (a.length : Int) + ((putV x).1.length : Int), 0) := by
  unfold getV
  rw [if_neg (by rw [List.length_append]; omega), Int.toNat_natCast, List.drop_left, tell_put h]
theorem putV_len (x : Vl) : (putV x).1.length ≤ 257 := by
  unfold putV
  split
  · rename_i h
    rcases good_forms h with rfl | ⟨n, hn, rfl⟩ | ⟨t, ht, rfl⟩ | ⟨b, rfl⟩ | ⟨f, hf, rfl⟩
    · simp
    · simp [numBs]
    · simp; omega
    · simp
    · simp
  · simp
theorem putV_good {x : Vl} (h : goodV x = true) : (putV x).2 = 0 := by
  unfold putV
  rw [if_pos h]
/-- What is shown of a good value that is no text is read back. -/
theorem read_back {x : Vl} (h : goodV x = true) (h2 : x.k ≠ 2) : ∃ (tx : List UInt8) (V E : Int),
    (∀ w, Pow w → Calls Tryd.prog 29 #[.int .i64 x.n] w fun e w' => e = .returned (enS tx) ∧ Upd w w' (fun _ => False)) ∧
    (showV x tx).length ≤ 1000 ∧
    (∀ w, Calls Tryd.prog 26 #[enS (showV x tx)] w fun e w' => e = .returned (.tuple #[.int .i64 V, .int .i64 E]) ∧ Upd w w' (fun _ => False)) ∧
    readV (showV x tx) V E = x := by
  have T0 : ∀ w, Pow w → Calls Tryd.prog 29 #[.int .i64 0] w fun e w' => e = .returned (enS (txt false 0)) ∧ Upd w w' (fun _ => False) := fun w hp => Text_any false 0 (by omega) (fun e => Bool.noConfusion e) w hp
  rcases good_forms h with rfl | ⟨n, hn, rfl⟩ | ⟨t, ht, rfl⟩ | ⟨b, rfl⟩ | ⟨f, hf, rfl⟩
  · exact ⟨txt false 0, 0, 4, T0, by decide, parse_none [] (by decide) (by decide) (by decide) (by decide), rfl⟩
  · have bn := okNum_true hn
    obtain ⟨s, x, ea, h0, hx⟩ : ∃ (s : Bool) (x : Nat), n = (if s then -(x : Int) else (x : Int)) ∧ (s = true → 0 < x) ∧ x ≤ 9000000000000000000 := by
      by_cases hneg : n < 0
      · exact ⟨true, n.natAbs, (by simp; omega), (fun _ => by omega), by omega⟩
      · exact ⟨false, n.natAbs, (by simp; omega), (fun h => Bool.noConfusion h), by omega⟩
    obtain ⟨l1, l2⟩ := txt_len s x hx
    refine ⟨txt s x, n, 0, fun w hp => ?_, l2, ?_, ?_⟩
    · rw [ea]
      exact Text_any s x hx h0 w hp
    · have := parse_txt s x hx
      rw [← ea] at this
      exact this
    · show readV (txt s x) n 0 = _
      unfold readV
      rw [if_neg l1, if_pos rfl]
      unfold mkN
      rw [if_pos hn]
  · exact absurd rfl h2
  · cases b
    · exact ⟨txt false 0, 0, 4, T0, by decide, parse_none [70, 65, 76, 83, 69] (by decide) (by decide) (by decide) (by decide), by rfl⟩
    · exact ⟨txt false 0, 0, 4, T0, by decide, parse_none [84, 82, 85, 69] (by decide) (by decide) (by decide) (by decide), by rfl⟩
  · have hfr : f = 1 ∨ f = 2 ∨ f = 3 ∨ f = 4 ∨ f = 5 ∨ f = 6 ∨ f = 7 ∨ f = 8 := by simp [okFail] at hf; omega
    rcases hfr with rfl | rfl | rfl | rfl | rfl | rfl | rfl | rfl
    · exact ⟨txt false 0, 0, 4, T0, by decide, parse_none [35, 68, 73, 86, 47, 48, 33] (by decide) (by decide) (by decide) (by decide), by rfl⟩
    · exact ⟨txt false 0, 0, 4, T0, by decide, parse_none [35, 78, 85, 77, 33] (by decide) (by decide) (by decide) (by decide), by rfl⟩
    · exact ⟨txt false 0, 0, 4, T0, by decide, parse_none [35, 86, 65, 76, 85, 69, 33] (by decide) (by decide) (by decide) (by decide), by rfl⟩
    · exact ⟨txt false 0, 0, 4, T0, by decide, parse_none [35, 82, 69, 70, 33] (by decide) (by decide) (by decide) (by decide), by rfl⟩
    · exact ⟨txt false 0, 0, 4, T0, by decide, parse_none [35, 78, 65, 77, 69, 63] (by decide) (by decide) (by decide) (by decide), by rfl⟩
    · exact ⟨txt false 0, 0, 4, T0, by decide, parse_none [35, 78, 47, 65] (by decide) (by decide) (by decide) (by decide), by rfl⟩
    · exact ⟨txt false 0, 0, 4, T0, by decide, parse_none [35, 67, 89, 67, 76, 69, 33] (by decide) (by decide) (by decide) (by decide), by rfl⟩
    · exact ⟨txt false 0, 0, 4, T0, by decide, parse_none [35, 76, 73, 78, 75, 33] (by decide) (by decide) (by decide) (by decide), by rfl⟩
end Go.Proofs.YthahgablbdfodaaDoor
/- The walk of ValueBack. -/
set_option maxRecDepth 100000
namespace Go.Proofs.YthahgablbdfodaaDoor
open Go.RowKit Go.Lat Go.Lib

set_option maxHeartbeats 6400000 in
theorem back_not (w : World) (hg : Sig w) (k0 n0 : Int) (t0 : List UInt8) (B0 : Bool) (e0 : Int) (hx : (Vl.mk k0 n0 t0 B0 e0).ok) (c0 : List UInt8) (hc0 : t0.take 300 = c0) (a b z1 z2 : ByteArray) (hz1 : a.extract 0 (min (a.size : Int) 50).toNat = z1) (hz2 : b.extract 0 (min (b.size : Int) 50).toNat = z2) (hgd : goodV (Vl.mk k0 n0 c0 B0 e0) = false) : Calls Tryd.prog 4 #[.agg #[.int .i64 k0, .int .i64 n0, enS t0, .bool B0, .int .i64 e0], .string a, .string b] w fun e w' => e = .returned (.bool true) ∧ Upd w w' (fun _ => False) := by
  have l0 : c0.length ≤ 300 := by rw [← hc0]; simp; omega
  have V0 := fun w => values_any w k0 n0 t0 c0 B0 e0 hc0
  have ok : (Vl.mk k0 n0 c0 B0 e0).ok := ⟨hx.k, hx.n, Nat.le_trans l0 (by decide), hx.f⟩
  have PA := fun w => Put_any w _ ok
  have m0 : 0 ≤ min (a.size : Int) 50 := by omega
  have m1 : min (a.size : Int) 50 ≤ (a.size : Int) := by omega
  have m2 : 0 ≤ min (b.size : Int) 50 := by omega
  have m3 : min (b.size : Int) 50 ≤ (b.size : Int) := by omega
  have GA := fun w => Good_any w _ ok
  rw [hgd] at GA
  rw [putV_bad hgd] at PA
  unfold Vl.val at GA PA
  simp only at GA PA
  have HG := hide hg
  have HZ1 := hide hz1
  have HZ2 := hide hz2
  clear l0 hc0 hx hg ok hgd
  go_enter Tryd.func4, Tryd.ntmps4
  go_wp2_with fail
  refine Calls.mono (V0 _) ?_
  rintro e w1 ⟨rfl, u1⟩
  have HU1 := hide (((Upd.refl w (fun _ => False)).alloc _).then u1 (fun _ _ => id))
  clear u1 V0
  go_wp2_with fail
  obtain ⟨W, hW⟩ : ∃ W, (w1.alloc (.cells #[.int .i64 k0, .int .i64 n0, .string ⟨c0.toArray⟩, .bool B0, .int .i64 e0] 28)).alloc (.cells #[.int .i64 k0, .int .i64 n0, .string ⟨c0.toArray⟩, .bool B0, .int .i64 e0] 29) = W := ⟨_, rfl⟩
  have HA : Hid (W.heap[w1.heap.size]? = some (.cells (Vl.mk k0 n0 c0 B0 e0).cs 28 (0, 0))) := hide (hW ▸ block_alloc (Vnew1 w1 _) _)
  have HUW : Hid (Upd w W (fun _ => False)) := hide (hW ▸ (HU1.out.alloc _).alloc _)
  rw [hW]
  clear hW HU1
  obtain ⟨a0, a1, a2, a3, a4⟩ := cells5 HA.out
  have al := lt_at HA.out
  go_region_held3 (fun _ => True) (exact True.intro) (fail)
  all_goals
    go_wp2_with fail
    refine Calls.mono (PA _) ?_
    rintro e w2 ⟨rfl, u2⟩
    have HA2 := hide (u2.get (show W.drew.heap[w1.heap.size]? = _ from HA.out) id)
    have HU2 := hide ((HUW.out.drew).then u2 (fun _ _ => id))
    clear u2 PA HA HUW a0 a1 a2 a3 a4 al
    obtain ⟨a0, a1, a2, a3, a4⟩ := cells5 HA2.out
    have al := lt_at HA2.out
    go_wp2_with fail
    refine Calls.mono (wakes_any _ (HG.out.upd HU2.out id)) ?_
    rintro e w3 ⟨rfl, u3⟩
    have HA3 := hide (u3.get HA2.out id)
    have HU3 := hide (HU2.out.then u3 (fun _ _ => id))
    clear u3 HA2 HU2 a0 a1 a2 a3 a4 al
    obtain ⟨a0, a1, a2, a3, a4⟩ := cells5 HA3.out
    have al := lt_at HA3.out
    go_wp2_with fail
    refine Calls.mono (wakes_any _ (HG.out.upd HU3.out id)) ?_
    rintro e w4 ⟨rfl, u4⟩
    have HA4 := hide (u4.get HA3.out id)
    have HU4 := hide (HU3.out.then u4 (fun _ _ => id))
    clear u4 HA3 HU3 a0 a1 a2 a3 a4 al
    obtain ⟨a0, a1, a2, a3, a4⟩ := cells5 HA4.out
    have al := lt_at HA4.out
    go_wp2_with fail
    refine Calls.mono (GA _) ?_
    rintro e w5 ⟨rfl, u5⟩
    have HU5 := hide (HU4.out.then u5 (fun _ _ => id))
    clear u5 GA HU4
    go_wp2_with fail
    go_ret
    exact ⟨rfl, HU5.out⟩
set_option maxHeartbeats 6400000 in
theorem back_text (w : World) (hg : Sig w) (n0 : Int) (t0 : List UInt8) (B0 : Bool) (e0 : Int) (hx : (Vl.mk 2 n0 t0 B0 e0).ok) (c0 : List UInt8) (hc0 : t0.take 300 = c0) (a b z1 z2 : ByteArray) (hz1 : a.extract 0 (min (a.size : Int) 50).toNat = z1) (hz2 : b.extract 0 (min (b.size : Int) 50).toNat = z2) (hgd : goodV (Vl.mk 2 n0 c0 B0 e0) = true) : Calls Tryd.prog 4 #[.agg #[.int .i64 2, .int .i64 n0, enS t0, .bool B0, .int .i64 e0], .string a, .string b] w fun e w' => e = .returned (.bool true) ∧ Upd w w' (fun _ => False) := by
  have l0 : c0.length ≤ 300 := by rw [← hc0]; simp; omega
  have V0 := fun w => values_any w 2 n0 t0 c0 B0 e0 hc0
  have ok : (Vl.mk 2 n0 c0 B0 e0).ok := ⟨hx.k, hx.n, Nat.le_trans l0 (by decide), hx.f⟩
  have PA := fun w => Put_any w _ ok
  have m0 : 0 ≤ min (a.size : Int) 50 := by omega
  have m1 : min (a.size : Int) 50 ≤ (a.size : Int) := by omega
  have m2 : 0 ≤ min (b.size : Int) 50 := by omega
  have m3 : min (b.size : Int) 50 ≤ (b.size : Int) := by omega
  have s1 : z1.size ≤ 50 := by rw [← hz1, ByteArray.size_extract]; omega
  have s2 : z2.size ≤ 50 := by rw [← hz2, ByteArray.size_extract]; omega
  have e2 := putV_good hgd
  have gp := get_put hgd z1.data.toList z2.data.toList
  have pl := putV_len (Vl.mk 2 n0 c0 B0 e0)
  obtain ⟨⟨p, pe⟩, hpv⟩ : ∃ p, putV (Vl.mk 2 n0 c0 B0 e0) = p := ⟨_, rfl⟩
  rw [hpv] at PA e2 gp pl
  simp only at e2 gp pl
  subst e2
  obtain ⟨u, hu⟩ : ∃ u, z1 ++ (⟨p.toArray⟩ : ByteArray) = u := ⟨_, rfl⟩
  have su : u.size = z1.size + p.length := by rw [← hu, ByteArray.size_append]; rfl
  obtain ⟨y, hy⟩ : ∃ y, u ++ z2 = y := ⟨_, rfl⟩
  have sy : y.size ≤ 1000 := by rw [← hy, ByteArray.size_append]; omega
  have ey : y.data.toList = z1.data.toList ++ (p ++ z2.data.toList) := by
    rw [← hy, ← hu]
    simp
  have GT := fun w => Get_any w y sy (z1.size : Int)
  rw [ey, show (z1.size : Int) = (z1.data.toList.length : Int) from rfl, gp] at GT
  simp only at GT
  rw [show (z1.data.toList.length : Int) = (z1.size : Int) from rfl] at GT
  have Q := eq_at (Vl.mk 2 n0 c0 B0 e0) (Vl.mk 2 n0 c0 B0 e0) ok ok (q := true) (eqV_iff.2 rfl)
  simp only at Q
  unfold GetPost Vl.val at GT
  unfold Vl.val at PA
  simp only at PA GT
  have k1 : ¬ 9223372036854775807 < z1.size + p.length := by omega
  have k2 : ¬ 9223372036854775807 < u.size + z2.size := by omega
  have hwl : IntKind.i64.wrap ((z1.size : Int) + (p.length : Int)) = (z1.size : Int) + (p.length : Int) := IntWalk.i64_in _ (by omega)
  have HG := hide hg
  have HZ1 := hide hz1
  have HZ2 := hide hz2
  clear l0 hc0 hx hg ok hgd gp hpv sy ey su s1 s2
  go_enter Tryd.func4, Tryd.ntmps4
  go_wp2_with fail
  refine Calls.mono (V0 _) ?_
  rintro e w1 ⟨rfl, u1⟩
  have HU1 := hide (((Upd.refl w (fun _ => False)).alloc _).then u1 (fun _ _ => id))
  clear u1 V0
  go_wp2_with fail
  obtain ⟨W, hW⟩ : ∃ W, (w1.alloc (.cells #[.int .i64 2, .int .i64 n0, .string ⟨c0.toArray⟩, .bool B0, .int .i64 e0] 28)).alloc (.cells #[.int .i64 2, .int .i64 n0, .string ⟨c0.toArray⟩, .bool B0, .int .i64 e0] 29) = W := ⟨_, rfl⟩
  have HA : Hid (W.heap[w1.heap.size]? = some (.cells (Vl.mk 2 n0 c0 B0 e0).cs 28 (0, 0))) := hide (hW ▸ block_alloc (Vnew1 w1 _) _)
  have HUW : Hid (Upd w W (fun _ => False)) := hide (hW ▸ (HU1.out.alloc _).alloc _)
  rw [hW]
  clear hW HU1
  obtain ⟨a0, a1, a2, a3, a4⟩ := cells5 HA.out
  have al := lt_at HA.out
  go_region_held3 (fun _ => True) (exact True.intro) (fail)
  all_goals
    go_wp2_with fail
    refine Calls.mono (PA _) ?_
    rintro e w2 ⟨rfl, u2⟩
    have HA2 := hide (u2.get (show W.drew.heap[w1.heap.size]? = _ from HA.out) id)
    have HU2 := hide ((HUW.out.drew).then u2 (fun _ _ => id))
    clear u2 PA HA HUW a0 a1 a2 a3 a4 al
    obtain ⟨a0, a1, a2, a3, a4⟩ := cells5 HA2.out
    have al := lt_at HA2.out
    go_wp2_with fail
    refine Calls.mono (wakes_any _ (HG.out.upd HU2.out id)) ?_
    rintro e w3 ⟨rfl, u3⟩
    have HA3 := hide (u3.get HA2.out id)
    have HU3 := hide (HU2.out.then u3 (fun _ _ => id))
    clear u3 HA2 HU2 a0 a1 a2 a3 a4 al
    obtain ⟨a0, a1, a2, a3, a4⟩ := cells5 HA3.out
    have al := lt_at HA3.out
    go_wp2_with fail
    refine Calls.mono (GT _) ?_
    rintro e w5 ⟨rfl, u5⟩
    have HA5 := hide (u5.get HA3.out id)
    have HU5 := hide (HU3.out.then u5 (fun _ _ => id))
    clear u5 GT HA3 HU3 a0 a1 a2 a3 a4 al
    go_wp2_with fail
    obtain ⟨WG, hWG⟩ : ∃ WG, w5.alloc (.cells #[.int .i64 2, .int .i64 n0, .string ⟨c0.toArray⟩, .bool B0, .int .i64 e0] 28) = WG := ⟨_, rfl⟩
    have hA6 : WG.heap[w1.heap.size]? = some (.cells (Vl.mk 2 n0 c0 B0 e0).cs 28 (0, 0)) := hWG ▸ block_alloc HA5.out _
    have hB6 : WG.heap[w5.heap.size]? = some (.cells (Vl.mk 2 n0 c0 B0 e0).cs 28 (0, 0)) := hWG ▸ Vnew1 w5 _
    have HU6 : Hid (Upd w WG (fun _ => False)) := hide (hWG ▸ HU5.out.alloc _)
    rw [hWG]
    clear hWG HU5 HA5
    obtain ⟨G2, hG2⟩ : ∃ G2, w5.heap.size = G2 := ⟨_, rfl⟩
    rw [hG2] at hB6 ⊢
    clear hG2
    obtain ⟨a0, a1, a2, a3, a4⟩ := cells5 hA6
    obtain ⟨d0, d1, d2, d3, d4⟩ := cells5 hB6
    have al := lt_at hA6
    have bl := lt_at hB6
    clear hA6 hB6
    go_quiet (fail)
    all_goals go_wp2_with fail
    all_goals go_ret
    all_goals exact ⟨rfl, HU6.out.drewN _⟩
set_option maxHeartbeats 6400000 in
theorem back_other (w : World) (hg : Sig w) (hpw : Pow w) (k0 n0 : Int) (t0 : List UInt8) (B0 : Bool) (e0 : Int) (hx : (Vl.mk k0 n0 t0 B0 e0).ok) (c0 : List UInt8) (hc0 : t0.take 300 = c0) (a b z1 z2 : ByteArray) (hz1 : a.extract 0 (min (a.size : Int) 50).toNat = z1) (hz2 : b.extract 0 (min (b.size : Int) 50).toNat = z2) (hgd : goodV (Vl.mk k0 n0 c0 B0 e0) = true) (hk : k0 ≠ 2) : Calls Tryd.prog 4 #[.agg #[.int .i64 k0, .int .i64 n0, enS t0, .bool B0, .int .i64 e0], .string a, .string b] w fun e w' => e = .returned (.bool true) ∧ Upd w w' (fun _ => False) := by
  have l0 : c0.length ≤ 300 := by rw [← hc0]; simp; omega
  have V0 := fun w => values_any w k0 n0 t0 c0 B0 e0 hc0
  have ok : (Vl.mk k0 n0 c0 B0 e0).ok := ⟨hx.k, hx.n, Nat.le_trans l0 (by decide), hx.f⟩
  have PA := fun w => Put_any w _ ok
  have m0 : 0 ≤ min (a.size : Int) 50 := by omega
  have m1 : min (a.size : Int) 50 ≤ (a.size : Int) := by omega
  have m2 : 0 ≤ min (b.size : Int) 50 := by omega
  have m3 : min (b.size : Int) 50 ≤ (b.size : Int) := by omega
  have s1 : z1.size ≤ 50 := by rw [← hz1, ByteArray.size_extract]; omega
  have s2 : z2.size ≤ 50 := by rw [← hz2, ByteArray.size_extract]; omega
  have e2 := putV_good hgd
  have gp := get_put hgd z1.data.toList z2.data.toList
  have pl := putV_len (Vl.mk k0 n0 c0 B0 e0)
  obtain ⟨⟨p, pe⟩, hpv⟩ : ∃ p, putV (Vl.mk k0 n0 c0 B0 e0) = p := ⟨_, rfl⟩
  rw [hpv] at PA e2 gp pl
  simp only at e2 gp pl
  subst e2
  obtain ⟨u, hu⟩ : ∃ u, z1 ++ (⟨p.toArray⟩ : ByteArray) = u := ⟨_, rfl⟩
  have su : u.size = z1.size + p.length := by rw [← hu, ByteArray.size_append]; rfl
  obtain ⟨y, hy⟩ : ∃ y, u ++ z2 = y := ⟨_, rfl⟩
  have sy : y.size ≤ 1000 := by rw [← hy, ByteArray.size_append]; omega
  have ey : y.data.toList = z1.data.toList ++ (p ++ z2.data.toList) := by
    rw [← hy, ← hu]
    simp
  have GT := fun w => Get_any w y sy (z1.size : Int)
  rw [ey, show (z1.size : Int) = (z1.data.toList.length : Int) from rfl, gp] at GT
  simp only at GT
  rw [show (z1.data.toList.length : Int) = (z1.size : Int) from rfl] at GT
  have Q := eq_at (Vl.mk k0 n0 c0 B0 e0) (Vl.mk k0 n0 c0 B0 e0) ok ok (q := true) (eqV_iff.2 rfl)
  simp only at Q
  unfold GetPost Vl.val at GT
  unfold Vl.val at PA
  simp only at PA GT
  have hk' : (k0 == 2) = false := by simpa using hk
  obtain ⟨tx, V, E, T1, hzl, PT, RB⟩ := read_back hgd hk
  have hsv : soundV (Vl.mk k0 n0 c0 B0 e0) = Vl.mk k0 n0 c0 B0 e0 := by unfold soundV; rw [if_pos hgd]
  have T2 := T1
  have SH := fun w hg hp => Show_any w hg hp _ ok tx (by rw [hsv]; exact T1)
  rw [hsv] at SH
  have RD := fun w hg => Read_any w hg _ hzl V E PT
  rw [RB] at RD
  generalize showV (Vl.mk k0 n0 c0 B0 e0) tx = sz at SH RD
  unfold Vl.val at SH RD
  simp only at SH RD
  clear T1 T2 hzl PT RB hsv hk
  have k1 : ¬ 9223372036854775807 < z1.size + p.length := by omega
  have k2 : ¬ 9223372036854775807 < u.size + z2.size := by omega
  have hwl : IntKind.i64.wrap ((z1.size : Int) + (p.length : Int)) = (z1.size : Int) + (p.length : Int) := IntWalk.i64_in _ (by omega)
  have HG := hide hg
  have HP := hide hpw
  have HZ1 := hide hz1
  have HZ2 := hide hz2
  clear l0 hc0 hx hg ok hgd hpw gp hpv sy ey su s1 s2
  go_enter Tryd.func4, Tryd.ntmps4
  go_wp2_with fail
  refine Calls.mono (V0 _) ?_
  rintro e w1 ⟨rfl, u1⟩
  have HU1 := hide (((Upd.refl w (fun _ => False)).alloc _).then u1 (fun _ _ => id))
  clear u1 V0
  go_wp2_with fail
  obtain ⟨W, hW⟩ : ∃ W, (w1.alloc (.cells #[.int .i64 k0, .int .i64 n0, .string ⟨c0.toArray⟩, .bool B0, .int .i64 e0] 28)).alloc (.cells #[.int .i64 k0, .int .i64 n0, .string ⟨c0.toArray⟩, .bool B0, .int .i64 e0] 29) = W := ⟨_, rfl⟩
  have HA : Hid (W.heap[w1.heap.size]? = some (.cells (Vl.mk k0 n0 c0 B0 e0).cs 28 (0, 0))) := hide (hW ▸ block_alloc (Vnew1 w1 _) _)
  have HUW : Hid (Upd w W (fun _ => False)) := hide (hW ▸ (HU1.out.alloc _).alloc _)
  rw [hW]
  clear hW HU1
  obtain ⟨a0, a1, a2, a3, a4⟩ := cells5 HA.out
  have al := lt_at HA.out
  go_region_held3 (fun _ => True) (exact True.intro) (fail)
  all_goals
    go_wp2_with fail
    refine Calls.mono (PA _) ?_
    rintro e w2 ⟨rfl, u2⟩
    have HA2 := hide (u2.get (show W.drew.heap[w1.heap.size]? = _ from HA.out) id)
    have HU2 := hide ((HUW.out.drew).then u2 (fun _ _ => id))
    clear u2 PA HA HUW a0 a1 a2 a3 a4 al
    obtain ⟨a0, a1, a2, a3, a4⟩ := cells5 HA2.out
    have al := lt_at HA2.out
    go_wp2_with fail
    refine Calls.mono (wakes_any _ (HG.out.upd HU2.out id)) ?_
    rintro e w3 ⟨rfl, u3⟩
    have HA3 := hide (u3.get HA2.out id)
    have HU3 := hide (HU2.out.then u3 (fun _ _ => id))
    clear u3 HA2 HU2 a0 a1 a2 a3 a4 al
    obtain ⟨a0, a1, a2, a3, a4⟩ := cells5 HA3.out
    have al := lt_at HA3.out
    go_wp2_with fail
    refine Calls.mono (GT _) ?_
    rintro e w5 ⟨rfl, u5⟩
    have HA5 := hide (u5.get HA3.out id)
    have HU5 := hide (HU3.out.then u5 (fun _ _ => id))
    clear u5 GT HA3 HU3 a0 a1 a2 a3 a4 al
    go_wp2_with fail
    obtain ⟨WG, hWG⟩ : ∃ WG, w5.alloc (.cells #[.int .i64 k0, .int .i64 n0, .string ⟨c0.toArray⟩, .bool B0, .int .i64 e0] 28) = WG := ⟨_, rfl⟩
    have hA6 : WG.heap[w1.heap.size]? = some (.cells (Vl.mk k0 n0 c0 B0 e0).cs 28 (0, 0)) := hWG ▸ block_alloc HA5.out _
    have hB6 : WG.heap[w5.heap.size]? = some (.cells (Vl.mk k0 n0 c0 B0 e0).cs 28 (0, 0)) := hWG ▸ Vnew1 w5 _
    have HU6 : Hid (Upd w WG (fun _ => False)) := hide (hWG ▸ HU5.out.alloc _)
    rw [hWG]
    clear hWG HU5 HA5
    obtain ⟨G2, hG2⟩ : ∃ G2, w5.heap.size = G2 := ⟨_, rfl⟩
    rw [hG2] at hB6 ⊢
    clear hG2
    obtain ⟨a0, a1, a2, a3, a4⟩ := cells5 hA6
    obtain ⟨d0, d1, d2, d3, d4⟩ := cells5 hB6
    have al := lt_at hA6
    have bl := lt_at hB6
    clear hA6 hB6
    go_region_held3 (fun w' => w'.cell? ⟨w1.heap.size, 0, none⟩ = some (.int .i64 k0) ∧ w'.cell? ⟨w1.heap.size, 1, none⟩ = some (.int .i64 n0) ∧ w'.cell? ⟨w1.heap.size, 2, none⟩ = some (.string ⟨c0.toArray⟩) ∧ w'.cell? ⟨w1.heap.size, 3, none⟩ = some (.bool B0) ∧ w'.cell? ⟨w1.heap.size, 4, none⟩ = some (.int .i64 e0) ∧ w'.cell? ⟨G2, 0, none⟩ = some (.int .i64 k0) ∧ w'.cell? ⟨G2, 1, none⟩ = some (.int .i64 n0) ∧ w'.cell? ⟨G2, 2, none⟩ = some (.string ⟨c0.toArray⟩) ∧ w'.cell? ⟨G2, 3, none⟩ = some (.bool B0) ∧ w'.cell? ⟨G2, 4, none⟩ = some (.int .i64 e0) ∧ Upd WG w' (fun _ => False))
      (first | (go_keep; done) | exact ⟨a0, a1, a2, a3, a4, d0, d1, d2, d3, d4, (Upd.refl WG _).drew⟩ | (have hz : Upd WG _ (fun _ => False) := Upd.then (And.right (And.right (And.right (And.right (And.right (And.right (And.right (And.right (And.right (And.right (by assumption))))))))))) u10 (fun _ _ => id); exact ⟨(hz.cell w1.heap.size 0 al id).trans a0, (hz.cell w1.heap.size 1 al id).trans a1, (hz.cell w1.heap.size 2 al id).trans a2, (hz.cell w1.heap.size 3 al id).trans a3, (hz.cell w1.heap.size 4 al id).trans a4, (hz.cell G2 0 bl id).trans d0, (hz.cell G2 1 bl id).trans d1, (hz.cell G2 2 bl id).trans d2, (hz.cell G2 3 bl id).trans d3, (hz.cell G2 4 bl id).trans d4, hz⟩))
      (first
      | (go_at_call 12; refine Calls.mono (SH _ (HG.out.upd (HU6.out.then (And.right (And.right (And.right (And.right (And.right (And.right (And.right (And.right (And.right (And.right (by assumption))))))))))) (fun _ _ => id)) id) (HP.out.upd (HU6.out.then (And.right (And.right (And.right (And.right (And.right (And.right (And.right (And.right (And.right (And.right (by assumption))))))))))) (fun _ _ => id)) id)) ?_; rintro e w10 ⟨rfl, u10⟩)
      | (go_at_call 11; refine Calls.mono (RD _ (HG.out.upd (HU6.out.then (And.right (And.right (And.right (And.right (And.right (And.right (And.right (And.right (And.right (And.right (by assumption))))))))))) (fun _ _ => id)) id)) ?_; rintro e w10 ⟨rfl, u10⟩))
    all_goals go_wp2_with fail
    all_goals go_ret
    all_goals exact ⟨rfl, HU6.out.then (And.right (And.right (And.right (And.right (And.right (And.right (And.right (And.right (And.right (And.right (by assumption))))))))))) (fun _ _ => id)⟩
theorem ValueBack_any (w : World) (hg : Sig w) (hpw : Pow w) (x : Vl) (hx : x.ok) (a b : ByteArray) : Calls Tryd.prog 4 #[x.val, .string a, .string b] w fun e w' => e = .returned (.bool true) ∧ Upd w w' (fun _ => False) := by
  cases hgd : goodV (cutV x) with
  | false => exact back_not w hg x.k x.n x.t x.b x.f hx _ rfl a b _ _ rfl rfl hgd
  | true =>
    obtain ⟨k, n, t, B, f⟩ := x
    by_cases hk : k = 2
    · subst hk
      exact back_text w hg n t B f hx _ rfl a b _ _ rfl rfl hgd
    · exact back_other w hg hpw k n t B f hx _ rfl a b _ _ rfl rfl hgd hk
end Go.Proofs.YthahgablbdfodaaDoor
