/- The reference's Get at every text and place. -/
import Derived.Test.YthahgablbdfodaaGreatDoorJ23
import Derived.Test.YthahgablbdfodaaGreatDoorJ16
import Derived.Test.YthahgablbdfodaaGreatDoorJ20
import Derived.Test.YthahgablbdfodaaGreatDoorJ14
/- The reference's Get at every text and place. -/
set_option maxRecDepth 100000
namespace Go.Proofs.YthahgablbdfodaaGreatDoor
open Go.RowKit Go.Lat Go.Lib

theorem extr_2n (z : ByteArray) (n : Nat) : z.extract 2 (2 + n) = ⟨((z.data.toList.drop 2).take n).toArray⟩ := by
  apply Go.WideShapes.bytes_inj
  simp only [ByteArray.data_extract, Array.toList_extract, List.extract_eq_take_drop]
  rw [Nat.add_sub_cancel_left]
theorem RGet_any (w : World) (s : ByteArray) (hs : s.size ≤ 1000) (a : Int) : Calls Tryz.prog 41 #[.string s, .int .i64 a] w (GetPost w (getV s.data.toList a).1 (getV s.data.toList a).2.1 (getV s.data.toList a).2.2) := by
  have hsl : s.data.toList.length = s.size := rfl
  unfold getV
  rw [hsl]
  by_cases h1 : a < 0
  · rw [if_pos (.inl h1)]
    exact RGet_out w s a (.inl (by simpa using h1))
  · by_cases h2 : a > (s.size : Int)
    · rw [if_pos (.inr h2)]
      exact RGet_out w s a (.inr ⟨by simpa using h1, by simpa using h2⟩)
    · rw [if_neg (by omega)]
      obtain ⟨A, rfl⟩ : ∃ A : Nat, a = (A : Int) := ⟨a.toNat, by omega⟩
      have ha : A ≤ s.size := by omega
      have hs6 : s.size ≤ 1000000 := by omega
      rw [Int.toNat_natCast]
      have hz := extr_drop s A
      obtain ⟨l, hl⟩ : ∃ l, s.data.toList.drop A = l := ⟨_, rfl⟩
      rw [hl] at hz ⊢
      clear hl hsl
      cases l with
      | nil => exact RGet_empty w s A ha hz
      | cons k q =>
        unfold tellV
        dsimp only
        have h0 : 0 < (⟨(k :: q).toArray⟩ : ByteArray).size := Nat.succ_pos _
        have hsz : (⟨(k :: q).toArray⟩ : ByteArray).size = q.length + 1 := rfl
        by_cases k0 : k.toNat = 0
        · rw [if_pos k0]
          exact RGet_blank w s _ A ha hs6 h0 k0 hz (by decide)
        · rw [if_neg k0]
          by_cases k1 : k.toNat = 1
          · rw [if_pos k1]
            by_cases hq : q.length < 8
            · rw [if_neg (by omega)]
              exact RGet_num_short w s _ A ha h0 k1 (by omega) hz (by decide)
            · by_cases hok : okNum (numOf (q.take 8)) = true
              · rw [if_pos ⟨by omega, hok⟩]
                exact RGet_num w s _ A ha hs6 h0 k1 (by omega) (q.take 8) rfl hz (good_N hok)
              · rw [if_neg (fun h => hok h.2)]
                exact RGet_num_bad w s _ A ha h0 k1 (by omega) (q.take 8) rfl hz (good_N_not (by simpa using hok))
          · rw [if_neg k1]
            by_cases k2 : k.toNat = 2
            · rw [if_pos k2]
              cases q with
              | nil => exact RGet_text_one w s _ A ha h0 k2 rfl hz (by decide)
              | cons c p =>
                have h1 : 1 < (⟨(k :: c :: p).toArray⟩ : ByteArray).size := Nat.succ_lt_succ (Nat.succ_pos _)
                have hs2 : (⟨(k :: c :: p).toArray⟩ : ByteArray).size = p.length + 2 := rfl
                by_cases hc : c.toNat ≤ p.length
                · simp only [if_pos hc]
                  have hpl : (p.take c.toNat).length = c.toNat := by rw [List.length_take]; omega
                  have c255 := c.toNat_lt
                  have h := RGet_text w s _ A ha hs6 h0 k2 h1 c.toNat rfl c.toNat_lt (by omega) (p.take c.toNat) (extr_2n _ _) hz (good_T (by omega))
                  have e : (A : Int) + (2 + (c.toNat : Int)) = (A : Int) + ((2 + c.toNat : Nat) : Int) := by omega
                  rw [e] at h
                  exact h
                · simp only [if_neg hc]
                  exact RGet_text_short w s _ A ha h0 k2 h1 c.toNat rfl c.toNat_lt (by omega) hz (by decide)
            · rw [if_neg k2]
              by_cases k3 : k.toNat = 3
              · rw [if_pos k3]
                cases q with
                | nil => exact RGet_bool_one w s _ A ha h0 k3 rfl hz (by decide)
                | cons c p =>
                  have h1 : 1 < (⟨(k :: c :: p).toArray⟩ : ByteArray).size := Nat.succ_lt_succ (Nat.succ_pos _)
                  by_cases hc : c.toNat ≤ 1
                  · simp only [if_pos hc]
                    have h01 : c.toNat = 0 ∨ c.toNat = 1 := by omega
                    rcases h01 with h | h
                    · rw [show decide (c.toNat = 1) = false from by rw [h]; rfl]
                      exact RGet_bool_f w s _ A ha hs6 h0 k3 h1 h hz (by decide)
                    · rw [show decide (c.toNat = 1) = true from by rw [h]; rfl]
                      exact RGet_bool_t w s _ A ha hs6 h0 k3 h1 h hz (by decide)
                  · simp only [if_neg hc]
                    exact RGet_bool_bad w s _ A ha h0 k3 h1 c.toNat rfl (by omega) c.toNat_lt hz
              · rw [if_neg k3]
                by_cases k4 : k.toNat = 4
                · rw [if_pos k4]
                  cases q with
                  | nil => exact RGet_err_one w s _ A ha h0 k4 rfl hz (by decide)
                  | cons c p =>
                    have h1 : 1 < (⟨(k :: c :: p).toArray⟩ : ByteArray).size := Nat.succ_lt_succ (Nat.succ_pos _)
                    by_cases hf : okFail (c.toNat : Int) = true
                    · simp only [if_pos hf]
                      exact RGet_err w s _ A ha hs6 h0 k4 h1 c.toNat rfl c.toNat_lt hz (good_E hf)
                    · simp only [if_neg hf]
                      exact RGet_err_bad w s _ A ha h0 k4 h1 c.toNat rfl c.toNat_lt hz (good_E_not (by simpa using hf))
                · rw [if_neg k4]
                  have k255 := k.toNat_lt
                  refine RGet_other w s _ A ha h0 k.toNat (by omega) k255 rfl hz ?_
                  unfold goodV
                  simp only
                  rw [if_neg (by omega), if_neg (by omega), if_neg (by omega), if_neg (by omega), if_neg (by omega)]
end Go.Proofs.YthahgablbdfodaaGreatDoor
/- The walk of the reference's Read, given what Parse answers. -/
set_option maxRecDepth 100000
namespace Go.Proofs.YthahgablbdfodaaGreatDoor
open Go.RowKit Go.Lat Go.Lib

set_option maxHeartbeats 3200000 in
theorem RRead_blank (w : World) : Calls Tryz.prog 39 #[enS []] w fun e w' => e = .returned vZero.val ∧ Upd w w' (fun _ => False) := by
  have bX := Vnew1 w (.cells vZero.cs 29)
  obtain ⟨c0, c1, c2, c3, c4⟩ := cells5 bX
  have xl := lt_at bX
  have f0 := free_at bX 0
  have f1 := free_at bX 1
  have f2 := free_at bX 2
  have f3 := free_at bX 3
  have f4 := free_at bX 4
  have HX := hide bX
  clear bX
  go_enter Tryz.func39, Tryz.ntmps39
  go_wp2_with fail
  (try simp only [Exit.inBlock, Exit.then])
  refine bodyPost_ret (ret_rv rfl _ _ w.heap.size ⟨0, 0, [], false, 0⟩ rfl (Vnew1 w _)) rfl ?_
  exact ⟨rfl, (Upd.refl w _).alloc _⟩
set_option maxHeartbeats 3200000 in
theorem RRead_num (w : World) (s : List UInt8) (b0' : (s == []) = false) (V : Int) (PA : ∀ w, Calls Tryz.prog 58 #[enS s] w fun e w' => e = .returned (.tuple #[.int .i64 V, .int .i64 0]) ∧ Upd w w' (fun _ => False)) :
    Calls Tryz.prog 39 #[enS s] w fun e w' => e = .returned (mkN V).val ∧ Upd w w' (fun _ => False) := by
  have HB := hide (Vnew1 w (.cells vZero.cs 29))
  have NA := fun w => RN_any w V
  obtain ⟨ev, hev⟩ : ∃ v, mkN V = v := ⟨_, rfl⟩
  rw [hev] at NA ⊢
  obtain ⟨k0, n0, t0, b0, e0⟩ := ev
  unfold Vl.val at NA
  simp only at NA
  clear hev
  go_enter Tryz.func39, Tryz.ntmps39
  go_wp2_with fail
  refine Calls.mono (PA _) ?_
  rintro e w1 ⟨rfl, u1⟩
  have HX1 := hide (u1.get HB.out id)
  have HU1 := hide (((Upd.refl w (fun _ => False)).alloc _).then u1 (fun _ _ => id))
  clear u1 PA
  go_wp2_with fail
  refine Calls.mono (NA _) ?_
  rintro e w2 ⟨rfl, u2⟩
  have bX2 := u2.get HX1.out id
  obtain ⟨c0, c1, c2, c3, c4⟩ := cells5 bX2
  have xl := lt_at bX2
  have f0 := free_at bX2 0
  have f1 := free_at bX2 1
  have f2 := free_at bX2 2
  have f3 := free_at bX2 3
  have f4 := free_at bX2 4
  have HX2 := hide bX2
  have HU2 := hide (HU1.out.then u2 (fun _ _ => id))
  clear bX2 u2
  go_wp2_with fail
  (try simp only [Exit.inBlock, Exit.then])
  refine bodyPost_ret (ret_rv rfl _ _ w.heap.size ⟨k0, n0, t0, b0, e0⟩ rfl (rblock5 HX2.out _ _ _ _ _)) rfl ?_
  exact ⟨rfl, upd5 HU2.out (Nat.le_refl _) _ _ _ _ _⟩

set_option maxHeartbeats 3200000 in
theorem RRead_true (w : World) (s : List UInt8) (b0' : (s == []) = false) (V E : Int) (hE : (E == 0) = false) (PA : ∀ w, Calls Tryz.prog 58 #[enS s] w fun e w' => e = .returned (.tuple #[.int .i64 V, .int .i64 E]) ∧ Upd w w' (fun _ => False))
    (LA : ∀ w, Calls Tryz.prog 23 #[enS s] w fun e w' => e = .returned (enS [116, 114, 117, 101]) ∧ Upd w w' (fun _ => False)) :
    Calls Tryz.prog 39 #[enS s] w fun e w' => e = .returned (mkB true).val ∧ Upd w w' (fun _ => False) := by
  have HB := hide (Vnew1 w (.cells vZero.cs 29))
  have NA := fun w => RB_any w true
  obtain ⟨ev, hev⟩ : ∃ v, mkB true = v := ⟨_, rfl⟩
  rw [hev] at NA ⊢
  obtain ⟨k0, n0, t0, b0, e0⟩ := ev
  unfold Vl.val at NA
  simp only at NA
  clear hev
  go_enter Tryz.func39, Tryz.ntmps39
  go_wp2_with fail
  refine Calls.mono (PA _) ?_
  rintro e w1 ⟨rfl, u1⟩
  have HX1 := hide (u1.get HB.out id)
  have HU1 := hide (((Upd.refl w (fun _ => False)).alloc _).then u1 (fun _ _ => id))
  clear u1 PA
  go_wp2_with fail
  refine Calls.mono (LA _) ?_
  rintro e w2 ⟨rfl, u2⟩
  have HX2 := hide (u2.get HX1.out id)
  have HU2 := hide (HU1.out.then u2 (fun _ _ => id))
  clear u2 LA
  go_wp2_with fail
  refine Calls.mono (NA _) ?_
  rintro e w3 ⟨rfl, u3⟩
  have bX3 := u3.get HX2.out id
  obtain ⟨c0, c1, c2, c3, c4⟩ := cells5 bX3
  have xl := lt_at bX3
  have f0 := free_at bX3 0
  have f1 := free_at bX3 1
  have f2 := free_at bX3 2
  have f3 := free_at bX3 3
  have f4 := free_at bX3 4
  have HX3 := hide bX3
  have HU3 := hide (HU2.out.then u3 (fun _ _ => id))
  clear bX3 u3
  go_wp2_with fail
  (try simp only [Exit.inBlock, Exit.then])
  refine bodyPost_ret (ret_rv rfl _ _ w.heap.size ⟨k0, n0, t0, b0, e0⟩ rfl (rblock5 HX3.out _ _ _ _ _)) rfl ?_
  exact ⟨rfl, upd5 HU3.out (Nat.le_refl _) _ _ _ _ _⟩

set_option maxHeartbeats 3200000 in
theorem RRead_false (w : World) (s : List UInt8) (b0' : (s == []) = false) (V E : Int) (hE : (E == 0) = false) (PA : ∀ w, Calls Tryz.prog 58 #[enS s] w fun e w' => e = .returned (.tuple #[.int .i64 V, .int .i64 E]) ∧ Upd w w' (fun _ => False))
    (LA : ∀ w, Calls Tryz.prog 23 #[enS s] w fun e w' => e = .returned (enS [102, 97, 108, 115, 101]) ∧ Upd w w' (fun _ => False)) :
    Calls Tryz.prog 39 #[enS s] w fun e w' => e = .returned (mkB false).val ∧ Upd w w' (fun _ => False) := by
  have HB := hide (Vnew1 w (.cells vZero.cs 29))
  have NA := fun w => RB_any w false
  obtain ⟨ev, hev⟩ : ∃ v, mkB false = v := ⟨_, rfl⟩
  rw [hev] at NA ⊢
  obtain ⟨k0, n0, t0, b0, e0⟩ := ev
  unfold Vl.val at NA
  simp only at NA
  clear hev
  go_enter Tryz.func39, Tryz.ntmps39
  go_wp2_with fail
  refine Calls.mono (PA _) ?_
  rintro e w1 ⟨rfl, u1⟩
  have HX1 := hide (u1.get HB.out id)
  have HU1 := hide (((Upd.refl w (fun _ => False)).alloc _).then u1 (fun _ _ => id))
  clear u1 PA
  go_wp2_with fail
  refine Calls.mono (LA _) ?_
  rintro e w2 ⟨rfl, u2⟩
  have HX2 := hide (u2.get HX1.out id)
  have HU2 := hide (HU1.out.then u2 (fun _ _ => id))
  clear u2 LA
  go_wp2_with fail
  refine Calls.mono (NA _) ?_
  rintro e w3 ⟨rfl, u3⟩
  have bX3 := u3.get HX2.out id
  obtain ⟨c0, c1, c2, c3, c4⟩ := cells5 bX3
  have xl := lt_at bX3
  have f0 := free_at bX3 0
  have f1 := free_at bX3 1
  have f2 := free_at bX3 2
  have f3 := free_at bX3 3
  have f4 := free_at bX3 4
  have HX3 := hide bX3
  have HU3 := hide (HU2.out.then u3 (fun _ _ => id))
  clear bX3 u3
  go_wp2_with fail
  (try simp only [Exit.inBlock, Exit.then])
  refine bodyPost_ret (ret_rv rfl _ _ w.heap.size ⟨k0, n0, t0, b0, e0⟩ rfl (rblock5 HX3.out _ _ _ _ _)) rfl ?_
  exact ⟨rfl, upd5 HU3.out (Nat.le_refl _) _ _ _ _ _⟩

set_option maxHeartbeats 6400000 in
theorem RRead_sign (w : World) (s : List UInt8) (b0' : (s == []) = false) (V E : Int) (hE : (E == 0) = false) (PA : ∀ w, Calls Tryz.prog 58 #[enS s] w fun e w' => e = .returned (.tuple #[.int .i64 V, .int .i64 E]) ∧ Upd w w' (fun _ => False))
    (z : List UInt8) (LA : ∀ w, Calls Tryz.prog 23 #[enS s] w fun e w' => e = .returned (enS z) ∧ Upd w w' (fun _ => False)) (z1 : (z == [116, 114, 117, 101]) = false) (z2 : (z == [102, 97, 108, 115, 101]) = false) :
    Calls Tryz.prog 39 #[enS s] w fun e w' => e = .returned (match signIs s with | some i => mkE ((i + 1 : Nat) : Int) | none => mkT s).val ∧ Upd w w' (fun _ => False) := by
  have HB := hide (Vnew1 w (.cells vZero.cs 29))
  obtain ⟨R, hR⟩ : ∃ R : Vl, (match signIs s with | some i => mkE ((i + 1 : Nat) : Int) | none => mkT s) = R := ⟨_, rfl⟩
  rw [hR]
  have HR := hide hR
  clear hR
  go_enter Tryz.func39, Tryz.ntmps39
  go_wp2_with fail
  refine Calls.mono (PA _) ?_
  rintro e w1 ⟨rfl, u1⟩
  have HX1 := hide (u1.get HB.out id)
  have HU1 := hide (((Upd.refl w (fun _ => False)).alloc _).then u1 (fun _ _ => id))
  clear u1 PA
  go_wp2_with fail
  refine Calls.mono (LA _) ?_
  rintro e w2 ⟨rfl, u2⟩
  have HX2 := hide (u2.get HX1.out id)
  have HU2 := hide (HU1.out.then u2 (fun _ _ => id))
  clear u2 LA
  go_wp2_with fail
  go_loopg [6] 8 (fun q iv wr => Upd w2 wr (fun _ => False) ∧ ∃ f : Nat, f + q = 8 ∧ iv = .int .i64 ((f + 1 : Nat) : Int) ∧ ∀ g : Nat, g < f → signT ((g + 1 : Nat) : Int) ≠ s)
  case atStart => exact ⟨Upd.refl _ _, 0, by omega, by rfl, fun g hg => by omega⟩
  case round =>
    obtain ⟨hu, f, hf, rfl, hno⟩ := hrel
    have bXr := hide (hu.get HX2.out id)
    have HUr := hide (HU2.out.then hu (fun _ _ => id))
    have HU := hide hu
    clear hu
    by_cases hf8 : f < 8
    · have k1 : decide (((f + 1 : Nat) : Int) ≤ 8) = true := decide_eq_true (by omega)
      have k2 : ((f : Int) + 1 ≤ 8) := by omega
      have hwr : IntKind.i64.wrap (((f + 1 : Nat) : Int) + 1) = ((f + 1 + 1 : Nat) : Int) := by rw [IntWalk.i64_in _ (by omega)]; omega
      have FT := fun w => RSigns_any w ((f + 1 : Nat) : Int)
      obtain ⟨y, hy⟩ : ∃ y, signT ((f + 1 : Nat) : Int) = y := ⟨_, rfl⟩
      rw [hy] at FT
      by_cases hys : y = s
      · subst hys
        have hsi := signIs_some hf8 hy hno
        have hRv : mkE ((f + 1 : Nat) : Int) = R := by rw [← HR.out, hsi]
        have NA := fun w => RE_any w ((f + 1 : Nat) : Int)
        obtain ⟨ev, hev⟩ : ∃ v, mkE ((f + 1 : Nat) : Int) = v := ⟨_, rfl⟩
        rw [hev] at NA hRv
        obtain ⟨k0, n0, t0, b0, e0⟩ := ev
        have HRV := hide hRv
        unfold Vl.val at NA
        simp only at NA
        obtain ⟨fi, hfi⟩ : ∃ fi : Int, ((f + 1 : Nat) : Int) = fi := ⟨_, rfl⟩
        rw [hfi] at FT NA k1 ⊢
        have k1' : fi ≤ 8 := by omega
        clear hno hy hsi hRv hwr hev hfi k2
        go_wp2_with fail
        refine Calls.mono (FT _) ?_
        rintro e w3 ⟨rfl, u3⟩
        have HX3 := hide (u3.get bXr.out id)
        have HU3 := hide (HUr.out.then u3 (fun _ _ => id))
        clear u3 FT
        go_wp2_with fail
        refine Calls.mono (NA _) ?_
        rintro e w4 ⟨rfl, u4⟩
        have bX4 := u4.get HX3.out id
        obtain ⟨c0, c1, c2, c3, c4⟩ := cells5 bX4
        have xl := lt_at bX4
        have f0 := free_at bX4 0
        have f1 := free_at bX4 1
        have f2 := free_at bX4 2
        have f3 := free_at bX4 3
        have f4 := free_at bX4 4
        have HX4 := hide bX4
        have HU4 := hide (HU3.out.then u4 (fun _ _ => id))
        clear bX4 u4
        go_wp2_with fail
        (try simp only [Exit.inBlock, Exit.then])
        refine bodyPost_ret (ret_rv rfl _ _ w.heap.size ⟨k0, n0, t0, b0, e0⟩ rfl (rblock5 HX4.out _ _ _ _ _)) rfl ?_
        exact ⟨by rw [← HRV.out], upd5 HU4.out (Nat.le_refl _) _ _ _ _ _⟩
      · have hb : (y == s) = false := by simpa using hys
        have HN := hide hno
        have HZ := hide hy
        clear hno hy
        go_wp2_with fail
        refine Calls.mono (FT _) ?_
        rintro e w3 ⟨rfl, u3⟩
        have HU3 := hide (HU.out.then u3 (fun _ _ => id))
        clear u3 FT
        go_wp2_with fail
        go_roundg (gk - 1)
        case measure => omega
        case rel =>
          refine ⟨HU3.out, f + 1, by omega, by first | rfl | (rw [← hwr]; go_num) | go_num, fun g hg => ?_⟩
          by_cases e : g = f
          · subst e
            rw [HZ.out]
            exact hys
          · exact HN.out g (by omega)
    · have k1 : decide (((f + 1 : Nat) : Int) ≤ 8) = false := decide_eq_false (by omega)
      have k2 : ¬ ((f : Int) + 1 ≤ 8) := by omega
      have hsi := signIs_none (fun g hg => hno g (by omega))
      have hRv : mkT s = R := by rw [← HR.out, hsi]
      have NA := fun w => RT_any w s
      obtain ⟨ev, hev⟩ : ∃ v, mkT s = v := ⟨_, rfl⟩
      rw [hev] at NA hRv
      obtain ⟨k0, n0, t0, b0, e0⟩ := ev
      have HRV := hide hRv
      unfold Vl.val at NA
      simp only at NA
      clear hno hsi hRv hev
      go_wp2_with fail
      refine Calls.mono (NA _) ?_
      rintro e w4 ⟨rfl, u4⟩
      have bX4 := u4.get bXr.out id
      obtain ⟨c0, c1, c2, c3, c4⟩ := cells5 bX4
      have xl := lt_at bX4
      have f0 := free_at bX4 0
      have f1 := free_at bX4 1
      have f2 := free_at bX4 2
      have f3 := free_at bX4 3
      have f4 := free_at bX4 4
      have HX4 := hide bX4
      have HU4 := hide (HUr.out.then u4 (fun _ _ => id))
      clear bX4 u4
      go_wp2_with fail
      (try simp only [Exit.inBlock, Exit.then])
      refine bodyPost_ret (ret_rv rfl _ _ w.heap.size ⟨k0, n0, t0, b0, e0⟩ rfl (rblock5 HX4.out _ _ _ _ _)) rfl ?_
      exact ⟨by rw [← HRV.out], upd5 HU4.out (Nat.le_refl _) _ _ _ _ _⟩

theorem RRead_any (w : World) (s : List UInt8) (hs : s.length ≤ 1000) (V E : Int) (PA : ∀ w, Calls Tryz.prog 58 #[enS s] w fun e w' => e = .returned (.tuple #[.int .i64 V, .int .i64 E]) ∧ Upd w w' (fun _ => False)) :
    Calls Tryz.prog 39 #[enS s] w fun e w' => e = .returned (readV s V E).val ∧ Upd w w' (fun _ => False) := by
  unfold readV
  by_cases h0 : s = []
  · subst h0
    rw [if_pos rfl]
    exact RRead_blank w
  · rw [if_neg h0]
    have b0' : (s == []) = false := by simpa using h0
    by_cases h1 : E = 0
    · subst h1
      rw [if_pos rfl]
      exact RRead_num w s b0' V PA
    · rw [if_neg h1]
      have b1 : (E == 0) = false := by simpa using h1
      have LA := fun w => RLower_any w s (by omega)
      by_cases h2 : lowS s = lTrue
      · rw [truth_low, if_pos h2]
        simp only [if_true]
        rw [show s.map lowB = [116, 114, 117, 101] from h2] at LA
        exact RRead_true w s b0' V E b1 PA LA
      · by_cases h3 : lowS s = lFalse
        · rw [truth_low, if_neg h2, if_pos h3]
          simp only [if_true]
          rw [show s.map lowB = [102, 97, 108, 115, 101] from h3] at LA
          exact RRead_false w s b0' V E b1 PA LA
        · rw [truth_low, if_neg h2, if_neg h3]
          simp only [Bool.false_eq_true, if_false]
          exact RRead_sign w s b0' V E b1 PA _ LA (by simpa [lTrue, lowS] using h2) (by simpa [lFalse, lowS] using h3)
end Go.Proofs.YthahgablbdfodaaGreatDoor
/- The walk of ValueBytes. -/
set_option maxRecDepth 100000
namespace Go.Proofs.YthahgablbdfodaaGreatDoor
open Go.RowKit Go.Lat Go.Lib

theorem putV_len (x : Vl) : (putV x).1.length ≤ 257 := by
  unfold putV
  split
  · rename_i h
    rcases good_forms h with rfl | ⟨n, hn, rfl⟩ | ⟨t, ht, rfl⟩ | ⟨b, rfl⟩ | ⟨f, hf, rfl⟩
    · simp
    · simp [numBs]
    · simp; omega
    · simp
    · simp
  · simp
theorem cut400 (s : ByteArray) : ∃ z : ByteArray, s.extract 0 (min (s.size : Int) 400).toNat = z ∧ z.size ≤ 400 := ⟨_, rfl, by rw [ByteArray.size_extract]; omega⟩

set_option maxHeartbeats 6400000 in
theorem bytes_at (w : World) (hg : Sig w) (k0 n0 : Int) (t0 : List UInt8) (b9 : Bool) (e0 : Int) (hx : (Vl.mk k0 n0 t0 b9 e0).ok) (s z : ByteArray) (hz : s.extract 0 (min (s.size : Int) 400).toNat = z) (hz4 : z.size ≤ 400) (a : Int) : Calls Tryz.prog 6 #[.agg #[.int .i64 k0, .int .i64 n0, enS t0, .bool b9, .int .i64 e0], .string s, .int .i64 a] w fun e w' => e = .returned (.bool true) ∧ Upd w w' (fun _ => False) := by
  obtain ⟨c0, hc0⟩ : ∃ c, t0.take 300 = c := ⟨_, rfl⟩
  have l0 : c0.length ≤ 300 := by rw [← hc0]; simp; omega
  have V0 := fun w => values_any w k0 n0 t0 c0 b9 e0 hc0
  have ok : (Vl.mk k0 n0 c0 b9 e0).ok := ⟨hx.k, hx.n, Nat.le_trans l0 (by decide), hx.f⟩
  have PA := fun w => Put_any w _ ok
  have PB := fun w => RPut_any w (Vl.mk k0 n0 c0 b9 e0)
  have hp := putV_len (Vl.mk k0 n0 c0 b9 e0)
  obtain ⟨⟨p, pe⟩, hpv⟩ : ∃ p, putV (Vl.mk k0 n0 c0 b9 e0) = p := ⟨_, rfl⟩
  rw [hpv] at PA PB hp
  simp only at hp
  unfold Vl.val at PA PB
  simp only at PA PB
  obtain ⟨V, E, P1, P2⟩ := Parse_both z (by omega)
  rw [← enS_bk z] at P1 P2
  have RA := fun w hg => Read_any w hg z.data.toList (by show z.size ≤ 1000; omega) V E P1
  have RB := fun w => RRead_any w z.data.toList (by show z.size ≤ 1000; omega) V E P2
  rw [enS_bk] at RA RB
  obtain ⟨v, hv⟩ : ∃ v, readV z.data.toList V E = v := ⟨_, rfl⟩
  rw [hv] at RA RB
  have SM := fun w => same_any w v
  obtain ⟨vk, vn, vt, vb, vf⟩ := v
  unfold Vl.val at RA RB SM
  simp only at RA RB SM
  have h400 : ∀ (m : Int), min (s.size : Int) 400 = m → True := fun _ _ => trivial
  have m0 : 0 ≤ min (s.size : Int) 400 := by omega
  have m1 : min (s.size : Int) 400 ≤ (s.size : Int) := by omega
  obtain ⟨L, hL⟩ : ∃ L, z.size = L := ⟨_, rfl⟩
  obtain ⟨H, hH⟩ : ∃ H, L / 2 = H := ⟨_, rfl⟩
  have hdv : Int.tdiv (L : Int) 2 = (H : Int) := by rw [Int.tdiv_eq_ediv_of_nonneg (by omega)]; omega
  have hwH : wrap64 (H : Int) = (H : Int) := IntWalk.wrap64_in _ (by omega)
  have hwH' : IntKind.i64.wrap (H : Int) = (H : Int) := IntWalk.i64_in _ (by omega)
  have hHL : (H : Int) ≤ (L : Int) := by omega
  have hH0 : (0 : Int) ≤ (H : Int) := by omega
  obtain ⟨z1, hz1⟩ : ∃ z1, z.extract 0 H = z1 := ⟨_, rfl⟩
  obtain ⟨z2, hz2⟩ : ∃ z2, z.extract H L = z2 := ⟨_, rfl⟩
  have s1 : z1.size ≤ 400 := by rw [← hz1, ByteArray.size_extract]; omega
  have s2 : z2.size ≤ 400 := by rw [← hz2, ByteArray.size_extract]; omega
  have s12 : z1.size + z2.size ≤ 400 := by rw [← hz1, ← hz2, ByteArray.size_extract, ByteArray.size_extract]; omega
  obtain ⟨u, hu⟩ : ∃ u, z1 ++ (⟨p.toArray⟩ : ByteArray) = u := ⟨_, rfl⟩
  have su : u.size = z1.size + p.length := by rw [← hu, ByteArray.size_append]; rfl
  obtain ⟨y, hy⟩ : ∃ y, u ++ z2 = y := ⟨_, rfl⟩
  have sy : y.size ≤ 657 := by rw [← hy, ByteArray.size_append]; omega
  have k1 : ¬ 9223372036854775807 < z1.size + p.length := by omega
  have k2 : ¬ 9223372036854775807 < u.size + z2.size := by omega
  have HG := hide hg
  have HZ := hide hz
  have HSY := hide sy
  have HS12 := hide s12
  have HS1 := hide s1
  have HS2 := hide s2
  have HSU := hide su
  have HHH := hide hH
  have HPL := hide hp
  have HZ4 := hide hz4
  clear l0 hc0 hx hg ok h400 hv hpv P1 P2 hz sy s1 s2 su hH hp hz4 s12
  go_enter Tryz.func6, Tryz.ntmps6
  go_wp2_with fail
  simp only [HZ.out]
  go_wp2_with fail
  refine Calls.mono (V0 _) ?_
  rintro e w1 ⟨rfl, u1⟩
  have HU1 := hide (((Upd.refl w _).alloc _).then u1 (fun _ _ => id))
  clear u1 V0
  go_wp2_with fail
  refine Calls.mono (PA _) ?_
  rintro e w2 ⟨rfl, u2⟩
  have HB2 := hide (u2.get (Vnew2 w1 (.cells (Vl.mk k0 n0 c0 b9 e0).cs 28) (.cells (Vl.mk k0 n0 c0 b9 e0).cs 29)) id)
  have HU2 := hide (((HU1.out.alloc _).alloc _).then u2 (fun _ _ => id))
  clear u2 PA HU1
  obtain ⟨b0, b1, b2, b3, b4⟩ := cells5 HB2.out
  have bl := lt_at HB2.out
  go_wp2_with fail
  refine Calls.mono (PB _) ?_
  rintro e w3 ⟨rfl, u3⟩
  have HU3 := hide (HU2.out.then u3 (fun _ _ => id))
  clear u3 PB HU2 b0 b1 b2 b3 b4 bl HB2
  go_wp2_with fail
  refine Calls.mono (RA _ (HG.out.upd HU3.out id)) ?_
  rintro e w4 ⟨rfl, u4⟩
  have HU4 := hide (HU3.out.then u4 (fun _ _ => id))
  clear u4 RA HU3
  go_wp2_with fail
  refine Calls.mono (RB _) ?_
  rintro e w5 ⟨rfl, u5⟩
  have HU5 := hide (HU4.out.then u5 (fun _ _ => id))
  clear u5 RB HU4
  go_wp2_with fail
  refine Calls.mono (SM _) ?_
  rintro e w6 ⟨rfl, u6⟩
  have HU6 := hide (HU5.out.then u6 (fun _ _ => id))
  clear u6 SM HU5
  go_wp2_with fail
  go_region_held3 (fun _ => True) (exact True.intro) (fail)
  all_goals go_wp2_with fail
  go_loopg [75] 2 (fun q iv wr => ∃ i : Nat, i + q = 2 ∧ iv = .int .i64 (i : Int) ∧ Upd w6 wr (fun _ => False) ∧ wr.cell? ⟨w6.heap.size, 0, none⟩ = some (.string z) ∧ wr.cell? ⟨w6.heap.size, 1, none⟩ = some (.string y) ∧ w6.heap.size < wr.heap.size)
  case atStart =>
    refine ⟨0, by omega, by rfl, (by first | exact ((Upd.refl w6 _).drew).alloc _ | exact ((Upd.refl w6 _).alloc _).drew), ?_, ?_, by simp⟩
    · first | exact cell_at (Vnew1 w6.drew _) 0 _ rfl | exact cell_at (Vnew1 w6 _) 0 _ rfl
    · first | exact cell_at (Vnew1 w6.drew _) 1 _ rfl | exact cell_at (Vnew1 w6 _) 1 _ rfl
  case round =>
    obtain ⟨ogk, hogk⟩ : ∃ k, gk = k := ⟨_, rfl⟩
    obtain ⟨i, hi, rfl, hur, ct0, ct1, hlt⟩ := hrel
    by_cases hi2 : i < 2
    · obtain ⟨t, st, ct⟩ : ∃ t : ByteArray, t.size ≤ 1000 ∧ wr.cell? ⟨w6.heap.size, i, none⟩ = some (.string t) := by
        have h01 : i = 0 ∨ i = 1 := by omega
        rcases h01 with rfl | rfl
        · exact ⟨z, by have := HZ4.out; omega, ct0⟩
        · exact ⟨y, by have := HSY.out; omega, ct1⟩
      have b1 : decide ((i : Int) < 2) = true := decide_eq_true (by omega)
      have hi0 : (0 : Int) ≤ (i : Int) := by omega
      have hi1 : (i : Int) < 2 := by omega
      have HUR := hide hur
      have CT0 := hide ct0
      have CT1 := hide ct1
      clear hur ct0 ct1
      go_wp2_with fail
      obtain ⟨wi, hwi⟩ : ∃ wi, wr.alloc (.cells #[.int .i64 a, .int .i64 (H : Int)] 3) = wi := ⟨_, rfl⟩
      have ki0 : wi.cell? ⟨wr.heap.size, 0, none⟩ = some (.int .i64 a) := hwi ▸ cell_at (Vnew1 wr _) 0 _ rfl
      have ki1 : wi.cell? ⟨wr.heap.size, 1, none⟩ = some (.int .i64 (H : Int)) := hwi ▸ cell_at (Vnew1 wr _) 1 _ rfl
      have lti : wr.heap.size < wi.heap.size := by rw [← hwi]; simp
      have uwi : Upd wr wi (fun _ => False) := hwi ▸ (Upd.refl wr _).alloc _
      rw [hwi]
      have HUWI := hide uwi
      obtain ⟨g2, hg2⟩ : ∃ g2, wr.heap.size = g2 := ⟨_, rfl⟩
      rw [hg2] at ki0 ki1 lti ⊢
      have KI0 := hide ki0
      have KI1 := hide ki1
      have HLT := hide hlt
      rw [hogk] at hi
      have HTI := hide hi
      have HLTI := hide lti
      clear hwi uwi ki0 ki1 hg2 hlt
      go_loopg [85] 2 (fun q jv w7 => ∃ j : Nat, j + q = 2 ∧ jv = .int .i64 (j : Int) ∧ Upd wi w7 (fun _ => False))
      case atStart => exact ⟨0, by omega, by rfl, Upd.refl _ _⟩
      case round =>
        obtain ⟨j, hj, rfl, hu7⟩ := hrel
        by_cases hj2 : j < 2
        · obtain ⟨kk, ck⟩ : ∃ kk : Int, wr.cell? ⟨g2, j, none⟩ = some (.int .i64 kk) := by
            have h01 : j = 0 ∨ j = 1 := by omega
            rcases h01 with rfl | rfl
            · exact ⟨a, (hu7.cell g2 0 HLTI.out id).trans KI0.out⟩
            · exact ⟨H, (hu7.cell g2 1 HLTI.out id).trans KI1.out⟩
          have b2 : decide ((j : Int) < 2) = true := decide_eq_true (by omega)
          have hj0 : (0 : Int) ≤ (j : Int) := by omega
          have hj1 : (j : Int) < 2 := by omega
          have GA := fun w => Get_any w t st kk
          have GB := fun w => RGet_any w t st kk
          obtain ⟨⟨gv, gn, ge⟩, hgv⟩ : ∃ g, getV t.data.toList kk = g := ⟨_, rfl⟩
          rw [hgv] at GA GB
          have SM := fun w => same_any w gv
          obtain ⟨gvk, gvn, gvt, gvb, gvf⟩ := gv
          unfold GetPost Vl.val at GA GB
          unfold Vl.val at SM
          simp only at GA GB SM
          have HU7 := hide hu7
          clear hu7 hgv
          go_wp2_with fail
          refine Calls.mono (GA _) ?_
          rintro e w8 ⟨rfl, u8⟩
          have HU8 := hide (HU7.out.then u8 (fun _ _ => id))
          clear u8 GA
          go_wp2_with fail
          refine Calls.mono (GB _) ?_
          rintro e w9 ⟨rfl, u9⟩
          have bV := u9.get (Vnew1 w8 (.cells (Vl.mk gvk gvn gvt gvb gvf).cs 28)) id
          obtain ⟨c1, c2, c3, c4, c5⟩ := cells5 bV
          have vl := lt_at bV
          have HU9 := hide ((HU8.out.alloc _).then u9 (fun _ _ => id))
          clear u9 GB bV HU8
          go_wp2_with fail
          refine Calls.mono (SM _) ?_
          rintro e w10 ⟨rfl, u10⟩
          have HU10 := hide ((HU9.out.alloc _).then u10 (fun _ _ => id))
          clear u10 SM HU9
          go_wp2_with fail
          go_roundg (gk - 1)
          case measure => omega
          case rel => exact ⟨j + 1, by omega, by first | rfl | go_num, HU10.out⟩
        · have b2 : decide ((j : Int) < 2) = false := decide_eq_false (by omega)
          have hj1 : ¬ (j : Int) < 2 := by omega
          have HU7 := hide hu7
          clear hu7
          go_wp2_with fail
          go_roundg (ogk - 1)
          case measure => have := HTI.out; omega
          case rel =>
            have U := (HUR.out.then HUWI.out (fun _ _ => id)).then HU7.out (fun _ _ => id)
            have V := HUWI.out.then HU7.out (fun _ _ => id)
            refine ⟨i + 1, by have := HTI.out; omega, by first | rfl | go_num, U, (V.cell _ 0 HLT.out id).trans CT0.out, (V.cell _ 1 HLT.out id).trans CT1.out, Nat.lt_of_lt_of_le HLT.out V.size⟩
    · have b1 : decide ((i : Int) < 2) = false := decide_eq_false (by omega)
      have hi1 : ¬ (i : Int) < 2 := by omega
      have HUR := hide (HU6.out.then hur (fun _ _ => id))
      clear hur ct0 ct1 hlt
      go_wp2_with fail
      refine Calls.mono (wakes_any _ (HG.out.upd HUR.out id)) ?_
      rintro e w7 ⟨rfl, u7⟩
      have HU7 := hide (HUR.out.then u7 (fun _ _ => id))
      clear u7 HUR
      go_wp2_with fail
      go_ret
      exact ⟨rfl, HU7.out⟩
theorem ValueBytes_any (w : World) (hg : Sig w) (x : Vl) (hx : x.ok) (s : ByteArray) (a : Int) : Calls Tryz.prog 6 #[x.val, .string s, .int .i64 a] w fun e w' => e = .returned (.bool true) ∧ Upd w w' (fun _ => False) := by
  obtain ⟨z, hz, hz4⟩ := cut400 s
  exact bytes_at w hg x.k x.n x.t x.b x.f hx s z hz hz4 a
end Go.Proofs.YthahgablbdfodaaGreatDoor
