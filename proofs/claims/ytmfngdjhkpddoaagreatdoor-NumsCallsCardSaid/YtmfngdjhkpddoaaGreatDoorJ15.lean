/- The walk of fixed.Parse at every text. -/
import Derived.Test.YtmfngdjhkpddoaaGreatDoorJ14
import Derived.Test.YtmfngdjhkpddoaaGreatDoorJ08
/- The walk of fixed.Parse at every text. -/
set_option maxRecDepth 100000
namespace Go.Proofs.YtmfngdjhkpddoaaGreatDoor
open Go.RowKit Go.Lat Go.Shelf Go.Sort Go.Lib

/-- Where a text is cut. -/
theorem Cut_forms (t : ByteArray) (hs : t.size ≤ 1000) :
    ((∀ k : Nat, t.data.toList[k]? ≠ some 46) ∧ ∀ w, Calls Tryz.prog 148 #[.string t, .string ⟨#[46]⟩] w fun e w' => e = .returned (.tuple #[.string t, .string ⟨#[]⟩, .bool false]) ∧ ∃ n, w' = w.drewN n) ∨
    ∃ i : Nat, i < t.size ∧ t.data.toList[i]? = some 46 ∧ (∀ k : Nat, k < i → t.data.toList[k]? ≠ some 46) ∧ ∀ w, Calls Tryz.prog 148 #[.string t, .string ⟨#[46]⟩] w fun e w' => e = .returned (.tuple #[.string (t.extract 0 i), .string (t.extract (i + 1) t.size), .bool true]) ∧ ∃ n, w' = w.drewN n := by
  have C := fun w => Cut_any w t 46 (by omega)
  have e0 : (⟨#[46]⟩ : ByteArray).data.toList = [46] := rfl
  have z0 : (⟨#[46]⟩ : ByteArray).size = 1 := rfl
  rcases Lib.indexB_cases t ⟨#[46]⟩ with hix | ⟨i, hix, hroom⟩
  · obtain ⟨e1, e2, e3⟩ := Lib.cutB_miss t ⟨#[46]⟩ hix
    rw [e0] at e1 e2 e3
    rw [e1, e2, e3] at C
    rw [indexB_one] at hix
    exact .inl ⟨indexByte_none hix, C⟩
  · obtain ⟨e1, e2, e3⟩ := Lib.cutB_hit t ⟨#[46]⟩ i hix
    rw [e0] at e1 e2 e3
    rw [e1, e2, e3] at C
    rw [indexB_one] at hix
    rw [z0] at hroom C
    obtain ⟨k1, k2⟩ := indexByte_some hix
    exact .inr ⟨i, by omega, k1, k2, C⟩

theorem Parse_bad (w : World) (s t whole part : ByteArray) (neg pt : Bool) (hCP : ∀ w, Calls Tryz.prog 147 #[.string s, .string ⟨#[45]⟩] w fun e w' => e = .returned (.tuple #[.string t, .bool neg]) ∧ w' = w)
    (hC : ∀ w, Calls Tryz.prog 148 #[.string t, .string ⟨#[46]⟩] w fun e w' => e = .returned (.tuple #[.string whole, .string part, .bool pt]) ∧ ∃ n, w' = w.drewN n) (hws : whole.size ≤ 1000) (hps : part.size ≤ 1000)
    (h : isD whole.data.toList = false ∨ (isD whole.data.toList = true ∧ pt = true ∧ isD part.data.toList = false)) : Calls Tryz.prog 109 #[.string s] w fun e w' => e = .returned (.tuple #[.int .i64 0, .int .i64 4]) ∧ Upd w w' (fun _ => False) := by
  have R1 := fun w => run_any w whole (by omega)
  rcases h with h | ⟨h, rfl, h2⟩
  · rw [h] at R1
    clear h
    go_enter Tryz.func109, Tryz.ntmps109
    go_wp2_with fail
    refine Calls.mono (hCP _) ?_
    rintro e w1 ⟨rfl, hw⟩
    replace hw := hw.symm
    subst hw
    go_wp2_with fail
    refine Calls.mono (hC _) ?_
    rintro e w2 ⟨rfl, n2, rfl⟩
    go_wp2_with fail
    refine Calls.mono (R1 _) ?_
    rintro e w3 ⟨rfl, u3⟩
    go_wp2_with fail
    go_ret2
    exact ⟨rfl, ((Upd.refl w _).drewN n2).then u3 (fun _ _ => id)⟩
  · have R2 := fun w => run_any w part (by omega)
    rw [h] at R1
    rw [h2] at R2
    clear h h2
    go_enter Tryz.func109, Tryz.ntmps109
    go_wp2_with fail
    refine Calls.mono (hCP _) ?_
    rintro e w1 ⟨rfl, hw⟩
    replace hw := hw.symm
    subst hw
    go_wp2_with fail
    refine Calls.mono (hC _) ?_
    rintro e w2 ⟨rfl, n2, rfl⟩
    go_wp2_with fail
    refine Calls.mono (R1 _) ?_
    rintro e w3 ⟨rfl, u3⟩
    go_wp2_with fail
    refine Calls.mono (R2 _) ?_
    rintro e w4 ⟨rfl, u4⟩
    go_wp2_with fail
    go_ret2
    exact ⟨rfl, (((Upd.refl w _).drewN n2).then u3 (fun _ _ => id)).then u4 (fun _ _ => id)⟩

/-- A text's number in parts. -/
def parseX (W P : List UInt8) : Nat := dval W * 10000 + (dval P * 100000 / 10 ^ P.length + 5) / 10

set_option maxHeartbeats 1600000 in
theorem Parse_core (w : World) (s t whole part : ByteArray) (neg pt : Bool) (hCP : ∀ w, Calls Tryz.prog 147 #[.string s, .string ⟨#[45]⟩] w fun e w' => e = .returned (.tuple #[.string t, .bool neg]) ∧ w' = w)
    (hC : ∀ w, Calls Tryz.prog 148 #[.string t, .string ⟨#[46]⟩] w fun e w' => e = .returned (.tuple #[.string whole, .string part, .bool pt]) ∧ ∃ n, w' = w.drewN n) (hps : part.size ≤ 1000)
    (four : ByteArray) (hfour : (part ++ ⟨#[48, 48, 48, 48, 48]⟩).extract 0 5 = four) (n F : Nat) (hn18 : n < 1000000000000000000) (f5 : F < 100000)
    (R1 : ∀ w, Calls Tryz.prog 149 #[.string whole] w fun e w' => e = .returned (.bool true) ∧ Upd w w' (fun _ => False))
    (P1 : ∀ w, Calls Tryz.prog 150 #[.string whole, .int .i64 10, .int .i64 64] w fun e w' => e = .returned (.tuple #[.int .u64 (n : Nat), Value.nilIface]) ∧ (w' = w ∨ w' = Lib.bytesWorld w 5 whole))
    (P2 : ∀ w, Calls Tryz.prog 150 #[.string four, .int .i64 10, .int .i64 64] w fun e w' => e = .returned (.tuple #[.int .u64 (F : Nat), Value.nilIface]) ∧ (w' = w ∨ w' = Lib.bytesWorld w 5 four))
    (hpt : pt = true → isD part.data.toList = true) : Calls Tryz.prog 109 #[.string s] w fun e w' => e = .returned (.tuple #[.int .i64 (numV neg (n * 10000 + (F + 5) / 10)), .int .i64 (numE (n * 10000 + (F + 5) / 10))]) ∧ Upd w w' (fun _ => False) := by
  have q1 : ¬ 9223372036854775807 < part.size + 5 := by omega
  obtain ⟨G, hG⟩ : ∃ G, F + 5 = G := ⟨_, rfl⟩
  obtain ⟨m, hm⟩ : ∃ m, G / 10 = m := ⟨_, rfl⟩
  have g1 : (F : Int) + 5 = (G : Int) := by omega
  have g2 : IntKind.u64.wrap (G : Int) = (G : Int) := by rw [IntKind.wrap_u64]; omega
  have g3 : (G : Int) / 10 = (m : Int) := by omega
  have g3' : (G : Int).tdiv 10 = (m : Int) := by rw [← hm]; rfl
  have g4 : IntKind.u64.wrap (m : Int) = (m : Int) := by rw [IntKind.wrap_u64]; omega
  rw [hG, hm]
  have hmb : m ≤ 10000 := by omega
  clear hG hm
  unfold numV numE
  by_cases c1 : 900000000000000 < n
  · have d1 : decide ((900000000000000 : Int) < (n : Int)) = true := by simp; omega
    have d1' : decide (900000000000000 < n) = true := by simpa using c1
    rw [if_pos (by omega), if_pos (by omega)]
    clear c1 hmb hn18 f5
    cases pt with
    | true =>
      have hp2 := hpt rfl
      have R2 := fun w => run_any w part (by omega)
      rw [hp2] at R2
      clear hp2 hpt
      go_enter Tryz.func109, Tryz.ntmps109
      go_wp2_with fail
      refine Calls.mono (hCP _) ?_
      rintro e w1 ⟨rfl, hw⟩
      replace hw := hw.symm
      subst hw
      go_wp2_with fail
      refine Calls.mono (hC _) ?_
      rintro e w2 ⟨rfl, n2, rfl⟩
      go_wp2_with fail
      refine Calls.mono (R1 _) ?_
      rintro e w3 ⟨rfl, u3⟩
      go_wp2_with fail
      refine Calls.mono (R2 _) ?_
      rintro e w4 ⟨rfl, u4⟩
      go_wp2_with fail
      refine Calls.mono (P1 _) ?_
      rintro e w5 ⟨rfl, u5⟩
      go_wp2_with fail
      refine Calls.mono (P2 _) ?_
      rintro e w6 ⟨rfl, u6⟩
      go_wp2_with fail
      go_ret2
      refine ⟨rfl, ?_⟩
      have b5 : Upd w4 w5 (fun _ => False) := by
        rcases u5 with rfl | rfl
        · exact Upd.refl _ _
        · exact Upd.of_below (Lib.bytesWorld_below _ _ _) _
      have b6 : Upd w5 w6 (fun _ => False) := by
        rcases u6 with rfl | rfl
        · exact Upd.refl _ _
        · exact Upd.of_below (Lib.bytesWorld_below _ _ _) _
      exact ((((Upd.refl w _).drewN n2).then u3 (fun _ _ => id)).then u4 (fun _ _ => id)).then (b5.then b6 (fun _ _ => id)) (fun _ _ => id)
    | false =>
      clear hpt
      go_enter Tryz.func109, Tryz.ntmps109
      go_wp2_with fail
      refine Calls.mono (hCP _) ?_
      rintro e w1 ⟨rfl, hw⟩
      replace hw := hw.symm
      subst hw
      go_wp2_with fail
      refine Calls.mono (hC _) ?_
      rintro e w2 ⟨rfl, n2, rfl⟩
      go_wp2_with fail
      refine Calls.mono (R1 _) ?_
      rintro e w3 ⟨rfl, u3⟩
      go_wp2_with fail
      refine Calls.mono (P1 _) ?_
      rintro e w5 ⟨rfl, u5⟩
      go_wp2_with fail
      refine Calls.mono (P2 _) ?_
      rintro e w6 ⟨rfl, u6⟩
      go_wp2_with fail
      go_ret2
      refine ⟨rfl, ?_⟩
      have b5 : Upd w3 w5 (fun _ => False) := by
        rcases u5 with rfl | rfl
        · exact Upd.refl _ _
        · exact Upd.of_below (Lib.bytesWorld_below _ _ _) _
      have b6 : Upd w5 w6 (fun _ => False) := by
        rcases u6 with rfl | rfl
        · exact Upd.refl _ _
        · exact Upd.of_below (Lib.bytesWorld_below _ _ _) _
      exact (((Upd.refl w _).drewN n2).then u3 (fun _ _ => id)).then (b5.then b6 (fun _ _ => id)) (fun _ _ => id)
  · have d1 : decide ((900000000000000 : Int) < (n : Int)) = false := by simp; omega
    have d1' : decide (900000000000000 < n) = false := by simpa using c1
    obtain ⟨A, hA⟩ : ∃ A, n * 10000 = A := ⟨_, rfl⟩
    obtain ⟨X, hX⟩ : ∃ X, A + m = X := ⟨_, rfl⟩
    have a1 : (n : Int) * 10000 = (A : Int) := by omega
    have a2 : IntKind.u64.wrap (A : Int) = (A : Int) := by rw [IntKind.wrap_u64]; omega
    have a3 : (A : Int) + (m : Int) = (X : Int) := by omega
    have a4 : IntKind.u64.wrap (X : Int) = (X : Int) := by rw [IntKind.wrap_u64]; omega
    rw [hA, hX]
    by_cases c2 : 9000000000000000000 < X
    · have d2 : decide ((9000000000000000000 : Int) < (X : Int)) = true := by simp; omega
      have d2' : decide (9000000000000000000 < X) = true := by simpa using c2
      rw [if_pos c2, if_pos c2]
      clear c1 c2 hmb hn18 hA hX f5
      cases pt with
      | true =>
        have hp2 := hpt rfl
        have R2 := fun w => run_any w part (by omega)
        rw [hp2] at R2
        clear hp2 hpt
        go_enter Tryz.func109, Tryz.ntmps109
        go_wp2_with fail
        refine Calls.mono (hCP _) ?_
        rintro e w1 ⟨rfl, hw⟩
        replace hw := hw.symm
        subst hw
        go_wp2_with fail
        refine Calls.mono (hC _) ?_
        rintro e w2 ⟨rfl, n2, rfl⟩
        go_wp2_with fail
        refine Calls.mono (R1 _) ?_
        rintro e w3 ⟨rfl, u3⟩
        go_wp2_with fail
        refine Calls.mono (R2 _) ?_
        rintro e w4 ⟨rfl, u4⟩
        go_wp2_with fail
        refine Calls.mono (P1 _) ?_
        rintro e w5 ⟨rfl, u5⟩
        go_wp2_with fail
        refine Calls.mono (P2 _) ?_
        rintro e w6 ⟨rfl, u6⟩
        go_wp2_with fail
        go_ret2
        refine ⟨rfl, ?_⟩
        have b5 : Upd w4 w5 (fun _ => False) := by
          rcases u5 with rfl | rfl
          · exact Upd.refl _ _
          · exact Upd.of_below (Lib.bytesWorld_below _ _ _) _
        have b6 : Upd w5 w6 (fun _ => False) := by
          rcases u6 with rfl | rfl
          · exact Upd.refl _ _
          · exact Upd.of_below (Lib.bytesWorld_below _ _ _) _
        exact ((((Upd.refl w _).drewN n2).then u3 (fun _ _ => id)).then u4 (fun _ _ => id)).then (b5.then b6 (fun _ _ => id)) (fun _ _ => id)
      | false =>
        clear hpt
        go_enter Tryz.func109, Tryz.ntmps109
        go_wp2_with fail
        refine Calls.mono (hCP _) ?_
        rintro e w1 ⟨rfl, hw⟩
        replace hw := hw.symm
        subst hw
        go_wp2_with fail
        refine Calls.mono (hC _) ?_
        rintro e w2 ⟨rfl, n2, rfl⟩
        go_wp2_with fail
        refine Calls.mono (R1 _) ?_
        rintro e w3 ⟨rfl, u3⟩
        go_wp2_with fail
        refine Calls.mono (P1 _) ?_
        rintro e w5 ⟨rfl, u5⟩
        go_wp2_with fail
        refine Calls.mono (P2 _) ?_
        rintro e w6 ⟨rfl, u6⟩
        go_wp2_with fail
        go_ret2
        refine ⟨rfl, ?_⟩
        have b5 : Upd w3 w5 (fun _ => False) := by
          rcases u5 with rfl | rfl
          · exact Upd.refl _ _
          · exact Upd.of_below (Lib.bytesWorld_below _ _ _) _
        have b6 : Upd w5 w6 (fun _ => False) := by
          rcases u6 with rfl | rfl
          · exact Upd.refl _ _
          · exact Upd.of_below (Lib.bytesWorld_below _ _ _) _
        exact (((Upd.refl w _).drewN n2).then u3 (fun _ _ => id)).then (b5.then b6 (fun _ _ => id)) (fun _ _ => id)
    · have d2 : decide ((9000000000000000000 : Int) < (X : Int)) = false := by simp; omega
      have d2' : decide (9000000000000000000 < X) = false := by simpa using c2
      have a5 : IntKind.i64.wrap (X : Int) = (X : Int) := IntWalk.i64_in _ (by omega)
      have a6 : IntKind.i64.wrap (-(X : Int)) = -(X : Int) := IntWalk.i64_in _ (by omega)
      rw [if_neg c2, if_neg c2]
      clear c1 c2 hmb hn18 hA hX f5
      cases pt with
      | true =>
        have hp2 := hpt rfl
        have R2 := fun w => run_any w part (by omega)
        rw [hp2] at R2
        clear hp2 hpt
        cases neg with
        | true =>
          go_enter Tryz.func109, Tryz.ntmps109
          go_wp2_with fail
          refine Calls.mono (hCP _) ?_
          rintro e w1 ⟨rfl, hw⟩
          replace hw := hw.symm
          subst hw
          go_wp2_with fail
          refine Calls.mono (hC _) ?_
          rintro e w2 ⟨rfl, n2, rfl⟩
          go_wp2_with fail
          refine Calls.mono (R1 _) ?_
          rintro e w3 ⟨rfl, u3⟩
          go_wp2_with fail
          refine Calls.mono (R2 _) ?_
          rintro e w4 ⟨rfl, u4⟩
          go_wp2_with fail
          refine Calls.mono (P1 _) ?_
          rintro e w5 ⟨rfl, u5⟩
          go_wp2_with fail
          refine Calls.mono (P2 _) ?_
          rintro e w6 ⟨rfl, u6⟩
          go_wp2_with fail
          go_ret2
          refine ⟨rfl, ?_⟩
          have b5 : Upd w4 w5 (fun _ => False) := by
            rcases u5 with rfl | rfl
            · exact Upd.refl _ _
            · exact Upd.of_below (Lib.bytesWorld_below _ _ _) _
          have b6 : Upd w5 w6 (fun _ => False) := by
            rcases u6 with rfl | rfl
            · exact Upd.refl _ _
            · exact Upd.of_below (Lib.bytesWorld_below _ _ _) _
          exact ((((Upd.refl w _).drewN n2).then u3 (fun _ _ => id)).then u4 (fun _ _ => id)).then (b5.then b6 (fun _ _ => id)) (fun _ _ => id)
        | false =>
          go_enter Tryz.func109, Tryz.ntmps109
          go_wp2_with fail
          refine Calls.mono (hCP _) ?_
          rintro e w1 ⟨rfl, hw⟩
          replace hw := hw.symm
          subst hw
          go_wp2_with fail
          refine Calls.mono (hC _) ?_
          rintro e w2 ⟨rfl, n2, rfl⟩
          go_wp2_with fail
          refine Calls.mono (R1 _) ?_
          rintro e w3 ⟨rfl, u3⟩
          go_wp2_with fail
          refine Calls.mono (R2 _) ?_
          rintro e w4 ⟨rfl, u4⟩
          go_wp2_with fail
          refine Calls.mono (P1 _) ?_
          rintro e w5 ⟨rfl, u5⟩
          go_wp2_with fail
          refine Calls.mono (P2 _) ?_
          rintro e w6 ⟨rfl, u6⟩
          go_wp2_with fail
          go_ret2
          refine ⟨rfl, ?_⟩
          have b5 : Upd w4 w5 (fun _ => False) := by
            rcases u5 with rfl | rfl
            · exact Upd.refl _ _
            · exact Upd.of_below (Lib.bytesWorld_below _ _ _) _
          have b6 : Upd w5 w6 (fun _ => False) := by
            rcases u6 with rfl | rfl
            · exact Upd.refl _ _
            · exact Upd.of_below (Lib.bytesWorld_below _ _ _) _
          exact ((((Upd.refl w _).drewN n2).then u3 (fun _ _ => id)).then u4 (fun _ _ => id)).then (b5.then b6 (fun _ _ => id)) (fun _ _ => id)
      | false =>
        clear hpt
        cases neg with
        | true =>
          go_enter Tryz.func109, Tryz.ntmps109
          go_wp2_with fail
          refine Calls.mono (hCP _) ?_
          rintro e w1 ⟨rfl, hw⟩
          replace hw := hw.symm
          subst hw
          go_wp2_with fail
          refine Calls.mono (hC _) ?_
          rintro e w2 ⟨rfl, n2, rfl⟩
          go_wp2_with fail
          refine Calls.mono (R1 _) ?_
          rintro e w3 ⟨rfl, u3⟩
          go_wp2_with fail
          refine Calls.mono (P1 _) ?_
          rintro e w5 ⟨rfl, u5⟩
          go_wp2_with fail
          refine Calls.mono (P2 _) ?_
          rintro e w6 ⟨rfl, u6⟩
          go_wp2_with fail
          go_ret2
          refine ⟨rfl, ?_⟩
          have b5 : Upd w3 w5 (fun _ => False) := by
            rcases u5 with rfl | rfl
            · exact Upd.refl _ _
            · exact Upd.of_below (Lib.bytesWorld_below _ _ _) _
          have b6 : Upd w5 w6 (fun _ => False) := by
            rcases u6 with rfl | rfl
            · exact Upd.refl _ _
            · exact Upd.of_below (Lib.bytesWorld_below _ _ _) _
          exact (((Upd.refl w _).drewN n2).then u3 (fun _ _ => id)).then (b5.then b6 (fun _ _ => id)) (fun _ _ => id)
        | false =>
          go_enter Tryz.func109, Tryz.ntmps109
          go_wp2_with fail
          refine Calls.mono (hCP _) ?_
          rintro e w1 ⟨rfl, hw⟩
          replace hw := hw.symm
          subst hw
          go_wp2_with fail
          refine Calls.mono (hC _) ?_
          rintro e w2 ⟨rfl, n2, rfl⟩
          go_wp2_with fail
          refine Calls.mono (R1 _) ?_
          rintro e w3 ⟨rfl, u3⟩
          go_wp2_with fail
          refine Calls.mono (P1 _) ?_
          rintro e w5 ⟨rfl, u5⟩
          go_wp2_with fail
          refine Calls.mono (P2 _) ?_
          rintro e w6 ⟨rfl, u6⟩
          go_wp2_with fail
          go_ret2
          refine ⟨rfl, ?_⟩
          have b5 : Upd w3 w5 (fun _ => False) := by
            rcases u5 with rfl | rfl
            · exact Upd.refl _ _
            · exact Upd.of_below (Lib.bytesWorld_below _ _ _) _
          have b6 : Upd w5 w6 (fun _ => False) := by
            rcases u6 with rfl | rfl
            · exact Upd.refl _ _
            · exact Upd.of_below (Lib.bytesWorld_below _ _ _) _
          exact (((Upd.refl w _).drewN n2).then u3 (fun _ _ => id)).then (b5.then b6 (fun _ _ => id)) (fun _ _ => id)

theorem Parse_ok (w : World) (s t whole part : ByteArray) (neg pt : Bool) (hCP : ∀ w, Calls Tryz.prog 147 #[.string s, .string ⟨#[45]⟩] w fun e w' => e = .returned (.tuple #[.string t, .bool neg]) ∧ w' = w)
    (hC : ∀ w, Calls Tryz.prog 148 #[.string t, .string ⟨#[46]⟩] w fun e w' => e = .returned (.tuple #[.string whole, .string part, .bool pt]) ∧ ∃ n, w' = w.drewN n) (hws : whole.size ≤ 1000) (hps : part.size ≤ 1000)
    (hw : isD whole.data.toList = true) (hpall : part.data.toList.all dgB = true) (hpt : pt = true → isD part.data.toList = true) : Calls Tryz.prog 109 #[.string s] w fun e w' => e = .returned (.tuple #[.int .i64 (numV neg (parseX whole.data.toList part.data.toList)), .int .i64 (numE (parseX whole.data.toList part.data.toList))]) ∧ Upd w w' (fun _ => False) := by
  have R1 := fun w => run_any w whole (by omega)
  rw [hw] at R1
  simp only [isD, Bool.and_eq_true, decide_eq_true_eq] at hw
  obtain ⟨⟨hw1, hw2⟩, hw3⟩ := hw
  have P1 := fun w => Tryz.strconv_ParseUint_10_at64_ok whole (by omega) (dval whole.data.toList) (parse_digits _ hw3 hw1 hw2) w
  have hfive : ((part ++ ⟨#[48, 48, 48, 48, 48]⟩).extract 0 5).data.toList = (part.data.toList ++ [48, 48, 48, 48, 48]).take 5 := by
    simp [ByteArray.data_extract, ByteArray.data_append]
    rw [List.take_append]
    rfl
  obtain ⟨f1, f2, f3⟩ := five part.data.toList hpall
  rw [← hfive] at f1 f2 f3
  obtain ⟨four, hfour⟩ : ∃ four, (part ++ ⟨#[48, 48, 48, 48, 48]⟩ : ByteArray).extract 0 5 = four := ⟨_, rfl⟩
  rw [hfour] at f1 f2 f3
  have hfs : four.size = 5 := f3
  have P2 := fun w => Tryz.strconv_ParseUint_10_at64_ok four (by omega) (dval four.data.toList) (parse_digits _ f2 (by omega) (by omega)) w
  have f5 := dval_lt _ f2
  rw [f3] at f5
  have hW := dval_lt _ hw3
  have hW18 : 10 ^ whole.data.toList.length ≤ 10 ^ 18 := Nat.pow_le_pow_right (by omega) hw2
  have k := Parse_core w s t whole part neg pt hCP hC hps four hfour _ _ (Nat.lt_of_lt_of_le hW hW18) f5 R1 P1 P2 hpt
  rw [f1] at k
  exact k
end Go.Proofs.YtmfngdjhkpddoaaGreatDoor
/- The walk of the reference's Parse at every text. -/
set_option maxRecDepth 100000
namespace Go.Proofs.YtmfngdjhkpddoaaGreatDoor
open Go.RowKit Go.Lat

theorem byte_digit (t : ByteArray) (l : List UInt8) (k : Nat) (hk : k < t.size) (hl : t.data.toList = l) (ha : l.all dgB = true) : 48 ≤ t[k].toNat ∧ t[k].toNat ≤ 57 ∧ l[k]? = some t[k] := by
  have h := byte_list t k hk
  rw [hl] at h
  have := List.all_eq_true.1 ha _ (List.mem_of_getElem? h)
  simp [dgB] at this
  exact ⟨this.1, this.2, h⟩
theorem drop_get (l : List UInt8) (k : Nat) (b : UInt8) (h : l[k]? = some b) : l.drop k = b :: l.drop (k + 1) := by
  obtain ⟨hk, e⟩ := List.getElem?_eq_some_iff.1 h
  rw [List.drop_eq_getElem_cons hk, e]
end Go.Proofs.YtmfngdjhkpddoaaGreatDoor
/- The walk of the reference's Parse at every text. -/
set_option maxRecDepth 100000
namespace Go.Proofs.YtmfngdjhkpddoaaGreatDoor
open Go.RowKit Go.Lat


set_option maxHeartbeats 1600000 in
theorem RefParse_minus_dot_ok (w : World) (s t whole part : ByteArray) (W P : List UInt8) (stop : Nat) (hts : t.size ≤ 1000) (hs0 : 0 < s.size) (hz0 : s[0].toNat = 45) (ht : s.extract 1 s.size = t)
    (hno : ∀ k : Nat, k < stop → t.data.toList[k]? ≠ some 46) (hWt : whole.data.toList = W) (hst : stop < t.size) (hat : t[stop].toNat = 46) (hWe : t.extract 0 stop = whole) (hPt : part.data.toList = P) (hPe : t.extract (stop + 1) t.size = part) (hW : isD W = true) (hP : isD P = true) : Calls Tryz.prog 94 #[.string s] w fun e w' => e = .returned (.tuple #[.int .i64 (numV true (rnd ((dval W * 10 ^ P.length + dval P) * 10000) (10 ^ P.length))), .int .i64 (numE (rnd ((dval W * 10 ^ P.length + dval P) * 10000) (10 ^ P.length)))]) ∧ Upd w w' (fun _ => False) := by
  have c45 : ((45 : Int) == 45) = true := by decide
  have d0 : decide (0 < s.size) = true := by simpa using hs0
  have HNO := hide hno
  clear hno
  have AW := fun w => all_any w whole (by rw [← hWe]; simp; omega)
  rw [hWt, hW] at AW
  have HAT := hide hat
  clear hat
  have AP := fun w => all_any w part (by rw [← hPe]; simp; omega)
  rw [hPt, hP] at AP
  obtain ⟨i0, hin, hzA, hzB, hzC⟩ := info_parts Tryz.info3
  have hw' := hW
  simp only [isD, Bool.and_eq_true, decide_eq_true_eq] at hw'
  obtain ⟨⟨hw1, hw2⟩, hw3⟩ := hw'
  have hp' := hP
  simp only [isD, Bool.and_eq_true, decide_eq_true_eq] at hp'
  obtain ⟨⟨hp1, hp2⟩, hp3⟩ := hp'
  have HL := hide hp2
  have HLW := hide hw2
  have HSW : Hid (whole.size = W.length) := hide (by rw [← hWt]; rfl)
  have HTW := hide hWt
  have HAW := hide hw3
  have HAP := hide hp3
  have HSP : Hid (part.size = P.length) := hide (by rw [← hPt]; rfl)
  have HTP := hide hPt
  have hwl : whole.size = W.length := by rw [← hWt]; rfl
  have hpl : part.size = P.length := by rw [← hPt]; rfl
  have hw18 : whole.size ≤ 18 := by omega
  have hp18 : part.size ≤ 18 := by omega
  have hpw : IntKind.i64.wrap ((part.size : Int) - 1) = (part.size : Int) - 1 := IntWalk.i64_in _ (by omega)
  have hww : IntKind.i64.wrap ((whole.size : Int) - 1) = (whole.size : Int) - 1 := IntWalk.i64_in _ (by omega)
  have HD1 : Hid (dg 1 = [1]) := hide (by rw [dg_pos (by omega), dg_zero])
  have b100 : (10 : Nat) ^ 18 < 10 ^ 100 := by decide
  have HLK : Hid (∀ k, k < part.size → (dg (10 ^ k)).length ≤ 1000) := hide (fun k hk => by
    have hkl : k ≤ 18 := by omega
    have := dg_len (10 ^ k) 19 (by have h1 : 10 ^ k ≤ 10 ^ 18 := Nat.pow_le_pow_right (by omega) hkl
                                   have h2 : (10 : Nat) ^ 18 < 10 ^ 19 := by decide
                                   omega)
    omega)
  have hDb : dval W * 10 ^ P.length + dval P < 10 ^ 36 := by
    rw [← dval_append]
    have h1 := dval_lt (W ++ P) (by rw [List.all_append, hw3, hp3]; rfl)
    have h2 : 10 ^ (W ++ P).length ≤ 10 ^ 36 := Nat.pow_le_pow_right (by omega) (by rw [List.length_append]; omega)
    omega
  have hT0 : 0 < 10 ^ P.length := Nat.pow_pos (by omega)
  have hTb : 10 ^ P.length ≤ 10 ^ 18 := Nat.pow_le_pow_right (by omega) hp2
  obtain ⟨Dn, hDn⟩ : ∃ Dn, dval W * 10 ^ P.length + dval P = Dn := ⟨_, rfl⟩
  rw [hDn] at hDb ⊢
  have HDN := hide hDn
  have b36 : (10 : Nat) ^ 36 * 10000 < 10 ^ 100 := by decide
  have D4 : ∀ w, Calls Tryz.prog 96 #[.int .i64 10000] w fun e w' => ∃ v, e = .returned v ∧ DgAt w' v (dg 10000) ∧ Upd w w' (fun _ => False) := fun w => Digits_nat w 10000 (by omega)
  have lD := dg_len Dn 100 (by omega)
  have l4 := dg_len 10000 20 (by omega)
  have TM := fun w v1 v2 k1 k2 => times1_any w v1 v2 (dg Dn) (dg 10000) k1 k2 (dg_norm _) (dg_norm _) (by omega) (by omega)
  simp only [val_dg] at TM
  have NE := fun w v1 v2 k1 k2 => nearest_any w v1 v2 (Dn * 10000) (10 ^ P.length) k1 k2 hT0 (by omega) (by omega)
  have hr : rnd (Dn * 10000) (10 ^ P.length) < 10 ^ 100 := by
    have h3 := Nat.div_le_self (Dn * 10000) (10 ^ P.length)
    unfold rnd
    split <;> omega
  have NU := fun w v k => Number_any w v (rnd (Dn * 10000) (10 ^ P.length)) true k hr
  generalize numV true (rnd (Dn * 10000) (10 ^ P.length)) = XV at *
  generalize numE (rnd (Dn * 10000) (10 ^ P.length)) = XE at *
  clear hwl hpl hw1 hw2 hw3 hp2 hp3 hDb hT0 hTb hDn b36 b100 lD l4 hr hWt hPt hW hp1 hP
  go_enter Tryz.func94, Tryz.ntmps94
  go_wp2_with fail
  go_loopg [5] stop (fun q v wr => wr = w ∧ ∃ m : Nat, m + q = stop ∧ v = .int .i64 m)
  case atStart => exact ⟨rfl, 0, by omega, rfl⟩
  case round =>
    obtain ⟨hwr, m, hm, rfl⟩ := hrel
    replace hwr := hwr.symm
    subst hwr
    by_cases hms : m < stop
    · have hmt : m < t.size := by omega
      obtain ⟨z, hz⟩ : ∃ z, t[m].toNat = z := ⟨_, rfl⟩
      have hz46 : z ≠ 46 := by
        intro e
        refine HNO.out m hms ?_
        rw [byte_list t m hmt]
        congr 1
        refine UInt8.toNat_inj.1 ?_
        rw [hz, e]
        rfl
      have c1 : decide (m < t.size) = true := by simpa using hmt
      have c2 : ((z : Int) != 46) = true := by simp; omega
      have c2' : (z != 46) = true := by simp; omega
      clear hz46
      go_wp2_with fail
      go_roundg (gk - 1)
      case measure => omega
      case rel => exact ⟨rfl, m + 1, by omega, by go_num⟩
    · obtain rfl : m = stop := by omega
      clear hms hm
      have c1 : decide (m < t.size) = true := by simpa using hst
      have c2 : ((46 : Int) != 46) = false := by decide
      have hz := HAT.out
      go_wp2_with fail
      refine Calls.mono (AW _) ?_
      rintro e w2 ⟨rfl, hw⟩
      replace hw := hw.symm
      subst hw
      go_wp2_with fail
      refine Calls.mono (AP _) ?_
      rintro e w2 ⟨rfl, hw⟩
      replace hw := hw.symm
      subst hw
      go_wp2_with fail
      go_loopg [9, 10] part.size (fun q d i wr => ∃ j : Nat, j ≤ q ∧ j ≤ part.size ∧ i = .int .i64 ((j : Int) - 1) ∧ DgAt wr d (((P.drop j).reverse).map dvB) ∧ Upd w wr (fun _ => False) ∧ (∀ k, d.ownBlock = some k → w.heap.size ≤ k))
      case atStart => exact ⟨part.size, Nat.le_refl _, Nat.le_refl _, by first | rfl | go_num, by rw [List.drop_eq_nil_of_le (by rw [HSP.out]; exact Nat.le_refl _)]; exact Rw.nil _ _ _, Upd.refl _ _, by simp [Value.ownBlock]⟩
      case round =>
        obtain ⟨j, hj, hjl, rfl, hd, hu, hob⟩ := hrel
        obtain ⟨l, hl⟩ : ∃ l, ((P.drop j).reverse).map dvB = l := ⟨_, rfl⟩
        rw [hl] at hd
        have hll : l.length ≤ 36 := by
          have h1 := HL.out
          have h2 := HLW.out
          rw [← hl]
          simp
          omega
        cases j with
        | succ k =>
          have ej : ((k + 1 : Nat) : Int) - 1 = (k : Int) := by omega
          rw [ej]
          have hks : k < part.size := by omega
          obtain ⟨z, hz⟩ : ∃ z, part[k].toNat = z := ⟨_, rfl⟩
          obtain ⟨z1, z2, z3⟩ := byte_digit part P k hks HTP.out HAP.out
          have hnew : ((P.drop k).reverse).map dvB = l ++ [z - 48] := by
            rw [drop_get P k _ z3, List.reverse_cons, ← hl]
            simp [dvB, hz]
          rw [hz] at z1 z2
          have e1 : IntKind.u8.wrap ((z : Int) - 48) = ((z - 48 : Nat) : Int) := by rw [IntKind.wrap_u8']; omega
          obtain ⟨y, hy⟩ : ∃ y, z - 48 = y := ⟨_, rfl⟩
          rw [hy] at e1 hnew
          have hyb : y < 10 := by omega
          have e2 : IntKind.i64.wrap (y : Int) = (y : Int) := IntWalk.i64_in _ (by omega)
          have HN := hide hnew
          have c0 : (0 : Int) ≤ (k : Int) := Int.natCast_nonneg _
          have c1 : decide ((0 : Int) ≤ (k : Int)) = true := decide_eq_true c0
          have c2 : (k : Int) < (part.size : Int) := by omega
          have hkq : k ≤ gk - 1 ∧ k ≤ part.size ∧ 1 ≤ gk := by omega
          clear hnew hl ej hy z1 z2 z3 hj hjl
          unfold DgAt at hd
          go_wp2_with (at_builtin; go_loud (refine wpList_append_rw _ rfl _ _ 49 49 rfl 3 _ i0 _ 1 8 Tryz.underlying49 Tryz.underlying49 (by simp) hin hzA hzB hzC rfl _ l.length _ rfl (hd.alloc _) _ 1 _ rfl (Rw.made _ _ _ 1 1 rfl).src rfl (by simp [Value.oneCell']) (by omega) (by omega) ?_); intro ga gc w1 hv' hg hob')
          go_roundg (gk - 1)
          case measure => omega
          case rel =>
            refine ⟨k, by omega, by omega, by first | rfl | go_num, ?_, (hu.alloc _).grown hg (fun i k1 => .inl (hob i k1)), ?_⟩
            · rw [HN.out]
              unfold DgAt
              simpa using hv'
            · intro i k1
              rcases hob' with e | e
              · exact hob i (Eq.trans (show _ = _ from e.symm) k1)
              · rw [e] at k1; simp at k1; have := hu.size; omega
        | zero =>
          have ej : ((0 : Nat) : Int) - 1 = -1 := by omega
          rw [ej]
          rw [List.drop_zero] at hl
          clear hj hjl
          go_wp2_with fail
          subst hl
          go_loopg [9, 11] whole.size (fun q d i wr => ∃ j : Nat, j ≤ q ∧ j ≤ whole.size ∧ i = .int .i64 ((j : Int) - 1) ∧ DgAt wr d ((P.reverse ++ (W.drop j).reverse).map dvB) ∧ Upd w wr (fun _ => False) ∧ (∀ k, d.ownBlock = some k → w.heap.size ≤ k))
          case atStart => exact ⟨whole.size, Nat.le_refl _, Nat.le_refl _, by first | rfl | go_num, by rw [List.drop_eq_nil_of_le (by rw [HSW.out]; exact Nat.le_refl _)]; simpa using hd, hu, hob⟩
          case round =>
            obtain ⟨j, hj, hjl, rfl, hd, hu, hob⟩ := hrel
            obtain ⟨l, hl⟩ : ∃ l, (P.reverse ++ (W.drop j).reverse).map dvB = l := ⟨_, rfl⟩
            rw [hl] at hd
            have hll : l.length ≤ 36 := by
              have h1 := HL.out
              have h2 := HLW.out
              rw [← hl]
              simp
              omega
            cases j with
            | succ k =>
              have ej : ((k + 1 : Nat) : Int) - 1 = (k : Int) := by omega
              rw [ej]
              have hks : k < whole.size := by omega
              obtain ⟨z, hz⟩ : ∃ z, whole[k].toNat = z := ⟨_, rfl⟩
              obtain ⟨z1, z2, z3⟩ := byte_digit whole W k hks HTW.out HAW.out
              have hnew : (P.reverse ++ (W.drop k).reverse).map dvB = l ++ [z - 48] := by
                rw [drop_get W k _ z3, List.reverse_cons, ← hl]
                simp [dvB, hz]
              rw [hz] at z1 z2
              have e1 : IntKind.u8.wrap ((z : Int) - 48) = ((z - 48 : Nat) : Int) := by rw [IntKind.wrap_u8']; omega
              obtain ⟨y, hy⟩ : ∃ y, z - 48 = y := ⟨_, rfl⟩
              rw [hy] at e1 hnew
              have hyb : y < 10 := by omega
              have e2 : IntKind.i64.wrap (y : Int) = (y : Int) := IntWalk.i64_in _ (by omega)
              have HN := hide hnew
              have c0 : (0 : Int) ≤ (k : Int) := Int.natCast_nonneg _
              have c1 : decide ((0 : Int) ≤ (k : Int)) = true := decide_eq_true c0
              have c2 : (k : Int) < (whole.size : Int) := by omega
              have hkq : k ≤ gk - 1 ∧ k ≤ whole.size ∧ 1 ≤ gk := by omega
              clear hnew hl ej hy z1 z2 z3 hj hjl
              unfold DgAt at hd
              go_wp2_with (at_builtin; go_loud (refine wpList_append_rw _ rfl _ _ 49 49 rfl 3 _ i0 _ 1 8 Tryz.underlying49 Tryz.underlying49 (by simp) hin hzA hzB hzC rfl _ l.length _ rfl (hd.alloc _) _ 1 _ rfl (Rw.made _ _ _ 1 1 rfl).src rfl (by simp [Value.oneCell']) (by omega) (by omega) ?_); intro ga gc w1 hv' hg hob')
              go_roundg (gk - 1)
              case measure => omega
              case rel =>
                refine ⟨k, by omega, by omega, by first | rfl | go_num, ?_, (hu.alloc _).grown hg (fun i k1 => .inl (hob i k1)), ?_⟩
                · rw [HN.out]
                  unfold DgAt
                  simpa using hv'
                · intro i k1
                  rcases hob' with e | e
                  · exact hob i (Eq.trans (show _ = _ from e.symm) k1)
                  · rw [e] at k1; simp at k1; have := hu.size; omega
            | zero =>
              have ej : ((0 : Nat) : Int) - 1 = -1 := by omega
              rw [ej]
              rw [List.drop_zero] at hl
              clear hj hjl
              go_wp2_with fail
              have hdl := hd
              clear hd
              have L10 : ∀ d ∈ l, d < 10 := by
                rw [← hl]
                intro d hd
                obtain ⟨b, hb, rfl⟩ := List.mem_map.1 hd
                rcases List.mem_append.1 hb with k | k
                · exact dgB_lt (List.all_eq_true.1 HAP.out b (List.mem_reverse.1 k))
                · exact dgB_lt (List.all_eq_true.1 HAW.out b (List.mem_reverse.1 k))
              have hv : val l = dval W * 10 ^ P.length + dval P := by
                rw [← dval_append, ← hl]
                unfold dval
                rw [List.reverse_append]
              have TR := fun w v k => trim1_any w v l k L10 (by omega)
              rw [hv, HDN.out] at TR
              clear hl L10 hv hll
              have HTR := hide TR
              clear TR
              obtain ⟨wo, hwo⟩ : ∃ wo, wr = wo := ⟨_, rfl⟩
              rw [hwo] at hdl hu ⊢
              clear hwo
              go_loopg [12, 13] part.size (fun q v i wr => ∃ k : Nat, k + q = part.size ∧ i = .int .i64 k ∧ DgAt wr v (dg (10 ^ k)) ∧ DgAt wr u9 l ∧ Upd w wr (fun _ => False))
              case atStart =>
                refine ⟨0, by omega, by simp, ?_, hdl.upd ((Upd.refl wo _).alloc _), hu.alloc _⟩
                rw [Nat.pow_zero, HD1.out]
                exact Rw.made wo _ _ 1 1 rfl
              case round =>
                clear hdl hu
                obtain ⟨k, hk, rfl, hv, hd, hu⟩ := hrel
                by_cases hkp : k < part.size
                · have d4 : decide (k < part.size) = true := by simpa using hkp
                  have PP := fun w v1 v2 h1 h2 => times1_any w v1 v2 (dg (10 ^ k)) [0, 1] h1 h2 (dg_norm _) (by unfold Norm; decide) (HLK.out k hkp) (by decide)
                  rw [val_dg, show val [0, 1] = 10 from by decide, show 10 ^ k * 10 = 10 ^ (k + 1) from (Nat.pow_succ ..).symm] at PP
                  go_wp2_with fail
                  have m2 : DgAt (wr.alloc (.cells #[.int .i64 0, .int .i64 1] 3)) (.slice (some ⟨wr.heap.size, 0, none⟩) 2 2) [0, 1] := Rw.made wr _ _ 1 2 rfl
                  refine Calls.mono (PP _ _ _ (hv.upd ((Upd.refl wr _).alloc _)) m2) ?_
                  rintro e w2 ⟨v2, rfl, q2, u2, -⟩
                  clear PP
                  go_wp2_with fail
                  go_roundg (gk - 1)
                  case measure => omega
                  case rel => exact ⟨k + 1, by omega, by go_num, q2, (hd.upd ((Upd.refl wr _).alloc _)).upd u2, (hu.alloc _).then u2 (fun _ _ => id)⟩
                · obtain rfl : k = part.size := by omega
                  have d4 : decide (part.size < part.size) = false := by simp
                  have TR := HTR.out
                  have hv2 : DgAt wr u12 (dg (10 ^ P.length)) := by rw [← HSP.out]; exact hv
                  clear hv hk hkp
                  go_wp2_with fail
                  refine Calls.mono (TR _ _ (hd)) ?_
                  rintro e w3 ⟨v3, rfl, q3, ⟨n3, hn3⟩, -⟩
                  have u3 : Upd wr w3 (fun _ => False) := by rw [hn3]; exact (Upd.refl wr _).drewN n3
                  clear hn3
                  go_wp2_with fail
                  refine Calls.mono (D4 _) ?_
                  rintro e w4 ⟨v4, rfl, q4, u4⟩
                  go_wp2_with fail
                  refine Calls.mono (TM _ _ _ (q3.upd u4) q4) ?_
                  rintro e w5 ⟨v5, rfl, q5, u5, -⟩
                  go_wp2_with fail
                  refine Calls.mono (NE _ _ _ q5 (((hv2.upd u3).upd u4).upd u5)) ?_
                  rintro e w6 ⟨v6, rfl, q6, u6⟩
                  go_wp2_with fail
                  refine Calls.mono (NU _ _ q6) ?_
                  rintro e w7 ⟨rfl, u7⟩
                  go_wp2_with fail
                  go_ret2
                  exact ⟨rfl, ((((hu.then u3 (fun _ _ => id)).then u4 (fun _ _ => id)).then u5 (fun _ _ => id)).then u6 (fun _ _ => id)).then u7 (fun _ _ => id)⟩

set_option maxHeartbeats 1600000 in
theorem RefParse_minus_dot_part (w : World) (s t whole part : ByteArray) (W P : List UInt8) (stop : Nat) (hts : t.size ≤ 1000) (hs0 : 0 < s.size) (hz0 : s[0].toNat = 45) (ht : s.extract 1 s.size = t)
    (hno : ∀ k : Nat, k < stop → t.data.toList[k]? ≠ some 46) (hWt : whole.data.toList = W) (hst : stop < t.size) (hat : t[stop].toNat = 46) (hWe : t.extract 0 stop = whole) (hPt : part.data.toList = P) (hPe : t.extract (stop + 1) t.size = part) (hW : isD W = true) (hP : isD P = false) : Calls Tryz.prog 94 #[.string s] w fun e w' => e = .returned (.tuple #[.int .i64 0, .int .i64 4]) ∧ Upd w w' (fun _ => False) := by
  have c45 : ((45 : Int) == 45) = true := by decide
  have d0 : decide (0 < s.size) = true := by simpa using hs0
  have HNO := hide hno
  clear hno
  have AW := fun w => all_any w whole (by rw [← hWe]; simp; omega)
  rw [hWt, hW] at AW
  have HAT := hide hat
  clear hat
  have AP := fun w => all_any w part (by rw [← hPe]; simp; omega)
  rw [hPt, hP] at AP
  go_enter Tryz.func94, Tryz.ntmps94
  go_wp2_with fail
  go_loopg [5] stop (fun q v wr => wr = w ∧ ∃ m : Nat, m + q = stop ∧ v = .int .i64 m)
  case atStart => exact ⟨rfl, 0, by omega, rfl⟩
  case round =>
    obtain ⟨hwr, m, hm, rfl⟩ := hrel
    replace hwr := hwr.symm
    subst hwr
    by_cases hms : m < stop
    · have hmt : m < t.size := by omega
      obtain ⟨z, hz⟩ : ∃ z, t[m].toNat = z := ⟨_, rfl⟩
      have hz46 : z ≠ 46 := by
        intro e
        refine HNO.out m hms ?_
        rw [byte_list t m hmt]
        congr 1
        refine UInt8.toNat_inj.1 ?_
        rw [hz, e]
        rfl
      have c1 : decide (m < t.size) = true := by simpa using hmt
      have c2 : ((z : Int) != 46) = true := by simp; omega
      have c2' : (z != 46) = true := by simp; omega
      clear hz46
      go_wp2_with fail
      go_roundg (gk - 1)
      case measure => omega
      case rel => exact ⟨rfl, m + 1, by omega, by go_num⟩
    · obtain rfl : m = stop := by omega
      clear hms hm
      have c1 : decide (m < t.size) = true := by simpa using hst
      have c2 : ((46 : Int) != 46) = false := by decide
      have hz := HAT.out
      go_wp2_with fail
      refine Calls.mono (AW _) ?_
      rintro e w2 ⟨rfl, hw⟩
      replace hw := hw.symm
      subst hw
      go_wp2_with fail
      refine Calls.mono (AP _) ?_
      rintro e w2 ⟨rfl, hw⟩
      replace hw := hw.symm
      subst hw
      go_wp2_with fail
      go_ret2
      exact ⟨rfl, Upd.refl _ _⟩

set_option maxHeartbeats 1600000 in
theorem RefParse_minus_dot_whole (w : World) (s t whole : ByteArray) (W : List UInt8) (stop : Nat) (hts : t.size ≤ 1000) (hs0 : 0 < s.size) (hz0 : s[0].toNat = 45) (ht : s.extract 1 s.size = t)
    (hno : ∀ k : Nat, k < stop → t.data.toList[k]? ≠ some 46) (hWt : whole.data.toList = W) (hst : stop < t.size) (hat : t[stop].toNat = 46) (hWe : t.extract 0 stop = whole) (hW : isD W = false) : Calls Tryz.prog 94 #[.string s] w fun e w' => e = .returned (.tuple #[.int .i64 0, .int .i64 4]) ∧ Upd w w' (fun _ => False) := by
  have c45 : ((45 : Int) == 45) = true := by decide
  have d0 : decide (0 < s.size) = true := by simpa using hs0
  have HNO := hide hno
  clear hno
  have AW := fun w => all_any w whole (by rw [← hWe]; simp; omega)
  rw [hWt, hW] at AW
  have HAT := hide hat
  clear hat
  go_enter Tryz.func94, Tryz.ntmps94
  go_wp2_with fail
  go_loopg [5] stop (fun q v wr => wr = w ∧ ∃ m : Nat, m + q = stop ∧ v = .int .i64 m)
  case atStart => exact ⟨rfl, 0, by omega, rfl⟩
  case round =>
    obtain ⟨hwr, m, hm, rfl⟩ := hrel
    replace hwr := hwr.symm
    subst hwr
    by_cases hms : m < stop
    · have hmt : m < t.size := by omega
      obtain ⟨z, hz⟩ : ∃ z, t[m].toNat = z := ⟨_, rfl⟩
      have hz46 : z ≠ 46 := by
        intro e
        refine HNO.out m hms ?_
        rw [byte_list t m hmt]
        congr 1
        refine UInt8.toNat_inj.1 ?_
        rw [hz, e]
        rfl
      have c1 : decide (m < t.size) = true := by simpa using hmt
      have c2 : ((z : Int) != 46) = true := by simp; omega
      have c2' : (z != 46) = true := by simp; omega
      clear hz46
      go_wp2_with fail
      go_roundg (gk - 1)
      case measure => omega
      case rel => exact ⟨rfl, m + 1, by omega, by go_num⟩
    · obtain rfl : m = stop := by omega
      clear hms hm
      have c1 : decide (m < t.size) = true := by simpa using hst
      have c2 : ((46 : Int) != 46) = false := by decide
      have hz := HAT.out
      go_wp2_with fail
      refine Calls.mono (AW _) ?_
      rintro e w2 ⟨rfl, hw⟩
      replace hw := hw.symm
      subst hw
      go_wp2_with fail
      go_ret2
      exact ⟨rfl, Upd.refl _ _⟩
end Go.Proofs.YtmfngdjhkpddoaaGreatDoor
