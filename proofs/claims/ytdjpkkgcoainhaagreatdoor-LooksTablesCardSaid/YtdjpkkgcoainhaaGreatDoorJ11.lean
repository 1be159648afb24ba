/- The walk of fixed.Parse at every text. -/
import Derived.Test.YtdjpkkgcoainhaaGreatDoorJ10
import Derived.WideShapes
import Derived.Test.YtdjpkkgcoainhaaGreatDoorJ05
import Derived.Lib.TrimByte
/- The walk of fixed.Parse at every text. -/
set_option maxRecDepth 100000
namespace Go.Proofs.YtdjpkkgcoainhaaGreatDoor
open Go.RowKit Go.Lat Go.Shelf Go.Sort Go.Lib

/-- Where a text is cut. -/
theorem Cut_forms (t : ByteArray) (hs : t.size ≤ 1000) :
    ((∀ k : Nat, t.data.toList[k]? ≠ some 46) ∧ ∀ w, Calls Tryz.prog 105 #[.string t, .string ⟨#[46]⟩] w fun e w' => e = .returned (.tuple #[.string t, .string ⟨#[]⟩, .bool false]) ∧ ∃ n, w' = w.drewN n) ∨
    ∃ i : Nat, i < t.size ∧ t.data.toList[i]? = some 46 ∧ (∀ k : Nat, k < i → t.data.toList[k]? ≠ some 46) ∧ ∀ w, Calls Tryz.prog 105 #[.string t, .string ⟨#[46]⟩] w fun e w' => e = .returned (.tuple #[.string (t.extract 0 i), .string (t.extract (i + 1) t.size), .bool true]) ∧ ∃ n, w' = w.drewN n := by
  have C := fun w => Cut_any w t 46 (by omega)
  have e0 : (⟨#[46]⟩ : ByteArray).data.toList = [46] := rfl
  have z0 : (⟨#[46]⟩ : ByteArray).size = 1 := rfl
  rcases Lib.indexB_cases t ⟨#[46]⟩ with hix | ⟨i, hix, hroom⟩
  · obtain ⟨e1, e2, e3⟩ := Lib.cutB_miss t ⟨#[46]⟩ hix
    rw [e0] at e1 e2 e3
    rw [e1, e2, e3] at C
    rw [indexB_one] at hix
    exact .inl ⟨indexByte_none hix, C⟩
  · obtain ⟨e1, e2, e3⟩ := Lib.cutB_hit t ⟨#[46]⟩ i hix
    rw [e0] at e1 e2 e3
    rw [e1, e2, e3] at C
    rw [indexB_one] at hix
    rw [z0] at hroom C
    obtain ⟨k1, k2⟩ := indexByte_some hix
    exact .inr ⟨i, by omega, k1, k2, C⟩

theorem Parse_bad (w : World) (s t whole part : ByteArray) (neg pt : Bool) (hCP : ∀ w, Calls Tryz.prog 104 #[.string s, .string ⟨#[45]⟩] w fun e w' => e = .returned (.tuple #[.string t, .bool neg]) ∧ w' = w)
    (hC : ∀ w, Calls Tryz.prog 105 #[.string t, .string ⟨#[46]⟩] w fun e w' => e = .returned (.tuple #[.string whole, .string part, .bool pt]) ∧ ∃ n, w' = w.drewN n) (hws : whole.size ≤ 1000) (hps : part.size ≤ 1000)
    (h : isD whole.data.toList = false ∨ (isD whole.data.toList = true ∧ pt = true ∧ isD part.data.toList = false)) : Calls Tryz.prog 100 #[.string s] w fun e w' => e = .returned (.tuple #[.int .i64 0, .int .i64 4]) ∧ Upd w w' (fun _ => False) := by
  have R1 := fun w => run_any w whole (by omega)
  rcases h with h | ⟨h, rfl, h2⟩
  · rw [h] at R1
    clear h
    go_enter Tryz.func100, Tryz.ntmps100
    go_wp2_with fail
    refine Calls.mono (hCP _) ?_
    rintro e w1 ⟨rfl, hw⟩
    replace hw := hw.symm
    subst hw
    go_wp2_with fail
    refine Calls.mono (hC _) ?_
    rintro e w2 ⟨rfl, n2, rfl⟩
    go_wp2_with fail
    refine Calls.mono (R1 _) ?_
    rintro e w3 ⟨rfl, u3⟩
    go_wp2_with fail
    go_ret2
    exact ⟨rfl, ((Upd.refl w _).drewN n2).then u3 (fun _ _ => id)⟩
  · have R2 := fun w => run_any w part (by omega)
    rw [h] at R1
    rw [h2] at R2
    clear h h2
    go_enter Tryz.func100, Tryz.ntmps100
    go_wp2_with fail
    refine Calls.mono (hCP _) ?_
    rintro e w1 ⟨rfl, hw⟩
    replace hw := hw.symm
    subst hw
    go_wp2_with fail
    refine Calls.mono (hC _) ?_
    rintro e w2 ⟨rfl, n2, rfl⟩
    go_wp2_with fail
    refine Calls.mono (R1 _) ?_
    rintro e w3 ⟨rfl, u3⟩
    go_wp2_with fail
    refine Calls.mono (R2 _) ?_
    rintro e w4 ⟨rfl, u4⟩
    go_wp2_with fail
    go_ret2
    exact ⟨rfl, (((Upd.refl w _).drewN n2).then u3 (fun _ _ => id)).then u4 (fun _ _ => id)⟩

/-- A text's number in parts. -/
def parseX (W P : List UInt8) : Nat := dval W * 10000 + (dval P * 100000 / 10 ^ P.length + 5) / 10

set_option maxHeartbeats 1600000 in
theorem Parse_core (w : World) (s t whole part : ByteArray) (neg pt : Bool) (hCP : ∀ w, Calls Tryz.prog 104 #[.string s, .string ⟨#[45]⟩] w fun e w' => e = .returned (.tuple #[.string t, .bool neg]) ∧ w' = w)
    (hC : ∀ w, Calls Tryz.prog 105 #[.string t, .string ⟨#[46]⟩] w fun e w' => e = .returned (.tuple #[.string whole, .string part, .bool pt]) ∧ ∃ n, w' = w.drewN n) (hps : part.size ≤ 1000)
    (four : ByteArray) (hfour : (part ++ ⟨#[48, 48, 48, 48, 48]⟩).extract 0 5 = four) (n F : Nat) (hn18 : n < 1000000000000000000) (f5 : F < 100000)
    (R1 : ∀ w, Calls Tryz.prog 106 #[.string whole] w fun e w' => e = .returned (.bool true) ∧ Upd w w' (fun _ => False))
    (P1 : ∀ w, Calls Tryz.prog 107 #[.string whole, .int .i64 10, .int .i64 64] w fun e w' => e = .returned (.tuple #[.int .u64 (n : Nat), Value.nilIface]) ∧ (w' = w ∨ w' = Lib.bytesWorld w 5 whole))
    (P2 : ∀ w, Calls Tryz.prog 107 #[.string four, .int .i64 10, .int .i64 64] w fun e w' => e = .returned (.tuple #[.int .u64 (F : Nat), Value.nilIface]) ∧ (w' = w ∨ w' = Lib.bytesWorld w 5 four))
    (hpt : pt = true → isD part.data.toList = true) : Calls Tryz.prog 100 #[.string s] w fun e w' => e = .returned (.tuple #[.int .i64 (numV neg (n * 10000 + (F + 5) / 10)), .int .i64 (numE (n * 10000 + (F + 5) / 10))]) ∧ Upd w w' (fun _ => False) := by
  have q1 : ¬ 9223372036854775807 < part.size + 5 := by omega
  obtain ⟨G, hG⟩ : ∃ G, F + 5 = G := ⟨_, rfl⟩
  obtain ⟨m, hm⟩ : ∃ m, G / 10 = m := ⟨_, rfl⟩
  have g1 : (F : Int) + 5 = (G : Int) := by omega
  have g2 : IntKind.u64.wrap (G : Int) = (G : Int) := by rw [IntKind.wrap_u64]; omega
  have g3 : (G : Int) / 10 = (m : Int) := by omega
  have g3' : (G : Int).tdiv 10 = (m : Int) := by rw [← hm]; rfl
  have g4 : IntKind.u64.wrap (m : Int) = (m : Int) := by rw [IntKind.wrap_u64]; omega
  rw [hG, hm]
  have hmb : m ≤ 10000 := by omega
  clear hG hm
  unfold numV numE
  by_cases c1 : 900000000000000 < n
  · have d1 : decide ((900000000000000 : Int) < (n : Int)) = true := by simp; omega
    have d1' : decide (900000000000000 < n) = true := by simpa using c1
    rw [if_pos (by omega), if_pos (by omega)]
    clear c1 hmb hn18 f5
    cases pt with
    | true =>
      have hp2 := hpt rfl
      have R2 := fun w => run_any w part (by omega)
      rw [hp2] at R2
      clear hp2 hpt
      go_enter Tryz.func100, Tryz.ntmps100
      go_wp2_with fail
      refine Calls.mono (hCP _) ?_
      rintro e w1 ⟨rfl, hw⟩
      replace hw := hw.symm
      subst hw
      go_wp2_with fail
      refine Calls.mono (hC _) ?_
      rintro e w2 ⟨rfl, n2, rfl⟩
      go_wp2_with fail
      refine Calls.mono (R1 _) ?_
      rintro e w3 ⟨rfl, u3⟩
      go_wp2_with fail
      refine Calls.mono (R2 _) ?_
      rintro e w4 ⟨rfl, u4⟩
      go_wp2_with fail
      refine Calls.mono (P1 _) ?_
      rintro e w5 ⟨rfl, u5⟩
      go_wp2_with fail
      refine Calls.mono (P2 _) ?_
      rintro e w6 ⟨rfl, u6⟩
      go_wp2_with fail
      go_ret2
      refine ⟨rfl, ?_⟩
      have b5 : Upd w4 w5 (fun _ => False) := by
        rcases u5 with rfl | rfl
        · exact Upd.refl _ _
        · exact Upd.of_below (Lib.bytesWorld_below _ _ _) _
      have b6 : Upd w5 w6 (fun _ => False) := by
        rcases u6 with rfl | rfl
        · exact Upd.refl _ _
        · exact Upd.of_below (Lib.bytesWorld_below _ _ _) _
      exact ((((Upd.refl w _).drewN n2).then u3 (fun _ _ => id)).then u4 (fun _ _ => id)).then (b5.then b6 (fun _ _ => id)) (fun _ _ => id)
    | false =>
      clear hpt
      go_enter Tryz.func100, Tryz.ntmps100
      go_wp2_with fail
      refine Calls.mono (hCP _) ?_
      rintro e w1 ⟨rfl, hw⟩
      replace hw := hw.symm
      subst hw
      go_wp2_with fail
      refine Calls.mono (hC _) ?_
      rintro e w2 ⟨rfl, n2, rfl⟩
      go_wp2_with fail
      refine Calls.mono (R1 _) ?_
      rintro e w3 ⟨rfl, u3⟩
      go_wp2_with fail
      refine Calls.mono (P1 _) ?_
      rintro e w5 ⟨rfl, u5⟩
      go_wp2_with fail
      refine Calls.mono (P2 _) ?_
      rintro e w6 ⟨rfl, u6⟩
      go_wp2_with fail
      go_ret2
      refine ⟨rfl, ?_⟩
      have b5 : Upd w3 w5 (fun _ => False) := by
        rcases u5 with rfl | rfl
        · exact Upd.refl _ _
        · exact Upd.of_below (Lib.bytesWorld_below _ _ _) _
      have b6 : Upd w5 w6 (fun _ => False) := by
        rcases u6 with rfl | rfl
        · exact Upd.refl _ _
        · exact Upd.of_below (Lib.bytesWorld_below _ _ _) _
      exact (((Upd.refl w _).drewN n2).then u3 (fun _ _ => id)).then (b5.then b6 (fun _ _ => id)) (fun _ _ => id)
  · have d1 : decide ((900000000000000 : Int) < (n : Int)) = false := by simp; omega
    have d1' : decide (900000000000000 < n) = false := by simpa using c1
    obtain ⟨A, hA⟩ : ∃ A, n * 10000 = A := ⟨_, rfl⟩
    obtain ⟨X, hX⟩ : ∃ X, A + m = X := ⟨_, rfl⟩
    have a1 : (n : Int) * 10000 = (A : Int) := by omega
    have a2 : IntKind.u64.wrap (A : Int) = (A : Int) := by rw [IntKind.wrap_u64]; omega
    have a3 : (A : Int) + (m : Int) = (X : Int) := by omega
    have a4 : IntKind.u64.wrap (X : Int) = (X : Int) := by rw [IntKind.wrap_u64]; omega
    rw [hA, hX]
    by_cases c2 : 9000000000000000000 < X
    · have d2 : decide ((9000000000000000000 : Int) < (X : Int)) = true := by simp; omega
      have d2' : decide (9000000000000000000 < X) = true := by simpa using c2
      rw [if_pos c2, if_pos c2]
      clear c1 c2 hmb hn18 hA hX f5
      cases pt with
      | true =>
        have hp2 := hpt rfl
        have R2 := fun w => run_any w part (by omega)
        rw [hp2] at R2
        clear hp2 hpt
        go_enter Tryz.func100, Tryz.ntmps100
        go_wp2_with fail
        refine Calls.mono (hCP _) ?_
        rintro e w1 ⟨rfl, hw⟩
        replace hw := hw.symm
        subst hw
        go_wp2_with fail
        refine Calls.mono (hC _) ?_
        rintro e w2 ⟨rfl, n2, rfl⟩
        go_wp2_with fail
        refine Calls.mono (R1 _) ?_
        rintro e w3 ⟨rfl, u3⟩
        go_wp2_with fail
        refine Calls.mono (R2 _) ?_
        rintro e w4 ⟨rfl, u4⟩
        go_wp2_with fail
        refine Calls.mono (P1 _) ?_
        rintro e w5 ⟨rfl, u5⟩
        go_wp2_with fail
        refine Calls.mono (P2 _) ?_
        rintro e w6 ⟨rfl, u6⟩
        go_wp2_with fail
        go_ret2
        refine ⟨rfl, ?_⟩
        have b5 : Upd w4 w5 (fun _ => False) := by
          rcases u5 with rfl | rfl
          · exact Upd.refl _ _
          · exact Upd.of_below (Lib.bytesWorld_below _ _ _) _
        have b6 : Upd w5 w6 (fun _ => False) := by
          rcases u6 with rfl | rfl
          · exact Upd.refl _ _
          · exact Upd.of_below (Lib.bytesWorld_below _ _ _) _
        exact ((((Upd.refl w _).drewN n2).then u3 (fun _ _ => id)).then u4 (fun _ _ => id)).then (b5.then b6 (fun _ _ => id)) (fun _ _ => id)
      | false =>
        clear hpt
        go_enter Tryz.func100, Tryz.ntmps100
        go_wp2_with fail
        refine Calls.mono (hCP _) ?_
        rintro e w1 ⟨rfl, hw⟩
        replace hw := hw.symm
        subst hw
        go_wp2_with fail
        refine Calls.mono (hC _) ?_
        rintro e w2 ⟨rfl, n2, rfl⟩
        go_wp2_with fail
        refine Calls.mono (R1 _) ?_
        rintro e w3 ⟨rfl, u3⟩
        go_wp2_with fail
        refine Calls.mono (P1 _) ?_
        rintro e w5 ⟨rfl, u5⟩
        go_wp2_with fail
        refine Calls.mono (P2 _) ?_
        rintro e w6 ⟨rfl, u6⟩
        go_wp2_with fail
        go_ret2
        refine ⟨rfl, ?_⟩
        have b5 : Upd w3 w5 (fun _ => False) := by
          rcases u5 with rfl | rfl
          · exact Upd.refl _ _
          · exact Upd.of_below (Lib.bytesWorld_below _ _ _) _
        have b6 : Upd w5 w6 (fun _ => False) := by
          rcases u6 with rfl | rfl
          · exact Upd.refl _ _
          · exact Upd.of_below (Lib.bytesWorld_below _ _ _) _
        exact (((Upd.refl w _).drewN n2).then u3 (fun _ _ => id)).then (b5.then b6 (fun _ _ => id)) (fun _ _ => id)
    · have d2 : decide ((9000000000000000000 : Int) < (X : Int)) = false := by simp; omega
      have d2' : decide (9000000000000000000 < X) = false := by simpa using c2
      have a5 : IntKind.i64.wrap (X : Int) = (X : Int) := IntWalk.i64_in _ (by omega)
      have a6 : IntKind.i64.wrap (-(X : Int)) = -(X : Int) := IntWalk.i64_in _ (by omega)
      rw [if_neg c2, if_neg c2]
      clear c1 c2 hmb hn18 hA hX f5
      cases pt with
      | true =>
        have hp2 := hpt rfl
        have R2 := fun w => run_any w part (by omega)
        rw [hp2] at R2
        clear hp2 hpt
        cases neg with
        | true =>
          go_enter Tryz.func100, Tryz.ntmps100
          go_wp2_with fail
          refine Calls.mono (hCP _) ?_
          rintro e w1 ⟨rfl, hw⟩
          replace hw := hw.symm
          subst hw
          go_wp2_with fail
          refine Calls.mono (hC _) ?_
          rintro e w2 ⟨rfl, n2, rfl⟩
          go_wp2_with fail
          refine Calls.mono (R1 _) ?_
          rintro e w3 ⟨rfl, u3⟩
          go_wp2_with fail
          refine Calls.mono (R2 _) ?_
          rintro e w4 ⟨rfl, u4⟩
          go_wp2_with fail
          refine Calls.mono (P1 _) ?_
          rintro e w5 ⟨rfl, u5⟩
          go_wp2_with fail
          refine Calls.mono (P2 _) ?_
          rintro e w6 ⟨rfl, u6⟩
          go_wp2_with fail
          go_ret2
          refine ⟨rfl, ?_⟩
          have b5 : Upd w4 w5 (fun _ => False) := by
            rcases u5 with rfl | rfl
            · exact Upd.refl _ _
            · exact Upd.of_below (Lib.bytesWorld_below _ _ _) _
          have b6 : Upd w5 w6 (fun _ => False) := by
            rcases u6 with rfl | rfl
            · exact Upd.refl _ _
            · exact Upd.of_below (Lib.bytesWorld_below _ _ _) _
          exact ((((Upd.refl w _).drewN n2).then u3 (fun _ _ => id)).then u4 (fun _ _ => id)).then (b5.then b6 (fun _ _ => id)) (fun _ _ => id)
        | false =>
          go_enter Tryz.func100, Tryz.ntmps100
          go_wp2_with fail
          refine Calls.mono (hCP _) ?_
          rintro e w1 ⟨rfl, hw⟩
          replace hw := hw.symm
          subst hw
          go_wp2_with fail
          refine Calls.mono (hC _) ?_
          rintro e w2 ⟨rfl, n2, rfl⟩
          go_wp2_with fail
          refine Calls.mono (R1 _) ?_
          rintro e w3 ⟨rfl, u3⟩
          go_wp2_with fail
          refine Calls.mono (R2 _) ?_
          rintro e w4 ⟨rfl, u4⟩
          go_wp2_with fail
          refine Calls.mono (P1 _) ?_
          rintro e w5 ⟨rfl, u5⟩
          go_wp2_with fail
          refine Calls.mono (P2 _) ?_
          rintro e w6 ⟨rfl, u6⟩
          go_wp2_with fail
          go_ret2
          refine ⟨rfl, ?_⟩
          have b5 : Upd w4 w5 (fun _ => False) := by
            rcases u5 with rfl | rfl
            · exact Upd.refl _ _
            · exact Upd.of_below (Lib.bytesWorld_below _ _ _) _
          have b6 : Upd w5 w6 (fun _ => False) := by
            rcases u6 with rfl | rfl
            · exact Upd.refl _ _
            · exact Upd.of_below (Lib.bytesWorld_below _ _ _) _
          exact ((((Upd.refl w _).drewN n2).then u3 (fun _ _ => id)).then u4 (fun _ _ => id)).then (b5.then b6 (fun _ _ => id)) (fun _ _ => id)
      | false =>
        clear hpt
        cases neg with
        | true =>
          go_enter Tryz.func100, Tryz.ntmps100
          go_wp2_with fail
          refine Calls.mono (hCP _) ?_
          rintro e w1 ⟨rfl, hw⟩
          replace hw := hw.symm
          subst hw
          go_wp2_with fail
          refine Calls.mono (hC _) ?_
          rintro e w2 ⟨rfl, n2, rfl⟩
          go_wp2_with fail
          refine Calls.mono (R1 _) ?_
          rintro e w3 ⟨rfl, u3⟩
          go_wp2_with fail
          refine Calls.mono (P1 _) ?_
          rintro e w5 ⟨rfl, u5⟩
          go_wp2_with fail
          refine Calls.mono (P2 _) ?_
          rintro e w6 ⟨rfl, u6⟩
          go_wp2_with fail
          go_ret2
          refine ⟨rfl, ?_⟩
          have b5 : Upd w3 w5 (fun _ => False) := by
            rcases u5 with rfl | rfl
            · exact Upd.refl _ _
            · exact Upd.of_below (Lib.bytesWorld_below _ _ _) _
          have b6 : Upd w5 w6 (fun _ => False) := by
            rcases u6 with rfl | rfl
            · exact Upd.refl _ _
            · exact Upd.of_below (Lib.bytesWorld_below _ _ _) _
          exact (((Upd.refl w _).drewN n2).then u3 (fun _ _ => id)).then (b5.then b6 (fun _ _ => id)) (fun _ _ => id)
        | false =>
          go_enter Tryz.func100, Tryz.ntmps100
          go_wp2_with fail
          refine Calls.mono (hCP _) ?_
          rintro e w1 ⟨rfl, hw⟩
          replace hw := hw.symm
          subst hw
          go_wp2_with fail
          refine Calls.mono (hC _) ?_
          rintro e w2 ⟨rfl, n2, rfl⟩
          go_wp2_with fail
          refine Calls.mono (R1 _) ?_
          rintro e w3 ⟨rfl, u3⟩
          go_wp2_with fail
          refine Calls.mono (P1 _) ?_
          rintro e w5 ⟨rfl, u5⟩
          go_wp2_with fail
          refine Calls.mono (P2 _) ?_
          rintro e w6 ⟨rfl, u6⟩
          go_wp2_with fail
          go_ret2
          refine ⟨rfl, ?_⟩
          have b5 : Upd w3 w5 (fun _ => False) := by
            rcases u5 with rfl | rfl
            · exact Upd.refl _ _
            · exact Upd.of_below (Lib.bytesWorld_below _ _ _) _
          have b6 : Upd w5 w6 (fun _ => False) := by
            rcases u6 with rfl | rfl
            · exact Upd.refl _ _
            · exact Upd.of_below (Lib.bytesWorld_below _ _ _) _
          exact (((Upd.refl w _).drewN n2).then u3 (fun _ _ => id)).then (b5.then b6 (fun _ _ => id)) (fun _ _ => id)

theorem Parse_ok (w : World) (s t whole part : ByteArray) (neg pt : Bool) (hCP : ∀ w, Calls Tryz.prog 104 #[.string s, .string ⟨#[45]⟩] w fun e w' => e = .returned (.tuple #[.string t, .bool neg]) ∧ w' = w)
    (hC : ∀ w, Calls Tryz.prog 105 #[.string t, .string ⟨#[46]⟩] w fun e w' => e = .returned (.tuple #[.string whole, .string part, .bool pt]) ∧ ∃ n, w' = w.drewN n) (hws : whole.size ≤ 1000) (hps : part.size ≤ 1000)
    (hw : isD whole.data.toList = true) (hpall : part.data.toList.all dgB = true) (hpt : pt = true → isD part.data.toList = true) : Calls Tryz.prog 100 #[.string s] w fun e w' => e = .returned (.tuple #[.int .i64 (numV neg (parseX whole.data.toList part.data.toList)), .int .i64 (numE (parseX whole.data.toList part.data.toList))]) ∧ Upd w w' (fun _ => False) := by
  have R1 := fun w => run_any w whole (by omega)
  rw [hw] at R1
  simp only [isD, Bool.and_eq_true, decide_eq_true_eq] at hw
  obtain ⟨⟨hw1, hw2⟩, hw3⟩ := hw
  have P1 := fun w => Tryz.strconv_ParseUint_10_at64_ok whole (by omega) (dval whole.data.toList) (parse_digits _ hw3 hw1 hw2) w
  have hfive : ((part ++ ⟨#[48, 48, 48, 48, 48]⟩).extract 0 5).data.toList = (part.data.toList ++ [48, 48, 48, 48, 48]).take 5 := by
    simp [ByteArray.data_extract, ByteArray.data_append]
    rw [List.take_append]
    rfl
  obtain ⟨f1, f2, f3⟩ := five part.data.toList hpall
  rw [← hfive] at f1 f2 f3
  obtain ⟨four, hfour⟩ : ∃ four, (part ++ ⟨#[48, 48, 48, 48, 48]⟩ : ByteArray).extract 0 5 = four := ⟨_, rfl⟩
  rw [hfour] at f1 f2 f3
  have hfs : four.size = 5 := f3
  have P2 := fun w => Tryz.strconv_ParseUint_10_at64_ok four (by omega) (dval four.data.toList) (parse_digits _ f2 (by omega) (by omega)) w
  have f5 := dval_lt _ f2
  rw [f3] at f5
  have hW := dval_lt _ hw3
  have hW18 : 10 ^ whole.data.toList.length ≤ 10 ^ 18 := Nat.pow_le_pow_right (by omega) hw2
  have k := Parse_core w s t whole part neg pt hCP hC hps four hfour _ _ (Nat.lt_of_lt_of_le hW hW18) f5 R1 P1 P2 hpt
  rw [f1] at k
  exact k
end Go.Proofs.YtdjpkkgcoainhaaGreatDoor
/- What fixed's Text writes, fixed's Parse reads. -/
set_option maxRecDepth 100000
namespace Go.Proofs.YtdjpkkgcoainhaaGreatDoor
open Go.RowKit Go.Lat Go.Shelf Go.Sort Go.Lib

theorem dg_ofNat (d : Nat) (h : d < 10) : dgB (UInt8.ofNat (48 + d)) = true ∧ dvB (UInt8.ofNat (48 + d)) = d := by
  have e : (UInt8.ofNat (48 + d)).toNat = 48 + d := by simp; omega
  unfold dgB dvB
  rw [e]
  simp
  omega

theorem dec_all : ∀ u, (decDigits u).all dgB = true ∧ dval (decDigits u) = u := by
  intro u
  induction u using Nat.strongRecOn with
  | ind u ih =>
    unfold decDigits
    by_cases h : u < 10
    · rw [dif_pos h]
      obtain ⟨a, b⟩ := dg_ofNat u h
      exact ⟨by simp only [List.all_cons, List.all_nil, a, Bool.and_true], by rw [dval_one, b]⟩
    · rw [dif_neg h]
      obtain ⟨a, b⟩ := dg_ofNat (u % 10) (by omega)
      obtain ⟨c, d⟩ := ih (u / 10) (by omega)
      refine ⟨by rw [List.all_append, c]; simp only [List.all_cons, List.all_nil, a, Bool.and_true], ?_⟩
      rw [dval_append, dval_one, b, d]
      simp
      omega

theorem dec_len : ∀ (k u : Nat), u < 10 ^ (k + 1) → 1 ≤ (decDigits u).length ∧ (decDigits u).length ≤ k + 1
  | 0, u, h => by
    unfold decDigits
    rw [dif_pos (by simpa using h)]
    simp
  | k + 1, u, h => by
    unfold decDigits
    by_cases hu : u < 10
    · rw [dif_pos hu]
      simp
    · rw [dif_neg hu]
      have h2 : u / 10 < 10 ^ (k + 1) := by
        rw [Nat.pow_succ] at h
        rw [Nat.div_lt_iff_lt_mul (by omega)]
        exact h
      obtain ⟨a, b⟩ := dec_len k (u / 10) h2
      rw [List.length_append]
      simp
      omega

theorem dec_isD (u : Nat) (h : u < 1000000000000000000) : isD (decDigits u) = true := by
  have e18 : (10 : Nat) ^ 18 = 1000000000000000000 := by decide
  obtain ⟨a, b⟩ := dec_len 17 u (by rw [e18]; exact h)
  unfold isD
  rw [(dec_all u).1, decide_eq_true a, decide_eq_true b]
  rfl

/-- The noughts behind a part. -/
theorem trim_tail (l : List UInt8) : ∃ z : List UInt8, l = trimRightB l 48 ++ z ∧ dval z = 0 := by
  have key : ∀ l : List UInt8, (∀ x ∈ l, x = 48) → dval l = 0 := by
    intro l
    induction l with
    | nil => intro _; rfl
    | cons b l ih =>
      intro h
      have hb := h b (by simp)
      subst hb
      rw [dval_cons, ih (fun x hx => h x (by simp [hx]))]
      simp [dvB]
  refine ⟨(l.reverse.takeWhile (· == 48)).reverse, ?_, key _ ?_⟩
  · unfold trimRightB
    rw [← List.reverse_append, List.takeWhile_append_dropWhile, List.reverse_reverse]
  · intro x hx
    have := takeWhile_all _ _ _ (List.mem_reverse.1 hx)
    simpa using this

/-- The part of a number that is not whole. -/
theorem part_text (r : Nat) (h0 : 0 < r) (h1 : r < 10000) :
    isD (trimRightB ((decDigits (10000 + r)).drop 1) 48) = true ∧ (dval (trimRightB ((decDigits (10000 + r)).drop 1) 48) * 100000 / 10 ^ (trimRightB ((decDigits (10000 + r)).drop 1) 48).length + 5) / 10 = r := by
  obtain ⟨ha, hv⟩ := dec_all (10000 + r)
  have hl : (decDigits (10000 + r)).length = 5 := by
    have g5 := nDigits5 (10000 + r) (by omega) (by omega)
    rw [decDigits_length, g5]
  obtain ⟨c, Q, hQ⟩ : ∃ c Q, decDigits (10000 + r) = c :: Q := by
    cases h : decDigits (10000 + r) with
    | nil => rw [h] at hl; simp at hl
    | cons c Q => exact ⟨c, Q, rfl⟩
  rw [hQ] at ha hv hl ⊢
  simp only [List.all_cons, Bool.and_eq_true] at ha
  have hQl : Q.length = 4 := by simpa using hl
  have hQv := dval_lt Q ha.2
  have hc := dgB_lt ha.1
  rw [dval_cons, hQl] at hv
  rw [hQl] at hQv
  have e4 : (10 : Nat) ^ 4 = 10000 := by decide
  rw [e4] at hv hQv
  have hQr : dval Q = r := by omega
  have eD : (c :: Q).drop 1 = Q := rfl
  rw [eD]
  obtain ⟨z, hz, hz0⟩ := trim_tail Q
  obtain ⟨P, hP⟩ : ∃ P, trimRightB Q 48 = P := ⟨_, rfl⟩
  rw [hP] at hz ⊢
  have hPall : P.all dgB = true := by
    have := ha.2
    rw [hz, List.all_append, Bool.and_eq_true] at this
    exact this.1
  have hlen : P.length + z.length = 4 := by rw [← List.length_append, ← hz]; exact hQl
  have hval : dval P * 10 ^ z.length = r := by
    have := dval_append P z
    rw [← hz, hz0, hQr] at this
    omega
  have hP1 : 1 ≤ P.length := by
    rcases Nat.eq_zero_or_pos P.length with e | e
    · have : P = [] := List.eq_nil_of_length_eq_zero e
      subst this
      rw [dval_nil, Nat.zero_mul] at hval
      omega
    · exact e
  refine ⟨?_, ?_⟩
  · unfold isD
    rw [hPall, decide_eq_true hP1, decide_eq_true (show P.length ≤ 18 by omega)]
    rfl
  · have e5 : (100000 : Nat) = 10 ^ z.length * 10 * 10 ^ P.length := by
      rw [Nat.mul_right_comm, ← Nat.pow_add, Nat.add_comm, hlen]
    have eV : dval P * 100000 = r * 10 * 10 ^ P.length := by
      rw [e5, ← hval, ← Nat.mul_assoc, ← Nat.mul_assoc]
    rw [eV, Nat.mul_div_cancel _ (Nat.pow_pos (by omega))]
    omega

theorem digit_ne {l : List UInt8} (h : l.all dgB = true) (k : Nat) : l[k]? ≠ some 46 := by
  intro e
  have := List.all_eq_true.1 h _ (List.mem_of_getElem? e)
  revert this
  decide

/-- The sign ahead. -/
theorem CutPrefix_sign (s : Bool) (body : List UInt8) (t : ByteArray) (ht : t.data.toList = (if s then [45] else []) ++ body) (hb : body.head? ≠ some 45) :
    ∀ w, Calls Tryz.prog 104 #[.string t, .string ⟨#[45]⟩] w fun e w' => e = .returned (.tuple #[.string ⟨body.toArray⟩, .bool s]) ∧ w' = w := by
  intro w
  have h := Tryz.strings_CutPrefix t ⟨#[45]⟩ w
  have e0 : (⟨#[45]⟩ : ByteArray).data.toList = [45] := rfl
  rw [e0, ht] at h
  have e1 : Lib.hasPrefix ((if s then [45] else []) ++ body) [45] = s := by
    cases s with
    | true => simp [Lib.hasPrefix]
    | false =>
      cases body with
      | nil => rfl
      | cons b l =>
        simp only [List.head?_cons, ne_eq, Option.some.injEq] at hb
        have : ((45 : UInt8) == b) = false := by simpa using fun e => hb (Eq.symm e)
        show ((45 : UInt8) == b && [].isPrefixOf l) = false
        rw [this]
        rfl
  have e2 : Lib.trimPrefix ((if s then [45] else []) ++ body) [45] = body := by
    unfold Lib.trimPrefix
    rw [e1]
    cases s <;> rfl
  rw [e1, e2] at h
  exact h

theorem parse_text (s : Bool) (x : Nat) (hx : x ≤ 9000000000000000000) (W P : List UInt8) (pt : Bool) (t : ByteArray) (ht : t.data.toList = (if s then [45] else []) ++ (W ++ if pt then 46 :: P else []))
    (hW : isD W = true) (hP : pt = true → isD P = true) (hP0 : pt = false → P = []) (hX : parseX W P = x) :
    ∀ w, Calls Tryz.prog 100 #[.string t] w fun e w' => e = .returned (.tuple #[.int .i64 (if s then -(x : Int) else x), .int .i64 0]) ∧ Upd w w' (fun _ => False) := by
  have hW' := hW
  simp only [isD, Bool.and_eq_true, decide_eq_true_eq] at hW'
  obtain ⟨⟨w1, w2⟩, w3⟩ := hW'
  have hPall : P.all dgB = true ∧ P.length ≤ 18 := by
    cases pt with
    | true =>
      have := hP rfl
      simp only [isD, Bool.and_eq_true, decide_eq_true_eq] at this
      exact ⟨this.2, this.1.2⟩
    | false => rw [hP0 rfl]; exact ⟨rfl, by simp⟩
  have hn1 : numE x = 0 := by unfold numE; rw [if_neg (by omega)]
  have hn2 : numV s x = (if s then -(x : Int) else x) := by unfold numV; rw [if_neg (by omega)]
  obtain ⟨body, hbd⟩ : ∃ body, W ++ (if pt then 46 :: P else []) = body := ⟨_, rfl⟩
  rw [hbd] at ht
  have hhead : body.head? ≠ some 45 := by
    cases W with
    | nil => simp at w1
    | cons b l =>
      rw [← hbd]
      simp only [List.cons_append, List.head?_cons, ne_eq, Option.some.injEq]
      intro e
      subst e
      simp only [List.all_cons, Bool.and_eq_true] at w3
      exact absurd w3.1 (by decide)
  have CP := CutPrefix_sign s body t ht hhead
  have hbl : body.length ≤ 37 := by
    rw [← hbd]
    cases pt <;> simp <;> omega
  have hbs : (⟨body.toArray⟩ : ByteArray).size = body.length := rfl
  have hbt : (⟨body.toArray⟩ : ByteArray).data.toList = body := rfl
  obtain ⟨b, hb⟩ : ∃ b, (⟨body.toArray⟩ : ByteArray) = b := ⟨_, rfl⟩
  rw [hb] at hbs hbt CP
  intro w
  rcases Cut_forms b (by omega) with ⟨hno, hC⟩ | ⟨i, hi, hi1, hi2, hC⟩
  · have hpt : pt = false := by
      cases pt with
      | false => rfl
      | true =>
        exfalso
        refine hno W.length ?_
        rw [hbt, ← hbd]
        simp
    subst hpt
    have eW : b.data.toList = W := by rw [hbt, ← hbd]; simp
    have k := Parse_ok w t b b ⟨#[]⟩ s false CP hC (by omega) (by decide) (by rw [eW]; exact hW) rfl (fun h => Bool.noConfusion h)
    rw [eW, show (⟨#[]⟩ : ByteArray).data.toList = P from (hP0 rfl).symm, hX, hn1, hn2] at k
    exact k
  · have hpt : pt = true := by
      cases pt with
      | true => rfl
      | false =>
        exfalso
        refine digit_ne w3 i ?_
        rw [← hi1, hbt, ← hbd]
        simp
    subst hpt
    have hiW : i = W.length := by
      rcases Nat.lt_trichotomy i W.length with h | h | h
      · exfalso
        refine digit_ne w3 i ?_
        rw [← hi1, hbt, ← hbd, List.getElem?_append_left h]
      · exact h
      · exfalso
        refine hi2 W.length h ?_
        rw [hbt, ← hbd]
        simp
    subst hiW
    have eW : (b.extract 0 W.length).data.toList = W := by
      rw [ByteArray.data_extract]
      have : b.data.toList = W ++ 46 :: P := by rw [hbt, ← hbd]; rfl
      simp [this]
    have eP : (b.extract (W.length + 1) b.size).data.toList = P := by
      rw [ByteArray.data_extract, hbs]
      have : b.data.toList = W ++ 46 :: P := by rw [hbt, ← hbd]; rfl
      have hl : body.length = W.length + (P.length + 1) := by rw [← hbd]; simp
      simp [this, hl]
      have e : W.length + (P.length + 1) - (W.length + 1) = P.length := by omega
      rw [e]
      simp
    have s1 : (b.extract 0 W.length).size = W.length := congrArg List.length eW
    have s2 : (b.extract (W.length + 1) b.size).size = P.length := congrArg List.length eP
    have k := Parse_ok w t b (b.extract 0 W.length) (b.extract (W.length + 1) b.size) s true CP hC (by omega) (by omega) (by rw [eW]; exact hW) (by rw [eP]; exact hPall.1) (fun _ => by rw [eP]; exact hP rfl)
    rw [eW, eP, hX, hn1, hn2] at k
    exact k

end Go.Proofs.YtdjpkkgcoainhaaGreatDoor
/- The walks of the reference's Signs, and of Show at every value, both sides. -/
set_option maxRecDepth 100000
namespace Go.Proofs.YtdjpkkgcoainhaaGreatDoor
open Go.RowKit Go.Lat Go.Lib

theorem sign_at (f : Int) (h : ¬ (1 ≤ f ∧ f ≤ 8)) : signT f = [] := by
  unfold signT okFail
  rw [if_neg]
  simp
  omega
theorem soundV_kind (x : Vl) : (soundV x).k = 0 ∨ (soundV x).k = 1 ∨ (soundV x).k = 2 ∨ (soundV x).k = 3 ∨ (soundV x).k = 4 := by
  by_cases h : (soundV x).k = 4
  · omega
  · have := soundV_plain h
    unfold plainK at this
    omega
/-- A value as a reader sees it, where tx is its number's text. -/
def showV (y : Vl) (tx : List UInt8) : List UInt8 :=
  if y.k = 0 then [] else if y.k = 1 then tx else if y.k = 2 then y.t else if y.k = 3 then (if y.b then [84, 82, 85, 69] else [70, 65, 76, 83, 69]) else signT y.f
end Go.Proofs.YtdjpkkgcoainhaaGreatDoor
/- Plain laws: blanks at both ends; a word that says true, or false, in small letters and in great ones. -/
set_option maxRecDepth 100000
namespace Go.Proofs.YtdjpkkgcoainhaaGreatDoor
open Go.RowKit Go.Lat Go.Lib

theorem trimR_cons (a : UInt8) (l : List UInt8) (c : UInt8) : trimRightB (a :: l) c = if a = c ∧ trimRightB l c = [] then [] else a :: trimRightB l c := by
  unfold trimRightB
  rw [List.reverse_cons, List.dropWhile_append]
  by_cases h : (l.reverse.dropWhile (· == c)) = []
  · rw [h]
    by_cases ha : a = c
    · simp [ha]
    · simp [ha]
  · rw [if_neg (by simpa using h), if_neg (by simp [h])]
    simp
theorem trim_swap (l : List UInt8) (c : UInt8) : trimRightB (trimLeftB l c) c = trimB l c := by
  unfold trimB
  induction l with
  | nil => rfl
  | cons a l ih =>
    by_cases ha : a = c
    · subst ha
      have e : trimLeftB (a :: l) a = trimLeftB l a := by simp [trimLeftB]
      rw [e, ih, trimR_cons]
      by_cases h : trimRightB l a = []
      · rw [if_pos ⟨rfl, h⟩, h]
      · rw [if_neg (by simp [h])]
        simp [trimLeftB]
    · have e : trimLeftB (a :: l) c = a :: l := by simp [trimLeftB, ha]
      rw [e, trimR_cons, if_neg (by simp [ha])]
      simp [trimLeftB, ha]

theorem bytes_all {p : UInt8 → Prop} (h : ∀ n : Fin 256, p (UInt8.ofNat n.val)) (c : UInt8) : p c := by
  have := h ⟨c.toNat, c.toNat_lt⟩
  simpa using this
theorem up_low (a : Fin 26) (c : UInt8) : upB c = UInt8.ofNat (65 + a.val) ↔ lowB c = UInt8.ofNat (97 + a.val) := by
  revert a
  refine bytes_all (p := fun c => ∀ a : Fin 26, upB c = UInt8.ofNat (65 + a.val) ↔ lowB c = UInt8.ofNat (97 + a.val)) ?_ c
  decide +kernel
def lTrue : List UInt8 := [116, 114, 117, 101]
def lFalse : List UInt8 := [102, 97, 108, 115, 101]
theorem upS_true (s : List UInt8) : upS s = tTrue ↔ lowS s = lTrue := by
  unfold upS lowS tTrue lTrue
  have h1 := up_low 19
  have h2 := up_low 17
  have h3 := up_low 20
  have h4 := up_low 4
  simp only [List.map_eq_cons_iff, List.map_eq_nil_iff]
  have h1 : ∀ c, upB c = 84 ↔ lowB c = 116 := h1
  have h2 : ∀ c, upB c = 82 ↔ lowB c = 114 := h2
  have h3 : ∀ c, upB c = 85 ↔ lowB c = 117 := h3
  have h4 : ∀ c, upB c = 69 ↔ lowB c = 101 := h4
  simp only [h1, h2, h3, h4]
theorem upS_false (s : List UInt8) : upS s = tFalse ↔ lowS s = lFalse := by
  unfold upS lowS tFalse lFalse
  have h1 : ∀ c, upB c = 70 ↔ lowB c = 102 := up_low 5
  have h2 : ∀ c, upB c = 65 ↔ lowB c = 97 := up_low 0
  have h3 : ∀ c, upB c = 76 ↔ lowB c = 108 := up_low 11
  have h4 : ∀ c, upB c = 83 ↔ lowB c = 115 := up_low 18
  have h5 : ∀ c, upB c = 69 ↔ lowB c = 101 := up_low 4
  simp only [List.map_eq_cons_iff, List.map_eq_nil_iff, h1, h2, h3, h4, h5]
/-- What a word says, by its small letters. -/
theorem truth_low (s : List UInt8) : truthV s = if lowS s = lTrue then (true, true) else if lowS s = lFalse then (false, true) else (false, false) := by
  unfold truthV
  simp only [upS_true, upS_false]
end Go.Proofs.YtdjpkkgcoainhaaGreatDoor
