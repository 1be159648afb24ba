/- The walk of fixed.Parse at every text. -/
import Derived.Test.YtckpomcenkgekaaDoorPsB
set_option maxRecDepth 100000
namespace Go.Proofs.YtckpomcenkgekaaDoor
open Go.RowKit Go.Lat Go.Shelf Go.Sort Go.Lib

/-- Where a text is cut. -/
theorem Cut_forms (t : ByteArray) (hs : t.size ≤ 1000) :
    ((∀ k : Nat, t.data.toList[k]? ≠ some 46) ∧ ∀ w, Calls Tryd.prog 42 #[.string t, .string ⟨#[46]⟩] w fun e w' => e = .returned (.tuple #[.string t, .string ⟨#[]⟩, .bool false]) ∧ ∃ n, w' = w.drewN n) ∨
    ∃ i : Nat, i < t.size ∧ t.data.toList[i]? = some 46 ∧ (∀ k : Nat, k < i → t.data.toList[k]? ≠ some 46) ∧ ∀ w, Calls Tryd.prog 42 #[.string t, .string ⟨#[46]⟩] w fun e w' => e = .returned (.tuple #[.string (t.extract 0 i), .string (t.extract (i + 1) t.size), .bool true]) ∧ ∃ n, w' = w.drewN n := by
  have C := fun w => Cut_any w t 46 (by omega)
  have e0 : (⟨#[46]⟩ : ByteArray).data.toList = [46] := rfl
  have z0 : (⟨#[46]⟩ : ByteArray).size = 1 := rfl
  rcases Lib.indexB_cases t ⟨#[46]⟩ with hix | ⟨i, hix, hroom⟩
  · obtain ⟨e1, e2, e3⟩ := Lib.cutB_miss t ⟨#[46]⟩ hix
    rw [e0] at e1 e2 e3
    rw [e1, e2, e3] at C
    rw [indexB_one] at hix
    exact .inl ⟨indexByte_none hix, C⟩
  · obtain ⟨e1, e2, e3⟩ := Lib.cutB_hit t ⟨#[46]⟩ i hix
    rw [e0] at e1 e2 e3
    rw [e1, e2, e3] at C
    rw [indexB_one] at hix
    rw [z0] at hroom C
    obtain ⟨k1, k2⟩ := indexByte_some hix
    exact .inr ⟨i, by omega, k1, k2, C⟩

theorem Parse_bad (w : World) (s t whole part : ByteArray) (neg pt : Bool) (hCP : ∀ w, Calls Tryd.prog 41 #[.string s, .string ⟨#[45]⟩] w fun e w' => e = .returned (.tuple #[.string t, .bool neg]) ∧ w' = w)
    (hC : ∀ w, Calls Tryd.prog 42 #[.string t, .string ⟨#[46]⟩] w fun e w' => e = .returned (.tuple #[.string whole, .string part, .bool pt]) ∧ ∃ n, w' = w.drewN n) (hws : whole.size ≤ 1000) (hps : part.size ≤ 1000)
    (h : isD whole.data.toList = false ∨ (isD whole.data.toList = true ∧ pt = true ∧ isD part.data.toList = false)) : Calls Tryd.prog 16 #[.string s] w fun e w' => e = .returned (.tuple #[.int .i64 0, .int .i64 4]) ∧ Upd w w' (fun _ => False) := by
  have R1 := fun w => run_any w whole (by omega)
  rcases h with h | ⟨h, rfl, h2⟩
  · rw [h] at R1
    clear h
    go_enter Tryd.func16, Tryd.ntmps16
    go_wp2_with fail
    refine Calls.mono (hCP _) ?_
    rintro e w1 ⟨rfl, hw⟩
    replace hw := hw.symm
    subst hw
    go_wp2_with fail
    refine Calls.mono (hC _) ?_
    rintro e w2 ⟨rfl, n2, rfl⟩
    go_wp2_with fail
    refine Calls.mono (R1 _) ?_
    rintro e w3 ⟨rfl, u3⟩
    go_wp2_with fail
    go_ret2
    exact ⟨rfl, ((Upd.refl w _).drewN n2).then u3 (fun _ _ => id)⟩
  · have R2 := fun w => run_any w part (by omega)
    rw [h] at R1
    rw [h2] at R2
    clear h h2
    go_enter Tryd.func16, Tryd.ntmps16
    go_wp2_with fail
    refine Calls.mono (hCP _) ?_
    rintro e w1 ⟨rfl, hw⟩
    replace hw := hw.symm
    subst hw
    go_wp2_with fail
    refine Calls.mono (hC _) ?_
    rintro e w2 ⟨rfl, n2, rfl⟩
    go_wp2_with fail
    refine Calls.mono (R1 _) ?_
    rintro e w3 ⟨rfl, u3⟩
    go_wp2_with fail
    refine Calls.mono (R2 _) ?_
    rintro e w4 ⟨rfl, u4⟩
    go_wp2_with fail
    go_ret2
    exact ⟨rfl, (((Upd.refl w _).drewN n2).then u3 (fun _ _ => id)).then u4 (fun _ _ => id)⟩

/-- A text's number in parts. -/
def parseX (W P : List UInt8) : Nat := dval W * 10000 + (dval P * 100000 / 10 ^ P.length + 5) / 10

set_option maxHeartbeats 1600000 in
theorem Parse_core (w : World) (s t whole part : ByteArray) (neg pt : Bool) (hCP : ∀ w, Calls Tryd.prog 41 #[.string s, .string ⟨#[45]⟩] w fun e w' => e = .returned (.tuple #[.string t, .bool neg]) ∧ w' = w)
    (hC : ∀ w, Calls Tryd.prog 42 #[.string t, .string ⟨#[46]⟩] w fun e w' => e = .returned (.tuple #[.string whole, .string part, .bool pt]) ∧ ∃ n, w' = w.drewN n) (hps : part.size ≤ 1000)
    (four : ByteArray) (hfour : (part ++ ⟨#[48, 48, 48, 48, 48]⟩).extract 0 5 = four) (n F : Nat) (hn18 : n < 1000000000000000000) (f5 : F < 100000)
    (R1 : ∀ w, Calls Tryd.prog 43 #[.string whole] w fun e w' => e = .returned (.bool true) ∧ Upd w w' (fun _ => False))
    (P1 : ∀ w, Calls Tryd.prog 44 #[.string whole, .int .i64 10, .int .i64 64] w fun e w' => e = .returned (.tuple #[.int .u64 (n : Nat), Value.nilIface]) ∧ (w' = w ∨ w' = Lib.bytesWorld w 5 whole))
    (P2 : ∀ w, Calls Tryd.prog 44 #[.string four, .int .i64 10, .int .i64 64] w fun e w' => e = .returned (.tuple #[.int .u64 (F : Nat), Value.nilIface]) ∧ (w' = w ∨ w' = Lib.bytesWorld w 5 four))
    (hpt : pt = true → isD part.data.toList = true) : Calls Tryd.prog 16 #[.string s] w fun e w' => e = .returned (.tuple #[.int .i64 (numV neg (n * 10000 + (F + 5) / 10)), .int .i64 (numE (n * 10000 + (F + 5) / 10))]) ∧ Upd w w' (fun _ => False) := by
  have q1 : ¬ 9223372036854775807 < part.size + 5 := by omega
  obtain ⟨G, hG⟩ : ∃ G, F + 5 = G := ⟨_, rfl⟩
  obtain ⟨m, hm⟩ : ∃ m, G / 10 = m := ⟨_, rfl⟩
  have g1 : (F : Int) + 5 = (G : Int) := by omega
  have g2 : IntKind.u64.wrap (G : Int) = (G : Int) := by rw [IntKind.wrap_u64]; omega
  have g3 : (G : Int) / 10 = (m : Int) := by omega
  have g3' : (G : Int).tdiv 10 = (m : Int) := by rw [← hm]; rfl
  have g4 : IntKind.u64.wrap (m : Int) = (m : Int) := by rw [IntKind.wrap_u64]; omega
  rw [hG, hm]
  have hmb : m ≤ 10000 := by omega
  clear hG hm
  unfold numV numE
  by_cases c1 : 900000000000000 < n
  · have d1 : decide ((900000000000000 : Int) < (n : Int)) = true := by simp; omega
    have d1' : decide (900000000000000 < n) = true := by simpa using c1
    rw [if_pos (by omega), if_pos (by omega)]
    clear c1 hmb hn18 f5
    cases pt with
    | true =>
      have hp2 := hpt rfl
      have R2 := fun w => run_any w part (by omega)
      rw [hp2] at R2
      clear hp2 hpt
      go_enter Tryd.func16, Tryd.ntmps16
      go_wp2_with fail
      refine Calls.mono (hCP _) ?_
      rintro e w1 ⟨rfl, hw⟩
      replace hw := hw.symm
      subst hw
      go_wp2_with fail
      refine Calls.mono (hC _) ?_
      rintro e w2 ⟨rfl, n2, rfl⟩
      go_wp2_with fail
      refine Calls.mono (R1 _) ?_
      rintro e w3 ⟨rfl, u3⟩
      go_wp2_with fail
      refine Calls.mono (R2 _) ?_
      rintro e w4 ⟨rfl, u4⟩
      go_wp2_with fail
      refine Calls.mono (P1 _) ?_
      rintro e w5 ⟨rfl, u5⟩
      go_wp2_with fail
      refine Calls.mono (P2 _) ?_
      rintro e w6 ⟨rfl, u6⟩
      go_wp2_with fail
      go_ret2
      refine ⟨rfl, ?_⟩
      have b5 : Upd w4 w5 (fun _ => False) := by
        rcases u5 with rfl | rfl
        · exact Upd.refl _ _
        · exact Upd.of_below (Lib.bytesWorld_below _ _ _) _
      have b6 : Upd w5 w6 (fun _ => False) := by
        rcases u6 with rfl | rfl
        · exact Upd.refl _ _
        · exact Upd.of_below (Lib.bytesWorld_below _ _ _) _
      exact ((((Upd.refl w _).drewN n2).then u3 (fun _ _ => id)).then u4 (fun _ _ => id)).then (b5.then b6 (fun _ _ => id)) (fun _ _ => id)
    | false =>
      clear hpt
      go_enter Tryd.func16, Tryd.ntmps16
      go_wp2_with fail
      refine Calls.mono (hCP _) ?_
      rintro e w1 ⟨rfl, hw⟩
      replace hw := hw.symm
      subst hw
      go_wp2_with fail
      refine Calls.mono (hC _) ?_
      rintro e w2 ⟨rfl, n2, rfl⟩
      go_wp2_with fail
      refine Calls.mono (R1 _) ?_
      rintro e w3 ⟨rfl, u3⟩
      go_wp2_with fail
      refine Calls.mono (P1 _) ?_
      rintro e w5 ⟨rfl, u5⟩
      go_wp2_with fail
      refine Calls.mono (P2 _) ?_
      rintro e w6 ⟨rfl, u6⟩
      go_wp2_with fail
      go_ret2
      refine ⟨rfl, ?_⟩
      have b5 : Upd w3 w5 (fun _ => False) := by
        rcases u5 with rfl | rfl
        · exact Upd.refl _ _
        · exact Upd.of_below (Lib.bytesWorld_below _ _ _) _
      have b6 : Upd w5 w6 (fun _ => False) := by
        rcases u6 with rfl | rfl
        · exact Upd.refl _ _
        · exact Upd.of_below (Lib.bytesWorld_below _ _ _) _
      exact (((Upd.refl w _).drewN n2).then u3 (fun _ _ => id)).then (b5.then b6 (fun _ _ => id)) (fun _ _ => id)
  · have d1 : decide ((900000000000000 : Int) < (n : Int)) = false := by simp; omega
    have d1' : decide (900000000000000 < n) = false := by simpa using c1
    obtain ⟨A, hA⟩ : ∃ A, n * 10000 = A := ⟨_, rfl⟩
    obtain ⟨X, hX⟩ : ∃ X, A + m = X := ⟨_, rfl⟩
    have a1 : (n : Int) * 10000 = (A : Int) := by omega
    have a2 : IntKind.u64.wrap (A : Int) = (A : Int) := by rw [IntKind.wrap_u64]; omega
    have a3 : (A : Int) + (m : Int) = (X : Int) := by omega
    have a4 : IntKind.u64.wrap (X : Int) = (X : Int) := by rw [IntKind.wrap_u64]; omega
    rw [hA, hX]
    by_cases c2 : 9000000000000000000 < X
    · have d2 : decide ((9000000000000000000 : Int) < (X : Int)) = true := by simp; omega
      have d2' : decide (9000000000000000000 < X) = true := by simpa using c2
      rw [if_pos c2, if_pos c2]
      clear c1 c2 hmb hn18 hA hX f5
      cases pt with
      | true =>
        have hp2 := hpt rfl
        have R2 := fun w => run_any w part (by omega)
        rw [hp2] at R2
        clear hp2 hpt
        go_enter Tryd.func16, Tryd.ntmps16
        go_wp2_with fail
        refine Calls.mono (hCP _) ?_
        rintro e w1 ⟨rfl, hw⟩
        replace hw := hw.symm
        subst hw
        go_wp2_with fail
        refine Calls.mono (hC _) ?_
        rintro e w2 ⟨rfl, n2, rfl⟩
        go_wp2_with fail
        refine Calls.mono (R1 _) ?_
        rintro e w3 ⟨rfl, u3⟩
        go_wp2_with fail
        refine Calls.mono (R2 _) ?_
        rintro e w4 ⟨rfl, u4⟩
        go_wp2_with fail
        refine Calls.mono (P1 _) ?_
        rintro e w5 ⟨rfl, u5⟩
        go_wp2_with fail
        refine Calls.mono (P2 _) ?_
        rintro e w6 ⟨rfl, u6⟩
        go_wp2_with fail
        go_ret2
        refine ⟨rfl, ?_⟩
        have b5 : Upd w4 w5 (fun _ => False) := by
          rcases u5 with rfl | rfl
          · exact Upd.refl _ _
          · exact Upd.of_below (Lib.bytesWorld_below _ _ _) _
        have b6 : Upd w5 w6 (fun _ => False) := by
          rcases u6 with rfl | rfl
          · exact Upd.refl _ _
          · exact Upd.of_below (Lib.bytesWorld_below _ _ _) _
        exact ((((Upd.refl w _).drewN n2).then u3 (fun _ _ => id)).then u4 (fun _ _ => id)).then (b5.then b6 (fun _ _ => id)) (fun _ _ => id)
      | false =>
        clear hpt
        go_enter Tryd.func16, Tryd.ntmps16
        go_wp2_with fail
        refine Calls.mono (hCP _) ?_
        rintro e w1 ⟨rfl, hw⟩
        replace hw := hw.symm
        subst hw
        go_wp2_with fail
        refine Calls.mono (hC _) ?_
        rintro e w2 ⟨rfl, n2, rfl⟩
        go_wp2_with fail
        refine Calls.mono (R1 _) ?_
        rintro e w3 ⟨rfl, u3⟩
        go_wp2_with fail
        refine Calls.mono (P1 _) ?_
        rintro e w5 ⟨rfl, u5⟩
        go_wp2_with fail
        refine Calls.mono (P2 _) ?_
        rintro e w6 ⟨rfl, u6⟩
        go_wp2_with fail
        go_ret2
        refine ⟨rfl, ?_⟩
        have b5 : Upd w3 w5 (fun _ => False) := by
          rcases u5 with rfl | rfl
          · exact Upd.refl _ _
          · exact Upd.of_below (Lib.bytesWorld_below _ _ _) _
        have b6 : Upd w5 w6 (fun _ => False) := by
          rcases u6 with rfl | rfl
          · exact Upd.refl _ _
          · exact Upd.of_below (Lib.bytesWorld_below _ _ _) _
        exact (((Upd.refl w _).drewN n2).then u3 (fun _ _ => id)).then (b5.then b6 (fun _ _ => id)) (fun _ _ => id)
    · have d2 : decide ((9000000000000000000 : Int) < (X : Int)) = false := by simp; omega
      have d2' : decide (9000000000000000000 < X) = false := by simpa using c2
      have a5 : IntKind.i64.wrap (X : Int) = (X : Int) := IntWalk.i64_in _ (by omega)
      have a6 : IntKind.i64.wrap (-(X : Int)) = -(X : Int) := IntWalk.i64_in _ (by omega)
      rw [if_neg c2, if_neg c2]
      clear c1 c2 hmb hn18 hA hX f5
      cases pt with
      | true =>
        have hp2 := hpt rfl
        have R2 := fun w => run_any w part (by omega)
        rw [hp2] at R2
        clear hp2 hpt
        cases neg with
        | true =>
          go_enter Tryd.func16, Tryd.ntmps16
          go_wp2_with fail
          refine Calls.mono (hCP _) ?_
          rintro e w1 ⟨rfl, hw⟩
          replace hw := hw.symm
          subst hw
          go_wp2_with fail
          refine Calls.mono (hC _) ?_
          rintro e w2 ⟨rfl, n2, rfl⟩
          go_wp2_with fail
          refine Calls.mono (R1 _) ?_
          rintro e w3 ⟨rfl, u3⟩
          go_wp2_with fail
          refine Calls.mono (R2 _) ?_
          rintro e w4 ⟨rfl, u4⟩
          go_wp2_with fail
          refine Calls.mono (P1 _) ?_
          rintro e w5 ⟨rfl, u5⟩
          go_wp2_with fail
          refine Calls.mono (P2 _) ?_
          rintro e w6 ⟨rfl, u6⟩
          go_wp2_with fail
          go_ret2
          refine ⟨rfl, ?_⟩
          have b5 : Upd w4 w5 (fun _ => False) := by
            rcases u5 with rfl | rfl
            · exact Upd.refl _ _
            · exact Upd.of_below (Lib.bytesWorld_below _ _ _) _
          have b6 : Upd w5 w6 (fun _ => False) := by
            rcases u6 with rfl | rfl
            · exact Upd.refl _ _
            · exact Upd.of_below (Lib.bytesWorld_below _ _ _) _
          exact ((((Upd.refl w _).drewN n2).then u3 (fun _ _ => id)).then u4 (fun _ _ => id)).then (b5.then b6 (fun _ _ => id)) (fun _ _ => id)
        | false =>
          go_enter Tryd.func16, Tryd.ntmps16
          go_wp2_with fail
          refine Calls.mono (hCP _) ?_
          rintro e w1 ⟨rfl, hw⟩
          replace hw := hw.symm
          subst hw
          go_wp2_with fail
          refine Calls.mono (hC _) ?_
          rintro e w2 ⟨rfl, n2, rfl⟩
          go_wp2_with fail
          refine Calls.mono (R1 _) ?_
          rintro e w3 ⟨rfl, u3⟩
          go_wp2_with fail
          refine Calls.mono (R2 _) ?_
          rintro e w4 ⟨rfl, u4⟩
          go_wp2_with fail
          refine Calls.mono (P1 _) ?_
          rintro e w5 ⟨rfl, u5⟩
          go_wp2_with fail
          refine Calls.mono (P2 _) ?_
          rintro e w6 ⟨rfl, u6⟩
          go_wp2_with fail
          go_ret2
          refine ⟨rfl, ?_⟩
          have b5 : Upd w4 w5 (fun _ => False) := by
            rcases u5 with rfl | rfl
            · exact Upd.refl _ _
            · exact Upd.of_below (Lib.bytesWorld_below _ _ _) _
          have b6 : Upd w5 w6 (fun _ => False) := by
            rcases u6 with rfl | rfl
            · exact Upd.refl _ _
            · exact Upd.of_below (Lib.bytesWorld_below _ _ _) _
          exact ((((Upd.refl w _).drewN n2).then u3 (fun _ _ => id)).then u4 (fun _ _ => id)).then (b5.then b6 (fun _ _ => id)) (fun _ _ => id)
      | false =>
        clear hpt
        cases neg with
        | true =>
          go_enter Tryd.func16, Tryd.ntmps16
          go_wp2_with fail
          refine Calls.mono (hCP _) ?_
          rintro e w1 ⟨rfl, hw⟩
          replace hw := hw.symm
          subst hw
          go_wp2_with fail
          refine Calls.mono (hC _) ?_
          rintro e w2 ⟨rfl, n2, rfl⟩
          go_wp2_with fail
          refine Calls.mono (R1 _) ?_
          rintro e w3 ⟨rfl, u3⟩
          go_wp2_with fail
          refine Calls.mono (P1 _) ?_
          rintro e w5 ⟨rfl, u5⟩
          go_wp2_with fail
          refine Calls.mono (P2 _) ?_
          rintro e w6 ⟨rfl, u6⟩
          go_wp2_with fail
          go_ret2
          refine ⟨rfl, ?_⟩
          have b5 : Upd w3 w5 (fun _ => False) := by
            rcases u5 with rfl | rfl
            · exact Upd.refl _ _
            · exact Upd.of_below (Lib.bytesWorld_below _ _ _) _
          have b6 : Upd w5 w6 (fun _ => False) := by
            rcases u6 with rfl | rfl
            · exact Upd.refl _ _
            · exact Upd.of_below (Lib.bytesWorld_below _ _ _) _
          exact (((Upd.refl w _).drewN n2).then u3 (fun _ _ => id)).then (b5.then b6 (fun _ _ => id)) (fun _ _ => id)
        | false =>
          go_enter Tryd.func16, Tryd.ntmps16
          go_wp2_with fail
          refine Calls.mono (hCP _) ?_
          rintro e w1 ⟨rfl, hw⟩
          replace hw := hw.symm
          subst hw
          go_wp2_with fail
          refine Calls.mono (hC _) ?_
          rintro e w2 ⟨rfl, n2, rfl⟩
          go_wp2_with fail
          refine Calls.mono (R1 _) ?_
          rintro e w3 ⟨rfl, u3⟩
          go_wp2_with fail
          refine Calls.mono (P1 _) ?_
          rintro e w5 ⟨rfl, u5⟩
          go_wp2_with fail
          refine Calls.mono (P2 _) ?_
          rintro e w6 ⟨rfl, u6⟩
          go_wp2_with fail
          go_ret2
          refine ⟨rfl, ?_⟩
          have b5 : Upd w3 w5 (fun _ => False) := by
            rcases u5 with rfl | rfl
            · exact Upd.refl _ _
            · exact Upd.of_below (Lib.bytesWorld_below _ _ _) _
          have b6 : Upd w5 w6 (fun _ => False) := by
            rcases u6 with rfl | rfl
            · exact Upd.refl _ _
            · exact Upd.of_below (Lib.bytesWorld_below _ _ _) _
          exact (((Upd.refl w _).drewN n2).then u3 (fun _ _ => id)).then (b5.then b6 (fun _ _ => id)) (fun _ _ => id)

theorem Parse_ok (w : World) (s t whole part : ByteArray) (neg pt : Bool) (hCP : ∀ w, Calls Tryd.prog 41 #[.string s, .string ⟨#[45]⟩] w fun e w' => e = .returned (.tuple #[.string t, .bool neg]) ∧ w' = w)
    (hC : ∀ w, Calls Tryd.prog 42 #[.string t, .string ⟨#[46]⟩] w fun e w' => e = .returned (.tuple #[.string whole, .string part, .bool pt]) ∧ ∃ n, w' = w.drewN n) (hws : whole.size ≤ 1000) (hps : part.size ≤ 1000)
    (hw : isD whole.data.toList = true) (hpall : part.data.toList.all dgB = true) (hpt : pt = true → isD part.data.toList = true) : Calls Tryd.prog 16 #[.string s] w fun e w' => e = .returned (.tuple #[.int .i64 (numV neg (parseX whole.data.toList part.data.toList)), .int .i64 (numE (parseX whole.data.toList part.data.toList))]) ∧ Upd w w' (fun _ => False) := by
  have R1 := fun w => run_any w whole (by omega)
  rw [hw] at R1
  simp only [isD, Bool.and_eq_true, decide_eq_true_eq] at hw
  obtain ⟨⟨hw1, hw2⟩, hw3⟩ := hw
  have P1 := fun w => Tryd.strconv_ParseUint_10_at64_ok whole (by omega) (dval whole.data.toList) (parse_digits _ hw3 hw1 hw2) w
  have hfive : ((part ++ ⟨#[48, 48, 48, 48, 48]⟩).extract 0 5).data.toList = (part.data.toList ++ [48, 48, 48, 48, 48]).take 5 := by
    simp [ByteArray.data_extract, ByteArray.data_append]
    rw [List.take_append]
    rfl
  obtain ⟨f1, f2, f3⟩ := five part.data.toList hpall
  rw [← hfive] at f1 f2 f3
  obtain ⟨four, hfour⟩ : ∃ four, (part ++ ⟨#[48, 48, 48, 48, 48]⟩ : ByteArray).extract 0 5 = four := ⟨_, rfl⟩
  rw [hfour] at f1 f2 f3
  have hfs : four.size = 5 := f3
  have P2 := fun w => Tryd.strconv_ParseUint_10_at64_ok four (by omega) (dval four.data.toList) (parse_digits _ f2 (by omega) (by omega)) w
  have f5 := dval_lt _ f2
  rw [f3] at f5
  have hW := dval_lt _ hw3
  have hW18 : 10 ^ whole.data.toList.length ≤ 10 ^ 18 := Nat.pow_le_pow_right (by omega) hw2
  have k := Parse_core w s t whole part neg pt hCP hC hps four hfour _ _ (Nat.lt_of_lt_of_le hW hW18) f5 R1 P1 P2 hpt
  rw [f1] at k
  exact k
end Go.Proofs.YtckpomcenkgekaaDoor
