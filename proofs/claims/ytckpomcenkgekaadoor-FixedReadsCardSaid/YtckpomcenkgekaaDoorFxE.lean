/- The walks of Mod, Floor and Whole, of the program and of the reference. -/
import Derived.Test.YtckpomcenkgekaaDoorFxD
set_option maxRecDepth 100000
namespace Go.Proofs.YtckpomcenkgekaaDoor
open Go.RowKit Go.Lat

/-- What is left by a divisor, of the divisor's sign. -/
def modN (sa sb : Bool) (x y : Nat) : Nat := if x % y = 0 ∨ sa = sb then x % y else y - x % y
def modV (sa sb : Bool) (x y : Nat) : Int := if sb then -(modN sa sb x y : Int) else modN sa sb x y

theorem Mod_bad (w : World) (a b : Int) (h : (okNum a && okNum b) = false) : Calls Tryd.prog 13 #[.int .i64 a, .int .i64 b] w fun e w' => e = .returned (.tuple #[.int .i64 0, .int .i64 5]) ∧ Upd w w' (fun _ => False) := by
  have G := fun w B k1 k2 => fixgood2_any w B a b k1 k2
  rw [h] at G
  clear h
  go_enter Tryd.func13, Tryd.ntmps13
  go_wp2_with fail
  refine Calls.mono (G _ _ (cells2 (heap_alloc_new w _)).1 (cells2 (heap_alloc_new w _)).2) ?_
  rintro e w1 ⟨rfl, rfl⟩
  go_wp2_with fail
  go_ret2
  exact ⟨rfl, (Upd.refl w _).alloc _⟩

theorem Mod_zero (w : World) (a : Int) (h : okNum a = true) : Calls Tryd.prog 13 #[.int .i64 a, .int .i64 0] w fun e w' => e = .returned (.tuple #[.int .i64 0, .int .i64 6]) ∧ Upd w w' (fun _ => False) := by
  have G := fun w B k1 k2 => fixgood2_any w B a 0 k1 k2
  rw [h, show okNum 0 = true from by decide] at G
  clear h
  go_enter Tryd.func13, Tryd.ntmps13
  go_wp2_with fail
  refine Calls.mono (G _ _ (cells2 (heap_alloc_new w _)).1 (cells2 (heap_alloc_new w _)).2) ?_
  rintro e w1 ⟨rfl, rfl⟩
  go_wp2_with fail
  go_ret2
  exact ⟨rfl, (Upd.refl w _).alloc _⟩

theorem Mod_core (w : World) (a b R : Int) (ha : okNum a = true) (hb : okNum b = true) (hb0 : b ≠ 0) (hR : a.tmod b = R) (z n m : Bool) (hz : (R != 0) = z) (hn : decide (R < 0) = n) (hm : decide (b < 0) = m) (V : Int) (hV : V = if z && (n != m) then R + b else R) (hwR : -9000000000000000000 ≤ R ∧ R ≤ 9000000000000000000) (hwV : -9000000000000000000 ≤ V ∧ V ≤ 9000000000000000000) :
    Calls Tryd.prog 13 #[.int .i64 a, .int .i64 b] w fun e w' => e = .returned (.tuple #[.int .i64 V, .int .i64 0]) ∧ Upd w w' (fun _ => False) := by
  have G := fun w B k1 k2 => fixgood2_any w B a b k1 k2
  rw [ha, hb] at G
  have e0 : (b == 0) = false := by simpa using hb0
  have w1 : IntKind.i64.wrap R = R := IntWalk.i64_in _ (by omega)
  have w2 : IntKind.i64.wrap V = V := IntWalk.i64_in _ (by omega)
  have bb := okNum_true hb
  clear ha hb hwR hwV
  cases z <;> cases n <;> cases m <;> simp only [Bool.true_and, Bool.false_and, bne_self_eq_false, Bool.false_eq_true, if_false, if_true, show (true != false) = true from rfl, show (false != true) = true from rfl] at hV
  all_goals first | subst hV | (rw [hV] at w2 ⊢ ; clear hV)
  all_goals go_enter Tryd.func13, Tryd.ntmps13
  all_goals go_wp2_with fail
  all_goals refine Calls.mono (G _ _ (cells2 (heap_alloc_new w _)).1 (cells2 (heap_alloc_new w _)).2) ?_
  all_goals rintro e w1 ⟨rfl, rfl⟩
  all_goals go_wp2_with fail
  all_goals go_ret2
  all_goals exact ⟨rfl, (Upd.refl w _).alloc _⟩

theorem tmod_signed (sa sb : Bool) (x y : Nat) : (if sa then -(x : Int) else (x : Int)).tmod (if sb then -(y : Int) else (y : Int)) = if sa then -((x % y : Nat) : Int) else ((x % y : Nat) : Int) := by
  have e : (x : Int).tmod (y : Int) = ((x % y : Nat) : Int) := rfl
  cases sa <;> cases sb <;> simp [Int.neg_tmod, Int.tmod_neg, e]
theorem tdiv_signed (sa : Bool) (x y : Nat) : (if sa then -(x : Int) else (x : Int)).tdiv (y : Int) = if sa then -((x / y : Nat) : Int) else ((x / y : Nat) : Int) := by
  have e : (x : Int).tdiv (y : Int) = ((x / y : Nat) : Int) := rfl
  cases sa <;> simp [Int.neg_tdiv, e]

theorem Mod_in (w : World) (a b : Int) (ha : okNum a = true) (hb : okNum b = true) (sa sb : Bool) (x y : Nat) (ea : a = (if sa then -(x : Int) else (x : Int))) (eb : b = (if sb then -(y : Int) else (y : Int))) (hy : 0 < y) (h0 : sa = true → 0 < x) :
    Calls Tryd.prog 13 #[.int .i64 a, .int .i64 b] w fun e w' => e = .returned (.tuple #[.int .i64 (modV sa sb x y), .int .i64 0]) ∧ Upd w w' (fun _ => False) := by
  have ba := okNum_true ha
  have bb := okNum_true hb
  have hm := Nat.mod_lt x hy
  have hmx := Nat.mod_le x y
  have hR := tmod_signed sa sb x y
  rw [← ea, ← eb] at hR
  refine Mod_core w a b _ ha hb ?_ hR _ _ _ rfl rfl rfl _ ?_ ?_ ?_
  · cases sb <;> simp at eb <;> omega
  · unfold modV modN
    generalize x % y = r at *
    by_cases hr : r = 0
    · subst hr
      cases sa <;> cases sb <;> simp at * <;> omega
    · clear hR ba bb
      cases sa <;> cases sb
      case false.false =>
        have c4 : (if r = 0 ∨ false = false then r else y - r) = r := if_pos (.inr rfl)
        rw [c4]
        simp only [Bool.false_eq_true, if_false] at eb ⊢
        have c1 : ((r : Int) != 0) = true := by simp <;> omega
        have c2 : decide ((r : Int) < 0) = false := by simp <;> omega
        have c3 : decide (b < 0) = false := by rw [eb]; simp <;> omega
        rw [c1, c2, c3]
        simp <;> omega
      case false.true =>
        have c4 : (if r = 0 ∨ false = true then r else y - r) = y - r := if_neg (by simp [hr])
        rw [c4]
        simp only [Bool.false_eq_true, if_false, if_true] at eb ⊢
        have c1 : ((r : Int) != 0) = true := by simp <;> omega
        have c2 : decide ((r : Int) < 0) = false := by simp <;> omega
        have c3 : decide (b < 0) = true := by rw [eb]; simp <;> omega
        rw [c1, c2, c3]
        simp <;> omega
      case true.false =>
        have c4 : (if r = 0 ∨ true = false then r else y - r) = y - r := if_neg (by simp [hr])
        rw [c4]
        simp only [Bool.false_eq_true, if_false, if_true] at eb ⊢
        have c1 : ((-(r : Int)) != 0) = true := by simp <;> omega
        have c2 : decide ((-(r : Int)) < 0) = true := by simp <;> omega
        have c3 : decide (b < 0) = false := by rw [eb]; simp <;> omega
        rw [c1, c2, c3]
        simp <;> omega
      case true.true =>
        have c4 : (if r = 0 ∨ true = true then r else y - r) = r := if_pos (.inr rfl)
        rw [c4]
        simp only [if_true] at eb ⊢
        have c1 : ((-(r : Int)) != 0) = true := by simp <;> omega
        have c2 : decide ((-(r : Int)) < 0) = true := by simp <;> omega
        have c3 : decide (b < 0) = true := by rw [eb]; simp <;> omega
        rw [c1, c2, c3]
        simp <;> omega
  · cases sa <;> cases sb <;> simp at * <;> omega
  · unfold modV modN
    generalize x % y = r at *
    cases sa <;> cases sb <;> simp at * <;> (first | omega | (split <;> omega))

theorem RefMod_bad (w : World) (a b : Int) (h : (okNum a && okNum b) = false) : Calls Tryd.prog 14 #[.int .i64 a, .int .i64 b] w fun e w' => e = .returned (.tuple #[.int .i64 0, .int .i64 5]) ∧ Upd w w' (fun _ => False) := by
  have G1 := fun w => RefGood_any w a
  have G2 := fun w => RefGood_any w b
  generalize okNum a = x at *
  generalize okNum b = y at *
  cases x <;> cases y <;> simp at h
  all_goals go_enter Tryd.func14, Tryd.ntmps14
  all_goals go_wp2_with fail
  all_goals refine Calls.mono (G1 _) ?_
  all_goals rintro e w1 ⟨rfl, hw⟩
  all_goals replace hw := hw.symm
  all_goals subst hw
  all_goals go_wp2_with fail
  all_goals refine Calls.mono (G2 _) ?_
  all_goals rintro e w2 ⟨rfl, hw⟩
  all_goals replace hw := hw.symm
  all_goals subst hw
  all_goals go_wp2_with fail
  all_goals go_ret2
  all_goals exact ⟨rfl, Upd.refl _ _⟩

theorem RefMod_zero (w : World) (a : Int) (h : okNum a = true) : Calls Tryd.prog 14 #[.int .i64 a, .int .i64 0] w fun e w' => e = .returned (.tuple #[.int .i64 0, .int .i64 6]) ∧ Upd w w' (fun _ => False) := by
  have G1 := fun w => RefGood_any w a
  have G2 := fun w => RefGood_any w 0
  rw [h] at G1
  rw [show okNum 0 = true from by decide] at G2
  clear h
  go_enter Tryd.func14, Tryd.ntmps14
  go_wp2_with fail
  refine Calls.mono (G1 _) ?_
  rintro e w1 ⟨rfl, hw⟩
  replace hw := hw.symm
  subst hw
  go_wp2_with fail
  refine Calls.mono (G2 _) ?_
  rintro e w2 ⟨rfl, hw⟩
  replace hw := hw.symm
  subst hw
  go_wp2_with fail
  go_ret2
  exact ⟨rfl, Upd.refl _ _⟩

set_option maxHeartbeats 3200000 in
theorem RefMod_in (w : World) (a b : Int) (ha : okNum a = true) (hb : okNum b = true) (sa sb : Bool) (x y : Nat) (ea : a = (if sa then -(x : Int) else (x : Int))) (eb : b = (if sb then -(y : Int) else (y : Int))) (hy : 0 < y) (h1 : decide (a < 0) = sa) (h2 : decide (b < 0) = sb) :
    Calls Tryd.prog 14 #[.int .i64 a, .int .i64 b] w fun e w' => e = .returned (.tuple #[.int .i64 (modV sa sb x y), .int .i64 0]) ∧ Upd w w' (fun _ => False) := by
  have G1 := fun w => RefGood_any w a
  have G2 := fun w => RefGood_any w b
  rw [ha] at G1
  rw [hb] at G2
  have ba := okNum_true ha
  have bb := okNum_true hb
  have hx9 : x ≤ 9000000000000000000 := by cases sa <;> simp at ea <;> omega
  have hy9 : y ≤ 9000000000000000000 := by cases sb <;> simp at eb <;> omega
  have hb0 : b ≠ 0 := by cases sb <;> simp at eb <;> omega
  have e0 : (b == 0) = false := by simpa using hb0
  have D1 := fun w => Digits_any w sa x (by omega)
  have D2 := fun w => Digits_any w sb y (by omega)
  rw [← ea] at D1
  rw [← eb] at D2
  have lx := dg_len x 20 (by omega)
  have ly := dg_len y 20 (by omega)
  have O := fun w v1 v2 k1 k2 => Over1_any w v1 v2 (dg x) (dg y) k1 k2 (dg_norm _) (dg_norm _) (by rw [val_dg]; exact hy) (by omega) (by omega)
  simp only [val_dg] at O
  have hm := Nat.mod_lt x hy
  have hmx := Nat.mod_le x y
  have N1 := fun w v k => Number_any w v (x % y) false k (by omega)
  have N2 := fun w v k => Number_any w v y false k (by omega)
  rw [show numV false (x % y) = ((x % y : Nat) : Int) from by unfold numV; rw [if_neg (by omega)]; rfl] at N1
  rw [show numV false y = (y : Int) from by unfold numV; rw [if_neg (by omega)]; rfl] at N2
  unfold modV modN
  generalize numE (x % y) = E1 at *
  generalize numE y = E2 at *
  generalize x / y = qt at *
  generalize x % y = r at *
  clear ea eb ha hb ba bb lx ly hb0
  have c1 : IntKind.i64.wrap ((y : Int) - (r : Int)) = (y : Int) - (r : Int) := IntWalk.i64_in _ (by omega)
  have c2 : IntKind.i64.wrap (-((y : Int) - (r : Int))) = -((y : Int) - (r : Int)) := IntWalk.i64_in _ (by omega)
  have c3 : IntKind.i64.wrap (-(r : Int)) = -(r : Int) := IntWalk.i64_in _ (by omega)
  have c4 : ((y - r : Nat) : Int) = (y : Int) - (r : Int) := by omega
  by_cases hr : r = 0
  · subst hr
    have hN : (if (0 : Nat) = 0 ∨ sa = sb then 0 else y - 0) = 0 := if_pos (.inl rfl)
    rw [hN]
    clear c4 c1 c2 c3 hx9 hy9 hm hmx hy
    cases sb with
    | false =>
      simp only [Bool.false_eq_true, if_false]
      go_enter Tryd.func14, Tryd.ntmps14
      go_wp2_with fail
      refine Calls.mono (G1 _) ?_
      rintro e w1 ⟨rfl, hw⟩
      replace hw := hw.symm
      subst hw
      go_wp2_with fail
      refine Calls.mono (G2 _) ?_
      rintro e w2 ⟨rfl, hw⟩
      replace hw := hw.symm
      subst hw
      go_wp2_with fail
      refine Calls.mono (D1 _) ?_
      rintro e w3 ⟨v3, rfl, q3, u3, -⟩
      go_wp2_with fail
      refine Calls.mono (D2 _) ?_
      rintro e w4 ⟨v4, rfl, q4, u4, -⟩
      go_wp2_with fail
      refine Calls.mono (O _ _ _ (q3.upd u4) q4) ?_
      rintro e w5 ⟨v5, v6, rfl, q5, q6, u5⟩
      go_wp2_with fail
      refine Calls.mono (N1 _ _ q6) ?_
      rintro e w6 ⟨rfl, u6⟩
      go_wp2_with fail
      go_ret2
      exact ⟨rfl, (((u3.then u4 (fun _ _ => id)).then u5 (fun _ _ => id)).then u6 (fun _ _ => id))⟩
    | true =>
      simp only [if_true]
      go_enter Tryd.func14, Tryd.ntmps14
      go_wp2_with fail
      refine Calls.mono (G1 _) ?_
      rintro e w1 ⟨rfl, hw⟩
      replace hw := hw.symm
      subst hw
      go_wp2_with fail
      refine Calls.mono (G2 _) ?_
      rintro e w2 ⟨rfl, hw⟩
      replace hw := hw.symm
      subst hw
      go_wp2_with fail
      refine Calls.mono (D1 _) ?_
      rintro e w3 ⟨v3, rfl, q3, u3, -⟩
      go_wp2_with fail
      refine Calls.mono (D2 _) ?_
      rintro e w4 ⟨v4, rfl, q4, u4, -⟩
      go_wp2_with fail
      refine Calls.mono (O _ _ _ (q3.upd u4) q4) ?_
      rintro e w5 ⟨v5, v6, rfl, q5, q6, u5⟩
      go_wp2_with fail
      refine Calls.mono (N1 _ _ q6) ?_
      rintro e w6 ⟨rfl, u6⟩
      go_wp2_with fail
      go_ret2
      exact ⟨rfl, (((u3.then u4 (fun _ _ => id)).then u5 (fun _ _ => id)).then u6 (fun _ _ => id))⟩
  · have z0 : ((r : Int) != 0) = true := by simpa using hr
    clear hx9 hy9 hm hmx hy
    cases sa <;> cases sb
    case false.false =>
      have hN : (if r = 0 ∨ false = false then r else y - r) = r := if_pos (.inr rfl)
      rw [hN]
      simp only [Bool.false_eq_true, if_false]
      go_enter Tryd.func14, Tryd.ntmps14
      go_wp2_with fail
      refine Calls.mono (G1 _) ?_
      rintro e w1 ⟨rfl, hw⟩
      replace hw := hw.symm
      subst hw
      go_wp2_with fail
      refine Calls.mono (G2 _) ?_
      rintro e w2 ⟨rfl, hw⟩
      replace hw := hw.symm
      subst hw
      go_wp2_with fail
      refine Calls.mono (D1 _) ?_
      rintro e w3 ⟨v3, rfl, q3, u3, -⟩
      go_wp2_with fail
      refine Calls.mono (D2 _) ?_
      rintro e w4 ⟨v4, rfl, q4, u4, -⟩
      go_wp2_with fail
      refine Calls.mono (O _ _ _ (q3.upd u4) q4) ?_
      rintro e w5 ⟨v5, v6, rfl, q5, q6, u5⟩
      go_wp2_with fail
      refine Calls.mono (N1 _ _ q6) ?_
      rintro e w6 ⟨rfl, u6⟩
      go_wp2_with fail
      go_ret2
      exact ⟨rfl, (((u3.then u4 (fun _ _ => id)).then u5 (fun _ _ => id)).then u6 (fun _ _ => id))⟩
    case true.true =>
      have hN : (if r = 0 ∨ true = true then r else y - r) = r := if_pos (.inr rfl)
      rw [hN]
      simp only [if_true]
      go_enter Tryd.func14, Tryd.ntmps14
      go_wp2_with fail
      refine Calls.mono (G1 _) ?_
      rintro e w1 ⟨rfl, hw⟩
      replace hw := hw.symm
      subst hw
      go_wp2_with fail
      refine Calls.mono (G2 _) ?_
      rintro e w2 ⟨rfl, hw⟩
      replace hw := hw.symm
      subst hw
      go_wp2_with fail
      refine Calls.mono (D1 _) ?_
      rintro e w3 ⟨v3, rfl, q3, u3, -⟩
      go_wp2_with fail
      refine Calls.mono (D2 _) ?_
      rintro e w4 ⟨v4, rfl, q4, u4, -⟩
      go_wp2_with fail
      refine Calls.mono (O _ _ _ (q3.upd u4) q4) ?_
      rintro e w5 ⟨v5, v6, rfl, q5, q6, u5⟩
      go_wp2_with fail
      refine Calls.mono (N1 _ _ q6) ?_
      rintro e w6 ⟨rfl, u6⟩
      go_wp2_with fail
      go_ret2
      exact ⟨rfl, (((u3.then u4 (fun _ _ => id)).then u5 (fun _ _ => id)).then u6 (fun _ _ => id))⟩
    case false.true =>
      have hN : (if r = 0 ∨ false = true then r else y - r) = y - r := if_neg (by simp [hr])
      rw [hN, c4]
      simp only [if_true]
      go_enter Tryd.func14, Tryd.ntmps14
      go_wp2_with fail
      refine Calls.mono (G1 _) ?_
      rintro e w1 ⟨rfl, hw⟩
      replace hw := hw.symm
      subst hw
      go_wp2_with fail
      refine Calls.mono (G2 _) ?_
      rintro e w2 ⟨rfl, hw⟩
      replace hw := hw.symm
      subst hw
      go_wp2_with fail
      refine Calls.mono (D1 _) ?_
      rintro e w3 ⟨v3, rfl, q3, u3, -⟩
      go_wp2_with fail
      refine Calls.mono (D2 _) ?_
      rintro e w4 ⟨v4, rfl, q4, u4, -⟩
      go_wp2_with fail
      refine Calls.mono (O _ _ _ (q3.upd u4) q4) ?_
      rintro e w5 ⟨v5, v6, rfl, q5, q6, u5⟩
      go_wp2_with fail
      refine Calls.mono (N1 _ _ q6) ?_
      rintro e w6 ⟨rfl, u6⟩
      go_wp2_with fail
      refine Calls.mono (N2 _ _ ((q4.upd u5).upd u6)) ?_
      rintro e w7 ⟨rfl, u7⟩
      go_wp2_with fail
      go_ret2
      exact ⟨rfl, ((((u3.then u4 (fun _ _ => id)).then u5 (fun _ _ => id)).then u6 (fun _ _ => id)).then u7 (fun _ _ => id))⟩
    case true.false =>
      have hN : (if r = 0 ∨ true = false then r else y - r) = y - r := if_neg (by simp [hr])
      rw [hN, c4]
      simp only [Bool.false_eq_true, if_false]
      go_enter Tryd.func14, Tryd.ntmps14
      go_wp2_with fail
      refine Calls.mono (G1 _) ?_
      rintro e w1 ⟨rfl, hw⟩
      replace hw := hw.symm
      subst hw
      go_wp2_with fail
      refine Calls.mono (G2 _) ?_
      rintro e w2 ⟨rfl, hw⟩
      replace hw := hw.symm
      subst hw
      go_wp2_with fail
      refine Calls.mono (D1 _) ?_
      rintro e w3 ⟨v3, rfl, q3, u3, -⟩
      go_wp2_with fail
      refine Calls.mono (D2 _) ?_
      rintro e w4 ⟨v4, rfl, q4, u4, -⟩
      go_wp2_with fail
      refine Calls.mono (O _ _ _ (q3.upd u4) q4) ?_
      rintro e w5 ⟨v5, v6, rfl, q5, q6, u5⟩
      go_wp2_with fail
      refine Calls.mono (N1 _ _ q6) ?_
      rintro e w6 ⟨rfl, u6⟩
      go_wp2_with fail
      refine Calls.mono (N2 _ _ ((q4.upd u5).upd u6)) ?_
      rintro e w7 ⟨rfl, u7⟩
      go_wp2_with fail
      go_ret2
      exact ⟨rfl, ((((u3.then u4 (fun _ _ => id)).then u5 (fun _ _ => id)).then u6 (fun _ _ => id)).then u7 (fun _ _ => id))⟩

/-- The program's and the reference's remainders are alike. -/
theorem Mod_both (a b : Int) : ∃ V E : Int,
    (∀ w, Calls Tryd.prog 13 #[.int .i64 a, .int .i64 b] w fun e w' => e = .returned (.tuple #[.int .i64 V, .int .i64 E]) ∧ Upd w w' (fun _ => False)) ∧
    (∀ w, Calls Tryd.prog 14 #[.int .i64 a, .int .i64 b] w fun e w' => e = .returned (.tuple #[.int .i64 V, .int .i64 E]) ∧ Upd w w' (fun _ => False)) := by
  cases h : (okNum a && okNum b) with
  | false => exact ⟨0, 5, fun w => Mod_bad w a b h, fun w => RefMod_bad w a b h⟩
  | true =>
    simp only [Bool.and_eq_true] at h
    by_cases hb0 : b = 0
    · subst hb0
      exact ⟨0, 6, fun w => Mod_zero w a h.1, fun w => RefMod_zero w a h.1⟩
    · obtain ⟨s, x, ea, h0, hs, hx⟩ := signed a
      obtain ⟨t, y, eb, k0, ht, hy⟩ := signed b
      exact ⟨_, _, fun w => Mod_in w a b h.1 h.2 s t x y ea eb (by omega) h0, fun w => RefMod_in w a b h.1 h.2 s t x y ea eb (by omega) hs ht⟩

theorem Floor_bad (w : World) (a : Int) (h : okNum a = false) : Calls Tryd.prog 29 #[.int .i64 a] w fun e w' => e = .returned (.int .i64 0) ∧ Upd w w' (fun _ => False) := by
  have G := fun w B k => fixgood_any w B a k
  rw [h] at G
  clear h
  go_enter Tryd.func29, Tryd.ntmps29
  go_wp2_with fail
  refine Calls.mono (G _ _ (cells1 (heap_alloc_new w _))) ?_
  rintro e' w1 ⟨rfl, rfl⟩
  go_wp2_with fail
  go_ret
  exact ⟨rfl, (Upd.refl w _).alloc _⟩

theorem Floor_in (w : World) (a : Int) (s : Bool) (x : Nat) (ha : okNum a = true) (ea : a = (if s then -(x : Int) else (x : Int))) (h0 : s = true → 0 < x) :
    Calls Tryd.prog 29 #[.int .i64 a] w fun e w' => e = .returned (.int .i64 (a - modV s false x 10000)) ∧ Upd w w' (fun _ => False) := by
  have G := fun w B k => fixgood_any w B a k
  rw [ha] at G
  have ba := okNum_true ha
  have hR := tmod_signed s false x 10000
  rw [← ea] at hR
  simp only [Bool.false_eq_true, if_false] at hR
  rw [show ((10000 : Nat) : Int) = 10000 from rfl] at hR
  have hm := Nat.mod_lt x (show 0 < 10000 by omega)
  have hV : modV s false x 10000 = if decide (a.tmod 10000 < 0) then a.tmod 10000 + 10000 else a.tmod 10000 := by
    rw [hR]
    unfold modV modN
    generalize x % 10000 = r at *
    by_cases hr : r = 0
    · subst hr; cases s <;> simp
    · cases s <;> simp [hr] <;> omega
  have hb : -10000 < a.tmod 10000 ∧ a.tmod 10000 < 10000 := by rw [hR]; cases s <;> simp <;> omega
  rw [hV]
  clear hV
  obtain ⟨R, hRR⟩ : ∃ R, a.tmod 10000 = R := ⟨_, rfl⟩
  rw [hRR] at hb ⊢
  clear hR hm ea h0
  by_cases hn : R < 0
  · have d1 : decide (R < 0) = true := by simpa using hn
    have w1 : IntKind.i64.wrap (R + 10000) = R + 10000 := IntWalk.i64_in _ (by omega)
    have w2 : IntKind.i64.wrap (a - (R + 10000)) = a - (R + 10000) := IntWalk.i64_in _ (by omega)
    have w3 : IntKind.i64.wrap R = R := IntWalk.i64_in _ (by omega)
    simp only [d1, if_true]
    clear hn ha
    go_enter Tryd.func29, Tryd.ntmps29
    go_wp2_with fail
    refine Calls.mono (G _ _ (cells1 (heap_alloc_new w _))) ?_
    rintro e' w1 ⟨rfl, rfl⟩
    go_wp2_with fail
    go_ret
    exact ⟨rfl, (Upd.refl w _).alloc _⟩
  · have d1 : decide (R < 0) = false := by simpa using hn
    have w2 : IntKind.i64.wrap (a - R) = a - R := IntWalk.i64_in _ (by omega)
    have w3 : IntKind.i64.wrap R = R := IntWalk.i64_in _ (by omega)
    simp only [d1, Bool.false_eq_true, if_false]
    clear hn ha
    go_enter Tryd.func29, Tryd.ntmps29
    go_wp2_with fail
    refine Calls.mono (G _ _ (cells1 (heap_alloc_new w _))) ?_
    rintro e' w1 ⟨rfl, rfl⟩
    go_wp2_with fail
    go_ret
    exact ⟨rfl, (Upd.refl w _).alloc _⟩

theorem RefFloor_bad (w : World) (a : Int) (h : okNum a = false) : Calls Tryd.prog 30 #[.int .i64 a] w fun e w' => e = .returned (.int .i64 0) ∧ Upd w w' (fun _ => False) := by
  have G := fun w => RefGood_any w a
  rw [h] at G
  clear h
  go_enter Tryd.func30, Tryd.ntmps30
  go_wp2_with fail
  refine Calls.mono (G _) ?_
  rintro e' w1 ⟨rfl, hw⟩
  replace hw := hw.symm
  subst hw
  go_wp2_with fail
  go_ret
  exact ⟨rfl, Upd.refl _ _⟩

theorem modV_bound (s : Bool) (x : Nat) : 0 ≤ modV s false x 10000 ∧ modV s false x 10000 < 10000 := by
  have hm := Nat.mod_lt x (show 0 < 10000 by omega)
  unfold modV modN
  generalize x % 10000 = r at *
  cases s <;> simp <;> (first | omega | (split <;> omega))

theorem RefFloor_in (w : World) (a : Int) (s : Bool) (x : Nat) (ha : okNum a = true) (ea : a = (if s then -(x : Int) else (x : Int))) (hs : decide (a < 0) = s) :
    Calls Tryd.prog 30 #[.int .i64 a] w fun e w' => e = .returned (.int .i64 (a - modV s false x 10000)) ∧ Upd w w' (fun _ => False) := by
  have G := fun w => RefGood_any w a
  rw [ha] at G
  have M : ∀ w, Calls Tryd.prog 14 #[.int .i64 a, .int .i64 10000] w fun e w' => e = .returned (.tuple #[.int .i64 (modV s false x 10000), .int .i64 0]) ∧ Upd w w' (fun _ => False) := fun w => RefMod_in w a 10000 ha (by decide) s false x 10000 ea rfl (by decide) hs (by decide)
  have hb := modV_bound s x
  have ba := okNum_true ha
  generalize modV s false x 10000 = V at *
  have w2 : IntKind.i64.wrap (a - V) = a - V := IntWalk.i64_in _ (by omega)
  clear ha ea hs hb ba
  go_enter Tryd.func30, Tryd.ntmps30
  go_wp2_with fail
  refine Calls.mono (G _) ?_
  rintro e' w1 ⟨rfl, hw⟩
  replace hw := hw.symm
  subst hw
  go_wp2_with fail
  refine Calls.mono (M _) ?_
  rintro e' w1 ⟨rfl, u1⟩
  go_wp2_with fail
  go_ret
  exact ⟨rfl, u1⟩

theorem Floor_both (a : Int) : ∃ V : Int,
    (∀ w, Calls Tryd.prog 29 #[.int .i64 a] w fun e w' => e = .returned (.int .i64 V) ∧ Upd w w' (fun _ => False)) ∧
    (∀ w, Calls Tryd.prog 30 #[.int .i64 a] w fun e w' => e = .returned (.int .i64 V) ∧ Upd w w' (fun _ => False)) := by
  cases h : okNum a with
  | false => exact ⟨0, fun w => Floor_bad w a h, fun w => RefFloor_bad w a h⟩
  | true =>
    obtain ⟨s, x, ea, h0, hs, hx⟩ := signed a
    exact ⟨_, fun w => Floor_in w a s x h ea h0, fun w => RefFloor_in w a s x h ea hs⟩

theorem Whole_bad (w : World) (a : Int) (h : okNum a = false) : Calls Tryd.prog 31 #[.int .i64 a] w fun e w' => e = .returned (.int .i64 0) ∧ Upd w w' (fun _ => False) := by
  have G := fun w B k => fixgood_any w B a k
  rw [h] at G
  clear h
  go_enter Tryd.func31, Tryd.ntmps31
  go_wp2_with fail
  refine Calls.mono (G _ _ (cells1 (heap_alloc_new w _))) ?_
  rintro e' w1 ⟨rfl, rfl⟩
  go_wp2_with fail
  go_ret
  exact ⟨rfl, (Upd.refl w _).alloc _⟩

theorem Whole_in (w : World) (a : Int) (s : Bool) (x : Nat) (ha : okNum a = true) (ea : a = (if s then -(x : Int) else (x : Int))) :
    Calls Tryd.prog 31 #[.int .i64 a] w fun e w' => e = .returned (.int .i64 (if s then -((x / 10000 : Nat) : Int) else ((x / 10000 : Nat) : Int))) ∧ Upd w w' (fun _ => False) := by
  have G := fun w B k => fixgood_any w B a k
  rw [ha] at G
  have ba := okNum_true ha
  have hR := tdiv_signed s x 10000
  rw [← ea, show ((10000 : Nat) : Int) = 10000 from rfl] at hR
  have hx9 : x ≤ 9000000000000000000 := by cases s <;> simp at ea <;> omega
  have hw : IntKind.i64.wrap (if s then -((x / 10000 : Nat) : Int) else ((x / 10000 : Nat) : Int)) = (if s then -((x / 10000 : Nat) : Int) else ((x / 10000 : Nat) : Int)) := IntWalk.i64_in _ (by cases s <;> simp <;> omega)
  generalize (if s then -((x / 10000 : Nat) : Int) else ((x / 10000 : Nat) : Int)) = V at *
  clear ea ha ba hx9
  go_enter Tryd.func31, Tryd.ntmps31
  go_wp2_with fail
  refine Calls.mono (G _ _ (cells1 (heap_alloc_new w _))) ?_
  rintro e' w1 ⟨rfl, rfl⟩
  go_wp2_with fail
  go_ret
  exact ⟨rfl, (Upd.refl w _).alloc _⟩

theorem RefWhole_bad (w : World) (a : Int) (h : okNum a = false) : Calls Tryd.prog 32 #[.int .i64 a] w fun e w' => e = .returned (.int .i64 0) ∧ Upd w w' (fun _ => False) := by
  have G := fun w => RefGood_any w a
  rw [h] at G
  clear h
  go_enter Tryd.func32, Tryd.ntmps32
  go_wp2_with fail
  refine Calls.mono (G _) ?_
  rintro e' w1 ⟨rfl, hw⟩
  replace hw := hw.symm
  subst hw
  go_wp2_with fail
  go_ret
  exact ⟨rfl, Upd.refl _ _⟩

theorem dg_drop (k : Nat) : ∀ n, (dg n).drop k = dg (n / 10 ^ k) := by
  induction k with
  | zero => intro n; simp
  | succ k ih =>
    intro n
    by_cases h : n = 0
    · subst h
      rw [dg_zero, Nat.zero_div, dg_zero]
      rfl
    · rw [dg_pos h, List.drop_succ_cons, ih, Nat.div_div_eq_div_mul, Nat.pow_succ, Nat.mul_comm 10]

theorem dg_from (w : World) (a : Option Addr) (p k : Nat) (l : List Nat) (h : DgAt w (.slice a l.length p) l) (hk : k ≤ l.length) :
    (p = k → DgAt w (.slice a (l.length - k) 0) (l.drop k)) ∧ (¬ p = k → DgAt w (.slice (a.map fun x => { block := x.block, off := x.off + k }) (l.length - k) (p - k)) (l.drop k)) := by
  unfold DgAt at h ⊢
  obtain ⟨hl, hr⟩ := h
  rw [Nat.mul_one] at hl
  rcases hr with ⟨he, h0⟩ | ⟨g, off, cap, cur, he, hg, hnc, hcs, htake⟩
  · have hk0 : k = 0 := by omega
    subst hk0
    simp only [Value.slice.injEq] at he
    obtain ⟨rfl, -, rfl⟩ := he
    have hx : l = [] := List.eq_nil_of_length_eq_zero h0
    subst hx
    exact ⟨fun _ => by simpa using Rw.nil w 3 1, fun e => absurd rfl e⟩
  · simp only [Value.slice.injEq] at he
    obtain ⟨rfl, -, rfl⟩ := he
    have hl2 : ((l.drop k).map fun d => (.int .i64 (d : Nat) : Value)).length = (l.length - k) * 1 := by simp
    rw [List.length_drop]
    constructor
    · intro e
      have e0 : l.length - k = 0 := by omega
      refine ⟨hl2, .inr ⟨g, off, 0, cur, rfl, hg, by omega, by omega, ?_⟩⟩
      rw [e0, List.drop_eq_nil_of_le (show l.length ≤ k by omega)]
      simp
    · intro e
      refine ⟨hl2, .inr ⟨g, off + k, p - k, cur, rfl, hg, by omega, by omega, ?_⟩⟩
      rw [List.map_drop, ← htake, List.drop_take, List.drop_drop]
      simp

theorem RefWhole_in (w : World) (a : Int) (s : Bool) (x : Nat) (ha : okNum a = true) (ea : a = (if s then -(x : Int) else (x : Int))) (hs : decide (a < 0) = s) :
    Calls Tryd.prog 32 #[.int .i64 a] w fun e w' => e = .returned (.int .i64 (if s then -((x / 10000 : Nat) : Int) else ((x / 10000 : Nat) : Int))) ∧ Upd w w' (fun _ => False) := by
  have G := fun w => RefGood_any w a
  rw [ha] at G
  have ba := okNum_true ha
  have hx9 : x ≤ 9000000000000000000 := by cases s <;> simp at ea <;> omega
  have D := fun w => Digits_any w s x (by omega)
  rw [← ea] at D
  have ll := dg_len x 20 (by omega)
  obtain ⟨i0, hi, hz0, hz1, hz2⟩ := info_parts Tryd.info3
  have N := fun w v k => Number_any w v (x / 10000) s k (by omega)
  have eV : numV s (x / 10000) = (if s then -((x / 10000 : Nat) : Int) else ((x / 10000 : Nat) : Int)) := by unfold numV; rw [if_neg (by omega)]
  rw [eV] at N
  generalize numE (x / 10000) = E at *
  have hdrop := dg_drop 4 x
  rw [show (10 : Nat) ^ 4 = 10000 from by decide] at hdrop
  have hsmall : (dg x).length ≤ 4 → (if s then -((x / 10000 : Nat) : Int) else ((x / 10000 : Nat) : Int)) = 0 := by
    intro h
    have h1 := val_lt (dg x) (dg_norm x).1
    rw [val_dg] at h1
    have h2 : 10 ^ (dg x).length ≤ 10 ^ 4 := Nat.pow_le_pow_right (by omega) h
    rw [Nat.div_eq_of_lt (by omega)]
    cases s <;> rfl
  generalize (if s then -((x / 10000 : Nat) : Int) else ((x / 10000 : Nat) : Int)) = V at *
  clear ea ha ba hx9 eV
  by_cases hl : (dg x).length ≤ 4
  · have d1 : decide ((dg x).length ≤ 4) = true := by simpa using hl
    have d2 : decide (((dg x).length : Int) ≤ 4) = true := by simp; omega
    have hV := hsmall hl
    subst hV
    clear hl hsmall hdrop N
    go_enter Tryd.func32, Tryd.ntmps32
    go_wp2_with fail
    refine Calls.mono (G _) ?_
    rintro e' w1 ⟨rfl, hw⟩
    replace hw := hw.symm
    subst hw
    go_wp2_with fail
    refine Calls.mono (D _) ?_
    rintro e' w1 ⟨v1, rfl, q1, u1, -⟩
    obtain ⟨a1, p1, rfl, -⟩ := Rw.form q1
    go_wp2_with fail
    go_ret
    exact ⟨rfl, u1⟩
  · have d1 : decide ((dg x).length ≤ 4) = false := by simpa using hl
    have d2 : decide (((dg x).length : Int) ≤ 4) = false := by simp; omega
    clear hsmall
    have hl5 : 4 ≤ (dg x).length := by omega
    have HD := hide hdrop
    have HL := hide hl5
    clear hl hl5 hdrop
    go_enter Tryd.func32, Tryd.ntmps32
    go_wp2_with fail
    refine Calls.mono (G _) ?_
    rintro e' w1 ⟨rfl, hw⟩
    replace hw := hw.symm
    subst hw
    go_wp2_with fail
    refine Calls.mono (D _) ?_
    rintro e' w1 ⟨v1, rfl, q1, u1, -⟩
    obtain ⟨a1, p1, rfl, -⟩ := Rw.form q1
    obtain ⟨s1, s2⟩ := dg_from w1 a1 p1 4 (dg x) q1 HL.out
    rw [HD.out] at s1 s2
    obtain ⟨L, hL⟩ : ∃ L, (dg x).length = L := ⟨_, rfl⟩
    have hl4 := HL.out
    rw [hL] at s1 s2 d1 d2 hl4
    have S1 := hide s1
    have S2 := hide s2
    clear s1 s2
    go_wp2_with fail
    · refine Calls.mono (N _ _ (S1.out (by assumption))) ?_
      rintro e' w2 ⟨rfl, u2⟩
      go_wp2_with fail
      go_ret
      exact ⟨rfl, u1.then u2 (fun _ _ => id)⟩
    · refine Calls.mono (N _ _ (S2.out (by assumption))) ?_
      rintro e' w2 ⟨rfl, u2⟩
      go_wp2_with fail
      go_ret
      exact ⟨rfl, u1.then u2 (fun _ _ => id)⟩

theorem Whole_both (a : Int) : ∃ V : Int,
    (∀ w, Calls Tryd.prog 31 #[.int .i64 a] w fun e w' => e = .returned (.int .i64 V) ∧ Upd w w' (fun _ => False)) ∧
    (∀ w, Calls Tryd.prog 32 #[.int .i64 a] w fun e w' => e = .returned (.int .i64 V) ∧ Upd w w' (fun _ => False)) := by
  cases h : okNum a with
  | false => exact ⟨0, fun w => Whole_bad w a h, fun w => RefWhole_bad w a h⟩
  | true =>
    obtain ⟨s, x, ea, h0, hs, hx⟩ := signed a
    exact ⟨_, fun w => Whole_in w a s x h ea, fun w => RefWhole_in w a s x h ea hs⟩
end Go.Proofs.YtckpomcenkgekaaDoor
