/- Rounds of the program and of the reference agree: the other cases, and the join. -/
import Derived.Test.YtmfngdjhkpddoaaGreatDoorJ08
import Derived.Test.YtmfngdjhkpddoaaGreatDoorJ05
/- Rounds of the program and of the reference agree: the other cases, and the join. -/
set_option maxRecDepth 100000
namespace Go.Proofs.YtmfngdjhkpddoaaGreatDoor
open Go.RowKit Go.Lat

theorem Round_bad (w : World) (a p : Int) (h : okNum a = false) : Calls Tryz.prog 122 #[.int .i64 a, .int .i64 p] w fun e w' => e = .returned (.tuple #[.int .i64 0, .int .i64 5]) ∧ Upd w w' (fun _ => False) := by
  have G := fun w B k => fixgood_any w B a k
  rw [h] at G
  clear h
  go_enter Tryz.func122, Tryz.ntmps122
  go_wp2_with fail
  refine Calls.mono (G _ _ (cells1 (heap_alloc_new w _))) ?_
  rintro e' w1 ⟨rfl, rfl⟩
  go_wp2_with fail
  go_ret2
  exact ⟨rfl, (Upd.refl w _).alloc _⟩

theorem Round_arg (w : World) (a p : Int) (h : okNum a = true) (hp : p < -15 ∨ 15 < p) : Calls Tryz.prog 122 #[.int .i64 a, .int .i64 p] w fun e w' => e = .returned (.tuple #[.int .i64 0, .int .i64 2]) ∧ Upd w w' (fun _ => False) := by
  have G := fun w B k => fixgood_any w B a k
  rw [h] at G
  clear h
  by_cases h1 : p < -15
  · have d1 : decide (p < -15) = true := by simpa using h1
    clear hp h1
    go_enter Tryz.func122, Tryz.ntmps122
    go_wp2_with fail
    refine Calls.mono (G _ _ (cells1 (heap_alloc_new w _))) ?_
    rintro e' w1 ⟨rfl, rfl⟩
    go_wp2_with fail
    go_ret2
    exact ⟨rfl, (Upd.refl w _).alloc _⟩
  · have d1 : decide (p < -15) = false := by simpa using h1
    have d2 : decide (15 < p) = true := by simp; omega
    clear hp h1
    go_enter Tryz.func122, Tryz.ntmps122
    go_wp2_with fail
    refine Calls.mono (G _ _ (cells1 (heap_alloc_new w _))) ?_
    rintro e' w1 ⟨rfl, rfl⟩
    go_wp2_with fail
    go_ret2
    exact ⟨rfl, (Upd.refl w _).alloc _⟩

theorem Round_same (w : World) (a p : Int) (h : okNum a = true) (h1 : 4 ≤ p) (h2 : p ≤ 15) : Calls Tryz.prog 122 #[.int .i64 a, .int .i64 p] w fun e w' => e = .returned (.tuple #[.int .i64 a, .int .i64 0]) ∧ Upd w w' (fun _ => False) := by
  have G := fun w B k => fixgood_any w B a k
  rw [h] at G
  have d1 : decide (p < -15) = false := by simp; omega
  have d2 : decide (15 < p) = false := by simp; omega
  have d3 : decide (4 ≤ p) = true := by simp; omega
  clear h h1 h2
  go_enter Tryz.func122, Tryz.ntmps122
  go_wp2_with fail
  refine Calls.mono (G _ _ (cells1 (heap_alloc_new w _))) ?_
  rintro e' w1 ⟨rfl, rfl⟩
  go_wp2_with fail
  go_ret2
  exact ⟨rfl, (Upd.refl w _).alloc _⟩

theorem RefRound_bad (w : World) (a p : Int) (h : okNum a = false) : Calls Tryz.prog 104 #[.int .i64 a, .int .i64 p] w fun e w' => e = .returned (.tuple #[.int .i64 0, .int .i64 5]) ∧ Upd w w' (fun _ => False) := by
  have G := fun w => RefGood_any w a
  rw [h] at G
  clear h
  go_enter Tryz.func104, Tryz.ntmps104
  go_wp2_with fail
  refine Calls.mono (G _) ?_
  rintro e' w1 ⟨rfl, hw⟩
  replace hw := hw.symm
  subst hw
  go_wp2_with fail
  go_ret2
  exact ⟨rfl, Upd.refl _ _⟩

theorem RefRound_arg (w : World) (a p : Int) (h : okNum a = true) (hp : p < -15 ∨ 15 < p) : Calls Tryz.prog 104 #[.int .i64 a, .int .i64 p] w fun e w' => e = .returned (.tuple #[.int .i64 0, .int .i64 2]) ∧ Upd w w' (fun _ => False) := by
  have G := fun w => RefGood_any w a
  rw [h] at G
  clear h
  by_cases h1 : p < -15
  · have d1 : decide (p < -15) = true := by simpa using h1
    clear hp h1
    go_enter Tryz.func104, Tryz.ntmps104
    go_wp2_with fail
    refine Calls.mono (G _) ?_
    rintro e' w1 ⟨rfl, hw⟩
    replace hw := hw.symm
    subst hw
    go_wp2_with fail
    go_ret2
    exact ⟨rfl, Upd.refl _ _⟩
  · have d1 : decide (p < -15) = false := by simpa using h1
    have d2 : decide (15 < p) = true := by simp; omega
    clear hp h1
    go_enter Tryz.func104, Tryz.ntmps104
    go_wp2_with fail
    refine Calls.mono (G _) ?_
    rintro e' w1 ⟨rfl, hw⟩
    replace hw := hw.symm
    subst hw
    go_wp2_with fail
    go_ret2
    exact ⟨rfl, Upd.refl _ _⟩

theorem RefRound_same (w : World) (a p : Int) (h : okNum a = true) (h1 : 4 ≤ p) (h2 : p ≤ 15) : Calls Tryz.prog 104 #[.int .i64 a, .int .i64 p] w fun e w' => e = .returned (.tuple #[.int .i64 a, .int .i64 0]) ∧ Upd w w' (fun _ => False) := by
  have G := fun w => RefGood_any w a
  rw [h] at G
  have d1 : decide (p < -15) = false := by simp; omega
  have d2 : decide (15 < p) = false := by simp; omega
  have d3 : decide (3 < p) = true := by simp; omega
  clear h h1 h2
  go_enter Tryz.func104, Tryz.ntmps104
  go_wp2_with fail
  refine Calls.mono (G _) ?_
  rintro e' w1 ⟨rfl, hw⟩
  replace hw := hw.symm
  subst hw
  go_wp2_with fail
  go_ret2
  exact ⟨rfl, Upd.refl _ _⟩

theorem Round_in (w : World) (s : Bool) (x : Nat) (hx : x ≤ 9000000000000000000) (h0 : s = true → 0 < x) (p : Int) (hp : -15 ≤ p) (hp2 : p ≤ 3) (e : Nat) (he : (e : Int) = 4 - p) :
    Calls Tryz.prog 122 #[.int .i64 (if s then -(x : Int) else x), .int .i64 p] w fun e' w' => e' = .returned (.tuple #[.int .i64 (numV s (rnd x (10 ^ e) * 10 ^ e)), .int .i64 (numE (rnd x (10 ^ e) * 10 ^ e))]) ∧ Upd w w' (fun _ => False) := by
  unfold rnd
  by_cases h : 2 * (x % 10 ^ e) < 10 ^ e
  · rw [if_pos h, Nat.add_zero]
    exact Round_down w s x hx h0 p hp hp2 e he _ rfl h
  · rw [if_neg h]
    exact Round_up w s x hx h0 p hp hp2 e he _ rfl (by omega)

end Go.Proofs.YtmfngdjhkpddoaaGreatDoor
/- The digits of a number without the lowest. -/
set_option maxRecDepth 100000
namespace Go.Proofs.YtmfngdjhkpddoaaGreatDoor
open Go.RowKit Go.Lat

theorem dg_drop (k : Nat) : ∀ n, (dg n).drop k = dg (n / 10 ^ k) := by
  induction k with
  | zero => intro n; simp
  | succ k ih =>
    intro n
    by_cases h : n = 0
    · subst h
      rw [dg_zero, Nat.zero_div, dg_zero]
      rfl
    · rw [dg_pos h, List.drop_succ_cons, ih, Nat.div_div_eq_div_mul, Nat.pow_succ, Nat.mul_comm 10]

end Go.Proofs.YtmfngdjhkpddoaaGreatDoor
/- The walks of Mod, Floor and Whole, of the program and of the reference. -/
set_option maxRecDepth 100000
namespace Go.Proofs.YtmfngdjhkpddoaaGreatDoor
open Go.RowKit Go.Lat

/-- What is left by a divisor, of the divisor's sign. -/
def modN (sa sb : Bool) (x y : Nat) : Nat := if x % y = 0 ∨ sa = sb then x % y else y - x % y
def modV (sa sb : Bool) (x y : Nat) : Int := if sb then -(modN sa sb x y : Int) else modN sa sb x y

theorem Mod_bad (w : World) (a b : Int) (h : (okNum a && okNum b) = false) : Calls Tryz.prog 71 #[.int .i64 a, .int .i64 b] w fun e w' => e = .returned (.tuple #[.int .i64 0, .int .i64 5]) ∧ Upd w w' (fun _ => False) := by
  have G := fun w B k1 k2 => fixgood2_any w B a b k1 k2
  rw [h] at G
  clear h
  go_enter Tryz.func71, Tryz.ntmps71
  go_wp2_with fail
  refine Calls.mono (G _ _ (cells2 (heap_alloc_new w _)).1 (cells2 (heap_alloc_new w _)).2) ?_
  rintro e w1 ⟨rfl, rfl⟩
  go_wp2_with fail
  go_ret2
  exact ⟨rfl, (Upd.refl w _).alloc _⟩

theorem Mod_zero (w : World) (a : Int) (h : okNum a = true) : Calls Tryz.prog 71 #[.int .i64 a, .int .i64 0] w fun e w' => e = .returned (.tuple #[.int .i64 0, .int .i64 6]) ∧ Upd w w' (fun _ => False) := by
  have G := fun w B k1 k2 => fixgood2_any w B a 0 k1 k2
  rw [h, show okNum 0 = true from by decide] at G
  clear h
  go_enter Tryz.func71, Tryz.ntmps71
  go_wp2_with fail
  refine Calls.mono (G _ _ (cells2 (heap_alloc_new w _)).1 (cells2 (heap_alloc_new w _)).2) ?_
  rintro e w1 ⟨rfl, rfl⟩
  go_wp2_with fail
  go_ret2
  exact ⟨rfl, (Upd.refl w _).alloc _⟩

theorem Mod_core (w : World) (a b R : Int) (ha : okNum a = true) (hb : okNum b = true) (hb0 : b ≠ 0) (hR : a.tmod b = R) (z n m : Bool) (hz : (R != 0) = z) (hn : decide (R < 0) = n) (hm : decide (b < 0) = m) (V : Int) (hV : V = if z && (n != m) then R + b else R) (hwR : -9000000000000000000 ≤ R ∧ R ≤ 9000000000000000000) (hwV : -9000000000000000000 ≤ V ∧ V ≤ 9000000000000000000) :
    Calls Tryz.prog 71 #[.int .i64 a, .int .i64 b] w fun e w' => e = .returned (.tuple #[.int .i64 V, .int .i64 0]) ∧ Upd w w' (fun _ => False) := by
  have G := fun w B k1 k2 => fixgood2_any w B a b k1 k2
  rw [ha, hb] at G
  have e0 : (b == 0) = false := by simpa using hb0
  have w1 : IntKind.i64.wrap R = R := IntWalk.i64_in _ (by omega)
  have w2 : IntKind.i64.wrap V = V := IntWalk.i64_in _ (by omega)
  have bb := okNum_true hb
  clear ha hb hwR hwV
  cases z <;> cases n <;> cases m <;> simp only [Bool.true_and, Bool.false_and, bne_self_eq_false, Bool.false_eq_true, if_false, if_true, show (true != false) = true from rfl, show (false != true) = true from rfl] at hV
  all_goals first | subst hV | (rw [hV] at w2 ⊢ ; clear hV)
  all_goals go_enter Tryz.func71, Tryz.ntmps71
  all_goals go_wp2_with fail
  all_goals refine Calls.mono (G _ _ (cells2 (heap_alloc_new w _)).1 (cells2 (heap_alloc_new w _)).2) ?_
  all_goals rintro e w1 ⟨rfl, rfl⟩
  all_goals go_wp2_with fail
  all_goals go_ret2
  all_goals exact ⟨rfl, (Upd.refl w _).alloc _⟩

theorem tmod_signed (sa sb : Bool) (x y : Nat) : (if sa then -(x : Int) else (x : Int)).tmod (if sb then -(y : Int) else (y : Int)) = if sa then -((x % y : Nat) : Int) else ((x % y : Nat) : Int) := by
  have e : (x : Int).tmod (y : Int) = ((x % y : Nat) : Int) := rfl
  cases sa <;> cases sb <;> simp [Int.neg_tmod, Int.tmod_neg, e]
theorem tdiv_signed (sa : Bool) (x y : Nat) : (if sa then -(x : Int) else (x : Int)).tdiv (y : Int) = if sa then -((x / y : Nat) : Int) else ((x / y : Nat) : Int) := by
  have e : (x : Int).tdiv (y : Int) = ((x / y : Nat) : Int) := rfl
  cases sa <;> simp [Int.neg_tdiv, e]

theorem Mod_in (w : World) (a b : Int) (ha : okNum a = true) (hb : okNum b = true) (sa sb : Bool) (x y : Nat) (ea : a = (if sa then -(x : Int) else (x : Int))) (eb : b = (if sb then -(y : Int) else (y : Int))) (hy : 0 < y) (h0 : sa = true → 0 < x) :
    Calls Tryz.prog 71 #[.int .i64 a, .int .i64 b] w fun e w' => e = .returned (.tuple #[.int .i64 (modV sa sb x y), .int .i64 0]) ∧ Upd w w' (fun _ => False) := by
  have ba := okNum_true ha
  have bb := okNum_true hb
  have hm := Nat.mod_lt x hy
  have hmx := Nat.mod_le x y
  have hR := tmod_signed sa sb x y
  rw [← ea, ← eb] at hR
  refine Mod_core w a b _ ha hb ?_ hR _ _ _ rfl rfl rfl _ ?_ ?_ ?_
  · cases sb <;> simp at eb <;> omega
  · unfold modV modN
    generalize x % y = r at *
    by_cases hr : r = 0
    · subst hr
      cases sa <;> cases sb <;> simp at * <;> omega
    · clear hR ba bb
      cases sa <;> cases sb
      case false.false =>
        have c4 : (if r = 0 ∨ false = false then r else y - r) = r := if_pos (.inr rfl)
        rw [c4]
        simp only [Bool.false_eq_true, if_false] at eb ⊢
        have c1 : ((r : Int) != 0) = true := by simp <;> omega
        have c2 : decide ((r : Int) < 0) = false := by simp <;> omega
        have c3 : decide (b < 0) = false := by rw [eb]; simp <;> omega
        rw [c1, c2, c3]
        simp <;> omega
      case false.true =>
        have c4 : (if r = 0 ∨ false = true then r else y - r) = y - r := if_neg (by simp [hr])
        rw [c4]
        simp only [Bool.false_eq_true, if_false, if_true] at eb ⊢
        have c1 : ((r : Int) != 0) = true := by simp <;> omega
        have c2 : decide ((r : Int) < 0) = false := by simp <;> omega
        have c3 : decide (b < 0) = true := by rw [eb]; simp <;> omega
        rw [c1, c2, c3]
        simp <;> omega
      case true.false =>
        have c4 : (if r = 0 ∨ true = false then r else y - r) = y - r := if_neg (by simp [hr])
        rw [c4]
        simp only [Bool.false_eq_true, if_false, if_true] at eb ⊢
        have c1 : ((-(r : Int)) != 0) = true := by simp <;> omega
        have c2 : decide ((-(r : Int)) < 0) = true := by simp <;> omega
        have c3 : decide (b < 0) = false := by rw [eb]; simp <;> omega
        rw [c1, c2, c3]
        simp <;> omega
      case true.true =>
        have c4 : (if r = 0 ∨ true = true then r else y - r) = r := if_pos (.inr rfl)
        rw [c4]
        simp only [if_true] at eb ⊢
        have c1 : ((-(r : Int)) != 0) = true := by simp <;> omega
        have c2 : decide ((-(r : Int)) < 0) = true := by simp <;> omega
        have c3 : decide (b < 0) = true := by rw [eb]; simp <;> omega
        rw [c1, c2, c3]
        simp <;> omega
  · cases sa <;> cases sb <;> simp at * <;> omega
  · unfold modV modN
    generalize x % y = r at *
    cases sa <;> cases sb <;> simp at * <;> (first | omega | (split <;> omega))

theorem RefMod_bad (w : World) (a b : Int) (h : (okNum a && okNum b) = false) : Calls Tryz.prog 105 #[.int .i64 a, .int .i64 b] w fun e w' => e = .returned (.tuple #[.int .i64 0, .int .i64 5]) ∧ Upd w w' (fun _ => False) := by
  have G1 := fun w => RefGood_any w a
  have G2 := fun w => RefGood_any w b
  generalize okNum a = x at *
  generalize okNum b = y at *
  cases x <;> cases y <;> simp at h
  all_goals go_enter Tryz.func105, Tryz.ntmps105
  all_goals go_wp2_with fail
  all_goals refine Calls.mono (G1 _) ?_
  all_goals rintro e w1 ⟨rfl, hw⟩
  all_goals replace hw := hw.symm
  all_goals subst hw
  all_goals go_wp2_with fail
  all_goals refine Calls.mono (G2 _) ?_
  all_goals rintro e w2 ⟨rfl, hw⟩
  all_goals replace hw := hw.symm
  all_goals subst hw
  all_goals go_wp2_with fail
  all_goals go_ret2
  all_goals exact ⟨rfl, Upd.refl _ _⟩

theorem RefMod_zero (w : World) (a : Int) (h : okNum a = true) : Calls Tryz.prog 105 #[.int .i64 a, .int .i64 0] w fun e w' => e = .returned (.tuple #[.int .i64 0, .int .i64 6]) ∧ Upd w w' (fun _ => False) := by
  have G1 := fun w => RefGood_any w a
  have G2 := fun w => RefGood_any w 0
  rw [h] at G1
  rw [show okNum 0 = true from by decide] at G2
  clear h
  go_enter Tryz.func105, Tryz.ntmps105
  go_wp2_with fail
  refine Calls.mono (G1 _) ?_
  rintro e w1 ⟨rfl, hw⟩
  replace hw := hw.symm
  subst hw
  go_wp2_with fail
  refine Calls.mono (G2 _) ?_
  rintro e w2 ⟨rfl, hw⟩
  replace hw := hw.symm
  subst hw
  go_wp2_with fail
  go_ret2
  exact ⟨rfl, Upd.refl _ _⟩

set_option maxHeartbeats 3200000 in
theorem RefMod_in (w : World) (a b : Int) (ha : okNum a = true) (hb : okNum b = true) (sa sb : Bool) (x y : Nat) (ea : a = (if sa then -(x : Int) else (x : Int))) (eb : b = (if sb then -(y : Int) else (y : Int))) (hy : 0 < y) (h1 : decide (a < 0) = sa) (h2 : decide (b < 0) = sb) :
    Calls Tryz.prog 105 #[.int .i64 a, .int .i64 b] w fun e w' => e = .returned (.tuple #[.int .i64 (modV sa sb x y), .int .i64 0]) ∧ Upd w w' (fun _ => False) := by
  have G1 := fun w => RefGood_any w a
  have G2 := fun w => RefGood_any w b
  rw [ha] at G1
  rw [hb] at G2
  have ba := okNum_true ha
  have bb := okNum_true hb
  have hx9 : x ≤ 9000000000000000000 := by cases sa <;> simp at ea <;> omega
  have hy9 : y ≤ 9000000000000000000 := by cases sb <;> simp at eb <;> omega
  have hb0 : b ≠ 0 := by cases sb <;> simp at eb <;> omega
  have e0 : (b == 0) = false := by simpa using hb0
  have D1 := fun w => Digits_any w sa x (by omega)
  have D2 := fun w => Digits_any w sb y (by omega)
  rw [← ea] at D1
  rw [← eb] at D2
  have lx := dg_len x 20 (by omega)
  have ly := dg_len y 20 (by omega)
  have O := fun w v1 v2 k1 k2 => Over1_any w v1 v2 (dg x) (dg y) k1 k2 (dg_norm _) (dg_norm _) (by rw [val_dg]; exact hy) (by omega) (by omega)
  simp only [val_dg] at O
  have hm := Nat.mod_lt x hy
  have hmx := Nat.mod_le x y
  have N1 := fun w v k => Number_any w v (x % y) false k (by omega)
  have N2 := fun w v k => Number_any w v y false k (by omega)
  rw [show numV false (x % y) = ((x % y : Nat) : Int) from by unfold numV; rw [if_neg (by omega)]; rfl] at N1
  rw [show numV false y = (y : Int) from by unfold numV; rw [if_neg (by omega)]; rfl] at N2
  unfold modV modN
  generalize numE (x % y) = E1 at *
  generalize numE y = E2 at *
  generalize x / y = qt at *
  generalize x % y = r at *
  clear ea eb ha hb ba bb lx ly hb0
  have c1 : IntKind.i64.wrap ((y : Int) - (r : Int)) = (y : Int) - (r : Int) := IntWalk.i64_in _ (by omega)
  have c2 : IntKind.i64.wrap (-((y : Int) - (r : Int))) = -((y : Int) - (r : Int)) := IntWalk.i64_in _ (by omega)
  have c3 : IntKind.i64.wrap (-(r : Int)) = -(r : Int) := IntWalk.i64_in _ (by omega)
  have c4 : ((y - r : Nat) : Int) = (y : Int) - (r : Int) := by omega
  by_cases hr : r = 0
  · subst hr
    have hN : (if (0 : Nat) = 0 ∨ sa = sb then 0 else y - 0) = 0 := if_pos (.inl rfl)
    rw [hN]
    clear c4 c1 c2 c3 hx9 hy9 hm hmx hy
    cases sb with
    | false =>
      simp only [Bool.false_eq_true, if_false]
      go_enter Tryz.func105, Tryz.ntmps105
      go_wp2_with fail
      refine Calls.mono (G1 _) ?_
      rintro e w1 ⟨rfl, hw⟩
      replace hw := hw.symm
      subst hw
      go_wp2_with fail
      refine Calls.mono (G2 _) ?_
      rintro e w2 ⟨rfl, hw⟩
      replace hw := hw.symm
      subst hw
      go_wp2_with fail
      refine Calls.mono (D1 _) ?_
      rintro e w3 ⟨v3, rfl, q3, u3, -⟩
      go_wp2_with fail
      refine Calls.mono (D2 _) ?_
      rintro e w4 ⟨v4, rfl, q4, u4, -⟩
      go_wp2_with fail
      refine Calls.mono (O _ _ _ (q3.upd u4) q4) ?_
      rintro e w5 ⟨v5, v6, rfl, q5, q6, u5⟩
      go_wp2_with fail
      refine Calls.mono (N1 _ _ q6) ?_
      rintro e w6 ⟨rfl, u6⟩
      go_wp2_with fail
      go_ret2
      exact ⟨rfl, (((u3.then u4 (fun _ _ => id)).then u5 (fun _ _ => id)).then u6 (fun _ _ => id))⟩
    | true =>
      simp only [if_true]
      go_enter Tryz.func105, Tryz.ntmps105
      go_wp2_with fail
      refine Calls.mono (G1 _) ?_
      rintro e w1 ⟨rfl, hw⟩
      replace hw := hw.symm
      subst hw
      go_wp2_with fail
      refine Calls.mono (G2 _) ?_
      rintro e w2 ⟨rfl, hw⟩
      replace hw := hw.symm
      subst hw
      go_wp2_with fail
      refine Calls.mono (D1 _) ?_
      rintro e w3 ⟨v3, rfl, q3, u3, -⟩
      go_wp2_with fail
      refine Calls.mono (D2 _) ?_
      rintro e w4 ⟨v4, rfl, q4, u4, -⟩
      go_wp2_with fail
      refine Calls.mono (O _ _ _ (q3.upd u4) q4) ?_
      rintro e w5 ⟨v5, v6, rfl, q5, q6, u5⟩
      go_wp2_with fail
      refine Calls.mono (N1 _ _ q6) ?_
      rintro e w6 ⟨rfl, u6⟩
      go_wp2_with fail
      go_ret2
      exact ⟨rfl, (((u3.then u4 (fun _ _ => id)).then u5 (fun _ _ => id)).then u6 (fun _ _ => id))⟩
  · have z0 : ((r : Int) != 0) = true := by simpa using hr
    clear hx9 hy9 hm hmx hy
    cases sa <;> cases sb
    case false.false =>
      have hN : (if r = 0 ∨ false = false then r else y - r) = r := if_pos (.inr rfl)
      rw [hN]
      simp only [Bool.false_eq_true, if_false]
      go_enter Tryz.func105, Tryz.ntmps105
      go_wp2_with fail
      refine Calls.mono (G1 _) ?_
      rintro e w1 ⟨rfl, hw⟩
      replace hw := hw.symm
      subst hw
      go_wp2_with fail
      refine Calls.mono (G2 _) ?_
      rintro e w2 ⟨rfl, hw⟩
      replace hw := hw.symm
      subst hw
      go_wp2_with fail
      refine Calls.mono (D1 _) ?_
      rintro e w3 ⟨v3, rfl, q3, u3, -⟩
      go_wp2_with fail
      refine Calls.mono (D2 _) ?_
      rintro e w4 ⟨v4, rfl, q4, u4, -⟩
      go_wp2_with fail
      refine Calls.mono (O _ _ _ (q3.upd u4) q4) ?_
      rintro e w5 ⟨v5, v6, rfl, q5, q6, u5⟩
      go_wp2_with fail
      refine Calls.mono (N1 _ _ q6) ?_
      rintro e w6 ⟨rfl, u6⟩
      go_wp2_with fail
      go_ret2
      exact ⟨rfl, (((u3.then u4 (fun _ _ => id)).then u5 (fun _ _ => id)).then u6 (fun _ _ => id))⟩
    case true.true =>
      have hN : (if r = 0 ∨ true = true then r else y - r) = r := if_pos (.inr rfl)
      rw [hN]
      simp only [if_true]
      go_enter Tryz.func105, Tryz.ntmps105
      go_wp2_with fail
      refine Calls.mono (G1 _) ?_
      rintro e w1 ⟨rfl, hw⟩
      replace hw := hw.symm
      subst hw
      go_wp2_with fail
      refine Calls.mono (G2 _) ?_
      rintro e w2 ⟨rfl, hw⟩
      replace hw := hw.symm
      subst hw
      go_wp2_with fail
      refine Calls.mono (D1 _) ?_
      rintro e w3 ⟨v3, rfl, q3, u3, -⟩
      go_wp2_with fail
      refine Calls.mono (D2 _) ?_
      rintro e w4 ⟨v4, rfl, q4, u4, -⟩
      go_wp2_with fail
      refine Calls.mono (O _ _ _ (q3.upd u4) q4) ?_
      rintro e w5 ⟨v5, v6, rfl, q5, q6, u5⟩
      go_wp2_with fail
      refine Calls.mono (N1 _ _ q6) ?_
      rintro e w6 ⟨rfl, u6⟩
      go_wp2_with fail
      go_ret2
      exact ⟨rfl, (((u3.then u4 (fun _ _ => id)).then u5 (fun _ _ => id)).then u6 (fun _ _ => id))⟩
    case false.true =>
      have hN : (if r = 0 ∨ false = true then r else y - r) = y - r := if_neg (by simp [hr])
      rw [hN, c4]
      simp only [if_true]
      go_enter Tryz.func105, Tryz.ntmps105
      go_wp2_with fail
      refine Calls.mono (G1 _) ?_
      rintro e w1 ⟨rfl, hw⟩
      replace hw := hw.symm
      subst hw
      go_wp2_with fail
      refine Calls.mono (G2 _) ?_
      rintro e w2 ⟨rfl, hw⟩
      replace hw := hw.symm
      subst hw
      go_wp2_with fail
      refine Calls.mono (D1 _) ?_
      rintro e w3 ⟨v3, rfl, q3, u3, -⟩
      go_wp2_with fail
      refine Calls.mono (D2 _) ?_
      rintro e w4 ⟨v4, rfl, q4, u4, -⟩
      go_wp2_with fail
      refine Calls.mono (O _ _ _ (q3.upd u4) q4) ?_
      rintro e w5 ⟨v5, v6, rfl, q5, q6, u5⟩
      go_wp2_with fail
      refine Calls.mono (N1 _ _ q6) ?_
      rintro e w6 ⟨rfl, u6⟩
      go_wp2_with fail
      refine Calls.mono (N2 _ _ ((q4.upd u5).upd u6)) ?_
      rintro e w7 ⟨rfl, u7⟩
      go_wp2_with fail
      go_ret2
      exact ⟨rfl, ((((u3.then u4 (fun _ _ => id)).then u5 (fun _ _ => id)).then u6 (fun _ _ => id)).then u7 (fun _ _ => id))⟩
    case true.false =>
      have hN : (if r = 0 ∨ true = false then r else y - r) = y - r := if_neg (by simp [hr])
      rw [hN, c4]
      simp only [Bool.false_eq_true, if_false]
      go_enter Tryz.func105, Tryz.ntmps105
      go_wp2_with fail
      refine Calls.mono (G1 _) ?_
      rintro e w1 ⟨rfl, hw⟩
      replace hw := hw.symm
      subst hw
      go_wp2_with fail
      refine Calls.mono (G2 _) ?_
      rintro e w2 ⟨rfl, hw⟩
      replace hw := hw.symm
      subst hw
      go_wp2_with fail
      refine Calls.mono (D1 _) ?_
      rintro e w3 ⟨v3, rfl, q3, u3, -⟩
      go_wp2_with fail
      refine Calls.mono (D2 _) ?_
      rintro e w4 ⟨v4, rfl, q4, u4, -⟩
      go_wp2_with fail
      refine Calls.mono (O _ _ _ (q3.upd u4) q4) ?_
      rintro e w5 ⟨v5, v6, rfl, q5, q6, u5⟩
      go_wp2_with fail
      refine Calls.mono (N1 _ _ q6) ?_
      rintro e w6 ⟨rfl, u6⟩
      go_wp2_with fail
      refine Calls.mono (N2 _ _ ((q4.upd u5).upd u6)) ?_
      rintro e w7 ⟨rfl, u7⟩
      go_wp2_with fail
      go_ret2
      exact ⟨rfl, ((((u3.then u4 (fun _ _ => id)).then u5 (fun _ _ => id)).then u6 (fun _ _ => id)).then u7 (fun _ _ => id))⟩

theorem Floor_bad (w : World) (a : Int) (h : okNum a = false) : Calls Tryz.prog 64 #[.int .i64 a] w fun e w' => e = .returned (.int .i64 0) ∧ Upd w w' (fun _ => False) := by
  have G := fun w B k => fixgood_any w B a k
  rw [h] at G
  clear h
  go_enter Tryz.func64, Tryz.ntmps64
  go_wp2_with fail
  refine Calls.mono (G _ _ (cells1 (heap_alloc_new w _))) ?_
  rintro e' w1 ⟨rfl, rfl⟩
  go_wp2_with fail
  go_ret
  exact ⟨rfl, (Upd.refl w _).alloc _⟩

theorem Floor_in (w : World) (a : Int) (s : Bool) (x : Nat) (ha : okNum a = true) (ea : a = (if s then -(x : Int) else (x : Int))) (h0 : s = true → 0 < x) :
    Calls Tryz.prog 64 #[.int .i64 a] w fun e w' => e = .returned (.int .i64 (a - modV s false x 10000)) ∧ Upd w w' (fun _ => False) := by
  have G := fun w B k => fixgood_any w B a k
  rw [ha] at G
  have ba := okNum_true ha
  have hR := tmod_signed s false x 10000
  rw [← ea] at hR
  simp only [Bool.false_eq_true, if_false] at hR
  rw [show ((10000 : Nat) : Int) = 10000 from rfl] at hR
  have hm := Nat.mod_lt x (show 0 < 10000 by omega)
  have hV : modV s false x 10000 = if decide (a.tmod 10000 < 0) then a.tmod 10000 + 10000 else a.tmod 10000 := by
    rw [hR]
    unfold modV modN
    generalize x % 10000 = r at *
    by_cases hr : r = 0
    · subst hr; cases s <;> simp
    · cases s <;> simp [hr] <;> omega
  have hb : -10000 < a.tmod 10000 ∧ a.tmod 10000 < 10000 := by rw [hR]; cases s <;> simp <;> omega
  rw [hV]
  clear hV
  obtain ⟨R, hRR⟩ : ∃ R, a.tmod 10000 = R := ⟨_, rfl⟩
  rw [hRR] at hb ⊢
  clear hR hm ea h0
  by_cases hn : R < 0
  · have d1 : decide (R < 0) = true := by simpa using hn
    have w1 : IntKind.i64.wrap (R + 10000) = R + 10000 := IntWalk.i64_in _ (by omega)
    have w2 : IntKind.i64.wrap (a - (R + 10000)) = a - (R + 10000) := IntWalk.i64_in _ (by omega)
    have w3 : IntKind.i64.wrap R = R := IntWalk.i64_in _ (by omega)
    simp only [d1, if_true]
    clear hn ha
    go_enter Tryz.func64, Tryz.ntmps64
    go_wp2_with fail
    refine Calls.mono (G _ _ (cells1 (heap_alloc_new w _))) ?_
    rintro e' w1 ⟨rfl, rfl⟩
    go_wp2_with fail
    go_ret
    exact ⟨rfl, (Upd.refl w _).alloc _⟩
  · have d1 : decide (R < 0) = false := by simpa using hn
    have w2 : IntKind.i64.wrap (a - R) = a - R := IntWalk.i64_in _ (by omega)
    have w3 : IntKind.i64.wrap R = R := IntWalk.i64_in _ (by omega)
    simp only [d1, Bool.false_eq_true, if_false]
    clear hn ha
    go_enter Tryz.func64, Tryz.ntmps64
    go_wp2_with fail
    refine Calls.mono (G _ _ (cells1 (heap_alloc_new w _))) ?_
    rintro e' w1 ⟨rfl, rfl⟩
    go_wp2_with fail
    go_ret
    exact ⟨rfl, (Upd.refl w _).alloc _⟩

theorem RefFloor_bad (w : World) (a : Int) (h : okNum a = false) : Calls Tryz.prog 101 #[.int .i64 a] w fun e w' => e = .returned (.int .i64 0) ∧ Upd w w' (fun _ => False) := by
  have G := fun w => RefGood_any w a
  rw [h] at G
  clear h
  go_enter Tryz.func101, Tryz.ntmps101
  go_wp2_with fail
  refine Calls.mono (G _) ?_
  rintro e' w1 ⟨rfl, hw⟩
  replace hw := hw.symm
  subst hw
  go_wp2_with fail
  go_ret
  exact ⟨rfl, Upd.refl _ _⟩

theorem modV_bound (s : Bool) (x : Nat) : 0 ≤ modV s false x 10000 ∧ modV s false x 10000 < 10000 := by
  have hm := Nat.mod_lt x (show 0 < 10000 by omega)
  unfold modV modN
  generalize x % 10000 = r at *
  cases s <;> simp <;> (first | omega | (split <;> omega))

theorem RefFloor_in (w : World) (a : Int) (s : Bool) (x : Nat) (ha : okNum a = true) (ea : a = (if s then -(x : Int) else (x : Int))) (hs : decide (a < 0) = s) :
    Calls Tryz.prog 101 #[.int .i64 a] w fun e w' => e = .returned (.int .i64 (a - modV s false x 10000)) ∧ Upd w w' (fun _ => False) := by
  have G := fun w => RefGood_any w a
  rw [ha] at G
  have M : ∀ w, Calls Tryz.prog 105 #[.int .i64 a, .int .i64 10000] w fun e w' => e = .returned (.tuple #[.int .i64 (modV s false x 10000), .int .i64 0]) ∧ Upd w w' (fun _ => False) := fun w => RefMod_in w a 10000 ha (by decide) s false x 10000 ea rfl (by decide) hs (by decide)
  have hb := modV_bound s x
  have ba := okNum_true ha
  generalize modV s false x 10000 = V at *
  have w2 : IntKind.i64.wrap (a - V) = a - V := IntWalk.i64_in _ (by omega)
  clear ha ea hs hb ba
  go_enter Tryz.func101, Tryz.ntmps101
  go_wp2_with fail
  refine Calls.mono (G _) ?_
  rintro e' w1 ⟨rfl, hw⟩
  replace hw := hw.symm
  subst hw
  go_wp2_with fail
  refine Calls.mono (M _) ?_
  rintro e' w1 ⟨rfl, u1⟩
  go_wp2_with fail
  go_ret
  exact ⟨rfl, u1⟩

theorem Whole_bad (w : World) (a : Int) (h : okNum a = false) : Calls Tryz.prog 66 #[.int .i64 a] w fun e w' => e = .returned (.int .i64 0) ∧ Upd w w' (fun _ => False) := by
  have G := fun w B k => fixgood_any w B a k
  rw [h] at G
  clear h
  go_enter Tryz.func66, Tryz.ntmps66
  go_wp2_with fail
  refine Calls.mono (G _ _ (cells1 (heap_alloc_new w _))) ?_
  rintro e' w1 ⟨rfl, rfl⟩
  go_wp2_with fail
  go_ret
  exact ⟨rfl, (Upd.refl w _).alloc _⟩

theorem Whole_in (w : World) (a : Int) (s : Bool) (x : Nat) (ha : okNum a = true) (ea : a = (if s then -(x : Int) else (x : Int))) :
    Calls Tryz.prog 66 #[.int .i64 a] w fun e w' => e = .returned (.int .i64 (if s then -((x / 10000 : Nat) : Int) else ((x / 10000 : Nat) : Int))) ∧ Upd w w' (fun _ => False) := by
  have G := fun w B k => fixgood_any w B a k
  rw [ha] at G
  have ba := okNum_true ha
  have hR := tdiv_signed s x 10000
  rw [← ea, show ((10000 : Nat) : Int) = 10000 from rfl] at hR
  have hx9 : x ≤ 9000000000000000000 := by cases s <;> simp at ea <;> omega
  have hw : IntKind.i64.wrap (if s then -((x / 10000 : Nat) : Int) else ((x / 10000 : Nat) : Int)) = (if s then -((x / 10000 : Nat) : Int) else ((x / 10000 : Nat) : Int)) := IntWalk.i64_in _ (by cases s <;> simp <;> omega)
  generalize (if s then -((x / 10000 : Nat) : Int) else ((x / 10000 : Nat) : Int)) = V at *
  clear ea ha ba hx9
  go_enter Tryz.func66, Tryz.ntmps66
  go_wp2_with fail
  refine Calls.mono (G _ _ (cells1 (heap_alloc_new w _))) ?_
  rintro e' w1 ⟨rfl, rfl⟩
  go_wp2_with fail
  go_ret
  exact ⟨rfl, (Upd.refl w _).alloc _⟩

end Go.Proofs.YtmfngdjhkpddoaaGreatDoor
