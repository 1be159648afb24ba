/- The walks of float.Order and of the reference's class, parts and order. -/
import Derived.Test.YtpdecbhlkblpfaaWakes
set_option maxRecDepth 100000
namespace Go.Proofs.Ytpdecbhlkblpfaa
open Go.RowKit Go.Lat

def cmpI (x y : Int) : Int := if x < y then -1 else if y < x then 1 else 0

theorem isNaN_cls (w : World) (x : Int) : Calls Try.prog 56 #[.int .i64 x] w fun e w' => e = .returned (.bool false) ∧ w' = w := by
  go_enter Try.func56, Try.ntmps56
  go_wp2_with fail
  go_ret
  exact ⟨by simp, rfl⟩
theorem isNaN_flt (w : World) (b : Nat) (x : Bool) (o1 : (FloatKind.f64.format.order b b != some Ordering.eq) = x) : Calls Try.prog 57 #[.float .f64 b] w fun e w' => e = .returned (.bool x) ∧ w' = w := by
  go_enter Try.func57, Try.ntmps57
  go_wp2_with fail
  go_ret
  exact ⟨rfl, rfl⟩

theorem Compare_cls (w : World) (x y : Int) : Calls Try.prog 45 #[.int .i64 x, .int .i64 y] w fun e w' => e = .returned (.int .i64 (cmpI x y)) ∧ w' = w := by
  have n1 := fun w => isNaN_cls w x
  have n2 := fun w => isNaN_cls w y
  unfold cmpI
  by_cases h1 : x < y
  · have d1 : decide (x < y) = true := by simpa using h1
    rw [if_pos h1]
    clear h1
    go_enter Try.func45, Try.ntmps45
    go_wp2_with fail
    refine Calls.mono (n1 _) ?_
    rintro e w1 ⟨rfl, rfl⟩
    go_wp2_with fail
    refine Calls.mono (n2 _) ?_
    rintro e w1 ⟨rfl, rfl⟩
    go_wp2_with fail
    go_ret
    exact ⟨rfl, rfl⟩
  · have d1 : decide (x < y) = false := by simpa using h1
    rw [if_neg h1]
    clear h1
    by_cases h2 : y < x
    · have d2 : decide (y < x) = true := by simpa using h2
      rw [if_pos h2]
      clear h2
      go_enter Try.func45, Try.ntmps45
      go_wp2_with fail
      refine Calls.mono (n1 _) ?_
      rintro e w1 ⟨rfl, rfl⟩
      go_wp2_with fail
      refine Calls.mono (n2 _) ?_
      rintro e w1 ⟨rfl, rfl⟩
      go_wp2_with fail
      go_ret
      exact ⟨rfl, rfl⟩
    · have d2 : decide (y < x) = false := by simpa using h2
      rw [if_neg h2]
      clear h2
      go_enter Try.func45, Try.ntmps45
      go_wp2_with fail
      refine Calls.mono (n1 _) ?_
      rintro e w1 ⟨rfl, rfl⟩
      go_wp2_with fail
      refine Calls.mono (n2 _) ?_
      rintro e w1 ⟨rfl, rfl⟩
      go_wp2_with fail
      go_ret
      exact ⟨rfl, rfl⟩

theorem Compare_gen (w : World) (b c : Nat) (xl xg : Bool) (o1 : (FloatKind.f64.format.order b b != some Ordering.eq) = false) (o2 : (FloatKind.f64.format.order c c != some Ordering.eq) = false)
    (ol : (FloatKind.f64.format.order b c == some Ordering.lt) = xl) (og : (FloatKind.f64.format.order b c == some Ordering.gt) = xg) :
    Calls Try.prog 46 #[.float .f64 b, .float .f64 c] w fun e w' => e = .returned (.int .i64 (if xl then -1 else if xg then 1 else 0)) ∧ w' = w := by
  have n1 := fun w => isNaN_flt w b _ o1
  have n2 := fun w => isNaN_flt w c _ o2
  clear o1 o2
  cases xl
  case true =>
    go_enter Try.func46, Try.ntmps46
    go_wp2_with fail
    refine Calls.mono (n1 _) ?_
    rintro e w1 ⟨rfl, rfl⟩
    go_wp2_with fail
    refine Calls.mono (n2 _) ?_
    rintro e w1 ⟨rfl, rfl⟩
    go_wp2_with fail
    go_ret
    exact ⟨rfl, rfl⟩
  case false =>
    cases xg
    case true =>
      go_enter Try.func46, Try.ntmps46
      go_wp2_with fail
      refine Calls.mono (n1 _) ?_
      rintro e w1 ⟨rfl, rfl⟩
      go_wp2_with fail
      refine Calls.mono (n2 _) ?_
      rintro e w1 ⟨rfl, rfl⟩
      go_wp2_with fail
      go_ret
      exact ⟨rfl, rfl⟩
    case false =>
      go_enter Try.func46, Try.ntmps46
      go_wp2_with fail
      refine Calls.mono (n1 _) ?_
      rintro e w1 ⟨rfl, rfl⟩
      go_wp2_with fail
      refine Calls.mono (n2 _) ?_
      rintro e w1 ⟨rfl, rfl⟩
      go_wp2_with fail
      go_ret
      exact ⟨rfl, rfl⟩

theorem Compare_flt (w : World) (b c : Nat) (hb : rng b ≤ infR) (hc : rng c ≤ infR) : Calls Try.prog 46 #[.float .f64 b, .float .f64 c] w fun e w' => e = .returned (.int .i64 (cmpI (sval b) (sval c))) ∧ w' = w := by
  have e1 : (FloatKind.f64.format.order b b != some Ordering.eq) = false := by
    change (Ieee.double.order b b != some Ordering.eq) = false
    rw [order_eq b b hb hb]
    simp only [bne, cmp_eq]
    simp
  have e2 : (FloatKind.f64.format.order c c != some Ordering.eq) = false := by
    change (Ieee.double.order c c != some Ordering.eq) = false
    rw [order_eq c c hc hc]
    simp only [bne, cmp_eq]
    simp
  have e3 : (FloatKind.f64.format.order b c == some Ordering.lt) = decide (sval b < sval c) := by
    change (Ieee.double.order b c == some Ordering.lt) = _
    rw [order_eq b c hb hc, cmp_lt]
  have e4 : (FloatKind.f64.format.order b c == some Ordering.gt) = decide (sval c < sval b) := by
    change (Ieee.double.order b c == some Ordering.gt) = _
    rw [order_eq b c hb hc, cmp_gt]
  have := Compare_gen w b c _ _ e1 e2 e3 e4
  unfold cmpI
  simpa using this

def ordV (b c : Nat) : Int := if cls b = 0 ∨ cls c = 0 then cmpI (cls c) (cls b) else if cls b = cls c then cmpI (sval b) (sval c) else cmpI (cls b) (cls c)

theorem cls_nan (b : Nat) : cls b = 0 ↔ infR < rng b := by
  unfold cls
  by_cases h : infR < rng b
  · simp [h]
  · rw [if_neg h]
    constructor
    · intro he
      split at he <;> (split at he) <;> (try split at he) <;> omega
    · intro he; exact absurd he h

theorem Order_any (w : World) (b c : Nat) (hb : b < 18446744073709551616) (hc : c < 18446744073709551616) : Calls Try.prog 24 #[.float .f64 b, .float .f64 c] w fun e w' => e = .returned (.int .i64 (ordV b c)) ∧ w' = w := by
  have h1 := fun w => Of_any w b hb
  have h2 := fun w => Of_any w c hc
  have h3 := fun x y w => Compare_cls w x y
  unfold ordV
  by_cases hn : cls b = 0 ∨ cls c = 0
  · rw [if_pos hn]
    by_cases hz : cls b = 0
    · have d1 : ((cls b : Int) == 0) = true := by simp; omega
      generalize cls b = x at *
      generalize cls c = y at *
      clear hn hz
      go_enter Try.func24, Try.ntmps24
      go_wp2_with fail
      refine Calls.mono (h1 _) ?_
      rintro e w1 ⟨rfl, rfl⟩
      go_wp2_with fail
      refine Calls.mono (h2 _) ?_
      rintro e w1 ⟨rfl, rfl⟩
      go_wp2_with fail
      refine Calls.mono (h3 _ _ _) ?_
      rintro e w1 ⟨rfl, rfl⟩
      go_wp2_with fail
      go_ret
      exact ⟨rfl, rfl⟩
    · have d1 : ((cls b : Int) == 0) = false := by simp; omega
      have d2 : ((cls c : Int) == 0) = true := by simp; omega
      generalize cls b = x at *
      generalize cls c = y at *
      clear hn hz
      go_enter Try.func24, Try.ntmps24
      go_wp2_with fail
      refine Calls.mono (h1 _) ?_
      rintro e w1 ⟨rfl, rfl⟩
      go_wp2_with fail
      refine Calls.mono (h2 _) ?_
      rintro e w1 ⟨rfl, rfl⟩
      go_wp2_with fail
      refine Calls.mono (h3 _ _ _) ?_
      rintro e w1 ⟨rfl, rfl⟩
      go_wp2_with fail
      go_ret
      exact ⟨rfl, rfl⟩
  · rw [if_neg hn]
    have n1 : rng b ≤ infR := by have := cls_nan b; omega
    have n2 : rng c ≤ infR := by have := cls_nan c; omega
    have h4 := fun w => Compare_flt w b c n1 n2
    have d1 : ((cls b : Int) == 0) = false := by simp; omega
    have d2 : ((cls c : Int) == 0) = false := by simp; omega
    by_cases he : cls b = cls c
    · have d3 : ((cls b : Int) != (cls c : Int)) = false := by simp; omega
      rw [if_pos he]
      generalize cls b = x at *
      generalize cls c = y at *
      clear hn n1 n2 he
      go_enter Try.func24, Try.ntmps24
      go_wp2_with fail
      refine Calls.mono (h1 _) ?_
      rintro e w1 ⟨rfl, rfl⟩
      go_wp2_with fail
      refine Calls.mono (h2 _) ?_
      rintro e w1 ⟨rfl, rfl⟩
      go_wp2_with fail
      refine Calls.mono (h4 _) ?_
      rintro e w1 ⟨rfl, rfl⟩
      go_wp2_with fail
      go_ret
      exact ⟨rfl, rfl⟩
    · have d3 : ((cls b : Int) != (cls c : Int)) = true := by simp; omega
      rw [if_neg he]
      generalize cls b = x at *
      generalize cls c = y at *
      clear hn n1 n2 he h4
      go_enter Try.func24, Try.ntmps24
      go_wp2_with fail
      refine Calls.mono (h1 _) ?_
      rintro e w1 ⟨rfl, rfl⟩
      go_wp2_with fail
      refine Calls.mono (h2 _) ?_
      rintro e w1 ⟨rfl, rfl⟩
      go_wp2_with fail
      refine Calls.mono (h3 _ _ _) ?_
      rintro e w1 ⟨rfl, rfl⟩
      go_wp2_with fail
      go_ret
      exact ⟨rfl, rfl⟩
end Go.Proofs.Ytpdecbhlkblpfaa
