/- The walk of wakes: what the document fixes of package fixed. -/
import Derived.Test.YtckpomcenkgekaaDoorPar
set_option maxRecDepth 100000
namespace Go.Proofs.YtckpomcenkgekaaDoor
open Go.RowKit Go.Lat Go.Shelf Go.Sort Go.Lib

theorem Div64_low (w : World) (x y : Nat) (hx : x < 18446744073709551616) (hy0 : 0 < y) (hy : y < 18446744073709551616) : Calls Tryd.prog 53 #[.int .u64 0, .int .u64 x, .int .u64 y] w fun e w' =>
    e = .returned (.tuple #[.int .u64 ((x / y : Nat) : Int), .int .u64 ((x % y : Nat) : Int)]) ∧ ∃ n, w' = w.drewN n := by
  have mixed := Tryd.lays219.mixed
  have hq := Nat.div_le_self x y
  have hw : IntKind.u64.wrap ((x / y : Nat) : Int) = ((x / y : Nat) : Int) := by
    generalize x / y = q at *
    rw [IntKind.wrap_u64]
    omega
  have d1 : ((y : Int) == 0) = false := by simp; omega
  have d1' : (y == 0) = false := by simp; omega
  have d2 : decide ((y : Int) ≤ 0) = false := by simp; omega
  have d2' : decide (y ≤ 0) = false := by simp; omega
  have e0 : ¬ (y : Int) = 0 := by omega
  have e0' : ¬ y = 0 := by omega
  have e1 : (x : Int) / (y : Int) = ((x / y : Nat) : Int) := rfl
  have e2 : (x : Int) % (y : Int) = ((x % y : Nat) : Int) := rfl
  have e3 : (x : Int).tdiv (y : Int) = ((x / y : Nat) : Int) := rfl
  have e4 : (x : Int).tmod (y : Int) = ((x % y : Nat) : Int) := rfl
  generalize x / y = q at *
  generalize x % y = r at *
  go_enter Tryd.func53, Tryd.ntmps53
  go_wp2_with fail
  go_region_o
  go_wp2_with fail
  go_ret2
  exact ⟨rfl, 1, rfl⟩

theorem ratio_one (w : World) : Calls Tryd.prog 35 #[.int .u64 15000, .int .u64 15000, .int .u64 10000, .bool false] w fun e w' => e = .returned (.tuple #[.int .i64 22500, .int .i64 0]) ∧ Upd w w' (fun _ => False) := by
  have hM : ∀ w, Calls Tryd.prog 52 #[.int .u64 15000, .int .u64 15000] w fun e w' => e = .returned (.tuple #[.int .u64 0, .int .u64 225000000]) ∧ w' = w := fun w => Tryd.bits_Mul64 15000 15000 (by decide) (by decide) w
  have hD : ∀ w, Calls Tryd.prog 53 #[.int .u64 0, .int .u64 225000000, .int .u64 10000] w fun e w' => e = .returned (.tuple #[.int .u64 22500, .int .u64 0]) ∧ ∃ n, w' = w.drewN n := fun w => Div64_low w 225000000 10000 (by decide) (by decide) (by decide)
  go_enter Tryd.func35, Tryd.ntmps35
  go_wp2_with fail
  refine Calls.mono (hM _) ?_
  rintro e w1 ⟨rfl, rfl⟩
  go_wp2_with fail
  refine Calls.mono (hD _) ?_
  rintro e w2 ⟨rfl, n, rfl⟩
  go_wp2_with fail
  go_ret2
  exact ⟨rfl, (Upd.refl _ _).drewN n⟩

theorem ratio_two (w : World) : Calls Tryd.prog 35 #[.int .u64 20000, .int .u64 10000, .int .u64 30000, .bool false] w fun e w' => e = .returned (.tuple #[.int .i64 6667, .int .i64 0]) ∧ Upd w w' (fun _ => False) := by
  have hM : ∀ w, Calls Tryd.prog 52 #[.int .u64 20000, .int .u64 10000] w fun e w' => e = .returned (.tuple #[.int .u64 0, .int .u64 200000000]) ∧ w' = w := fun w => Tryd.bits_Mul64 20000 10000 (by decide) (by decide) w
  have hD : ∀ w, Calls Tryd.prog 53 #[.int .u64 0, .int .u64 200000000, .int .u64 30000] w fun e w' => e = .returned (.tuple #[.int .u64 6666, .int .u64 20000]) ∧ ∃ n, w' = w.drewN n := fun w => Div64_low w 200000000 30000 (by decide) (by decide) (by decide)
  go_enter Tryd.func35, Tryd.ntmps35
  go_wp2_with fail
  refine Calls.mono (hM _) ?_
  rintro e w1 ⟨rfl, rfl⟩
  go_wp2_with fail
  refine Calls.mono (hD _) ?_
  rintro e w2 ⟨rfl, n, rfl⟩
  go_wp2_with fail
  go_ret2
  exact ⟨rfl, (Upd.refl _ _).drewN n⟩

theorem Mul_one (w : World) : Calls Tryd.prog 9 #[.int .i64 15000, .int .i64 15000] w fun e w' => e = .returned (.tuple #[.int .i64 22500, .int .i64 0]) ∧ Upd w w' (fun _ => False) := by
  have hg : ∀ w B, w.cell? ⟨B, 0, none⟩ = some (.int .i64 15000) → w.cell? ⟨B, 1, none⟩ = some (.int .i64 15000) → Calls Tryd.prog 33 #[.slice (some ⟨B, 0, none⟩) 2 2] w fun e w' => e = .returned (.bool true) ∧ w' = w := fun w B h1 h2 => fixgood2_any w B _ _ h1 h2
  have hS : ∀ w, Calls Tryd.prog 34 #[.int .i64 15000] w fun e w' => e = .returned (.tuple #[.int .u64 15000, .bool false]) ∧ w' = w := fun w => size_any w false 15000 (by decide) (by simp)
  go_enter Tryd.func9, Tryd.ntmps9
  go_wp2_with fail
  refine Calls.mono (hg _ _ (cells2 (heap_alloc_new w _)).1 (cells2 (heap_alloc_new w _)).2) ?_
  rintro e w1 ⟨rfl, rfl⟩
  go_wp2_with fail
  refine Calls.mono (hS _) ?_
  rintro e w2 ⟨rfl, rfl⟩
  go_wp2_with fail
  refine Calls.mono (hS _) ?_
  rintro e w3 ⟨rfl, rfl⟩
  go_wp2_with fail
  refine Calls.mono (ratio_one _) ?_
  rintro e w4 ⟨rfl, u4⟩
  go_wp2_with fail
  go_ret2
  exact ⟨rfl, ((Upd.refl w _).alloc _).then u4 (fun _ _ => id)⟩

theorem Div_one (w : World) : Calls Tryd.prog 11 #[.int .i64 20000, .int .i64 30000] w fun e w' => e = .returned (.tuple #[.int .i64 6667, .int .i64 0]) ∧ Upd w w' (fun _ => False) := by
  have hg : ∀ w B, w.cell? ⟨B, 0, none⟩ = some (.int .i64 20000) → w.cell? ⟨B, 1, none⟩ = some (.int .i64 30000) → Calls Tryd.prog 33 #[.slice (some ⟨B, 0, none⟩) 2 2] w fun e w' => e = .returned (.bool true) ∧ w' = w := fun w B h1 h2 => fixgood2_any w B _ _ h1 h2
  have hS : ∀ w, Calls Tryd.prog 34 #[.int .i64 20000] w fun e w' => e = .returned (.tuple #[.int .u64 20000, .bool false]) ∧ w' = w := fun w => size_any w false 20000 (by decide) (by simp)
  have hS2 : ∀ w, Calls Tryd.prog 34 #[.int .i64 30000] w fun e w' => e = .returned (.tuple #[.int .u64 30000, .bool false]) ∧ w' = w := fun w => size_any w false 30000 (by decide) (by simp)
  go_enter Tryd.func11, Tryd.ntmps11
  go_wp2_with fail
  refine Calls.mono (hg _ _ (cells2 (heap_alloc_new w _)).1 (cells2 (heap_alloc_new w _)).2) ?_
  rintro e w1 ⟨rfl, rfl⟩
  go_wp2_with fail
  refine Calls.mono (hS _) ?_
  rintro e w2 ⟨rfl, rfl⟩
  go_wp2_with fail
  refine Calls.mono (hS2 _) ?_
  rintro e w3 ⟨rfl, rfl⟩
  go_wp2_with fail
  refine Calls.mono (ratio_two _) ?_
  rintro e w4 ⟨rfl, u4⟩
  go_wp2_with fail
  go_ret2
  exact ⟨rfl, ((Upd.refl w _).alloc _).then u4 (fun _ _ => id)⟩

theorem Mod_one (w : World) : Calls Tryd.prog 13 #[.int .i64 (-70000), .int .i64 30000] w fun e w' => e = .returned (.tuple #[.int .i64 20000, .int .i64 0]) ∧ Upd w w' (fun _ => False) := by
  have hg : ∀ w B, w.cell? ⟨B, 0, none⟩ = some (.int .i64 (-70000)) → w.cell? ⟨B, 1, none⟩ = some (.int .i64 30000) → Calls Tryd.prog 33 #[.slice (some ⟨B, 0, none⟩) 2 2] w fun e w' => e = .returned (.bool true) ∧ w' = w := fun w B h1 h2 => fixgood2_any w B _ _ h1 h2
  go_enter Tryd.func13, Tryd.ntmps13
  go_wp2_with fail
  refine Calls.mono (hg _ _ (cells2 (heap_alloc_new w _)).1 (cells2 (heap_alloc_new w _)).2) ?_
  rintro e w1 ⟨rfl, rfl⟩
  go_wp2_with fail
  go_ret2
  exact ⟨rfl, (Upd.refl w _).alloc _⟩

theorem Text_one (w : World) (ht : Pow w) : Calls Tryd.prog 18 #[.int .i64 12300] w fun e w' => e = .returned (.string ⟨#[49, 46, 50, 51]⟩) ∧ Upd w w' (fun _ => False) := by
  have h : Calls Tryd.prog 18 #[.int .i64 12300] w _ := Text_part w false 12300 (by decide) (by simp) (by decide) ht
  refine Calls.mono h ?_
  rintro e w' ⟨⟨t, rfl, e2⟩, u⟩
  have e3 : t.data.toList = [49, 46, 50, 51] := by rw [e2]; kernel_rfl
  have e4 : t = ⟨#[49, 46, 50, 51]⟩ := by
    obtain ⟨⟨l⟩⟩ := t
    simp at e3
    rw [e3]
  rw [e4]
  exact ⟨rfl, u⟩

theorem wakes_any (w : World) (ht : Pow w) : Calls Tryd.prog 15 #[] w fun e w' => e = .returned (.bool true) ∧ Upd w w' (fun _ => False) := by
  go_enter Tryd.func15, Tryd.ntmps15
  go_wp2_with fail
  refine Calls.mono (Mul_one _) ?_
  rintro e w1 ⟨rfl, u1⟩
  go_wp2_with fail
  refine Calls.mono (Div_one _) ?_
  rintro e w2 ⟨rfl, u2⟩
  go_wp2_with fail
  refine Calls.mono (Mod_one _) ?_
  rintro e w3 ⟨rfl, u3⟩
  go_wp2_with fail
  refine Calls.mono (Parse_one _) ?_
  rintro e w4 ⟨rfl, u4⟩
  go_wp2_with fail
  have uu := ((u1.then u2 (fun _ _ => id)).then u3 (fun _ _ => id)).then u4 (fun _ _ => id)
  refine Calls.mono (Text_one _ (ht.upd uu id)) ?_
  rintro e w5 ⟨rfl, u5⟩
  go_wp2_with fail
  go_ret
  exact ⟨rfl, uu.then u5 (fun _ _ => id)⟩
end Go.Proofs.YtckpomcenkgekaaDoor
