/- The walk of FixedBack. -/
import Derived.Test.YtckpomcenkgekaaDoorPsD
import Derived.Test.YtckpomcenkgekaaDoorFxE
import Derived.Test.YtckpomcenkgekaaDoorWak
set_option maxRecDepth 100000
namespace Go.Proofs.YtckpomcenkgekaaDoor
open Go.RowKit Go.Lat

theorem back_bad (w : World) (a b : Int) (ht : Pow w) (va ea vb eb : Int) (h : ea = 5 ∧ eb = 0 ∨ ea = 5 ∧ eb = 5 ∨ ea = 0 ∧ eb = 5) (RA : ∀ w, Calls Tryd.prog 20 #[.int .i64 a] w fun e w' => e = .returned (.tuple #[.int .i64 va, .int .i64 ea]) ∧ Upd w w' (fun _ => False))
    (RB : ∀ w, Calls Tryd.prog 20 #[.int .i64 b] w fun e w' => e = .returned (.tuple #[.int .i64 vb, .int .i64 eb]) ∧ Upd w w' (fun _ => False)) : Calls Tryd.prog 5 #[.int .i64 a, .int .i64 b] w fun e w' => e = .returned (.bool true) ∧ Upd w w' (fun _ => False) := by
  rcases h with ⟨rfl, rfl⟩ | ⟨rfl, rfl⟩ | ⟨rfl, rfl⟩
  · go_enter Tryd.func5, Tryd.ntmps5
    go_wp2_with fail
    refine Calls.mono (RA _) ?_
    rintro e w1 ⟨rfl, u1⟩
    go_wp2_with fail
    refine Calls.mono (RB _) ?_
    rintro e w2 ⟨rfl, u2⟩
    go_wp2_with fail
    have u12 := u1.then u2 (fun _ _ => id)
    refine Calls.mono (wakes_any _ (ht.upd u12 id)) ?_
    rintro e w3 ⟨rfl, u3⟩
    have u13 := u12.then u3 (fun _ _ => id)
    go_wp2_with fail
    refine Calls.mono (wakes_any _ (ht.upd u13 id)) ?_
    rintro e w4 ⟨rfl, u4⟩
    go_wp2_with fail
    go_ret
    exact ⟨rfl, u13.then u4 (fun _ _ => id)⟩
  · go_enter Tryd.func5, Tryd.ntmps5
    go_wp2_with fail
    refine Calls.mono (RA _) ?_
    rintro e w1 ⟨rfl, u1⟩
    go_wp2_with fail
    refine Calls.mono (RB _) ?_
    rintro e w2 ⟨rfl, u2⟩
    go_wp2_with fail
    have u12 := u1.then u2 (fun _ _ => id)
    refine Calls.mono (wakes_any _ (ht.upd u12 id)) ?_
    rintro e w3 ⟨rfl, u3⟩
    have u13 := u12.then u3 (fun _ _ => id)
    go_wp2_with fail
    refine Calls.mono (wakes_any _ (ht.upd u13 id)) ?_
    rintro e w4 ⟨rfl, u4⟩
    go_wp2_with fail
    go_ret
    exact ⟨rfl, u13.then u4 (fun _ _ => id)⟩
  · go_enter Tryd.func5, Tryd.ntmps5
    go_wp2_with fail
    refine Calls.mono (RA _) ?_
    rintro e w1 ⟨rfl, u1⟩
    go_wp2_with fail
    refine Calls.mono (RB _) ?_
    rintro e w2 ⟨rfl, u2⟩
    go_wp2_with fail
    have u12 := u1.then u2 (fun _ _ => id)
    refine Calls.mono (wakes_any _ (ht.upd u12 id)) ?_
    rintro e w3 ⟨rfl, u3⟩
    have u13 := u12.then u3 (fun _ _ => id)
    go_wp2_with fail
    refine Calls.mono (wakes_any _ (ht.upd u13 id)) ?_
    rintro e w4 ⟨rfl, u4⟩
    go_wp2_with fail
    go_ret
    exact ⟨rfl, u13.then u4 (fun _ _ => id)⟩

set_option maxHeartbeats 1600000 in
theorem back_zero (w : World) (a b : Int) (ht : Pow w) (RA : ∀ w, Calls Tryd.prog 20 #[.int .i64 a] w fun e w' => e = .returned (.tuple #[.int .i64 a, .int .i64 0]) ∧ Upd w w' (fun _ => False))
    (RB : ∀ w, Calls Tryd.prog 20 #[.int .i64 b] w fun e w' => e = .returned (.tuple #[.int .i64 b, .int .i64 0]) ∧ Upd w w' (fun _ => False)) (t : ByteArray)
    (T : ∀ w, Pow w → Calls Tryd.prog 18 #[.int .i64 a] w fun e w' => e = .returned (.string t) ∧ Upd w w' (fun _ => False))
    (P : ∀ w, Calls Tryd.prog 16 #[.string t] w fun e w' => e = .returned (.tuple #[.int .i64 a, .int .i64 0]) ∧ Upd w w' (fun _ => False))
    {s E : Int} (A : ∀ w, Calls Tryd.prog 21 #[.int .i64 a, .int .i64 b] w fun e w' => e = .returned (.tuple #[.int .i64 s, .int .i64 E]) ∧ Upd w w' (fun _ => False))
    (S : E = 0 → ∀ w, Calls Tryd.prog 22 #[.int .i64 s, .int .i64 b] w fun e w' => e = .returned (.tuple #[.int .i64 a, .int .i64 0]) ∧ Upd w w' (fun _ => False)) (hE : E = 0 ∨ E = 5) (hb : b = 0)
    (M : ∀ w, Calls Tryd.prog 13 #[.int .i64 a, .int .i64 b] w fun e w' => e = .returned (.tuple #[.int .i64 0, .int .i64 6]) ∧ Upd w w' (fun _ => False)) : Calls Tryd.prog 5 #[.int .i64 a, .int .i64 b] w fun e w' => e = .returned (.bool true) ∧ Upd w w' (fun _ => False) := by
  have e0 : (b == 0) = true := by simpa using hb
  clear hb
  rcases hE with rfl | rfl
  · replace S := S rfl
    go_enter Tryd.func5, Tryd.ntmps5
    go_wp2_with fail
    refine Calls.mono (RA _) ?_
    rintro e w1 ⟨rfl, u1⟩
    go_wp2_with fail
    refine Calls.mono (RB _) ?_
    rintro e w2 ⟨rfl, u2⟩
    go_wp2_with fail
    have u12 := u1.then u2 (fun _ _ => id)
    refine Calls.mono (wakes_any _ (ht.upd u12 id)) ?_
    rintro e w3 ⟨rfl, u3⟩
    have u13 := u12.then u3 (fun _ _ => id)
    go_wp2_with fail
    refine Calls.mono (T _ (ht.upd u13 id)) ?_
    rintro e w4 ⟨rfl, u4⟩
    go_wp2_with fail
    refine Calls.mono (P _) ?_
    rintro e w5 ⟨rfl, u5⟩
    go_wp2_with fail
    refine Calls.mono (A _) ?_
    rintro e w6 ⟨rfl, u6⟩
    go_wp2_with fail
    have u16 := ((u13.then u4 (fun _ _ => id)).then u5 (fun _ _ => id)).then u6 (fun _ _ => id)
    refine Calls.mono (S _) ?_
    rintro e w7 ⟨rfl, u7⟩
    go_wp2_with fail
    refine Calls.mono (M _) ?_
    rintro e w8 ⟨rfl, u8⟩
    go_wp2_with fail
    go_ret
    exact ⟨rfl, (u16.then u7 (fun _ _ => id)).then u8 (fun _ _ => id)⟩
  · clear S
    go_enter Tryd.func5, Tryd.ntmps5
    go_wp2_with fail
    refine Calls.mono (RA _) ?_
    rintro e w1 ⟨rfl, u1⟩
    go_wp2_with fail
    refine Calls.mono (RB _) ?_
    rintro e w2 ⟨rfl, u2⟩
    go_wp2_with fail
    have u12 := u1.then u2 (fun _ _ => id)
    refine Calls.mono (wakes_any _ (ht.upd u12 id)) ?_
    rintro e w3 ⟨rfl, u3⟩
    have u13 := u12.then u3 (fun _ _ => id)
    go_wp2_with fail
    refine Calls.mono (T _ (ht.upd u13 id)) ?_
    rintro e w4 ⟨rfl, u4⟩
    go_wp2_with fail
    refine Calls.mono (P _) ?_
    rintro e w5 ⟨rfl, u5⟩
    go_wp2_with fail
    refine Calls.mono (A _) ?_
    rintro e w6 ⟨rfl, u6⟩
    go_wp2_with fail
    have u16 := ((u13.then u4 (fun _ _ => id)).then u5 (fun _ _ => id)).then u6 (fun _ _ => id)
    refine Calls.mono (M _) ?_
    rintro e w8 ⟨rfl, u8⟩
    go_wp2_with fail
    go_ret
    exact ⟨rfl, u16.then u8 (fun _ _ => id)⟩

set_option maxHeartbeats 3200000 in
theorem back_mod (w : World) (a b : Int) (ht : Pow w) (RA : ∀ w, Calls Tryd.prog 20 #[.int .i64 a] w fun e w' => e = .returned (.tuple #[.int .i64 a, .int .i64 0]) ∧ Upd w w' (fun _ => False))
    (RB : ∀ w, Calls Tryd.prog 20 #[.int .i64 b] w fun e w' => e = .returned (.tuple #[.int .i64 b, .int .i64 0]) ∧ Upd w w' (fun _ => False)) (t : ByteArray)
    (T : ∀ w, Pow w → Calls Tryd.prog 18 #[.int .i64 a] w fun e w' => e = .returned (.string t) ∧ Upd w w' (fun _ => False))
    (P : ∀ w, Calls Tryd.prog 16 #[.string t] w fun e w' => e = .returned (.tuple #[.int .i64 a, .int .i64 0]) ∧ Upd w w' (fun _ => False))
    {s E : Int} (A : ∀ w, Calls Tryd.prog 21 #[.int .i64 a, .int .i64 b] w fun e w' => e = .returned (.tuple #[.int .i64 s, .int .i64 E]) ∧ Upd w w' (fun _ => False))
    (S : E = 0 → ∀ w, Calls Tryd.prog 22 #[.int .i64 s, .int .i64 b] w fun e w' => e = .returned (.tuple #[.int .i64 a, .int .i64 0]) ∧ Upd w w' (fun _ => False)) (hE : E = 0 ∨ E = 5) (V R : Int) (hR : a.tmod b = R) (hb0 : b ≠ 0)
    (M : ∀ w, Calls Tryd.prog 13 #[.int .i64 a, .int .i64 b] w fun e w' => e = .returned (.tuple #[.int .i64 V, .int .i64 0]) ∧ Upd w w' (fun _ => False))
    (g1 : (V == R) = true ∨ (V == R) = false ∧ IntKind.i64.wrap (R + b) = R + b ∧ (V == R + b) = true)
    (g2 : (V == 0) = true ∨ (V == 0) = false ∧ decide (V < 0) = true ∧ decide (b < V) = true ∨ (V == 0) = false ∧ decide (V < 0) = false ∧ decide (0 < V) = true ∧ decide (V < b) = true) : Calls Tryd.prog 5 #[.int .i64 a, .int .i64 b] w fun e w' => e = .returned (.bool true) ∧ Upd w w' (fun _ => False) := by
  have e0 : (b == 0) = false := by simpa using hb0
  rcases hE with rfl | rfl
  · replace S := S rfl
    rcases g1 with g1 | ⟨g1, w2, g1'⟩
    all_goals rcases g2 with g2 | ⟨g2, g3, g4⟩ | ⟨g2, g3, g4, g5⟩
    all_goals go_enter Tryd.func5, Tryd.ntmps5
    all_goals go_wp2_with fail
    all_goals refine Calls.mono (RA _) ?_
    all_goals rintro e w1 ⟨rfl, u1⟩
    all_goals go_wp2_with fail
    all_goals refine Calls.mono (RB _) ?_
    all_goals rintro e w2 ⟨rfl, u2⟩
    all_goals go_wp2_with fail
    all_goals have u12 := u1.then u2 (fun _ _ => id)
    all_goals refine Calls.mono (wakes_any _ (ht.upd u12 id)) ?_
    all_goals rintro e w3 ⟨rfl, u3⟩
    all_goals have u13 := u12.then u3 (fun _ _ => id)
    all_goals go_wp2_with fail
    all_goals refine Calls.mono (T _ (ht.upd u13 id)) ?_
    all_goals rintro e w4 ⟨rfl, u4⟩
    all_goals go_wp2_with fail
    all_goals refine Calls.mono (P _) ?_
    all_goals rintro e w5 ⟨rfl, u5⟩
    all_goals go_wp2_with fail
    all_goals refine Calls.mono (A _) ?_
    all_goals rintro e w6 ⟨rfl, u6⟩
    all_goals go_wp2_with fail
    all_goals have u16 := ((u13.then u4 (fun _ _ => id)).then u5 (fun _ _ => id)).then u6 (fun _ _ => id)
    all_goals refine Calls.mono (S _) ?_
    all_goals rintro e w7 ⟨rfl, u7⟩
    all_goals go_wp2_with fail
    all_goals refine Calls.mono (M _) ?_
    all_goals rintro e w8 ⟨rfl, u8⟩
    all_goals go_wp2_with fail
    all_goals go_ret
    all_goals exact ⟨rfl, (u16.then u7 (fun _ _ => id)).then u8 (fun _ _ => id)⟩
  · clear S
    rcases g1 with g1 | ⟨g1, w2, g1'⟩
    all_goals rcases g2 with g2 | ⟨g2, g3, g4⟩ | ⟨g2, g3, g4, g5⟩
    all_goals go_enter Tryd.func5, Tryd.ntmps5
    all_goals go_wp2_with fail
    all_goals refine Calls.mono (RA _) ?_
    all_goals rintro e w1 ⟨rfl, u1⟩
    all_goals go_wp2_with fail
    all_goals refine Calls.mono (RB _) ?_
    all_goals rintro e w2 ⟨rfl, u2⟩
    all_goals go_wp2_with fail
    all_goals have u12 := u1.then u2 (fun _ _ => id)
    all_goals refine Calls.mono (wakes_any _ (ht.upd u12 id)) ?_
    all_goals rintro e w3 ⟨rfl, u3⟩
    all_goals have u13 := u12.then u3 (fun _ _ => id)
    all_goals go_wp2_with fail
    all_goals refine Calls.mono (T _ (ht.upd u13 id)) ?_
    all_goals rintro e w4 ⟨rfl, u4⟩
    all_goals go_wp2_with fail
    all_goals refine Calls.mono (P _) ?_
    all_goals rintro e w5 ⟨rfl, u5⟩
    all_goals go_wp2_with fail
    all_goals refine Calls.mono (A _) ?_
    all_goals rintro e w6 ⟨rfl, u6⟩
    all_goals go_wp2_with fail
    all_goals have u16 := ((u13.then u4 (fun _ _ => id)).then u5 (fun _ _ => id)).then u6 (fun _ _ => id)
    all_goals refine Calls.mono (M _) ?_
    all_goals rintro e w8 ⟨rfl, u8⟩
    all_goals go_wp2_with fail
    all_goals go_ret
    all_goals exact ⟨rfl, u16.then u8 (fun _ _ => id)⟩

theorem FixedBack_any (w : World) (a b : Int) (ht : Pow w) : Calls Tryd.prog 5 #[.int .i64 a, .int .i64 b] w fun e w' => e = .returned (.bool true) ∧ Upd w w' (fun _ => False) := by
  have RA := fun w => Raw_any w a
  have RB := fun w => Raw_any w b
  cases ha : okNum a with
  | false =>
    rw [ha] at RA
    cases hb : okNum b with
    | false =>
      rw [hb] at RB
      exact back_bad w a b ht _ _ _ _ (.inr (.inl ⟨rfl, rfl⟩)) RA RB
    | true =>
      rw [hb] at RB
      exact back_bad w a b ht _ _ _ _ (.inl ⟨rfl, rfl⟩) RA RB
  | true =>
    rw [ha] at RA
    cases hb : okNum b with
    | false =>
      rw [hb] at RB
      exact back_bad w a b ht _ _ _ _ (.inr (.inr ⟨rfl, rfl⟩)) RA RB
    | true =>
      rw [hb] at RB
      simp only [if_true] at RA RB
      have ba := okNum_true ha
      have bb := okNum_true hb
      obtain ⟨s, x, ea, h0, hs, hx⟩ := signed a
      obtain ⟨sb, y, eb, k0, hsb, hy⟩ := signed b
      obtain ⟨t, T, P⟩ := text_back s x (by omega) h0
      rw [← ea] at T P
      have A := fun w => Add_any w a b
      have hE : addE a b = 0 ∨ addE a b = 5 := by unfold addE; split <;> simp
      have hS : addE a b = 0 → ∀ w, Calls Tryd.prog 22 #[.int .i64 (addV a b), .int .i64 b] w fun e w' => e = .returned (.tuple #[.int .i64 a, .int .i64 0]) ∧ Upd w w' (fun _ => False) := by
        intro h w
        have h2 : okNum (a + b) = true := by
          cases hh : okNum (a + b) with
          | true => rfl
          | false =>
            unfold addE at h
            rw [ha, hb, hh] at h
            simp at h
        have e1 : addV a b = a + b := by unfold addV; rw [ha, hb, h2]; rfl
        have k := Sub_any w (a + b) b
        have e2 : a + b + -b = a := by omega
        have e3 : addV (a + b) (-b) = a := by unfold addV; rw [h2, okNum_neg, hb, e2, ha]; rfl
        have e4 : addE (a + b) (-b) = 0 := by unfold addE; rw [h2, okNum_neg, hb, e2, ha]; rfl
        rw [e3, e4] at k
        rw [e1]
        exact k
      by_cases hb0 : b = 0
      · refine back_zero w a b ht RA RB t T P A hS hE hb0 ?_
        rw [hb0]
        exact fun w => Mod_zero w a ha
      · have hy0 : 0 < y := by omega
        have M := fun w => Mod_in w a b ha hb s sb x y ea eb hy0 h0
        have hm := Nat.mod_lt x hy0
        have hmx := Nat.mod_le x y
        have hR := tmod_signed s sb x y
        rw [← ea, ← eb] at hR
        refine back_mod w a b ht RA RB t T P A hS hE _ _ hR hb0 M ?_ ?_
        · unfold modV modN
          generalize x % y = r at *
          by_cases hr : r = 0
          · left
            simp [hr]
          · by_cases hss : s = sb
            · left
              subst hss
              cases s <;> simp
            · right
              refine ⟨?_, IntWalk.i64_in _ ?_, ?_⟩
              · cases s <;> cases sb <;> simp [hr] at hss eb ⊢ <;> omega
              · cases s <;> cases sb <;> simp at hss eb ⊢ <;> omega
              · cases s <;> cases sb <;> simp [hr] at hss eb ⊢ <;> omega
        · unfold modV modN
          generalize x % y = r at *
          by_cases hr : r = 0
          · left
            simp [hr]
          · right
            cases s <;> cases sb <;> simp [hr] at eb ⊢ <;> omega
end Go.Proofs.YtckpomcenkgekaaDoor
