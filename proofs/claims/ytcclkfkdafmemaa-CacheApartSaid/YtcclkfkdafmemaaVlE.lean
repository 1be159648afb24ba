/- The walks of the reference's Good, Sound; of package value's beside, rank. -/
import Derived.Test.YtcclkfkdafmemaaVlD
set_option maxRecDepth 100000
namespace Go.Proofs.Ytcclkfkdafmemaa
open Go.RowKit Go.Lat

theorem beq0 (f : Int) : (f == 0) = decide (f = 0) := by
  rw [Bool.eq_iff_iff]
  simp
set_option maxHeartbeats 1600000 in
theorem RGood_any (w : World) (x : Vl) : Calls Try.prog 51 #[x.val] w fun e w' => e = .returned (.bool (goodV x)) ∧ Upd w w' (fun _ => False) := by
  rw [← rgood_eq]
  have I := fun w => RefGood_any w x.n
  obtain ⟨k, n, t, b, f⟩ := x
  unfold rgoodV Vl.val
  simp only at I ⊢
  by_cases h0 : k = 0
  · subst h0
    rw [if_pos rfl]
    go_enter Try.func51, Try.ntmps51
    go_wp2_with fail
    all_goals go_ret
    all_goals refine ⟨?_, (Upd.refl w _).alloc _⟩
    all_goals first | rfl | (simp_all; done) | (simp_all; rfl) | (simp_all; exact beq0 _) | (simp_all; omega) | (simp_all; intro _; omega)
  · rw [if_neg h0]
    have b0 : (k == 0) = false := by simpa using h0
    by_cases h1 : k = 1
    · subst h1
      rw [if_pos rfl]
      obtain ⟨q, hq⟩ : ∃ q, okNum n = q := ⟨_, rfl⟩
      rw [hq] at I ⊢
      clear hq h0
      go_enter Try.func51, Try.ntmps51
      go_wp2_with (go_at_call 59; refine Calls.mono (I _) ?_; rintro e w' ⟨rfl, hw⟩; replace hw := hw.symm; subst hw)
      all_goals go_ret
      all_goals refine ⟨?_, (Upd.refl w _).alloc _⟩
      all_goals first | rfl | (simp_all; done) | (simp_all; rfl) | (simp_all; exact beq0 _) | (simp_all; omega) | (simp_all; intro _; omega)
    · rw [if_neg h1]
      have b1 : (k == 1) = false := by simpa using h1
      by_cases h2 : k = 2
      · subst h2
        rw [if_pos rfl]
        have d0 : ∀ q : Bool, decide (t.length ≤ 255) = q → decide ((t.length : Int) ≤ 255) = q := by
          intro q hq
          rw [← hq, Bool.eq_iff_iff]
          simp
          omega
        obtain ⟨q, hq⟩ : ∃ q, decide (t.length ≤ 255) = q := ⟨_, rfl⟩
        have d1 := d0 q hq
        rw [hq]
        clear h0 h1 d0
        go_enter Try.func51, Try.ntmps51
        go_wp2_with fail
        all_goals go_ret
        all_goals refine ⟨?_, (Upd.refl w _).alloc _⟩
        all_goals first | rfl | (simp_all; done) | (simp_all; rfl) | (simp_all; exact beq0 _) | (simp_all; omega) | (simp_all; intro _; omega)
      · rw [if_neg h2]
        have b2 : (k == 2) = false := by simpa using h2
        by_cases h3 : k = 3
        · subst h3
          rw [if_pos rfl]
          clear h0 h1 h2
          go_enter Try.func51, Try.ntmps51
          go_wp2_with fail
          all_goals go_ret
          all_goals refine ⟨?_, (Upd.refl w _).alloc _⟩
          all_goals first | rfl | (simp_all; done) | (simp_all; rfl) | (simp_all; exact beq0 _) | (simp_all; omega) | (simp_all; intro _; omega)
        · rw [if_neg h3]
          have b3 : (k == 3) = false := by simpa using h3
          by_cases h4 : k = 4
          · subst h4
            rw [if_pos rfl]
            clear h0 h1 h2 h3
            go_enter Try.func51, Try.ntmps51
            go_wp2_with fail
            all_goals go_ret
            all_goals refine ⟨?_, (Upd.refl w _).alloc _⟩
            all_goals first | rfl | (simp_all; done) | (simp_all; rfl) | (simp_all; exact beq0 _) | (simp_all; omega) | (simp_all; intro _; omega)
          · rw [if_neg h4]
            have b4 : (k == 4) = false := by simpa using h4
            clear h0 h1 h2 h3 h4
            go_enter Try.func51, Try.ntmps51
            go_wp2_with fail
            all_goals go_ret
            all_goals refine ⟨?_, (Upd.refl w _).alloc _⟩
            all_goals first | rfl | (simp_all; done) | (simp_all; rfl) | (simp_all; exact beq0 _) | (simp_all; omega) | (simp_all; intro _; omega)

end Go.Proofs.Ytcclkfkdafmemaa
