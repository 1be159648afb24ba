/- The law FloatRatio walked. -/
import Derived.Test.YtpdecbhlkblpfaaRatio
set_option maxRecDepth 100000
namespace Go.Proofs.Ytpdecbhlkblpfaa
open Go.RowKit Go.Lat

set_option maxHeartbeats 3200000 in
theorem FloatRatio_any (w : World) (a b : Int) :
    Calls Try.prog 7 #[.int .i64 a, .int .i64 b] w fun e w' => e = .returned (.bool true) ∧ Upd w w' (fun _ => False) := by
  have hRa := fun w => Raw_any w a
  have hRb := fun w => Raw_any w b
  have ok0 : okNum 0 = true := by decide
  by_cases oa : okNum a = true
  · by_cases ob : okNum b = true
    · have hQ := fun w => Ratio_any w a b oa ob
      rw [oa] at hRa
      rw [ob] at hRb
      simp only [if_true] at hRa hRb
      have hab : ratioCls a b = ratioCls a b := rfl
      clear oa ob ok0 hab
      by_cases hb0 : b = 0
      · have d1 : (b == 0) = true := by simpa using hb0
        by_cases ha0 : a = 0
        · have d2 : (a == 0) = true := by simpa using ha0
          rw [show ratioCls a b = 0 from by unfold ratioCls; rw [if_pos ⟨ha0, hb0⟩]] at hQ
          clear ha0 hb0
          go_enter Try.func7, Try.ntmps7
          go_wp2_with fail
          refine Calls.mono (hRa _) ?_
          rintro e w1 ⟨rfl, hu1⟩
          clear hRa
          go_wp2_with fail
          refine Calls.mono (hRb _) ?_
          rintro e w2 ⟨rfl, hu2⟩
          clear hRb
          go_wp2_with fail
          refine Calls.mono (hQ _) ?_
          rintro e w3 ⟨r, rfl, hr, hc, hu3⟩
          clear hQ
          go_wp2_with fail
          refine Calls.mono (Of_any _ r hr) ?_
          rintro e w4 ⟨rfl, hw⟩
          replace hw := hw.symm
          subst hw
          rw [hc]
          clear hc hr
          have uz := (hu1.then hu2 (fun _ _ => id)).then hu3 (fun _ _ => id)
          go_wp2_with fail
          refine Calls.mono (wakes_any _) ?_
          rintro e w4 ⟨rfl, hu4⟩
          go_wp2_with fail
          go_ret
          exact ⟨by simp, uz.then hu4 (fun _ _ => id)⟩
        · have d2 : (a == 0) = false := by simpa using ha0
          by_cases hs : a < 0
          · have d3 : decide (a < 0) = true := by simpa using hs
            have d4 : decide (0 < a) = false := by simp; omega
            rw [show ratioCls a b = 1 from by unfold ratioCls; rw [if_neg (by omega), if_pos hb0, if_pos hs]] at hQ
            clear ha0 hb0 hs
            go_enter Try.func7, Try.ntmps7
            go_wp2_with fail
            refine Calls.mono (hRa _) ?_
            rintro e w1 ⟨rfl, hu1⟩
            clear hRa
            go_wp2_with fail
            refine Calls.mono (hRb _) ?_
            rintro e w2 ⟨rfl, hu2⟩
            clear hRb
            go_wp2_with fail
            refine Calls.mono (hQ _) ?_
            rintro e w3 ⟨r, rfl, hr, hc, hu3⟩
            clear hQ
            go_wp2_with fail
            refine Calls.mono (Of_any _ r hr) ?_
            rintro e w4 ⟨rfl, hw⟩
            replace hw := hw.symm
            subst hw
            rw [hc]
            clear hc hr
            have uz := (hu1.then hu2 (fun _ _ => id)).then hu3 (fun _ _ => id)
            go_wp2_with fail
            refine Calls.mono (wakes_any _) ?_
            rintro e w4 ⟨rfl, hu4⟩
            go_wp2_with fail
            go_ret
            exact ⟨by simp, uz.then hu4 (fun _ _ => id)⟩
          · have d3 : decide (a < 0) = false := by simpa using hs
            have d4 : decide (0 < a) = true := by simp; omega
            rw [show ratioCls a b = 6 from by unfold ratioCls; rw [if_neg (by omega), if_pos hb0, if_neg hs]] at hQ
            clear ha0 hb0 hs
            go_enter Try.func7, Try.ntmps7
            go_wp2_with fail
            refine Calls.mono (hRa _) ?_
            rintro e w1 ⟨rfl, hu1⟩
            clear hRa
            go_wp2_with fail
            refine Calls.mono (hRb _) ?_
            rintro e w2 ⟨rfl, hu2⟩
            clear hRb
            go_wp2_with fail
            refine Calls.mono (hQ _) ?_
            rintro e w3 ⟨r, rfl, hr, hc, hu3⟩
            clear hQ
            go_wp2_with fail
            refine Calls.mono (Of_any _ r hr) ?_
            rintro e w4 ⟨rfl, hw⟩
            replace hw := hw.symm
            subst hw
            rw [hc]
            clear hc hr
            have uz := (hu1.then hu2 (fun _ _ => id)).then hu3 (fun _ _ => id)
            go_wp2_with fail
            refine Calls.mono (wakes_any _) ?_
            rintro e w4 ⟨rfl, hu4⟩
            go_wp2_with fail
            go_ret
            exact ⟨by simp, uz.then hu4 (fun _ _ => id)⟩
      · have d1 : (b == 0) = false := by simpa using hb0
        by_cases ha0 : a = 0
        · have d2 : (a == 0) = true := by simpa using ha0
          by_cases hs : b < 0
          · have d3 : decide (b < 0) = true := by simpa using hs
            have d4 : decide (0 < b) = false := by simp; omega
            rw [show ratioCls a b = 3 from by unfold ratioCls; rw [if_neg (by omega), if_neg hb0, if_pos ha0, if_pos hs]] at hQ
            clear ha0 hb0 hs
            go_enter Try.func7, Try.ntmps7
            go_wp2_with fail
            refine Calls.mono (hRa _) ?_
            rintro e w1 ⟨rfl, hu1⟩
            clear hRa
            go_wp2_with fail
            refine Calls.mono (hRb _) ?_
            rintro e w2 ⟨rfl, hu2⟩
            clear hRb
            go_wp2_with fail
            refine Calls.mono (hQ _) ?_
            rintro e w3 ⟨r, rfl, hr, hc, hu3⟩
            clear hQ
            go_wp2_with fail
            refine Calls.mono (Of_any _ r hr) ?_
            rintro e w4 ⟨rfl, hw⟩
            replace hw := hw.symm
            subst hw
            rw [hc]
            clear hc hr
            have uz := (hu1.then hu2 (fun _ _ => id)).then hu3 (fun _ _ => id)
            go_wp2_with fail
            refine Calls.mono (wakes_any _) ?_
            rintro e w4 ⟨rfl, hu4⟩
            go_wp2_with fail
            go_ret
            exact ⟨by simp, uz.then hu4 (fun _ _ => id)⟩
          · have d3 : decide (b < 0) = false := by simpa using hs
            have d4 : decide (0 < b) = true := by simp; omega
            rw [show ratioCls a b = 4 from by unfold ratioCls; rw [if_neg (by omega), if_neg hb0, if_pos ha0, if_neg hs]] at hQ
            clear ha0 hb0 hs
            go_enter Try.func7, Try.ntmps7
            go_wp2_with fail
            refine Calls.mono (hRa _) ?_
            rintro e w1 ⟨rfl, hu1⟩
            clear hRa
            go_wp2_with fail
            refine Calls.mono (hRb _) ?_
            rintro e w2 ⟨rfl, hu2⟩
            clear hRb
            go_wp2_with fail
            refine Calls.mono (hQ _) ?_
            rintro e w3 ⟨r, rfl, hr, hc, hu3⟩
            clear hQ
            go_wp2_with fail
            refine Calls.mono (Of_any _ r hr) ?_
            rintro e w4 ⟨rfl, hw⟩
            replace hw := hw.symm
            subst hw
            rw [hc]
            clear hc hr
            have uz := (hu1.then hu2 (fun _ _ => id)).then hu3 (fun _ _ => id)
            go_wp2_with fail
            refine Calls.mono (wakes_any _) ?_
            rintro e w4 ⟨rfl, hu4⟩
            go_wp2_with fail
            go_ret
            exact ⟨by simp, uz.then hu4 (fun _ _ => id)⟩
        · have d2 : (a == 0) = false := by simpa using ha0
          by_cases hs : a < 0
          · have d3 : decide (0 < a) = false := by simp; omega
            by_cases ht : b < 0
            · have d4 : decide (0 < b) = false := by simp; omega
              rw [show ratioCls a b = 5 from by unfold ratioCls; rw [if_neg (by omega), if_neg hb0, if_neg ha0, decide_eq_true hs, decide_eq_true ht, if_pos rfl]] at hQ
              clear ha0 hb0 hs ht
              go_enter Try.func7, Try.ntmps7
              go_wp2_with fail
              refine Calls.mono (hRa _) ?_
              rintro e w1 ⟨rfl, hu1⟩
              clear hRa
              go_wp2_with fail
              refine Calls.mono (hRb _) ?_
              rintro e w2 ⟨rfl, hu2⟩
              clear hRb
              go_wp2_with fail
              refine Calls.mono (hQ _) ?_
              rintro e w3 ⟨r, rfl, hr, hc, hu3⟩
              clear hQ
              go_wp2_with fail
              refine Calls.mono (Of_any _ r hr) ?_
              rintro e w4 ⟨rfl, hw⟩
              replace hw := hw.symm
              subst hw
              rw [hc]
              clear hc hr
              have uz := (hu1.then hu2 (fun _ _ => id)).then hu3 (fun _ _ => id)
              go_wp2_with fail
              refine Calls.mono (wakes_any _) ?_
              rintro e w4 ⟨rfl, hu4⟩
              go_wp2_with fail
              go_ret
              exact ⟨by simp, uz.then hu4 (fun _ _ => id)⟩
            · have d4 : decide (0 < b) = true := by simp; omega
              rw [show ratioCls a b = 2 from by unfold ratioCls; rw [if_neg (by omega), if_neg hb0, if_neg ha0, decide_eq_true hs, decide_eq_false ht, if_neg (by simp)]] at hQ
              clear ha0 hb0 hs ht
              go_enter Try.func7, Try.ntmps7
              go_wp2_with fail
              refine Calls.mono (hRa _) ?_
              rintro e w1 ⟨rfl, hu1⟩
              clear hRa
              go_wp2_with fail
              refine Calls.mono (hRb _) ?_
              rintro e w2 ⟨rfl, hu2⟩
              clear hRb
              go_wp2_with fail
              refine Calls.mono (hQ _) ?_
              rintro e w3 ⟨r, rfl, hr, hc, hu3⟩
              clear hQ
              go_wp2_with fail
              refine Calls.mono (Of_any _ r hr) ?_
              rintro e w4 ⟨rfl, hw⟩
              replace hw := hw.symm
              subst hw
              rw [hc]
              clear hc hr
              have uz := (hu1.then hu2 (fun _ _ => id)).then hu3 (fun _ _ => id)
              go_wp2_with fail
              refine Calls.mono (wakes_any _) ?_
              rintro e w4 ⟨rfl, hu4⟩
              go_wp2_with fail
              go_ret
              exact ⟨by simp, uz.then hu4 (fun _ _ => id)⟩
          · have d3 : decide (0 < a) = true := by simp; omega
            by_cases ht : b < 0
            · have d4 : decide (0 < b) = false := by simp; omega
              rw [show ratioCls a b = 2 from by unfold ratioCls; rw [if_neg (by omega), if_neg hb0, if_neg ha0, decide_eq_false hs, decide_eq_true ht, if_neg (by simp)]] at hQ
              clear ha0 hb0 hs ht
              go_enter Try.func7, Try.ntmps7
              go_wp2_with fail
              refine Calls.mono (hRa _) ?_
              rintro e w1 ⟨rfl, hu1⟩
              clear hRa
              go_wp2_with fail
              refine Calls.mono (hRb _) ?_
              rintro e w2 ⟨rfl, hu2⟩
              clear hRb
              go_wp2_with fail
              refine Calls.mono (hQ _) ?_
              rintro e w3 ⟨r, rfl, hr, hc, hu3⟩
              clear hQ
              go_wp2_with fail
              refine Calls.mono (Of_any _ r hr) ?_
              rintro e w4 ⟨rfl, hw⟩
              replace hw := hw.symm
              subst hw
              rw [hc]
              clear hc hr
              have uz := (hu1.then hu2 (fun _ _ => id)).then hu3 (fun _ _ => id)
              go_wp2_with fail
              refine Calls.mono (wakes_any _) ?_
              rintro e w4 ⟨rfl, hu4⟩
              go_wp2_with fail
              go_ret
              exact ⟨by simp, uz.then hu4 (fun _ _ => id)⟩
            · have d4 : decide (0 < b) = true := by simp; omega
              rw [show ratioCls a b = 5 from by unfold ratioCls; rw [if_neg (by omega), if_neg hb0, if_neg ha0, decide_eq_false hs, decide_eq_false ht, if_pos rfl]] at hQ
              clear ha0 hb0 hs ht
              go_enter Try.func7, Try.ntmps7
              go_wp2_with fail
              refine Calls.mono (hRa _) ?_
              rintro e w1 ⟨rfl, hu1⟩
              clear hRa
              go_wp2_with fail
              refine Calls.mono (hRb _) ?_
              rintro e w2 ⟨rfl, hu2⟩
              clear hRb
              go_wp2_with fail
              refine Calls.mono (hQ _) ?_
              rintro e w3 ⟨r, rfl, hr, hc, hu3⟩
              clear hQ
              go_wp2_with fail
              refine Calls.mono (Of_any _ r hr) ?_
              rintro e w4 ⟨rfl, hw⟩
              replace hw := hw.symm
              subst hw
              rw [hc]
              clear hc hr
              have uz := (hu1.then hu2 (fun _ _ => id)).then hu3 (fun _ _ => id)
              go_wp2_with fail
              refine Calls.mono (wakes_any _) ?_
              rintro e w4 ⟨rfl, hu4⟩
              go_wp2_with fail
              go_ret
              exact ⟨by simp, uz.then hu4 (fun _ _ => id)⟩
    · have hQ := fun w => Ratio_any w a 0 oa ok0
      have ob' : okNum b = false := by simpa using ob
      rw [oa] at hRa
      rw [ob'] at hRb
      simp only [if_true, Bool.false_eq_true, if_false] at hRa hRb
      generalize ratioCls a 0 = c at hQ
      clear oa ob ok0 ob'
      go_enter Try.func7, Try.ntmps7
      go_wp2_with fail
      refine Calls.mono (hRa _) ?_
      rintro e w1 ⟨rfl, hu1⟩
      clear hRa
      go_wp2_with fail
      refine Calls.mono (hRb _) ?_
      rintro e w2 ⟨rfl, hu2⟩
      clear hRb
      go_wp2_with fail
      refine Calls.mono (hQ _) ?_
      rintro e w3 ⟨r, rfl, hr, hc, hu3⟩
      clear hQ
      go_wp2_with fail
      refine Calls.mono (Of_any _ r hr) ?_
      rintro e w4 ⟨rfl, hw⟩
      replace hw := hw.symm
      subst hw
      rw [hc]
      clear hc hr
      have uz := (hu1.then hu2 (fun _ _ => id)).then hu3 (fun _ _ => id)
      go_wp2_with fail
      refine Calls.mono (wakes_any _) ?_
      rintro e w4 ⟨rfl, hu4⟩
      go_wp2_with fail
      refine Calls.mono (wakes_any _) ?_
      rintro e w5 ⟨rfl, hu5⟩
      go_wp2_with fail
      go_ret
      exact ⟨rfl, (uz.then hu4 (fun _ _ => id)).then hu5 (fun _ _ => id)⟩
  · obtain ⟨y, hy⟩ : ∃ y, (if okNum b = true then b else 0) = y := ⟨_, rfl⟩
    obtain ⟨f, hf⟩ : ∃ f : Int, (if okNum b = true then (0 : Int) else 5) = f := ⟨_, rfl⟩
    have oy : okNum y = true := by
      rw [← hy]
      split
      · assumption
      · exact ok0
    have hQ := fun w => Ratio_any w 0 y ok0 oy
    have oa' : okNum a = false := by simpa using oa
    rw [oa'] at hRa
    rw [hy, hf] at hRb
    simp only [Bool.false_eq_true, if_false] at hRa
    generalize ratioCls 0 y = c at hQ
    clear oa ok0 oa' oy hy hf
    go_enter Try.func7, Try.ntmps7
    go_wp2_with fail
    refine Calls.mono (hRa _) ?_
    rintro e w1 ⟨rfl, hu1⟩
    clear hRa
    go_wp2_with fail
    refine Calls.mono (hRb _) ?_
    rintro e w2 ⟨rfl, hu2⟩
    clear hRb
    go_wp2_with fail
    refine Calls.mono (hQ _) ?_
    rintro e w3 ⟨r, rfl, hr, hc, hu3⟩
    clear hQ
    go_wp2_with fail
    refine Calls.mono (Of_any _ r hr) ?_
    rintro e w4 ⟨rfl, hw⟩
    replace hw := hw.symm
    subst hw
    rw [hc]
    clear hc hr
    have uz := (hu1.then hu2 (fun _ _ => id)).then hu3 (fun _ _ => id)
    go_wp2_with fail
    refine Calls.mono (wakes_any _) ?_
    rintro e w4 ⟨rfl, hu4⟩
    go_wp2_with fail
    refine Calls.mono (wakes_any _) ?_
    rintro e w5 ⟨rfl, hu5⟩
    go_wp2_with fail
    go_ret
    exact ⟨rfl, (uz.then hu4 (fun _ _ => id)).then hu5 (fun _ _ => id)⟩
end Go.Proofs.Ytpdecbhlkblpfaa
