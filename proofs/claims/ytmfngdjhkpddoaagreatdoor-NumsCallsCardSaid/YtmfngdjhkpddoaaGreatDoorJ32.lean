/- The walks of nums' alone, pair. -/
import Derived.Test.YtmfngdjhkpddoaaGreatDoorJ31
/- The walks of nums' alone, pair. -/
set_option maxRecDepth 100000
namespace Go.Proofs.YtmfngdjhkpddoaaGreatDoor
open Go.RowKit Go.Lat Go.Lib

theorem one_cases (n : List UInt8) : (n = [65, 66, 83] ∧ (n == [65, 66, 83]) = true ∧ (n == [83, 73, 71, 78]) = false ∧ (n == [73, 78, 84]) = false ∧ (n == [84, 82, 85, 78, 67]) = false ∧ (n == [83, 81, 82, 84]) = false ∧ (n == [70, 65, 67, 84]) = false) ∨
    (n = [83, 73, 71, 78] ∧ (n == [65, 66, 83]) = false ∧ (n == [83, 73, 71, 78]) = true ∧ (n == [73, 78, 84]) = false ∧ (n == [84, 82, 85, 78, 67]) = false ∧ (n == [83, 81, 82, 84]) = false ∧ (n == [70, 65, 67, 84]) = false) ∨
    (n = [73, 78, 84] ∧ (n == [65, 66, 83]) = false ∧ (n == [83, 73, 71, 78]) = false ∧ (n == [73, 78, 84]) = true ∧ (n == [84, 82, 85, 78, 67]) = false ∧ (n == [83, 81, 82, 84]) = false ∧ (n == [70, 65, 67, 84]) = false) ∨
    (n = [84, 82, 85, 78, 67] ∧ (n == [65, 66, 83]) = false ∧ (n == [83, 73, 71, 78]) = false ∧ (n == [73, 78, 84]) = false ∧ (n == [84, 82, 85, 78, 67]) = true ∧ (n == [83, 81, 82, 84]) = false ∧ (n == [70, 65, 67, 84]) = false) ∨
    (n = [83, 81, 82, 84] ∧ (n == [65, 66, 83]) = false ∧ (n == [83, 73, 71, 78]) = false ∧ (n == [73, 78, 84]) = false ∧ (n == [84, 82, 85, 78, 67]) = false ∧ (n == [83, 81, 82, 84]) = true ∧ (n == [70, 65, 67, 84]) = false) ∨
    (n = [70, 65, 67, 84] ∧ (n == [65, 66, 83]) = false ∧ (n == [83, 73, 71, 78]) = false ∧ (n == [73, 78, 84]) = false ∧ (n == [84, 82, 85, 78, 67]) = false ∧ (n == [83, 81, 82, 84]) = false ∧ (n == [70, 65, 67, 84]) = true) ∨
    (n ≠ [65, 66, 83] ∧ n ≠ [83, 73, 71, 78] ∧ n ≠ [73, 78, 84] ∧ n ≠ [84, 82, 85, 78, 67] ∧ n ≠ [83, 81, 82, 84] ∧ n ≠ [70, 65, 67, 84] ∧ (n == [65, 66, 83]) = false ∧ (n == [83, 73, 71, 78]) = false ∧ (n == [73, 78, 84]) = false ∧ (n == [84, 82, 85, 78, 67]) = false ∧ (n == [83, 81, 82, 84]) = false ∧ (n == [70, 65, 67, 84]) = false) := by
  by_cases h0 : n = [65, 66, 83]
  · left
    subst h0
    exact ⟨rfl, by decide, by decide, by decide, by decide, by decide, by decide⟩
  by_cases h1 : n = [83, 73, 71, 78]
  · right; left
    subst h1
    exact ⟨rfl, by decide, by decide, by decide, by decide, by decide, by decide⟩
  by_cases h2 : n = [73, 78, 84]
  · right; right; left
    subst h2
    exact ⟨rfl, by decide, by decide, by decide, by decide, by decide, by decide⟩
  by_cases h3 : n = [84, 82, 85, 78, 67]
  · right; right; right; left
    subst h3
    exact ⟨rfl, by decide, by decide, by decide, by decide, by decide, by decide⟩
  by_cases h4 : n = [83, 81, 82, 84]
  · right; right; right; right; left
    subst h4
    exact ⟨rfl, by decide, by decide, by decide, by decide, by decide, by decide⟩
  by_cases h5 : n = [70, 65, 67, 84]
  · right; right; right; right; right; left
    subst h5
    exact ⟨rfl, by decide, by decide, by decide, by decide, by decide, by decide⟩
  right; right; right; right; right; right
  exact ⟨h0, h1, h2, h3, h4, h5, by simpa using h0, by simpa using h1, by simpa using h2, by simpa using h3, by simpa using h4, by simpa using h5⟩
theorem two_cases (n : List UInt8) : (n = [82, 79, 85, 78, 68] ∧ (n == [82, 79, 85, 78, 68]) = true ∧ (n == [82, 79, 85, 78, 68, 85, 80]) = false ∧ (n == [77, 79, 68]) = false ∧ (n == [81, 85, 79, 84, 73, 69, 78, 84]) = false ∧ (n == [80, 79, 87, 69, 82]) = false ∧ (n == [71, 67, 68]) = false) ∨
    (n = [82, 79, 85, 78, 68, 85, 80] ∧ (n == [82, 79, 85, 78, 68]) = false ∧ (n == [82, 79, 85, 78, 68, 85, 80]) = true ∧ (n == [77, 79, 68]) = false ∧ (n == [81, 85, 79, 84, 73, 69, 78, 84]) = false ∧ (n == [80, 79, 87, 69, 82]) = false ∧ (n == [71, 67, 68]) = false) ∨
    (n = [77, 79, 68] ∧ (n == [82, 79, 85, 78, 68]) = false ∧ (n == [82, 79, 85, 78, 68, 85, 80]) = false ∧ (n == [77, 79, 68]) = true ∧ (n == [81, 85, 79, 84, 73, 69, 78, 84]) = false ∧ (n == [80, 79, 87, 69, 82]) = false ∧ (n == [71, 67, 68]) = false) ∨
    (n = [81, 85, 79, 84, 73, 69, 78, 84] ∧ (n == [82, 79, 85, 78, 68]) = false ∧ (n == [82, 79, 85, 78, 68, 85, 80]) = false ∧ (n == [77, 79, 68]) = false ∧ (n == [81, 85, 79, 84, 73, 69, 78, 84]) = true ∧ (n == [80, 79, 87, 69, 82]) = false ∧ (n == [71, 67, 68]) = false) ∨
    (n = [80, 79, 87, 69, 82] ∧ (n == [82, 79, 85, 78, 68]) = false ∧ (n == [82, 79, 85, 78, 68, 85, 80]) = false ∧ (n == [77, 79, 68]) = false ∧ (n == [81, 85, 79, 84, 73, 69, 78, 84]) = false ∧ (n == [80, 79, 87, 69, 82]) = true ∧ (n == [71, 67, 68]) = false) ∨
    (n = [71, 67, 68] ∧ (n == [82, 79, 85, 78, 68]) = false ∧ (n == [82, 79, 85, 78, 68, 85, 80]) = false ∧ (n == [77, 79, 68]) = false ∧ (n == [81, 85, 79, 84, 73, 69, 78, 84]) = false ∧ (n == [80, 79, 87, 69, 82]) = false ∧ (n == [71, 67, 68]) = true) ∨
    (n ≠ [82, 79, 85, 78, 68] ∧ n ≠ [82, 79, 85, 78, 68, 85, 80] ∧ n ≠ [77, 79, 68] ∧ n ≠ [81, 85, 79, 84, 73, 69, 78, 84] ∧ n ≠ [80, 79, 87, 69, 82] ∧ n ≠ [71, 67, 68] ∧ (n == [82, 79, 85, 78, 68]) = false ∧ (n == [82, 79, 85, 78, 68, 85, 80]) = false ∧ (n == [77, 79, 68]) = false ∧ (n == [81, 85, 79, 84, 73, 69, 78, 84]) = false ∧ (n == [80, 79, 87, 69, 82]) = false ∧ (n == [71, 67, 68]) = false) := by
  by_cases h0 : n = [82, 79, 85, 78, 68]
  · left
    subst h0
    exact ⟨rfl, by decide, by decide, by decide, by decide, by decide, by decide⟩
  by_cases h1 : n = [82, 79, 85, 78, 68, 85, 80]
  · right; left
    subst h1
    exact ⟨rfl, by decide, by decide, by decide, by decide, by decide, by decide⟩
  by_cases h2 : n = [77, 79, 68]
  · right; right; left
    subst h2
    exact ⟨rfl, by decide, by decide, by decide, by decide, by decide, by decide⟩
  by_cases h3 : n = [81, 85, 79, 84, 73, 69, 78, 84]
  · right; right; right; left
    subst h3
    exact ⟨rfl, by decide, by decide, by decide, by decide, by decide, by decide⟩
  by_cases h4 : n = [80, 79, 87, 69, 82]
  · right; right; right; right; left
    subst h4
    exact ⟨rfl, by decide, by decide, by decide, by decide, by decide, by decide⟩
  by_cases h5 : n = [71, 67, 68]
  · right; right; right; right; right; left
    subst h5
    exact ⟨rfl, by decide, by decide, by decide, by decide, by decide, by decide⟩
  right; right; right; right; right; right
  exact ⟨h0, h1, h2, h3, h4, h5, by simpa using h0, by simpa using h1, by simpa using h2, by simpa using h3, by simpa using h4, by simpa using h5⟩
theorem alone_any (w : World) (n : List UInt8) (a : Int) (ha : okNum a = true) : Calls Tryz.prog 33 #[enS n, .int .i64 a] w fun e w' => e = .returned (aloneV n a).val ∧ Upd w w' (fun _ => False) := by
  have HU0 : Hid (Upd w (w.alloc (.cells #[.int .i64 0, .int .i64 0, .string ⟨#[]⟩, .bool false, .int .i64 0] 26)) (fun _ => False)) := hide ((Upd.refl w _).alloc _)
  have HV0 : Hid ((w.alloc (.cells #[.int .i64 0, .int .i64 0, .string ⟨#[]⟩, .bool false, .int .i64 0] 26)).heap[w.heap.size]? = some (.cells #[.int .i64 0, .int .i64 0, .string ⟨#[]⟩, .bool false, .int .i64 0] 26 (0, 0))) := hide (Vnew1 w _)
  have hr := okNum_true ha
  rcases one_cases n with ⟨hn, b1, b2, b3, b4, b5, b6⟩ | ⟨hn, b1, b2, b3, b4, b5, b6⟩ | ⟨hn, b1, b2, b3, b4, b5, b6⟩ | ⟨hn, b1, b2, b3, b4, b5, b6⟩ | ⟨hn, b1, b2, b3, b4, b5, b6⟩ | ⟨hn, b1, b2, b3, b4, b5, b6⟩ | ⟨n1, n2, n3, n4, n5, n6, b1, b2, b3, b4, b5, b6⟩
  · have er : aloneV n a = mkN (a.natAbs : Nat) := by rw [hn]; rfl
    rw [er]
    clear er hn
    have mx : max a (-a) = (a.natAbs : Int) := by omega
    have w1 : IntKind.i64.wrap (-a) = -a := by rw [IntWalk.i64_in _ (by omega)]
    have NA := fun w => N_any w (a.natAbs : Int)
    obtain ⟨⟨k0, n0, t0, b0, e0'⟩, hev⟩ : ∃ v, mkN (a.natAbs : Nat) = v := ⟨_, rfl⟩
    rw [hev] at NA ⊢
    unfold Vl.val at NA
    (try unfold Vl.val)
    simp only at NA ⊢
    clear hev
    clear ha hr
    go_enter Tryz.func33, Tryz.ntmps33
    go_wp2_with fail
    with_reducible refine Calls.mono (NA _) ?_
    rintro e w9 ⟨rfl, u9⟩
    have HU9 := hide (HU0.out.then u9 (fun _ _ => id))
    have bV := u9.get HV0.out id
    obtain ⟨v0, v1, v2, v3, v4⟩ := cells5 bV
    have vl := lt_at bV
    have fv0 := free_at bV 0
    have fv1 := free_at bV 1
    have fv2 := free_at bV 2
    have fv3 := free_at bV 3
    have fv4 := free_at bV 4
    have HB := hide bV
    clear bV u9
    go_wp2_with fail
    (try simp only [Exit.inBlock, Exit.then])
    refine bodyPost_ret (ret_vl rfl _ _ (w.heap.size) ⟨k0, n0, t0, b0, e0'⟩ rfl (block5 (x := vZero) HB.out _ _ _ _ _)) rfl ?_
    exact ⟨rfl, upd5 HU9.out (by omega) _ _ _ _ _⟩
  · have er : aloneV n a = mkN (signV a) := by rw [hn]; rfl
    rw [er]
    clear er hn
    have SA := fun w => sign_any w a
    have NA := fun w => N_any w (signV a)
    obtain ⟨s, hs⟩ : ∃ s, signV a = s := ⟨_, rfl⟩
    rw [hs] at SA NA ⊢
    obtain ⟨⟨k0, n0, t0, b0, e0'⟩, hev⟩ : ∃ v, mkN s = v := ⟨_, rfl⟩
    rw [hev] at NA ⊢
    unfold Vl.val at NA
    (try unfold Vl.val)
    simp only at NA ⊢
    clear hev
    clear ha hr hs
    go_enter Tryz.func33, Tryz.ntmps33
    go_wp2_with fail
    with_reducible refine Calls.mono (SA _) ?_
    rintro e w8 ⟨rfl, hw8⟩
    obtain rfl := hw8.symm
    clear hw8
    go_wp2_with fail
    with_reducible refine Calls.mono (NA _) ?_
    rintro e w9 ⟨rfl, u9⟩
    have HU9 := hide (HU0.out.then u9 (fun _ _ => id))
    have bV := u9.get HV0.out id
    obtain ⟨v0, v1, v2, v3, v4⟩ := cells5 bV
    have vl := lt_at bV
    have fv0 := free_at bV 0
    have fv1 := free_at bV 1
    have fv2 := free_at bV 2
    have fv3 := free_at bV 3
    have fv4 := free_at bV 4
    have HB := hide bV
    clear bV u9
    go_wp2_with fail
    (try simp only [Exit.inBlock, Exit.then])
    refine bodyPost_ret (ret_vl rfl _ _ (w.heap.size) ⟨k0, n0, t0, b0, e0'⟩ rfl (block5 (x := vZero) HB.out _ _ _ _ _)) rfl ?_
    exact ⟨rfl, upd5 HU9.out (by omega) _ _ _ _ _⟩
  · have er : aloneV n a = mkN (flrF a) := by rw [hn]; rfl
    rw [er]
    clear er hn
    have FA := (flrB a).1
    have NA := fun w => N_any w (flrF a)
    obtain ⟨s, hs⟩ : ∃ s, flrF a = s := ⟨_, rfl⟩
    rw [hs] at FA NA ⊢
    obtain ⟨⟨k0, n0, t0, b0, e0'⟩, hev⟩ : ∃ v, mkN s = v := ⟨_, rfl⟩
    rw [hev] at NA ⊢
    unfold Vl.val at NA
    (try unfold Vl.val)
    simp only at NA ⊢
    clear hev
    clear ha hr hs
    go_enter Tryz.func33, Tryz.ntmps33
    go_wp2_with fail
    with_reducible refine Calls.mono (FA _) ?_
    rintro e w1 ⟨rfl, u1⟩
    have HU1 := hide (HU0.out.then u1 (fun _ _ => id))
    have HV1 := hide (u1.get HV0.out id)
    clear u1
    go_wp2_with fail
    with_reducible refine Calls.mono (NA _) ?_
    rintro e w9 ⟨rfl, u9⟩
    have HU9 := hide (HU1.out.then u9 (fun _ _ => id))
    have bV := u9.get HV1.out id
    obtain ⟨v0, v1, v2, v3, v4⟩ := cells5 bV
    have vl := lt_at bV
    have fv0 := free_at bV 0
    have fv1 := free_at bV 1
    have fv2 := free_at bV 2
    have fv3 := free_at bV 3
    have fv4 := free_at bV 4
    have HB := hide bV
    clear bV u9
    go_wp2_with fail
    (try simp only [Exit.inBlock, Exit.then])
    refine bodyPost_ret (ret_vl rfl _ _ (w.heap.size) ⟨k0, n0, t0, b0, e0'⟩ rfl (block5 (x := vZero) HB.out _ _ _ _ _)) rfl ?_
    exact ⟨rfl, upd5 HU9.out (by omega) _ _ _ _ _⟩
  · have er : aloneV n a = mkN (a.tdiv 10000 * 10000) := by rw [hn]; rfl
    rw [er]
    clear er hn
    have WA := fun w => wholeP_any w a
    have hz := wholeF_rng a
    rw [wholeF_of ha] at WA hz
    obtain ⟨z, hzz⟩ : ∃ s, a.tdiv 10000 = s := ⟨_, rfl⟩
    rw [hzz] at WA hz ⊢
    have hw : wholeOk z = true := by simp [wholeOk]; omega
    have OA := fun w => Of_any w z
    rw [hw] at OA
    simp only [if_true] at OA
    have TO := fun w => nTold_any w (z * 10000) 0
    have et : tldV (z * 10000, 0) = mkN (z * 10000) := rfl
    rw [et] at TO
    obtain ⟨⟨k0, n0, t0, b0, e0'⟩, hev⟩ : ∃ v, mkN (z * 10000) = v := ⟨_, rfl⟩
    rw [hev] at TO ⊢
    unfold Vl.val at TO
    (try unfold Vl.val)
    simp only at TO ⊢
    clear hev
    clear ha hr hzz hz hw et
    go_enter Tryz.func33, Tryz.ntmps33
    go_wp2_with fail
    with_reducible refine Calls.mono (WA _) ?_
    rintro e w1 ⟨rfl, u1⟩
    have HU1 := hide (HU0.out.then u1 (fun _ _ => id))
    have HV1 := hide (u1.get HV0.out id)
    clear u1
    go_wp2_with fail
    with_reducible refine Calls.mono (OA _) ?_
    rintro e w8 ⟨rfl, hw8⟩
    obtain rfl := hw8.symm
    clear hw8
    go_wp2_with fail
    with_reducible refine Calls.mono (TO _) ?_
    rintro e w9 ⟨rfl, u9⟩
    have HU9 := hide (HU1.out.then u9 (fun _ _ => id))
    have bV := u9.get HV1.out id
    obtain ⟨v0, v1, v2, v3, v4⟩ := cells5 bV
    have vl := lt_at bV
    have fv0 := free_at bV 0
    have fv1 := free_at bV 1
    have fv2 := free_at bV 2
    have fv3 := free_at bV 3
    have fv4 := free_at bV 4
    have HB := hide bV
    clear bV u9
    go_wp2_with fail
    (try simp only [Exit.inBlock, Exit.then])
    refine bodyPost_ret (ret_vl rfl _ _ (w.heap.size) ⟨k0, n0, t0, b0, e0'⟩ rfl (block5 (x := vZero) HB.out _ _ _ _ _)) rfl ?_
    exact ⟨rfl, upd5 HU9.out (by omega) _ _ _ _ _⟩
  · have er : aloneV n a = sqrtV a := by rw [hn]; rfl
    rw [er]
    clear er hn
    unfold sqrtV
    by_cases h : a < 0
    · rw [if_pos h]
      have SA := fun w => Fl.Sqrt_bad w a (.inr h)
      have TO := fun w => nTold_any w 0 5
      have et : tldV (0, 5) = mkE 2 := rfl
      rw [et] at TO
      obtain ⟨⟨k0, n0, t0, b0, e0'⟩, hev⟩ : ∃ v, mkE 2 = v := ⟨_, rfl⟩
      rw [hev] at TO ⊢
      unfold Vl.val at TO
      (try unfold Vl.val)
      simp only at TO ⊢
      clear hev
      clear ha hr et h
      go_enter Tryz.func33, Tryz.ntmps33
      go_wp2_with fail
      with_reducible refine Calls.mono (SA _) ?_
      rintro e w1 ⟨rfl, u1⟩
      have HU1 := hide (HU0.out.then u1 (fun _ _ => id))
      have HV1 := hide (u1.get HV0.out id)
      clear u1
      go_wp2_with fail
      with_reducible refine Calls.mono (TO _) ?_
      rintro e w9 ⟨rfl, u9⟩
      have HU9 := hide (HU1.out.then u9 (fun _ _ => id))
      have bV := u9.get HV1.out id
      obtain ⟨v0, v1, v2, v3, v4⟩ := cells5 bV
      have vl := lt_at bV
      have fv0 := free_at bV 0
      have fv1 := free_at bV 1
      have fv2 := free_at bV 2
      have fv3 := free_at bV 3
      have fv4 := free_at bV 4
      have HB := hide bV
      clear bV u9
      go_wp2_with fail
      (try simp only [Exit.inBlock, Exit.then])
      refine bodyPost_ret (ret_vl rfl _ _ (w.heap.size) ⟨k0, n0, t0, b0, e0'⟩ rfl (block5 (x := vZero) HB.out _ _ _ _ _)) rfl ?_
      exact ⟨rfl, upd5 HU9.out (by omega) _ _ _ _ _⟩
    · rw [if_neg h]
      have SA := (sqrtN_spec ha (by omega)).2.2.2
      have TO := fun w => nTold_any w (sqrtN a : Nat) 0
      have et : tldV (((sqrtN a : Nat) : Int), 0) = mkN (sqrtN a : Nat) := rfl
      rw [et] at TO
      clear et
      obtain ⟨s, hs⟩ : ∃ s, sqrtN a = s := ⟨_, rfl⟩
      rw [hs] at SA TO ⊢
      obtain ⟨⟨k0, n0, t0, b0, e0'⟩, hev⟩ : ∃ v, mkN (s : Nat) = v := ⟨_, rfl⟩
      rw [hev] at TO ⊢
      unfold Vl.val at TO
      (try unfold Vl.val)
      simp only at TO ⊢
      clear hev
      clear ha hr h hs
      go_enter Tryz.func33, Tryz.ntmps33
      go_wp2_with fail
      with_reducible refine Calls.mono (SA _) ?_
      rintro e w1 ⟨rfl, u1⟩
      have HU1 := hide (HU0.out.then u1 (fun _ _ => id))
      have HV1 := hide (u1.get HV0.out id)
      clear u1
      go_wp2_with fail
      with_reducible refine Calls.mono (TO _) ?_
      rintro e w9 ⟨rfl, u9⟩
      have HU9 := hide (HU1.out.then u9 (fun _ _ => id))
      have bV := u9.get HV1.out id
      obtain ⟨v0, v1, v2, v3, v4⟩ := cells5 bV
      have vl := lt_at bV
      have fv0 := free_at bV 0
      have fv1 := free_at bV 1
      have fv2 := free_at bV 2
      have fv3 := free_at bV 3
      have fv4 := free_at bV 4
      have HB := hide bV
      clear bV u9
      go_wp2_with fail
      (try simp only [Exit.inBlock, Exit.then])
      refine bodyPost_ret (ret_vl rfl _ _ (w.heap.size) ⟨k0, n0, t0, b0, e0'⟩ rfl (block5 (x := vZero) HB.out _ _ _ _ _)) rfl ?_
      exact ⟨rfl, upd5 HU9.out (by omega) _ _ _ _ _⟩
  · have er : aloneV n a = factV a := by rw [hn]; rfl
    rw [er]
    clear er hn
    have FA := fun w => fact_any w a ha
    obtain ⟨⟨k0, n0, t0, b0, e0'⟩, hev⟩ : ∃ v, factV a = v := ⟨_, rfl⟩
    rw [hev] at FA ⊢
    unfold Vl.val at FA
    (try unfold Vl.val)
    simp only at FA ⊢
    clear hev
    clear ha hr
    go_enter Tryz.func33, Tryz.ntmps33
    go_wp2_with fail
    with_reducible refine Calls.mono (FA _) ?_
    rintro e w9 ⟨rfl, u9⟩
    have HU9 := hide (HU0.out.then u9 (fun _ _ => id))
    have bV := u9.get HV0.out id
    obtain ⟨v0, v1, v2, v3, v4⟩ := cells5 bV
    have vl := lt_at bV
    have fv0 := free_at bV 0
    have fv1 := free_at bV 1
    have fv2 := free_at bV 2
    have fv3 := free_at bV 3
    have fv4 := free_at bV 4
    have HB := hide bV
    clear bV u9
    go_wp2_with fail
    (try simp only [Exit.inBlock, Exit.then])
    refine bodyPost_ret (ret_vl rfl _ _ (w.heap.size) ⟨k0, n0, t0, b0, e0'⟩ rfl (block5 (x := vZero) HB.out _ _ _ _ _)) rfl ?_
    exact ⟨rfl, upd5 HU9.out (by omega) _ _ _ _ _⟩
  · have er : aloneV n a = evenV a := by unfold aloneV; rw [if_neg n1, if_neg n2, if_neg n3, if_neg n4, if_neg n5, if_neg n6]
    rw [er]
    clear er n1 n2 n3 n4 n5 n6
    have FA := fun w => even_any w a ha
    obtain ⟨⟨k0, n0, t0, b0, e0'⟩, hev⟩ : ∃ v, evenV a = v := ⟨_, rfl⟩
    rw [hev] at FA ⊢
    unfold Vl.val at FA
    (try unfold Vl.val)
    simp only at FA ⊢
    clear hev
    clear ha hr
    go_enter Tryz.func33, Tryz.ntmps33
    go_wp2_with fail
    with_reducible refine Calls.mono (FA _) ?_
    rintro e w9 ⟨rfl, u9⟩
    have HU9 := hide (HU0.out.then u9 (fun _ _ => id))
    have bV := u9.get HV0.out id
    obtain ⟨v0, v1, v2, v3, v4⟩ := cells5 bV
    have vl := lt_at bV
    have fv0 := free_at bV 0
    have fv1 := free_at bV 1
    have fv2 := free_at bV 2
    have fv3 := free_at bV 3
    have fv4 := free_at bV 4
    have HB := hide bV
    clear bV u9
    go_wp2_with fail
    (try simp only [Exit.inBlock, Exit.then])
    refine bodyPost_ret (ret_vl rfl _ _ (w.heap.size) ⟨k0, n0, t0, b0, e0'⟩ rfl (block5 (x := vZero) HB.out _ _ _ _ _)) rfl ?_
    exact ⟨rfl, upd5 HU9.out (by omega) _ _ _ _ _⟩
theorem pair_any (w : World) (n : List UInt8) (a b : Int) (ha : okNum a = true) (hb : okNum b = true) : Calls Tryz.prog 34 #[enS n, .int .i64 a, .int .i64 b] w fun e w' => e = .returned (pairV n a b).val ∧ Upd w w' (fun _ => False) := by
  have HU0 : Hid (Upd w (w.alloc (.cells #[.int .i64 0, .int .i64 0, .string ⟨#[]⟩, .bool false, .int .i64 0] 26)) (fun _ => False)) := hide ((Upd.refl w _).alloc _)
  have HV0 : Hid ((w.alloc (.cells #[.int .i64 0, .int .i64 0, .string ⟨#[]⟩, .bool false, .int .i64 0] 26)).heap[w.heap.size]? = some (.cells #[.int .i64 0, .int .i64 0, .string ⟨#[]⟩, .bool false, .int .i64 0] 26 (0, 0))) := hide (Vnew1 w _)
  rcases two_cases n with ⟨hn, b1, b2, b3, b4, b5, b6⟩ | ⟨hn, b1, b2, b3, b4, b5, b6⟩ | ⟨hn, b1, b2, b3, b4, b5, b6⟩ | ⟨hn, b1, b2, b3, b4, b5, b6⟩ | ⟨hn, b1, b2, b3, b4, b5, b6⟩ | ⟨hn, b1, b2, b3, b4, b5, b6⟩ | ⟨n1, n2, n3, n4, n5, n6, b1, b2, b3, b4, b5, b6⟩
  · have er : pairV n a b = rndV a b := by rw [hn]; rfl
    rw [er]
    clear er hn
    have FA := fun w => rounded_any w a b false ha hb
    simp only [Bool.false_eq_true, if_false, if_true] at FA
    obtain ⟨⟨k0, n0, t0, b0, e0'⟩, hev⟩ : ∃ v, rndV a b = v := ⟨_, rfl⟩
    rw [hev] at FA ⊢
    unfold Vl.val at FA
    (try unfold Vl.val)
    simp only at FA ⊢
    clear hev
    clear ha hb
    go_enter Tryz.func34, Tryz.ntmps34
    go_wp2_with fail
    with_reducible refine Calls.mono (FA _) ?_
    rintro e w9 ⟨rfl, u9⟩
    have HU9 := hide (HU0.out.then u9 (fun _ _ => id))
    have bV := u9.get HV0.out id
    obtain ⟨v0, v1, v2, v3, v4⟩ := cells5 bV
    have vl := lt_at bV
    have fv0 := free_at bV 0
    have fv1 := free_at bV 1
    have fv2 := free_at bV 2
    have fv3 := free_at bV 3
    have fv4 := free_at bV 4
    have HB := hide bV
    clear bV u9
    go_wp2_with fail
    (try simp only [Exit.inBlock, Exit.then])
    refine bodyPost_ret (ret_vl rfl _ _ (w.heap.size) ⟨k0, n0, t0, b0, e0'⟩ rfl (block5 (x := vZero) HB.out _ _ _ _ _)) rfl ?_
    exact ⟨rfl, upd5 HU9.out (by omega) _ _ _ _ _⟩
  · have er : pairV n a b = rupV a b := by rw [hn]; rfl
    rw [er]
    clear er hn
    have FA := fun w => rounded_any w a b true ha hb
    simp only [Bool.false_eq_true, if_false, if_true] at FA
    obtain ⟨⟨k0, n0, t0, b0, e0'⟩, hev⟩ : ∃ v, rupV a b = v := ⟨_, rfl⟩
    rw [hev] at FA ⊢
    unfold Vl.val at FA
    (try unfold Vl.val)
    simp only at FA ⊢
    clear hev
    clear ha hb
    go_enter Tryz.func34, Tryz.ntmps34
    go_wp2_with fail
    with_reducible refine Calls.mono (FA _) ?_
    rintro e w9 ⟨rfl, u9⟩
    have HU9 := hide (HU0.out.then u9 (fun _ _ => id))
    have bV := u9.get HV0.out id
    obtain ⟨v0, v1, v2, v3, v4⟩ := cells5 bV
    have vl := lt_at bV
    have fv0 := free_at bV 0
    have fv1 := free_at bV 1
    have fv2 := free_at bV 2
    have fv3 := free_at bV 3
    have fv4 := free_at bV 4
    have HB := hide bV
    clear bV u9
    go_wp2_with fail
    (try simp only [Exit.inBlock, Exit.then])
    refine bodyPost_ret (ret_vl rfl _ _ (w.heap.size) ⟨k0, n0, t0, b0, e0'⟩ rfl (block5 (x := vZero) HB.out _ _ _ _ _)) rfl ?_
    exact ⟨rfl, upd5 HU9.out (by omega) _ _ _ _ _⟩
  · have er : pairV n a b = tldV (remF a b) := by rw [hn]; rfl
    rw [er]
    clear er hn
    have MA := (remB a b).1
    obtain ⟨⟨p, c⟩, hp⟩ : ∃ r, remF a b = r := ⟨_, rfl⟩
    rw [hp] at MA ⊢
    simp only at MA
    have TO := fun w => nTold_any w p c
    obtain ⟨⟨k0, n0, t0, b0, e0'⟩, hev⟩ : ∃ v, tldV (p, c) = v := ⟨_, rfl⟩
    rw [hev] at TO ⊢
    unfold Vl.val at TO
    (try unfold Vl.val)
    simp only at TO ⊢
    clear hev
    clear ha hb hp
    go_enter Tryz.func34, Tryz.ntmps34
    go_wp2_with fail
    with_reducible refine Calls.mono (MA _) ?_
    rintro e w1 ⟨rfl, u1⟩
    have HU1 := hide (HU0.out.then u1 (fun _ _ => id))
    have HV1 := hide (u1.get HV0.out id)
    clear u1
    go_wp2_with fail
    with_reducible refine Calls.mono (TO _) ?_
    rintro e w9 ⟨rfl, u9⟩
    have HU9 := hide (HU1.out.then u9 (fun _ _ => id))
    have bV := u9.get HV1.out id
    obtain ⟨v0, v1, v2, v3, v4⟩ := cells5 bV
    have vl := lt_at bV
    have fv0 := free_at bV 0
    have fv1 := free_at bV 1
    have fv2 := free_at bV 2
    have fv3 := free_at bV 3
    have fv4 := free_at bV 4
    have HB := hide bV
    clear bV u9
    go_wp2_with fail
    (try simp only [Exit.inBlock, Exit.then])
    refine bodyPost_ret (ret_vl rfl _ _ (w.heap.size) ⟨k0, n0, t0, b0, e0'⟩ rfl (block5 (x := vZero) HB.out _ _ _ _ _)) rfl ?_
    exact ⟨rfl, upd5 HU9.out (by omega) _ _ _ _ _⟩
  · have er : pairV n a b = quotV a b := by rw [hn]; rfl
    rw [er]
    clear er hn
    have FA := fun w => quotient_any w a b ha hb
    obtain ⟨⟨k0, n0, t0, b0, e0'⟩, hev⟩ : ∃ v, quotV a b = v := ⟨_, rfl⟩
    rw [hev] at FA ⊢
    unfold Vl.val at FA
    (try unfold Vl.val)
    simp only at FA ⊢
    clear hev
    clear ha hb
    go_enter Tryz.func34, Tryz.ntmps34
    go_wp2_with fail
    with_reducible refine Calls.mono (FA _) ?_
    rintro e w9 ⟨rfl, u9⟩
    have HU9 := hide (HU0.out.then u9 (fun _ _ => id))
    have bV := u9.get HV0.out id
    obtain ⟨v0, v1, v2, v3, v4⟩ := cells5 bV
    have vl := lt_at bV
    have fv0 := free_at bV 0
    have fv1 := free_at bV 1
    have fv2 := free_at bV 2
    have fv3 := free_at bV 3
    have fv4 := free_at bV 4
    have HB := hide bV
    clear bV u9
    go_wp2_with fail
    (try simp only [Exit.inBlock, Exit.then])
    refine bodyPost_ret (ret_vl rfl _ _ (w.heap.size) ⟨k0, n0, t0, b0, e0'⟩ rfl (block5 (x := vZero) HB.out _ _ _ _ _)) rfl ?_
    exact ⟨rfl, upd5 HU9.out (by omega) _ _ _ _ _⟩
  · have er : pairV n a b = powV a b := by rw [hn]; rfl
    rw [er]
    clear er hn
    have FA := fun w => nPower_any w a b hb
    obtain ⟨⟨k0, n0, t0, b0, e0'⟩, hev⟩ : ∃ v, powV a b = v := ⟨_, rfl⟩
    rw [hev] at FA ⊢
    unfold Vl.val at FA
    (try unfold Vl.val)
    simp only at FA ⊢
    clear hev
    clear ha hb
    go_enter Tryz.func34, Tryz.ntmps34
    go_wp2_with fail
    with_reducible refine Calls.mono (FA _) ?_
    rintro e w9 ⟨rfl, u9⟩
    have HU9 := hide (HU0.out.then u9 (fun _ _ => id))
    have bV := u9.get HV0.out id
    obtain ⟨v0, v1, v2, v3, v4⟩ := cells5 bV
    have vl := lt_at bV
    have fv0 := free_at bV 0
    have fv1 := free_at bV 1
    have fv2 := free_at bV 2
    have fv3 := free_at bV 3
    have fv4 := free_at bV 4
    have HB := hide bV
    clear bV u9
    go_wp2_with fail
    (try simp only [Exit.inBlock, Exit.then])
    refine bodyPost_ret (ret_vl rfl _ _ (w.heap.size) ⟨k0, n0, t0, b0, e0'⟩ rfl (block5 (x := vZero) HB.out _ _ _ _ _)) rfl ?_
    exact ⟨rfl, upd5 HU9.out (by omega) _ _ _ _ _⟩
  · have er : pairV n a b = gcdV a b := by rw [hn]; rfl
    rw [er]
    clear er hn
    have FA := fun w => gcd_any w a b ha hb
    obtain ⟨⟨k0, n0, t0, b0, e0'⟩, hev⟩ : ∃ v, gcdV a b = v := ⟨_, rfl⟩
    rw [hev] at FA ⊢
    unfold Vl.val at FA
    (try unfold Vl.val)
    simp only at FA ⊢
    clear hev
    clear ha hb
    go_enter Tryz.func34, Tryz.ntmps34
    go_wp2_with fail
    with_reducible refine Calls.mono (FA _) ?_
    rintro e w9 ⟨rfl, u9⟩
    have HU9 := hide (HU0.out.then u9 (fun _ _ => id))
    have bV := u9.get HV0.out id
    obtain ⟨v0, v1, v2, v3, v4⟩ := cells5 bV
    have vl := lt_at bV
    have fv0 := free_at bV 0
    have fv1 := free_at bV 1
    have fv2 := free_at bV 2
    have fv3 := free_at bV 3
    have fv4 := free_at bV 4
    have HB := hide bV
    clear bV u9
    go_wp2_with fail
    (try simp only [Exit.inBlock, Exit.then])
    refine bodyPost_ret (ret_vl rfl _ _ (w.heap.size) ⟨k0, n0, t0, b0, e0'⟩ rfl (block5 (x := vZero) HB.out _ _ _ _ _)) rfl ?_
    exact ⟨rfl, upd5 HU9.out (by omega) _ _ _ _ _⟩
  · have er : pairV n a b = ratioV a b := by unfold pairV; rw [if_neg n1, if_neg n2, if_neg n3, if_neg n4, if_neg n5, if_neg n6]
    rw [er]
    clear er n1 n2 n3 n4 n5 n6
    have FA := fun w => ratio0_any w a b ha hb
    obtain ⟨⟨k0, n0, t0, b0, e0'⟩, hev⟩ : ∃ v, ratioV a b = v := ⟨_, rfl⟩
    rw [hev] at FA ⊢
    unfold Vl.val at FA
    (try unfold Vl.val)
    simp only at FA ⊢
    clear hev
    clear ha hb
    go_enter Tryz.func34, Tryz.ntmps34
    go_wp2_with fail
    with_reducible refine Calls.mono (FA _) ?_
    rintro e w9 ⟨rfl, u9⟩
    have HU9 := hide (HU0.out.then u9 (fun _ _ => id))
    have bV := u9.get HV0.out id
    obtain ⟨v0, v1, v2, v3, v4⟩ := cells5 bV
    have vl := lt_at bV
    have fv0 := free_at bV 0
    have fv1 := free_at bV 1
    have fv2 := free_at bV 2
    have fv3 := free_at bV 3
    have fv4 := free_at bV 4
    have HB := hide bV
    clear bV u9
    go_wp2_with fail
    (try simp only [Exit.inBlock, Exit.then])
    refine bodyPost_ret (ret_vl rfl _ _ (w.heap.size) ⟨k0, n0, t0, b0, e0'⟩ rfl (block5 (x := vZero) HB.out _ _ _ _ _)) rfl ?_
    exact ⟨rfl, upd5 HU9.out (by omega) _ _ _ _ _⟩
end Go.Proofs.YtmfngdjhkpddoaaGreatDoor
/- The walk of nums' Call. -/
set_option maxRecDepth 100000
namespace Go.Proofs.YtmfngdjhkpddoaaGreatDoor
open Go.RowKit Go.Lat Go.Lib

theorem takes_012 (n : List UInt8) : takesN n = 0 ∨ takesN n = 1 ∨ takesN n = 2 := by
  unfold takesN
  split
  · exact .inr (.inl rfl)
  · split
    · exact .inr (.inr rfl)
    · exact .inl rfl
theorem rw_one {w : World} {e : TypeId} {v x0 : Value} (h : Rw w e 1 v 1 [x0]) : ∃ g off cap, v = .slice (some ⟨g, off, none⟩) 1 cap ∧ g < w.heap.size ∧ w.cell? ⟨g, off, none⟩ = some x0 := by
  obtain ⟨g, off, cap, hv, hg, hc⟩ := Rw.pos h (by decide)
  exact ⟨g, off, cap, hv, hg, hc 0 _ rfl⟩
set_option maxHeartbeats 3200000 in
theorem nCall_any (w : World) (n : List UInt8) (l : List Vl) (p : Option Addr) (pc : Nat) (hr : RdV w p l) (ho : oksV l) (hl : l.length ≤ 1000000) :
    Calls Tryz.prog 11 #[enS n, .slice p l.length pc] w fun e w' => e = .returned (.tuple #[(callN n l).1.val, .bool (callN n l).2]) ∧ Upd w w' (fun _ => False) := by
  have TK := fun w => nTakes_any w n
  have HU0 : Hid (Upd w (w.alloc (.cells #[.int .i64 0, .int .i64 0, .string ⟨#[]⟩, .bool false, .int .i64 0] 26)) (fun _ => False)) := hide ((Upd.refl w _).alloc _)
  have HV0 : Hid ((w.alloc (.cells #[.int .i64 0, .int .i64 0, .string ⟨#[]⟩, .bool false, .int .i64 0] 26)).heap[w.heap.size]? = some (.cells #[.int .i64 0, .int .i64 0, .string ⟨#[]⟩, .bool false, .int .i64 0] 26 (0, 0))) := hide (Vnew1 w _)
  unfold callN
  by_cases h0 : takesN n = 0
  · rw [if_pos h0]
    rw [h0] at TK
    unfold Vl.val vZero
    simp only
    clear h0 hr ho
    go_enter Tryz.func11, Tryz.ntmps11
    go_wp2_with fail
    with_reducible refine Calls.mono (TK _) ?_
    rintro e w8 ⟨rfl, hw8⟩
    obtain rfl := hw8.symm
    clear hw8
    go_wp2_with fail
    (try simp only [Exit.inBlock, Exit.then])
    refine bodyPost_ret (ret_vlb rfl _ _ w.heap.size ⟨0, 0, [], false, 0⟩ rfl (Vnew1 w _)) rfl ?_
    exact ⟨rfl, HU0.out⟩
  rw [if_neg h0]
  by_cases hlen : (l.length : Int) ≠ takesN n
  · rw [if_pos hlen]
    have EA := fun w => E_any w 3
    simp only
    obtain ⟨t, ht⟩ : ∃ t, takesN n = t := ⟨_, rfl⟩
    rw [ht] at TK h0 hlen
    have b1 : (t == 0) = false := by simpa using h0
    have b2 : ((l.length : Int) != t) = true := by simpa using hlen
    obtain ⟨N, hN⟩ : ∃ N, l.length = N := ⟨_, rfl⟩
    rw [hN] at b2 ⊢
    obtain ⟨⟨k0, n0, t0, b0, e0'⟩, hev⟩ : ∃ v, mkE 3 = v := ⟨_, rfl⟩
    rw [hev] at EA ⊢
    unfold Vl.val at EA
    (try unfold Vl.val)
    simp only at EA ⊢
    clear hev
    clear h0 hlen ht hN hr ho
    go_enter Tryz.func11, Tryz.ntmps11
    go_wp2_with fail
    with_reducible refine Calls.mono (TK _) ?_
    rintro e w8 ⟨rfl, hw8⟩
    obtain rfl := hw8.symm
    clear hw8
    go_wp2_with fail
    with_reducible refine Calls.mono (EA _) ?_
    rintro e w9 ⟨rfl, u9⟩
    have HU9 := hide (HU0.out.then u9 (fun _ _ => id))
    have bV := u9.get HV0.out id
    obtain ⟨v0, v1, v2, v3, v4⟩ := cells5 bV
    have vl := lt_at bV
    have fv0 := free_at bV 0
    have fv1 := free_at bV 1
    have fv2 := free_at bV 2
    have fv3 := free_at bV 3
    have fv4 := free_at bV 4
    have HB := hide bV
    clear bV u9
    go_wp2_with fail
    (try simp only [Exit.inBlock, Exit.then])
    refine bodyPost_ret (ret_vlb rfl _ _ (w.heap.size) ⟨k0, n0, t0, b0, e0'⟩ rfl (block5 (x := vZero) HB.out _ _ _ _ _)) rfl ?_
    exact ⟨rfl, upd5 HU9.out (by omega) _ _ _ _ _⟩
  rw [if_neg hlen]
  have hlen' : (l.length : Int) = takesN n := Decidable.not_not.1 hlen
  have NS := fun W h => nums_any W l p pc h ho hl
  have HR := hide hr
  obtain ⟨F, hF⟩ : ∃ F, numsE l = F := ⟨_, rfl⟩
  rw [hF] at NS ⊢
  by_cases hf : F ≠ 0
  · rw [if_pos hf]
    have EA := fun w => E_any w F
    simp only
    obtain ⟨t, ht⟩ : ∃ t, takesN n = t := ⟨_, rfl⟩
    rw [ht] at TK h0 hlen'
    have b1 : (t == 0) = false := by simpa using h0
    have b2 : ((l.length : Int) != t) = false := by simpa using hlen'
    have bF : (F != 0) = true := by simpa using hf
    obtain ⟨N, hN⟩ : ∃ N, l.length = N := ⟨_, rfl⟩
    rw [hN] at b2 NS ⊢
    obtain ⟨⟨k0, n0, t0, b0, e0'⟩, hev⟩ : ∃ v, mkE F = v := ⟨_, rfl⟩
    rw [hev] at EA ⊢
    unfold Vl.val at EA
    (try unfold Vl.val)
    simp only at EA ⊢
    clear hev
    clear h0 hlen hlen' ht hN hr ho hl hf hF
    go_enter Tryz.func11, Tryz.ntmps11
    go_wp2_with fail
    with_reducible refine Calls.mono (TK _) ?_
    rintro e w8 ⟨rfl, hw8⟩
    obtain rfl := hw8.symm
    clear hw8
    go_wp2_with fail
    refine Calls.mono (NS _ (HR.out.upd HU0.out)) ?_
    rintro e w1 ⟨v, rfl, hv, u1⟩
    have HU1 := hide (HU0.out.then u1 (fun _ _ => id))
    have HV1 := hide (u1.get HV0.out id)
    clear u1
    clear hv
    go_wp2_with fail
    with_reducible refine Calls.mono (EA _) ?_
    rintro e w9 ⟨rfl, u9⟩
    have HU9 := hide (HU1.out.then u9 (fun _ _ => id))
    have bV := u9.get HV1.out id
    obtain ⟨v0, v1, v2, v3, v4⟩ := cells5 bV
    have vl := lt_at bV
    have fv0 := free_at bV 0
    have fv1 := free_at bV 1
    have fv2 := free_at bV 2
    have fv3 := free_at bV 3
    have fv4 := free_at bV 4
    have HB := hide bV
    clear bV u9
    go_wp2_with fail
    (try simp only [Exit.inBlock, Exit.then])
    refine bodyPost_ret (ret_vlb rfl _ _ (w.heap.size) ⟨k0, n0, t0, b0, e0'⟩ rfl (block5 (x := vZero) HB.out _ _ _ _ _)) rfl ?_
    exact ⟨rfl, upd5 HU9.out (by omega) _ _ _ _ _⟩
  rw [if_neg hf]
  obtain rfl : F = 0 := Decidable.not_not.1 hf
  rcases takes_012 n with h | h | h
  · exact absurd h h0
  · rw [if_pos h]
    rw [h] at hlen' TK
    obtain ⟨x, rfl⟩ : ∃ x, l = [x] := by
      rcases l with _ | ⟨x, _ | ⟨y, l⟩⟩
      · simp at hlen'
      · exact ⟨x, rfl⟩
      · simp at hlen'; omega
    have en : numsN [x] = [(numF x).1] := rfl
    have okx := numF_ok x
    have e1 : (numsN [x]).getD 0 0 = (numF x).1 := rfl
    rw [e1]
    rw [en] at NS
    obtain ⟨a, ha⟩ : ∃ a, (numF x).1 = a := ⟨_, rfl⟩
    rw [ha] at NS okx ⊢
    have el : [x].length = 1 := rfl
    rw [el] at NS ⊢
    have AA := fun w => alone_any w n a okx
    simp only
    obtain ⟨⟨k0, n0, t0, b0, e0'⟩, hev⟩ : ∃ v, aloneV n a = v := ⟨_, rfl⟩
    rw [hev] at AA ⊢
    unfold Vl.val at AA
    (try unfold Vl.val)
    simp only at AA ⊢
    clear hev
    clear h0 hlen hlen' hr ho hl hf hF en okx e1 ha el h
    go_enter Tryz.func11, Tryz.ntmps11
    go_wp2_with fail
    with_reducible refine Calls.mono (TK _) ?_
    rintro e w8 ⟨rfl, hw8⟩
    obtain rfl := hw8.symm
    clear hw8
    go_wp2_with fail
    refine Calls.mono (NS _ (HR.out.upd HU0.out)) ?_
    rintro e w1 ⟨v, rfl, hv, u1⟩
    have HU1 := hide (HU0.out.then u1 (fun _ _ => id))
    have HV1 := hide (u1.get HV0.out id)
    clear u1
    obtain ⟨g, off, cap, rfl, hgl, d0⟩ := rw_one (hv (by trivial))
    clear hv
    go_wp2_with fail
    with_reducible refine Calls.mono (AA _) ?_
    rintro e w9 ⟨rfl, u9⟩
    have HU9 := hide (HU1.out.then u9 (fun _ _ => id))
    have bV := u9.get HV1.out id
    obtain ⟨v0, v1, v2, v3, v4⟩ := cells5 bV
    have vl := lt_at bV
    have fv0 := free_at bV 0
    have fv1 := free_at bV 1
    have fv2 := free_at bV 2
    have fv3 := free_at bV 3
    have fv4 := free_at bV 4
    have HB := hide bV
    clear bV u9
    go_wp2_with fail
    (try simp only [Exit.inBlock, Exit.then])
    refine bodyPost_ret (ret_vlb rfl _ _ (w.heap.size) ⟨k0, n0, t0, b0, e0'⟩ rfl (block5 (x := vZero) HB.out _ _ _ _ _)) rfl ?_
    exact ⟨rfl, upd5 HU9.out (by omega) _ _ _ _ _⟩
  · rw [if_neg (by omega)]
    rw [h] at hlen' TK
    obtain ⟨x, y, rfl⟩ : ∃ x y, l = [x, y] := by
      rcases l with _ | ⟨x, _ | ⟨y, _ | ⟨z, l⟩⟩⟩
      · simp at hlen'
      · simp at hlen'
      · exact ⟨x, y, rfl⟩
      · simp at hlen'; omega
    have en : numsN [x, y] = [(numF x).1, (numF y).1] := rfl
    have okx := numF_ok x
    have oky := numF_ok y
    have e1 : (numsN [x, y]).getD 0 0 = (numF x).1 := rfl
    have e2 : (numsN [x, y]).getD 1 0 = (numF y).1 := rfl
    rw [e1, e2]
    rw [en] at NS
    obtain ⟨a, ha⟩ : ∃ a, (numF x).1 = a := ⟨_, rfl⟩
    obtain ⟨b, hb⟩ : ∃ a, (numF y).1 = a := ⟨_, rfl⟩
    rw [ha] at NS okx ⊢
    rw [hb] at NS oky ⊢
    have el : [x, y].length = 2 := rfl
    rw [el] at NS ⊢
    have PA := fun w => pair_any w n a b okx oky
    simp only
    obtain ⟨⟨k0, n0, t0, b0, e0'⟩, hev⟩ : ∃ v, pairV n a b = v := ⟨_, rfl⟩
    rw [hev] at PA ⊢
    unfold Vl.val at PA
    (try unfold Vl.val)
    simp only at PA ⊢
    clear hev
    clear h0 hlen hlen' hr ho hl hf hF en okx oky e1 e2 ha hb el h
    go_enter Tryz.func11, Tryz.ntmps11
    go_wp2_with fail
    with_reducible refine Calls.mono (TK _) ?_
    rintro e w8 ⟨rfl, hw8⟩
    obtain rfl := hw8.symm
    clear hw8
    go_wp2_with fail
    refine Calls.mono (NS _ (HR.out.upd HU0.out)) ?_
    rintro e w1 ⟨v, rfl, hv, u1⟩
    have HU1 := hide (HU0.out.then u1 (fun _ _ => id))
    have HV1 := hide (u1.get HV0.out id)
    clear u1
    obtain ⟨g, off, cap, rfl, hgl, d0, d1, hap⟩ := rw_two (hv (by trivial))
    have hgV := hap _ _ _ HV1.out (by decide)
    have D0 : w1.drew.cell? ⟨g, off, none⟩ = some (.int .i64 a) := d0
    have HGL : g < w1.drew.heap.size := hgl
    have D1 : w1.drew.cell? ⟨g, off + 1, none⟩ = some (.int .i64 b) := d1
    have hU1 := HU1.out
    clear hv hap
    go_wp2_with fail
    go_region_held3 (fun w' => w'.cell? ⟨g, off, none⟩ = some (.int .i64 a) ∧ w'.cell? ⟨g, off + 1, none⟩ = some (.int .i64 b))
      (first | (go_keep; done) | (with_reducible exact ⟨(u9.cell g _ HGL id).trans D0, (u9.cell g _ HGL id).trans D1⟩) | (with_reducible exact ⟨(set5_cell hgV (Nat.lt_of_lt_of_le HGL u9.size) _ _ _ _ _).trans ((u9.cell g _ HGL id).trans D0), (set5_cell hgV (Nat.lt_of_lt_of_le HGL u9.size) _ _ _ _ _).trans ((u9.cell g _ HGL id).trans D1)⟩) | (with_reducible exact ⟨D0, D1⟩) | (with_reducible exact ⟨d0, d1⟩))
      (first
        | (go_at_call 34; with_reducible refine Calls.mono (PA _) ?_; rintro e w9 ⟨rfl, u9⟩; have HU9 := hide (HU1.out.drew.then u9 (fun _ _ => id)); have bV := u9.get HV1.out id; obtain ⟨v0, v1, v2, v3, v4⟩ := cells5 bV; have vl := lt_at bV; have fv0 := free_at bV 0; have fv1 := free_at bV 1; have fv2 := free_at bV 2; have fv3 := free_at bV 3; have fv4 := free_at bV 4; have HB := hide bV; clear bV))
    all_goals go_wp2_with fail
    all_goals (try simp only [Exit.inBlock, Exit.then])
    all_goals refine bodyPost_ret (ret_vlb rfl _ _ w.heap.size ⟨k0, n0, t0, b0, e0'⟩ rfl (block5 (x := vZero) HB.out _ _ _ _ _)) rfl ?_
    all_goals exact ⟨rfl, upd5 HU9.out (by omega) _ _ _ _ _⟩
end Go.Proofs.YtmfngdjhkpddoaaGreatDoor
