/- The reference's small ones, its powers and greatest divisors. -/
import Derived.Test.YtmfngdjhkpddoaaGreatDoorJ32
set_option maxRecDepth 100000
namespace Go.Proofs.YtmfngdjhkpddoaaGreatDoor
open Go.RowKit Go.Lat Go.Lib

def rawE (f : Int) : Vl := ⟨4, 0, [], false, f⟩
theorem rawE_ok {f : Int} (h : okFail f = true) : rawE f = mkE f := by unfold rawE mkE; rw [if_pos h]
theorem RE9_any (w : World) (f : Int) : Calls Tryz.prog 42 #[.int .i64 f] w fun e w' => e = .returned (rawE f).val ∧ Upd w w' (fun _ => False) := by
  unfold rawE Vl.val
  simp only
  go_enter Tryz.func42, Tryz.ntmps42
  go_wp2_with fail
  (try simp only [Exit.inBlock, Exit.then])
  refine bodyPost_ret (ret_rv rfl _ _ w.heap.size ⟨4, 0, [], false, f⟩ rfl (Vnew1 w _)) rfl ?_
  exact ⟨rfl, (Upd.refl w _).alloc _⟩
theorem REk_any (w : World) (f : Int) (h : okFail f = true) : Calls Tryz.prog 42 #[.int .i64 f] w fun e w' => e = .returned (mkE f).val ∧ Upd w w' (fun _ => False) := by
  rw [← rawE_ok h]
  exact RE9_any w f
theorem tld_err {p q e : Int} (h : e ≠ 0) : tldV (p, e) = tldV (q, e) := by
  unfold tldV
  simp only
  rw [if_neg h, if_neg h]
theorem RTold_any (w : World) (n e : Int) : Calls Tryz.prog 53 #[.int .i64 n, .int .i64 e] w fun e' w' => e' = .returned (tldV (n, e)).val ∧ Upd w w' (fun _ => False) := by
  have HU0 : Hid (Upd w (w.alloc (.cells #[.int .i64 0, .int .i64 0, .string ⟨#[]⟩, .bool false, .int .i64 0] 36)) (fun _ => False)) := hide ((Upd.refl w _).alloc _)
  have HV0 : Hid ((w.alloc (.cells #[.int .i64 0, .int .i64 0, .string ⟨#[]⟩, .bool false, .int .i64 0] 36)).heap[w.heap.size]? = some (.cells #[.int .i64 0, .int .i64 0, .string ⟨#[]⟩, .bool false, .int .i64 0] 36 (0, 0))) := hide (Vnew1 w _)
  unfold tldV
  simp only
  by_cases h : e = 0
  · have b1 : (e == 6) = false := by rw [h]; rfl
    have b2 : (e != 0) = false := by simpa using h
    rw [if_pos h]
    have NA := fun w => RN_any w n
    obtain ⟨⟨k0, n0, t0, b0, e0'⟩, hev⟩ : ∃ v, mkN n = v := ⟨_, rfl⟩
    rw [hev] at NA ⊢
    unfold Vl.val at NA
    (try unfold Vl.val)
    simp only at NA ⊢
    clear hev
    clear h
    go_enter Tryz.func53, Tryz.ntmps53
    go_wp2_with fail
    with_reducible refine Calls.mono (NA _) ?_
    rintro e w9 ⟨rfl, u9⟩
    have HU9 := hide (HU0.out.then u9 (fun _ _ => id))
    have bV := u9.get HV0.out id
    obtain ⟨v0, v1, v2, v3, v4⟩ := cells5 bV
    have vl := lt_at bV
    have fv0 := free_at bV 0
    have fv1 := free_at bV 1
    have fv2 := free_at bV 2
    have fv3 := free_at bV 3
    have fv4 := free_at bV 4
    have HB := hide bV
    clear bV u9
    go_wp2_with fail
    (try simp only [Exit.inBlock, Exit.then])
    refine bodyPost_ret (ret_rv rfl _ _ (w.heap.size) ⟨k0, n0, t0, b0, e0'⟩ rfl (rblock5 (x := vZero) HB.out _ _ _ _ _)) rfl ?_
    exact ⟨rfl, upd5 HU9.out (by omega) _ _ _ _ _⟩
  · have b2 : (e != 0) = true := by simpa using h
    rw [if_neg h]
    by_cases h6 : e = 6
    · have b1 : (e == 6) = true := by simpa using h6
      rw [if_pos h6]
      have EA := fun w => REk_any w 1 (by decide)
      obtain ⟨⟨k0, n0, t0, b0, e0'⟩, hev⟩ : ∃ v, mkE 1 = v := ⟨_, rfl⟩
      rw [hev] at EA ⊢
      unfold Vl.val at EA
      (try unfold Vl.val)
      simp only at EA ⊢
      clear hev
      clear h h6
      go_enter Tryz.func53, Tryz.ntmps53
      go_wp2_with fail
      with_reducible refine Calls.mono (EA _) ?_
      rintro e w9 ⟨rfl, u9⟩
      have HU9 := hide (HU0.out.then u9 (fun _ _ => id))
      have bV := u9.get HV0.out id
      obtain ⟨v0, v1, v2, v3, v4⟩ := cells5 bV
      have vl := lt_at bV
      have fv0 := free_at bV 0
      have fv1 := free_at bV 1
      have fv2 := free_at bV 2
      have fv3 := free_at bV 3
      have fv4 := free_at bV 4
      have HB := hide bV
      clear bV u9
      go_wp2_with fail
      (try simp only [Exit.inBlock, Exit.then])
      refine bodyPost_ret (ret_rv rfl _ _ (w.heap.size) ⟨k0, n0, t0, b0, e0'⟩ rfl (rblock5 (x := vZero) HB.out _ _ _ _ _)) rfl ?_
      exact ⟨rfl, upd5 HU9.out (by omega) _ _ _ _ _⟩
    · have b1 : (e == 6) = false := by simpa using h6
      rw [if_neg h6]
      have EA := fun w => REk_any w 2 (by decide)
      obtain ⟨⟨k0, n0, t0, b0, e0'⟩, hev⟩ : ∃ v, mkE 2 = v := ⟨_, rfl⟩
      rw [hev] at EA ⊢
      unfold Vl.val at EA
      (try unfold Vl.val)
      simp only at EA ⊢
      clear hev
      clear h h6
      go_enter Tryz.func53, Tryz.ntmps53
      go_wp2_with fail
      with_reducible refine Calls.mono (EA _) ?_
      rintro e w9 ⟨rfl, u9⟩
      have HU9 := hide (HU0.out.then u9 (fun _ _ => id))
      have bV := u9.get HV0.out id
      obtain ⟨v0, v1, v2, v3, v4⟩ := cells5 bV
      have vl := lt_at bV
      have fv0 := free_at bV 0
      have fv1 := free_at bV 1
      have fv2 := free_at bV 2
      have fv3 := free_at bV 3
      have fv4 := free_at bV 4
      have HB := hide bV
      clear bV u9
      go_wp2_with fail
      (try simp only [Exit.inBlock, Exit.then])
      refine bodyPost_ret (ret_rv rfl _ _ (w.heap.size) ⟨k0, n0, t0, b0, e0'⟩ rfl (rblock5 (x := vZero) HB.out _ _ _ _ _)) rfl ?_
      exact ⟨rfl, upd5 HU9.out (by omega) _ _ _ _ _⟩
theorem line_cases (n : List UInt8) : (n = [61] ∧ (n == [61]) = true ∧ (n == [60, 62]) = false ∧ (n == [60]) = false ∧ (n == [60, 61]) = false ∧ (n == [62]) = false ∧ (n == [62, 61]) = false ∧ (n == [38]) = false ∧ (n == [43]) = false ∧ (n == [45]) = false ∧ (n == [42]) = false ∧ (n == [47]) = false ∧ (n == [94]) = false) ∨
    (n = [60, 62] ∧ (n == [61]) = false ∧ (n == [60, 62]) = true ∧ (n == [60]) = false ∧ (n == [60, 61]) = false ∧ (n == [62]) = false ∧ (n == [62, 61]) = false ∧ (n == [38]) = false ∧ (n == [43]) = false ∧ (n == [45]) = false ∧ (n == [42]) = false ∧ (n == [47]) = false ∧ (n == [94]) = false) ∨
    (n = [60] ∧ (n == [61]) = false ∧ (n == [60, 62]) = false ∧ (n == [60]) = true ∧ (n == [60, 61]) = false ∧ (n == [62]) = false ∧ (n == [62, 61]) = false ∧ (n == [38]) = false ∧ (n == [43]) = false ∧ (n == [45]) = false ∧ (n == [42]) = false ∧ (n == [47]) = false ∧ (n == [94]) = false) ∨
    (n = [60, 61] ∧ (n == [61]) = false ∧ (n == [60, 62]) = false ∧ (n == [60]) = false ∧ (n == [60, 61]) = true ∧ (n == [62]) = false ∧ (n == [62, 61]) = false ∧ (n == [38]) = false ∧ (n == [43]) = false ∧ (n == [45]) = false ∧ (n == [42]) = false ∧ (n == [47]) = false ∧ (n == [94]) = false) ∨
    (n = [62] ∧ (n == [61]) = false ∧ (n == [60, 62]) = false ∧ (n == [60]) = false ∧ (n == [60, 61]) = false ∧ (n == [62]) = true ∧ (n == [62, 61]) = false ∧ (n == [38]) = false ∧ (n == [43]) = false ∧ (n == [45]) = false ∧ (n == [42]) = false ∧ (n == [47]) = false ∧ (n == [94]) = false) ∨
    (n = [62, 61] ∧ (n == [61]) = false ∧ (n == [60, 62]) = false ∧ (n == [60]) = false ∧ (n == [60, 61]) = false ∧ (n == [62]) = false ∧ (n == [62, 61]) = true ∧ (n == [38]) = false ∧ (n == [43]) = false ∧ (n == [45]) = false ∧ (n == [42]) = false ∧ (n == [47]) = false ∧ (n == [94]) = false) ∨
    (n = [38] ∧ (n == [61]) = false ∧ (n == [60, 62]) = false ∧ (n == [60]) = false ∧ (n == [60, 61]) = false ∧ (n == [62]) = false ∧ (n == [62, 61]) = false ∧ (n == [38]) = true ∧ (n == [43]) = false ∧ (n == [45]) = false ∧ (n == [42]) = false ∧ (n == [47]) = false ∧ (n == [94]) = false) ∨
    (n = [43] ∧ (n == [61]) = false ∧ (n == [60, 62]) = false ∧ (n == [60]) = false ∧ (n == [60, 61]) = false ∧ (n == [62]) = false ∧ (n == [62, 61]) = false ∧ (n == [38]) = false ∧ (n == [43]) = true ∧ (n == [45]) = false ∧ (n == [42]) = false ∧ (n == [47]) = false ∧ (n == [94]) = false) ∨
    (n = [45] ∧ (n == [61]) = false ∧ (n == [60, 62]) = false ∧ (n == [60]) = false ∧ (n == [60, 61]) = false ∧ (n == [62]) = false ∧ (n == [62, 61]) = false ∧ (n == [38]) = false ∧ (n == [43]) = false ∧ (n == [45]) = true ∧ (n == [42]) = false ∧ (n == [47]) = false ∧ (n == [94]) = false) ∨
    (n = [42] ∧ (n == [61]) = false ∧ (n == [60, 62]) = false ∧ (n == [60]) = false ∧ (n == [60, 61]) = false ∧ (n == [62]) = false ∧ (n == [62, 61]) = false ∧ (n == [38]) = false ∧ (n == [43]) = false ∧ (n == [45]) = false ∧ (n == [42]) = true ∧ (n == [47]) = false ∧ (n == [94]) = false) ∨
    (n = [47] ∧ (n == [61]) = false ∧ (n == [60, 62]) = false ∧ (n == [60]) = false ∧ (n == [60, 61]) = false ∧ (n == [62]) = false ∧ (n == [62, 61]) = false ∧ (n == [38]) = false ∧ (n == [43]) = false ∧ (n == [45]) = false ∧ (n == [42]) = false ∧ (n == [47]) = true ∧ (n == [94]) = false) ∨
    (n = [94] ∧ (n == [61]) = false ∧ (n == [60, 62]) = false ∧ (n == [60]) = false ∧ (n == [60, 61]) = false ∧ (n == [62]) = false ∧ (n == [62, 61]) = false ∧ (n == [38]) = false ∧ (n == [43]) = false ∧ (n == [45]) = false ∧ (n == [42]) = false ∧ (n == [47]) = false ∧ (n == [94]) = true) ∨
    (n ≠ [61] ∧ n ≠ [60, 62] ∧ n ≠ [60] ∧ n ≠ [60, 61] ∧ n ≠ [62] ∧ n ≠ [62, 61] ∧ n ≠ [38] ∧ n ≠ [43] ∧ n ≠ [45] ∧ n ≠ [42] ∧ n ≠ [47] ∧ n ≠ [94] ∧ (n == [61]) = false ∧ (n == [60, 62]) = false ∧ (n == [60]) = false ∧ (n == [60, 61]) = false ∧ (n == [62]) = false ∧ (n == [62, 61]) = false ∧ (n == [38]) = false ∧ (n == [43]) = false ∧ (n == [45]) = false ∧ (n == [42]) = false ∧ (n == [47]) = false ∧ (n == [94]) = false) := by
  by_cases h0 : n = [61]
  · left
    subst h0
    exact ⟨rfl, by decide, by decide, by decide, by decide, by decide, by decide, by decide, by decide, by decide, by decide, by decide, by decide⟩
  by_cases h1 : n = [60, 62]
  · right; left
    subst h1
    exact ⟨rfl, by decide, by decide, by decide, by decide, by decide, by decide, by decide, by decide, by decide, by decide, by decide, by decide⟩
  by_cases h2 : n = [60]
  · right; right; left
    subst h2
    exact ⟨rfl, by decide, by decide, by decide, by decide, by decide, by decide, by decide, by decide, by decide, by decide, by decide, by decide⟩
  by_cases h3 : n = [60, 61]
  · right; right; right; left
    subst h3
    exact ⟨rfl, by decide, by decide, by decide, by decide, by decide, by decide, by decide, by decide, by decide, by decide, by decide, by decide⟩
  by_cases h4 : n = [62]
  · right; right; right; right; left
    subst h4
    exact ⟨rfl, by decide, by decide, by decide, by decide, by decide, by decide, by decide, by decide, by decide, by decide, by decide, by decide⟩
  by_cases h5 : n = [62, 61]
  · right; right; right; right; right; left
    subst h5
    exact ⟨rfl, by decide, by decide, by decide, by decide, by decide, by decide, by decide, by decide, by decide, by decide, by decide, by decide⟩
  by_cases h6 : n = [38]
  · right; right; right; right; right; right; left
    subst h6
    exact ⟨rfl, by decide, by decide, by decide, by decide, by decide, by decide, by decide, by decide, by decide, by decide, by decide, by decide⟩
  by_cases h7 : n = [43]
  · right; right; right; right; right; right; right; left
    subst h7
    exact ⟨rfl, by decide, by decide, by decide, by decide, by decide, by decide, by decide, by decide, by decide, by decide, by decide, by decide⟩
  by_cases h8 : n = [45]
  · right; right; right; right; right; right; right; right; left
    subst h8
    exact ⟨rfl, by decide, by decide, by decide, by decide, by decide, by decide, by decide, by decide, by decide, by decide, by decide, by decide⟩
  by_cases h9 : n = [42]
  · right; right; right; right; right; right; right; right; right; left
    subst h9
    exact ⟨rfl, by decide, by decide, by decide, by decide, by decide, by decide, by decide, by decide, by decide, by decide, by decide, by decide⟩
  by_cases h10 : n = [47]
  · right; right; right; right; right; right; right; right; right; right; left
    subst h10
    exact ⟨rfl, by decide, by decide, by decide, by decide, by decide, by decide, by decide, by decide, by decide, by decide, by decide, by decide⟩
  by_cases h11 : n = [94]
  · right; right; right; right; right; right; right; right; right; right; right; left
    subst h11
    exact ⟨rfl, by decide, by decide, by decide, by decide, by decide, by decide, by decide, by decide, by decide, by decide, by decide, by decide⟩
  right; right; right; right; right; right; right; right; right; right; right; right
  exact ⟨h0, h1, h2, h3, h4, h5, h6, h7, h8, h9, h10, h11, by simpa using h0, by simpa using h1, by simpa using h2, by simpa using h3, by simpa using h4, by simpa using h5, by simpa using h6, by simpa using h7, by simpa using h8, by simpa using h9, by simpa using h10, by simpa using h11⟩
def lineN (n : List UInt8) : Int := if isCmp n then 1 else if n = [38] then 2 else if n = [43] then 3 else if n = [45] then 3 else if n = [42] then 4 else if n = [47] then 4 else if n = [94] then 5 else 0
set_option maxHeartbeats 1600000 in
theorem Line_any (w : World) (n : List UInt8) : Calls Tryz.prog 40 #[enS n] w fun e w' => e = .returned (.int .i64 (lineN n)) ∧ w' = w := by
  rcases line_cases n with ⟨hn, b1, b2, b3, b4, b5, b6, b7, b8, b9, b10, b11, b12⟩ | ⟨hn, b1, b2, b3, b4, b5, b6, b7, b8, b9, b10, b11, b12⟩ | ⟨hn, b1, b2, b3, b4, b5, b6, b7, b8, b9, b10, b11, b12⟩ | ⟨hn, b1, b2, b3, b4, b5, b6, b7, b8, b9, b10, b11, b12⟩ | ⟨hn, b1, b2, b3, b4, b5, b6, b7, b8, b9, b10, b11, b12⟩ | ⟨hn, b1, b2, b3, b4, b5, b6, b7, b8, b9, b10, b11, b12⟩ | ⟨hn, b1, b2, b3, b4, b5, b6, b7, b8, b9, b10, b11, b12⟩ | ⟨hn, b1, b2, b3, b4, b5, b6, b7, b8, b9, b10, b11, b12⟩ | ⟨hn, b1, b2, b3, b4, b5, b6, b7, b8, b9, b10, b11, b12⟩ | ⟨hn, b1, b2, b3, b4, b5, b6, b7, b8, b9, b10, b11, b12⟩ | ⟨hn, b1, b2, b3, b4, b5, b6, b7, b8, b9, b10, b11, b12⟩ | ⟨hn, b1, b2, b3, b4, b5, b6, b7, b8, b9, b10, b11, b12⟩ | ⟨n1, n2, n3, n4, n5, n6, n7, n8, n9, n10, n11, n12, b1, b2, b3, b4, b5, b6, b7, b8, b9, b10, b11, b12⟩
  · have et : lineN n = 1 := by rw [hn]; rfl
    rw [et]
    clear hn et
    go_enter Tryz.func40, Tryz.ntmps40
    go_wp2_with fail
    go_ret
    exact ⟨rfl, rfl⟩
  · have et : lineN n = 1 := by rw [hn]; rfl
    rw [et]
    clear hn et
    go_enter Tryz.func40, Tryz.ntmps40
    go_wp2_with fail
    go_ret
    exact ⟨rfl, rfl⟩
  · have et : lineN n = 1 := by rw [hn]; rfl
    rw [et]
    clear hn et
    go_enter Tryz.func40, Tryz.ntmps40
    go_wp2_with fail
    go_ret
    exact ⟨rfl, rfl⟩
  · have et : lineN n = 1 := by rw [hn]; rfl
    rw [et]
    clear hn et
    go_enter Tryz.func40, Tryz.ntmps40
    go_wp2_with fail
    go_ret
    exact ⟨rfl, rfl⟩
  · have et : lineN n = 1 := by rw [hn]; rfl
    rw [et]
    clear hn et
    go_enter Tryz.func40, Tryz.ntmps40
    go_wp2_with fail
    go_ret
    exact ⟨rfl, rfl⟩
  · have et : lineN n = 1 := by rw [hn]; rfl
    rw [et]
    clear hn et
    go_enter Tryz.func40, Tryz.ntmps40
    go_wp2_with fail
    go_ret
    exact ⟨rfl, rfl⟩
  · have et : lineN n = 2 := by rw [hn]; rfl
    rw [et]
    clear hn et
    go_enter Tryz.func40, Tryz.ntmps40
    go_wp2_with fail
    go_ret
    exact ⟨rfl, rfl⟩
  · have et : lineN n = 3 := by rw [hn]; rfl
    rw [et]
    clear hn et
    go_enter Tryz.func40, Tryz.ntmps40
    go_wp2_with fail
    go_ret
    exact ⟨rfl, rfl⟩
  · have et : lineN n = 3 := by rw [hn]; rfl
    rw [et]
    clear hn et
    go_enter Tryz.func40, Tryz.ntmps40
    go_wp2_with fail
    go_ret
    exact ⟨rfl, rfl⟩
  · have et : lineN n = 4 := by rw [hn]; rfl
    rw [et]
    clear hn et
    go_enter Tryz.func40, Tryz.ntmps40
    go_wp2_with fail
    go_ret
    exact ⟨rfl, rfl⟩
  · have et : lineN n = 4 := by rw [hn]; rfl
    rw [et]
    clear hn et
    go_enter Tryz.func40, Tryz.ntmps40
    go_wp2_with fail
    go_ret
    exact ⟨rfl, rfl⟩
  · have et : lineN n = 5 := by rw [hn]; rfl
    rw [et]
    clear hn et
    go_enter Tryz.func40, Tryz.ntmps40
    go_wp2_with fail
    go_ret
    exact ⟨rfl, rfl⟩
  · have et : lineN n = 0 := by unfold lineN isCmp; simp [n1, n2, n3, n4, n5, n6, n7, n8, n9, n10, n11, n12]
    rw [et]
    clear n1 n2 n3 n4 n5 n6 n7 n8 n9 n10 n11 n12 et
    go_enter Tryz.func40, Tryz.ntmps40
    go_wp2_with fail
    go_ret
    exact ⟨rfl, rfl⟩
set_option maxHeartbeats 1600000 in
theorem compare_any (w : World) (n : List UInt8) (r : Int) (hc : isCmp n = true) (hr : r = -1 ∨ r = 0 ∨ r = 1) : Calls Tryz.prog 43 #[enS n, .int .i64 r] w fun e w' => e = .returned (.bool (holdB n r)) ∧ w' = w := by
  rcases cmp_cases n with ⟨hn, b1, b2, b3, b4, b5, b6⟩ | ⟨hn, b1, b2, b3, b4, b5, b6⟩ | ⟨hn, b1, b2, b3, b4, b5, b6⟩ | ⟨hn, b1, b2, b3, b4, b5, b6⟩ | ⟨hn, b1, b2, b3, b4, b5, b6⟩ | ⟨hn, b1, b2, b3, b4, b5, b6⟩ | ⟨n1, n2, n3, n4, n5, n6, b1, b2, b3, b4, b5, b6⟩
  · rcases hr with rfl | rfl | rfl
    · have e1 : holdB n (-1) = false := by rw [hn]; decide
      rw [e1]
      clear e1 hn hc
      go_enter Tryz.func43, Tryz.ntmps43
      go_wp2_with fail
      all_goals go_ret
      all_goals exact ⟨rfl, rfl⟩
    · have e1 : holdB n (0) = true := by rw [hn]; decide
      rw [e1]
      clear e1 hn hc
      go_enter Tryz.func43, Tryz.ntmps43
      go_wp2_with fail
      all_goals go_ret
      all_goals exact ⟨rfl, rfl⟩
    · have e1 : holdB n (1) = false := by rw [hn]; decide
      rw [e1]
      clear e1 hn hc
      go_enter Tryz.func43, Tryz.ntmps43
      go_wp2_with fail
      all_goals go_ret
      all_goals exact ⟨rfl, rfl⟩
  · rcases hr with rfl | rfl | rfl
    · have e1 : holdB n (-1) = true := by rw [hn]; decide
      rw [e1]
      clear e1 hn hc
      go_enter Tryz.func43, Tryz.ntmps43
      go_wp2_with fail
      all_goals go_ret
      all_goals exact ⟨rfl, rfl⟩
    · have e1 : holdB n (0) = false := by rw [hn]; decide
      rw [e1]
      clear e1 hn hc
      go_enter Tryz.func43, Tryz.ntmps43
      go_wp2_with fail
      all_goals go_ret
      all_goals exact ⟨rfl, rfl⟩
    · have e1 : holdB n (1) = true := by rw [hn]; decide
      rw [e1]
      clear e1 hn hc
      go_enter Tryz.func43, Tryz.ntmps43
      go_wp2_with fail
      all_goals go_ret
      all_goals exact ⟨rfl, rfl⟩
  · rcases hr with rfl | rfl | rfl
    · have e1 : holdB n (-1) = true := by rw [hn]; decide
      rw [e1]
      clear e1 hn hc
      go_enter Tryz.func43, Tryz.ntmps43
      go_wp2_with fail
      all_goals go_ret
      all_goals exact ⟨rfl, rfl⟩
    · have e1 : holdB n (0) = false := by rw [hn]; decide
      rw [e1]
      clear e1 hn hc
      go_enter Tryz.func43, Tryz.ntmps43
      go_wp2_with fail
      all_goals go_ret
      all_goals exact ⟨rfl, rfl⟩
    · have e1 : holdB n (1) = false := by rw [hn]; decide
      rw [e1]
      clear e1 hn hc
      go_enter Tryz.func43, Tryz.ntmps43
      go_wp2_with fail
      all_goals go_ret
      all_goals exact ⟨rfl, rfl⟩
  · rcases hr with rfl | rfl | rfl
    · have e1 : holdB n (-1) = true := by rw [hn]; decide
      rw [e1]
      clear e1 hn hc
      go_enter Tryz.func43, Tryz.ntmps43
      go_wp2_with fail
      all_goals go_ret
      all_goals exact ⟨rfl, rfl⟩
    · have e1 : holdB n (0) = true := by rw [hn]; decide
      rw [e1]
      clear e1 hn hc
      go_enter Tryz.func43, Tryz.ntmps43
      go_wp2_with fail
      all_goals go_ret
      all_goals exact ⟨rfl, rfl⟩
    · have e1 : holdB n (1) = false := by rw [hn]; decide
      rw [e1]
      clear e1 hn hc
      go_enter Tryz.func43, Tryz.ntmps43
      go_wp2_with fail
      all_goals go_ret
      all_goals exact ⟨rfl, rfl⟩
  · rcases hr with rfl | rfl | rfl
    · have e1 : holdB n (-1) = false := by rw [hn]; decide
      rw [e1]
      clear e1 hn hc
      go_enter Tryz.func43, Tryz.ntmps43
      go_wp2_with fail
      all_goals go_ret
      all_goals exact ⟨rfl, rfl⟩
    · have e1 : holdB n (0) = false := by rw [hn]; decide
      rw [e1]
      clear e1 hn hc
      go_enter Tryz.func43, Tryz.ntmps43
      go_wp2_with fail
      all_goals go_ret
      all_goals exact ⟨rfl, rfl⟩
    · have e1 : holdB n (1) = true := by rw [hn]; decide
      rw [e1]
      clear e1 hn hc
      go_enter Tryz.func43, Tryz.ntmps43
      go_wp2_with fail
      all_goals go_ret
      all_goals exact ⟨rfl, rfl⟩
  · rcases hr with rfl | rfl | rfl
    · have e1 : holdB n (-1) = false := by rw [hn]; decide
      rw [e1]
      clear e1 hn hc
      go_enter Tryz.func43, Tryz.ntmps43
      go_wp2_with fail
      all_goals go_ret
      all_goals exact ⟨rfl, rfl⟩
    · have e1 : holdB n (0) = true := by rw [hn]; decide
      rw [e1]
      clear e1 hn hc
      go_enter Tryz.func43, Tryz.ntmps43
      go_wp2_with fail
      all_goals go_ret
      all_goals exact ⟨rfl, rfl⟩
    · have e1 : holdB n (1) = true := by rw [hn]; decide
      rw [e1]
      clear e1 hn hc
      go_enter Tryz.func43, Tryz.ntmps43
      go_wp2_with fail
      all_goals go_ret
      all_goals exact ⟨rfl, rfl⟩
  · exfalso
    unfold isCmp at hc
    simp [n1, n2, n3, n4, n5, n6] at hc
theorem RNeg_any (w : World) (x : Vl) (htl : x.t.length ≤ 1000000) : Calls Tryz.prog 26 #[x.val] w fun e w' => e = .returned (negV x).val ∧ Upd w w' (fun _ => False) := by
  have NA := fun w => numR_any w x htl
  have hok := numF_ok x
  have hfk := numF_fok x
  unfold negV
  obtain ⟨⟨n, f⟩, hp⟩ : ∃ r, numF x = r := ⟨_, rfl⟩
  rw [hp] at NA hok hfk ⊢
  simp only at NA hok hfk ⊢
  clear hp
  obtain ⟨xk, xn, xt, xb, xf⟩ := x
  unfold Vl.val at NA ⊢
  simp only at NA ⊢
  clear htl
  have HU0 : Hid (Upd w ((w.alloc (.cells #[.int .i64 xk, .int .i64 xn, enS xt, .bool xb, .int .i64 xf] 36)).alloc (.cells #[.int .i64 0, .int .i64 0, .string ⟨#[]⟩, .bool false, .int .i64 0] 36)) (fun _ => False)) := hide (((Upd.refl w _).alloc _).alloc _)
  have HX0 : Hid (((w.alloc (.cells #[.int .i64 xk, .int .i64 xn, enS xt, .bool xb, .int .i64 xf] 36)).alloc (.cells #[.int .i64 0, .int .i64 0, .string ⟨#[]⟩, .bool false, .int .i64 0] 36)).heap[w.heap.size]? = some (.cells #[.int .i64 xk, .int .i64 xn, enS xt, .bool xb, .int .i64 xf] 36 (0, 0))) := hide (block_alloc (Vnew1 w _) _)
  have HV0 : Hid (((w.alloc (.cells #[.int .i64 xk, .int .i64 xn, enS xt, .bool xb, .int .i64 xf] 36)).alloc (.cells #[.int .i64 0, .int .i64 0, .string ⟨#[]⟩, .bool false, .int .i64 0] 36)).heap[w.heap.size + 1]? = some (.cells #[.int .i64 0, .int .i64 0, .string ⟨#[]⟩, .bool false, .int .i64 0] 36 (0, 0))) := hide (Vnew2 w _ _)
  by_cases h : f = 0
  · subst h
    rw [if_pos rfl]
    have hr := okNum_true hok
    have w1 : IntKind.i64.wrap (-n) = -n := by rw [IntWalk.i64_in _ (by omega)]
    have NN := fun w => RN_any w (-n)
    obtain ⟨⟨k0, n0, t0, b0, e0'⟩, hev⟩ : ∃ v, mkN (-n) = v := ⟨_, rfl⟩
    rw [hev] at NN ⊢
    unfold Vl.val at NN
    (try unfold Vl.val)
    simp only at NN ⊢
    clear hev
    clear hok hr hfk
    go_enter Tryz.func26, Tryz.ntmps26
    go_wp2_with fail
    with_reducible refine Calls.mono (NA _) ?_
    rintro e w1 ⟨rfl, u1⟩
    have HU1 := hide (HU0.out.then u1 (fun _ _ => id))
    have HV1 := hide (u1.get HV0.out id)
    have HX1 := hide (u1.get HX0.out id)
    clear u1
    go_wp2_with fail
    with_reducible refine Calls.mono (NN _) ?_
    rintro e w9 ⟨rfl, u9⟩
    have HU9 := hide (HU1.out.then u9 (fun _ _ => id))
    have bV := u9.get HV1.out id
    obtain ⟨v0, v1, v2, v3, v4⟩ := cells5 bV
    have vl := lt_at bV
    have fv0 := free_at bV 0
    have fv1 := free_at bV 1
    have fv2 := free_at bV 2
    have fv3 := free_at bV 3
    have fv4 := free_at bV 4
    have HB := hide bV
    clear bV u9
    go_wp2_with fail
    (try simp only [Exit.inBlock, Exit.then])
    refine bodyPost_ret (ret_rv rfl _ _ (w.heap.size + 1) ⟨k0, n0, t0, b0, e0'⟩ rfl (rblock5 (x := vZero) HB.out _ _ _ _ _)) rfl ?_
    exact ⟨rfl, upd5 HU9.out (by omega) _ _ _ _ _⟩
  · rw [if_neg h]
    have bf : (f != 0) = true := by simpa using h
    have EA := fun w => REk_any w f (hfk.resolve_left h)
    obtain ⟨⟨k0, n0, t0, b0, e0'⟩, hev⟩ : ∃ v, mkE f = v := ⟨_, rfl⟩
    rw [hev] at EA ⊢
    unfold Vl.val at EA
    (try unfold Vl.val)
    simp only at EA ⊢
    clear hev
    clear h hok hfk
    go_enter Tryz.func26, Tryz.ntmps26
    go_wp2_with fail
    with_reducible refine Calls.mono (NA _) ?_
    rintro e w1 ⟨rfl, u1⟩
    have HU1 := hide (HU0.out.then u1 (fun _ _ => id))
    have HV1 := hide (u1.get HV0.out id)
    have HX1 := hide (u1.get HX0.out id)
    clear u1
    go_wp2_with fail
    with_reducible refine Calls.mono (EA _) ?_
    rintro e w9 ⟨rfl, u9⟩
    have HU9 := hide (HU1.out.then u9 (fun _ _ => id))
    have bV := u9.get HV1.out id
    obtain ⟨v0, v1, v2, v3, v4⟩ := cells5 bV
    have vl := lt_at bV
    have fv0 := free_at bV 0
    have fv1 := free_at bV 1
    have fv2 := free_at bV 2
    have fv3 := free_at bV 3
    have fv4 := free_at bV 4
    have HB := hide bV
    clear bV u9
    go_wp2_with fail
    (try simp only [Exit.inBlock, Exit.then])
    refine bodyPost_ret (ret_rv rfl _ _ (w.heap.size + 1) ⟨k0, n0, t0, b0, e0'⟩ rfl (rblock5 (x := vZero) HB.out _ _ _ _ _)) rfl ?_
    exact ⟨rfl, upd5 HU9.out (by omega) _ _ _ _ _⟩
theorem RPct_any (w : World) (x : Vl) (htl : x.t.length ≤ 1000000) : Calls Tryz.prog 28 #[x.val] w fun e w' => e = .returned (pctV x).val ∧ Upd w w' (fun _ => False) := by
  have NA := fun w => numR_any w x htl
  have hok := numF_ok x
  have hfk := numF_fok x
  unfold pctV
  obtain ⟨⟨n, f⟩, hp⟩ : ∃ r, numF x = r := ⟨_, rfl⟩
  rw [hp] at NA hok hfk ⊢
  simp only at NA hok hfk ⊢
  clear hp
  obtain ⟨xk, xn, xt, xb, xf⟩ := x
  unfold Vl.val at NA ⊢
  simp only at NA ⊢
  clear htl
  have HU0 : Hid (Upd w ((w.alloc (.cells #[.int .i64 xk, .int .i64 xn, enS xt, .bool xb, .int .i64 xf] 36)).alloc (.cells #[.int .i64 0, .int .i64 0, .string ⟨#[]⟩, .bool false, .int .i64 0] 36)) (fun _ => False)) := hide (((Upd.refl w _).alloc _).alloc _)
  have HX0 : Hid (((w.alloc (.cells #[.int .i64 xk, .int .i64 xn, enS xt, .bool xb, .int .i64 xf] 36)).alloc (.cells #[.int .i64 0, .int .i64 0, .string ⟨#[]⟩, .bool false, .int .i64 0] 36)).heap[w.heap.size]? = some (.cells #[.int .i64 xk, .int .i64 xn, enS xt, .bool xb, .int .i64 xf] 36 (0, 0))) := hide (block_alloc (Vnew1 w _) _)
  have HV0 : Hid (((w.alloc (.cells #[.int .i64 xk, .int .i64 xn, enS xt, .bool xb, .int .i64 xf] 36)).alloc (.cells #[.int .i64 0, .int .i64 0, .string ⟨#[]⟩, .bool false, .int .i64 0] 36)).heap[w.heap.size + 1]? = some (.cells #[.int .i64 0, .int .i64 0, .string ⟨#[]⟩, .bool false, .int .i64 0] 36 (0, 0))) := hide (Vnew2 w _ _)
  by_cases h : f = 0
  · subst h
    rw [if_pos rfl]
    have DA := (divB n 1000000).2
    obtain ⟨⟨p2, c2⟩, hd2⟩ : ∃ r, divF n 1000000 = r := ⟨_, rfl⟩
    rw [hd2] at DA ⊢
    simp only at DA
    have TO := fun w => RTold_any w p2 c2
    obtain ⟨⟨k0, n0, t0, b0, e0'⟩, hev⟩ : ∃ v, tldV (p2, c2) = v := ⟨_, rfl⟩
    rw [hev] at TO ⊢
    unfold Vl.val at TO
    (try unfold Vl.val)
    simp only at TO ⊢
    clear hev
    clear hok hd2 hfk
    go_enter Tryz.func28, Tryz.ntmps28
    go_wp2_with fail
    with_reducible refine Calls.mono (NA _) ?_
    rintro e w1 ⟨rfl, u1⟩
    have HU1 := hide (HU0.out.then u1 (fun _ _ => id))
    have HV1 := hide (u1.get HV0.out id)
    have HX1 := hide (u1.get HX0.out id)
    clear u1
    go_wp2_with fail
    with_reducible refine Calls.mono (DA _) ?_
    rintro e w2 ⟨rfl, u2⟩
    have HU2 := hide (HU1.out.then u2 (fun _ _ => id))
    have HV2 := hide (u2.get HV1.out id)
    have HX2 := hide (u2.get HX1.out id)
    clear u2
    go_wp2_with fail
    with_reducible refine Calls.mono (TO _) ?_
    rintro e w9 ⟨rfl, u9⟩
    have HU9 := hide (HU2.out.then u9 (fun _ _ => id))
    have bV := u9.get HV2.out id
    obtain ⟨v0, v1, v2, v3, v4⟩ := cells5 bV
    have vl := lt_at bV
    have fv0 := free_at bV 0
    have fv1 := free_at bV 1
    have fv2 := free_at bV 2
    have fv3 := free_at bV 3
    have fv4 := free_at bV 4
    have HB := hide bV
    clear bV u9
    go_wp2_with fail
    (try simp only [Exit.inBlock, Exit.then])
    refine bodyPost_ret (ret_rv rfl _ _ (w.heap.size + 1) ⟨k0, n0, t0, b0, e0'⟩ rfl (rblock5 (x := vZero) HB.out _ _ _ _ _)) rfl ?_
    exact ⟨rfl, upd5 HU9.out (by omega) _ _ _ _ _⟩
  · rw [if_neg h]
    have bf : (f != 0) = true := by simpa using h
    have EA := fun w => REk_any w f (hfk.resolve_left h)
    obtain ⟨⟨k0, n0, t0, b0, e0'⟩, hev⟩ : ∃ v, mkE f = v := ⟨_, rfl⟩
    rw [hev] at EA ⊢
    unfold Vl.val at EA
    (try unfold Vl.val)
    simp only at EA ⊢
    clear hev
    clear h hok hfk
    go_enter Tryz.func28, Tryz.ntmps28
    go_wp2_with fail
    with_reducible refine Calls.mono (NA _) ?_
    rintro e w1 ⟨rfl, u1⟩
    have HU1 := hide (HU0.out.then u1 (fun _ _ => id))
    have HV1 := hide (u1.get HV0.out id)
    have HX1 := hide (u1.get HX0.out id)
    clear u1
    go_wp2_with fail
    with_reducible refine Calls.mono (EA _) ?_
    rintro e w9 ⟨rfl, u9⟩
    have HU9 := hide (HU1.out.then u9 (fun _ _ => id))
    have bV := u9.get HV1.out id
    obtain ⟨v0, v1, v2, v3, v4⟩ := cells5 bV
    have vl := lt_at bV
    have fv0 := free_at bV 0
    have fv1 := free_at bV 1
    have fv2 := free_at bV 2
    have fv3 := free_at bV 3
    have fv4 := free_at bV 4
    have HB := hide bV
    clear bV u9
    go_wp2_with fail
    (try simp only [Exit.inBlock, Exit.then])
    refine bodyPost_ret (ret_rv rfl _ _ (w.heap.size + 1) ⟨k0, n0, t0, b0, e0'⟩ rfl (rblock5 (x := vZero) HB.out _ _ _ _ _)) rfl ?_
    exact ⟨rfl, upd5 HU9.out (by omega) _ _ _ _ _⟩
set_option maxHeartbeats 1600000 in
theorem RPower_any (w : World) (a b : Int) (hb : okNum b = true) : Calls Tryz.prog 52 #[.int .i64 a, .int .i64 b] w fun e w' => e = .returned (powV a b).val ∧ Upd w w' (fun _ => False) := by
  have HU0 : Hid (Upd w (w.alloc (.cells #[.int .i64 0, .int .i64 0, .string ⟨#[]⟩, .bool false, .int .i64 0] 36)) (fun _ => False)) := hide ((Upd.refl w _).alloc _)
  have HV0 : Hid ((w.alloc (.cells #[.int .i64 0, .int .i64 0, .string ⟨#[]⟩, .bool false, .int .i64 0] 36)).heap[w.heap.size]? = some (.cells #[.int .i64 0, .int .i64 0, .string ⟨#[]⟩, .bool false, .int .i64 0] 36 (0, 0))) := hide (Vnew1 w _)
  have hwm := fun h : b.tmod 10000 = 0 => whole_mul h
  have hbr := okNum_true hb
  obtain ⟨⟨k0, n0, t0, b0, e0'⟩, hev⟩ : ∃ v, powV a b = v := ⟨_, rfl⟩
  rw [hev]
  unfold powV at hev
  unfold Vl.val
  simp only
  obtain ⟨z, hz⟩ : ∃ z, b.tdiv 10000 = z := ⟨_, rfl⟩
  obtain ⟨m, hm⟩ : ∃ m, b.tmod 10000 = m := ⟨_, rfl⟩
  have hmr : -10000 < m ∧ m < 10000 := by
    rw [← hm]
    have h1 := Int.tmod_lt_of_pos b (show (0 : Int) < 10000 by decide)
    constructor
    · have := Int.tmod_lt_of_pos (-b) (show (0 : Int) < 10000 by decide)
      rw [Int.neg_tmod] at this
      omega
    · exact h1
  rw [hz] at hev hwm
  rw [hm] at hev hwm
  have wm : IntKind.i64.wrap m = m := by rw [IntWalk.i64_in _ (by omega)]
  by_cases hbad : m ≠ 0 ∨ b < -10000000 ∨ 10000000 < b
  · rw [if_pos hbad] at hev
    have EA := fun w => REk_any w 2 (by decide)
    rw [hev] at EA
    unfold Vl.val at EA
    simp only at EA
    have hcc : (m != 0) = true ∨ (m != 0) = false ∧ b < -10000000 ∨ (m != 0) = false ∧ ¬ b < -10000000 ∧ 10000000 < b := by
      by_cases h1 : m = 0
      · by_cases h2 : b < -10000000
        · exact .inr (.inl ⟨by simpa using h1, h2⟩)
        · exact .inr (.inr ⟨by simpa using h1, h2, hbad.elim (fun h => absurd h1 h) (fun h => h.elim (fun h => absurd h h2) id)⟩)
      · exact .inl (by simpa using h1)
    clear hbad hwm hz hev hmr hb hbr
    rcases hcc with h1 | ⟨h1, h2⟩ | ⟨h1, h2, h3⟩
    · go_enter Tryz.func52, Tryz.ntmps52
      go_wp2_with fail
      with_reducible refine Calls.mono (EA _) ?_
      rintro e w9 ⟨rfl, u9⟩
      have HU9 := hide (HU0.out.then u9 (fun _ _ => id))
      have bV := u9.get HV0.out id
      obtain ⟨v0, v1, v2, v3, v4⟩ := cells5 bV
      have vl := lt_at bV
      have fv0 := free_at bV 0
      have fv1 := free_at bV 1
      have fv2 := free_at bV 2
      have fv3 := free_at bV 3
      have fv4 := free_at bV 4
      have HB := hide bV
      clear bV u9
      go_wp2_with fail
      (try simp only [Exit.inBlock, Exit.then])
      refine bodyPost_ret (ret_rv rfl _ _ (w.heap.size) ⟨k0, n0, t0, b0, e0'⟩ rfl (rblock5 (x := vZero) HB.out _ _ _ _ _)) rfl ?_
      exact ⟨rfl, upd5 HU9.out (by omega) _ _ _ _ _⟩
    · go_enter Tryz.func52, Tryz.ntmps52
      go_wp2_with fail
      with_reducible refine Calls.mono (EA _) ?_
      rintro e w9 ⟨rfl, u9⟩
      have HU9 := hide (HU0.out.then u9 (fun _ _ => id))
      have bV := u9.get HV0.out id
      obtain ⟨v0, v1, v2, v3, v4⟩ := cells5 bV
      have vl := lt_at bV
      have fv0 := free_at bV 0
      have fv1 := free_at bV 1
      have fv2 := free_at bV 2
      have fv3 := free_at bV 3
      have fv4 := free_at bV 4
      have HB := hide bV
      clear bV u9
      go_wp2_with fail
      (try simp only [Exit.inBlock, Exit.then])
      refine bodyPost_ret (ret_rv rfl _ _ (w.heap.size) ⟨k0, n0, t0, b0, e0'⟩ rfl (rblock5 (x := vZero) HB.out _ _ _ _ _)) rfl ?_
      exact ⟨rfl, upd5 HU9.out (by omega) _ _ _ _ _⟩
    · go_enter Tryz.func52, Tryz.ntmps52
      go_wp2_with fail
      with_reducible refine Calls.mono (EA _) ?_
      rintro e w9 ⟨rfl, u9⟩
      have HU9 := hide (HU0.out.then u9 (fun _ _ => id))
      have bV := u9.get HV0.out id
      obtain ⟨v0, v1, v2, v3, v4⟩ := cells5 bV
      have vl := lt_at bV
      have fv0 := free_at bV 0
      have fv1 := free_at bV 1
      have fv2 := free_at bV 2
      have fv3 := free_at bV 3
      have fv4 := free_at bV 4
      have HB := hide bV
      clear bV u9
      go_wp2_with fail
      (try simp only [Exit.inBlock, Exit.then])
      refine bodyPost_ret (ret_rv rfl _ _ (w.heap.size) ⟨k0, n0, t0, b0, e0'⟩ rfl (rblock5 (x := vZero) HB.out _ _ _ _ _)) rfl ?_
      exact ⟨rfl, upd5 HU9.out (by omega) _ _ _ _ _⟩
  · rw [if_neg hbad] at hev
    have h1 : m = 0 := Decidable.not_not.1 fun h => hbad (.inl h)
    have h2 : ¬ b < -10000000 := fun h => hbad (.inr (.inl h))
    have h3 : ¬ 10000000 < b := fun h => hbad (.inr (.inr h))
    have e1 := hwm h1
    have bm : (m != 0) = false := by simpa using h1
    obtain ⟨N, hN⟩ : ∃ N, z.natAbs = N := ⟨_, rfl⟩
    rw [hN] at hev
    have hN1 : N ≤ 1000 := by omega
    have wz : IntKind.i64.wrap z = z := by rw [IntWalk.i64_in _ (by omega)]
    have HEV := hide hev
    have hsg : (z < 0 ∧ b < 0 ∧ IntKind.i64.wrap (-z) = (N : Int)) ∨ (¬ z < 0 ∧ ¬ b < 0 ∧ z = (N : Int)) := by
      by_cases h : z < 0
      · exact .inl ⟨h, by omega, by rw [IntWalk.i64_in _ (by omega)]; omega⟩
      · exact .inr ⟨h, by omega, by omega⟩
    have HE1 := hide e1
    clear hbad hwm hev hmr hb hbr h1 hN e1
    rcases hsg with ⟨hz0, hb0, w1⟩ | ⟨hz0, hb0, rfl⟩
    · go_enter Tryz.func52, Tryz.ntmps52
      go_wp2_with fail
      go_loopg [6, 7] (N + 1) (fun q pv iv wr => ∃ k : Nat, k + q = N + 1 ∧ k ≤ N ∧ iv = .int .i64 (k : Int) ∧ pv = .int .i64 (timesF a k).1 ∧ (timesF a k).2 = 0 ∧ Upd w wr (fun _ => False) ∧ wr.heap[w.heap.size]? = some (.cells #[.int .i64 0, .int .i64 0, .string ⟨#[]⟩, .bool false, .int .i64 0] 36))
      case atStart => exact ⟨0, by omega, by omega, rfl, rfl, rfl, HU0.out, HV0.out⟩
      case round =>
        obtain ⟨k, hk, hkN, rfl, rfl, hc, hu, hv⟩ := hrel
        clear HU0 HV0
        have HU0 := hide hu
        have HV0 := hide hv
        clear hu hv
        by_cases hlt : k < N
        · have hl : (k : Int) < (N : Int) := by omega
          have M := (mulB (timesF a k).1 a).2
          have e1 : timesF a (k + 1) = mulF (timesF a k).1 a := by rw [timesF, if_pos hc]
          rw [← e1] at M
          obtain ⟨p, hp⟩ : ∃ p, (timesF a k).1 = p := ⟨_, rfl⟩
          rw [hp] at M ⊢
          obtain ⟨⟨p', c'⟩, hp'⟩ : ∃ r, timesF a (k + 1) = r := ⟨_, rfl⟩
          rw [hp'] at M
          simp only at M
          have HK := hide hk
          have HP := hide hp'
          have HLT := hide hlt
          by_cases hc' : c' = 0
          · subst hc'
            clear hp e1 hc hp' hk hkN hlt
            go_wp2_with fail
            with_reducible refine Calls.mono (M _) ?_
            rintro e w2 ⟨rfl, u2⟩
            have HU1 := hide (HU0.out.then u2 (fun _ _ => id))
            have HV1 := hide (u2.get HV0.out id)
            clear u2
            go_wp2_with fail
            go_roundg (gk - 1)
            case measure => have := HK.out; have := HLT.out; omega
            case rel => exact ⟨k + 1, by have := HK.out; have := HLT.out; omega, by have := HLT.out; omega, by go_num, by rw [HP.out], by rw [HP.out], HU1.out, HV1.out⟩
          · have bc : (c' != 0) = true := by simpa using hc'
            have hst : timesF a N = timesF a (k + 1) := by
              have := timesF_stay (a := a) (n := k + 1) (by rw [hp']; exact hc') (N - (k + 1))
              rwa [show k + 1 + (N - (k + 1)) = N by omega] at this
            have hev := HEV.out
            rw [hst, hp', if_neg (fun h => hc' h.1), tld_err (q := 0) hc'] at hev
            have TO := fun w => RTold_any w 0 c'
            rw [hev] at TO
            unfold Vl.val at TO
            simp only at TO
            clear hp e1 hc hp' hk hkN hlt hc' hst hev
            go_wp2_with fail
            with_reducible refine Calls.mono (M _) ?_
            rintro e w1 ⟨rfl, u1⟩
            have HU1 := hide (HU0.out.then u1 (fun _ _ => id))
            have HV1 := hide (u1.get HV0.out id)
            clear u1
            go_wp2_with fail
            with_reducible refine Calls.mono (TO _) ?_
            rintro e w9 ⟨rfl, u9⟩
            have HU9 := hide (HU1.out.then u9 (fun _ _ => id))
            have bV := u9.get HV1.out id
            obtain ⟨v0, v1, v2, v3, v4⟩ := cells5 bV
            have vl := lt_at bV
            have fv0 := free_at bV 0
            have fv1 := free_at bV 1
            have fv2 := free_at bV 2
            have fv3 := free_at bV 3
            have fv4 := free_at bV 4
            have HB := hide bV
            clear bV u9
            go_wp2_with fail
            (try simp only [Exit.inBlock, Exit.then])
            refine bodyPost_ret (ret_rv rfl _ _ (w.heap.size) ⟨k0, n0, t0, b0, e0'⟩ rfl (rblock5 (x := vZero) HB.out _ _ _ _ _)) rfl ?_
            exact ⟨rfl, upd5 HU9.out (by omega) _ _ _ _ _⟩
        · obtain rfl : k = N := by omega
          have hl : ¬ (k : Int) < (k : Int) := by omega
          have hev := HEV.out
          obtain ⟨⟨p, c⟩, hp⟩ : ∃ r, timesF a k = r := ⟨_, rfl⟩
          rw [hp] at hc hev ⊢
          simp only at hc hev ⊢
          subst hc
          rw [if_pos ⟨rfl, hb0⟩] at hev
          have DA := (divB 10000 p).2
          obtain ⟨⟨p2, c2⟩, hd2⟩ : ∃ r, divF 10000 p = r := ⟨_, rfl⟩
          rw [hd2] at DA hev
          simp only at DA
          have TO := fun w => RTold_any w p2 c2
          rw [hev] at TO
          unfold Vl.val at TO
          simp only at TO
          clear hev hd2 hp hk hkN hlt
          go_wp2_with fail
          with_reducible refine Calls.mono (DA _) ?_
          rintro e w1 ⟨rfl, u1⟩
          have HU1 := hide (HU0.out.then u1 (fun _ _ => id))
          have HV1 := hide (u1.get HV0.out id)
          clear u1
          go_wp2_with fail
          with_reducible refine Calls.mono (TO _) ?_
          rintro e w9 ⟨rfl, u9⟩
          have HU9 := hide (HU1.out.then u9 (fun _ _ => id))
          have bV := u9.get HV1.out id
          obtain ⟨v0, v1, v2, v3, v4⟩ := cells5 bV
          have vl := lt_at bV
          have fv0 := free_at bV 0
          have fv1 := free_at bV 1
          have fv2 := free_at bV 2
          have fv3 := free_at bV 3
          have fv4 := free_at bV 4
          have HB := hide bV
          clear bV u9
          go_wp2_with fail
          (try simp only [Exit.inBlock, Exit.then])
          refine bodyPost_ret (ret_rv rfl _ _ (w.heap.size) ⟨k0, n0, t0, b0, e0'⟩ rfl (rblock5 (x := vZero) HB.out _ _ _ _ _)) rfl ?_
          exact ⟨rfl, upd5 HU9.out (by omega) _ _ _ _ _⟩
    · go_enter Tryz.func52, Tryz.ntmps52
      go_wp2_with fail
      go_loopg [6, 7] (N + 1) (fun q pv iv wr => ∃ k : Nat, k + q = N + 1 ∧ k ≤ N ∧ iv = .int .i64 (k : Int) ∧ pv = .int .i64 (timesF a k).1 ∧ (timesF a k).2 = 0 ∧ Upd w wr (fun _ => False) ∧ wr.heap[w.heap.size]? = some (.cells #[.int .i64 0, .int .i64 0, .string ⟨#[]⟩, .bool false, .int .i64 0] 36))
      case atStart => exact ⟨0, by omega, by omega, rfl, rfl, rfl, HU0.out, HV0.out⟩
      case round =>
        obtain ⟨k, hk, hkN, rfl, rfl, hc, hu, hv⟩ := hrel
        clear HU0 HV0
        have HU0 := hide hu
        have HV0 := hide hv
        clear hu hv
        by_cases hlt : k < N
        · have hl : (k : Int) < (N : Int) := by omega
          have M := (mulB (timesF a k).1 a).2
          have e1 : timesF a (k + 1) = mulF (timesF a k).1 a := by rw [timesF, if_pos hc]
          rw [← e1] at M
          obtain ⟨p, hp⟩ : ∃ p, (timesF a k).1 = p := ⟨_, rfl⟩
          rw [hp] at M ⊢
          obtain ⟨⟨p', c'⟩, hp'⟩ : ∃ r, timesF a (k + 1) = r := ⟨_, rfl⟩
          rw [hp'] at M
          simp only at M
          have HK := hide hk
          have HP := hide hp'
          have HLT := hide hlt
          by_cases hc' : c' = 0
          · subst hc'
            clear hp e1 hc hp' hk hkN hlt
            go_wp2_with fail
            with_reducible refine Calls.mono (M _) ?_
            rintro e w2 ⟨rfl, u2⟩
            have HU1 := hide (HU0.out.then u2 (fun _ _ => id))
            have HV1 := hide (u2.get HV0.out id)
            clear u2
            go_wp2_with fail
            go_roundg (gk - 1)
            case measure => have := HK.out; have := HLT.out; omega
            case rel => exact ⟨k + 1, by have := HK.out; have := HLT.out; omega, by have := HLT.out; omega, by go_num, by rw [HP.out], by rw [HP.out], HU1.out, HV1.out⟩
          · have bc : (c' != 0) = true := by simpa using hc'
            have hst : timesF a N = timesF a (k + 1) := by
              have := timesF_stay (a := a) (n := k + 1) (by rw [hp']; exact hc') (N - (k + 1))
              rwa [show k + 1 + (N - (k + 1)) = N by omega] at this
            have hev := HEV.out
            rw [hst, hp', if_neg (fun h => hc' h.1), tld_err (q := 0) hc'] at hev
            have TO := fun w => RTold_any w 0 c'
            rw [hev] at TO
            unfold Vl.val at TO
            simp only at TO
            clear hp e1 hc hp' hk hkN hlt hc' hst hev
            go_wp2_with fail
            with_reducible refine Calls.mono (M _) ?_
            rintro e w1 ⟨rfl, u1⟩
            have HU1 := hide (HU0.out.then u1 (fun _ _ => id))
            have HV1 := hide (u1.get HV0.out id)
            clear u1
            go_wp2_with fail
            with_reducible refine Calls.mono (TO _) ?_
            rintro e w9 ⟨rfl, u9⟩
            have HU9 := hide (HU1.out.then u9 (fun _ _ => id))
            have bV := u9.get HV1.out id
            obtain ⟨v0, v1, v2, v3, v4⟩ := cells5 bV
            have vl := lt_at bV
            have fv0 := free_at bV 0
            have fv1 := free_at bV 1
            have fv2 := free_at bV 2
            have fv3 := free_at bV 3
            have fv4 := free_at bV 4
            have HB := hide bV
            clear bV u9
            go_wp2_with fail
            (try simp only [Exit.inBlock, Exit.then])
            refine bodyPost_ret (ret_rv rfl _ _ (w.heap.size) ⟨k0, n0, t0, b0, e0'⟩ rfl (rblock5 (x := vZero) HB.out _ _ _ _ _)) rfl ?_
            exact ⟨rfl, upd5 HU9.out (by omega) _ _ _ _ _⟩
        · obtain rfl : k = N := by omega
          have hl : ¬ (k : Int) < (k : Int) := by omega
          have hev := HEV.out
          obtain ⟨⟨p, c⟩, hp⟩ : ∃ r, timesF a k = r := ⟨_, rfl⟩
          rw [hp] at hc hev ⊢
          simp only at hc hev ⊢
          subst hc
          rw [if_neg (show ¬ ((0 : Int) = 0 ∧ b < 0) from fun h => by have := h.2; omega)] at hev
          have TO := fun w => RN_any w p
          have et : tldV (p, 0) = mkN p := rfl
          rw [← et, hev] at TO
          unfold Vl.val at TO
          simp only at TO
          clear hev et hp hk hkN hlt
          go_wp2_with fail
          with_reducible refine Calls.mono (TO _) ?_
          rintro e w9 ⟨rfl, u9⟩
          have HU9 := hide (HU0.out.then u9 (fun _ _ => id))
          have bV := u9.get HV0.out id
          obtain ⟨v0, v1, v2, v3, v4⟩ := cells5 bV
          have vl := lt_at bV
          have fv0 := free_at bV 0
          have fv1 := free_at bV 1
          have fv2 := free_at bV 2
          have fv3 := free_at bV 3
          have fv4 := free_at bV 4
          have HB := hide bV
          clear bV u9
          go_wp2_with fail
          (try simp only [Exit.inBlock, Exit.then])
          refine bodyPost_ret (ret_rv rfl _ _ (w.heap.size) ⟨k0, n0, t0, b0, e0'⟩ rfl (rblock5 (x := vZero) HB.out _ _ _ _ _)) rfl ?_
          exact ⟨rfl, upd5 HU9.out (by omega) _ _ _ _ _⟩
end Go.Proofs.YtmfngdjhkpddoaaGreatDoor
