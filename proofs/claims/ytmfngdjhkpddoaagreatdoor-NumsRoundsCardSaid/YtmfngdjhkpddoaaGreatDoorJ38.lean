/- The walk of the reference's Bin. -/
import Derived.Test.YtmfngdjhkpddoaaGreatDoorJ33
import Derived.Test.YtmfngdjhkpddoaaGreatDoorJ14
set_option maxRecDepth 100000
namespace Go.Proofs.YtmfngdjhkpddoaaGreatDoor
open Go.RowKit Go.Lat Go.Lib

theorem line_cmp {n : List UInt8} (h : isCmp n = true) : lineN n = 1 := by unfold lineN; rw [if_pos h]
theorem nums2 (x y : Vl) : numsE [x, y] = if (numF x).2 = 0 then (numF y).2 else (numF x).2 := by
  rw [numsE, numsE, numsE]
  by_cases h : (numF x).2 = 0
  · rw [if_pos h, if_pos h]
    by_cases h2 : (numF y).2 = 0
    · rw [if_pos h2, h2]
    · rw [if_neg h2]
  · rw [if_neg h, if_neg h]
theorem ord_fok (x y : Vl) : (orderV x y).2 = 0 ∨ okFail (orderV x y).2 = true := by
  unfold orderV
  split
  · rename_i h
    exact .inr (sound_fok x h)
  · split
    · rename_i h
      exact .inr (sound_fok y h)
    · exact .inl rfl
set_option maxHeartbeats 6400000 in
theorem RBin_any (w : World) (n : List UInt8) (x y : Vl) (lx : x.t.length ≤ 1000000) (ly : y.t.length ≤ 1000000) : Calls Tryz.prog 15 #[enS n, x.val, y.val] w fun e w' => e = .returned (.tuple #[(binV n x y).1.val, .bool (binV n x y).2]) ∧ Upd w w' (fun _ => False) := by
  have LA := fun w => Line_any w n
  have OA := fun w => ROrder_any w x y lx ly
  have CA := fun w r hr hc => compare_any w n r hc hr
  have hord := ord_rng x y
  have hofk := ord_fok x y
  have XT := fun w => textR_any w x
  have YT := fun w => textR_any w y
  have tlx := textF_len x
  have tly := textF_len y
  have tfx := textF_fok x
  have tfy := textF_fok y
  have XN := fun w => numR_any w x lx
  have YN := fun w => numR_any w y ly
  have nfx := numF_fok x
  have nfy := numF_fok y
  have noy := numF_ok y
  have hn2 := nums2 x y
  obtain ⟨⟨⟨k0, n0, t0, b0, e0'⟩, q0⟩, hev⟩ : ∃ v, binV n x y = v := ⟨_, rfl⟩
  rw [hev]
  unfold binV at hev
  unfold Vl.val
  simp only
  obtain ⟨⟨r, f⟩, hr⟩ : ∃ r, orderV x y = r := ⟨_, rfl⟩
  rw [hr] at OA hord hofk hev
  obtain ⟨⟨s, fs⟩, hs⟩ : ∃ r, textF x = r := ⟨_, rfl⟩
  rw [hs] at XT tlx tfx hev
  obtain ⟨⟨t, ft⟩, ht⟩ : ∃ r, textF y = r := ⟨_, rfl⟩
  rw [ht] at YT tly tfy hev
  obtain ⟨⟨a, fa⟩, ha⟩ : ∃ r, numF x = r := ⟨_, rfl⟩
  rw [ha] at XN nfx hev hn2
  obtain ⟨⟨b, fb⟩, hb⟩ : ∃ r, numF y = r := ⟨_, rfl⟩
  rw [hb] at YN nfy noy hev hn2
  rw [hn2] at hev
  clear hr hs ht ha hb hn2 lx ly
  obtain ⟨xk, xn, xt, xb, xf⟩ := x
  obtain ⟨yk, yn, yt, yb, yf⟩ := y
  unfold Vl.val at OA XT YT XN YN
  simp only at OA XT YT XN YN hord hofk tlx tfx tly tfy nfx nfy noy hev
  have HU0 : Hid (Upd w (((w.alloc (.cells #[.int .i64 xk, .int .i64 xn, enS xt, .bool xb, .int .i64 xf] 36)).alloc (.cells #[.int .i64 yk, .int .i64 yn, enS yt, .bool yb, .int .i64 yf] 36)).alloc (.cells #[.int .i64 0, .int .i64 0, .string ⟨#[]⟩, .bool false, .int .i64 0] 36)) (fun _ => False)) := hide ((((Upd.refl w _).alloc _).alloc _).alloc _)
  have HX0 : Hid ((((w.alloc (.cells #[.int .i64 xk, .int .i64 xn, enS xt, .bool xb, .int .i64 xf] 36)).alloc (.cells #[.int .i64 yk, .int .i64 yn, enS yt, .bool yb, .int .i64 yf] 36)).alloc (.cells #[.int .i64 0, .int .i64 0, .string ⟨#[]⟩, .bool false, .int .i64 0] 36)).heap[w.heap.size]? = some (.cells #[.int .i64 xk, .int .i64 xn, enS xt, .bool xb, .int .i64 xf] 36 (0, 0))) := hide (block_alloc (block_alloc (Vnew1 w _) _) _)
  have HY0 : Hid ((((w.alloc (.cells #[.int .i64 xk, .int .i64 xn, enS xt, .bool xb, .int .i64 xf] 36)).alloc (.cells #[.int .i64 yk, .int .i64 yn, enS yt, .bool yb, .int .i64 yf] 36)).alloc (.cells #[.int .i64 0, .int .i64 0, .string ⟨#[]⟩, .bool false, .int .i64 0] 36)).heap[w.heap.size + 1]? = some (.cells #[.int .i64 yk, .int .i64 yn, enS yt, .bool yb, .int .i64 yf] 36 (0, 0))) := hide (block_alloc (Vnew2 w _ _) _)
  have HV0 : Hid ((((w.alloc (.cells #[.int .i64 xk, .int .i64 xn, enS xt, .bool xb, .int .i64 xf] 36)).alloc (.cells #[.int .i64 yk, .int .i64 yn, enS yt, .bool yb, .int .i64 yf] 36)).alloc (.cells #[.int .i64 0, .int .i64 0, .string ⟨#[]⟩, .bool false, .int .i64 0] 36)).heap[w.heap.size + 1 + 1]? = some (.cells #[.int .i64 0, .int .i64 0, .string ⟨#[]⟩, .bool false, .int .i64 0] 36 (0, 0))) := hide (by have := Vnew2 (w.alloc (.cells #[.int .i64 xk, .int .i64 xn, enS xt, .bool xb, .int .i64 xf] 36)) (.cells #[.int .i64 yk, .int .i64 yn, enS yt, .bool yb, .int .i64 yf] 36) (.cells #[.int .i64 0, .int .i64 0, .string ⟨#[]⟩, .bool false, .int .i64 0] 36); simpa using this)
  by_cases hc : isCmp n = true
  · have hl := line_cmp hc
    have hn38 : n ≠ [38] := fun h => by rw [h] at hc; exact absurd hc (by decide)
    rw [hl] at LA
    rw [if_neg hn38, if_pos hc] at hev
    have CC := fun w => CA w r hord hc
    obtain ⟨h1, rfl⟩ := Prod.mk.inj hev
    clear CA XT YT XN YN tlx tfx tly tfy nfx nfy noy hev hn38 hl hc
    by_cases hf : f = 0
    · subst hf
      rw [if_pos rfl] at h1
      obtain ⟨q, hq⟩ : ∃ q, holdB n r = q := ⟨_, rfl⟩
      rw [hq] at CC h1
      have BA := fun w => RB_any w q
      rw [h1] at BA
      unfold Vl.val at BA
      simp only at BA
      clear hq h1 hord hofk
      go_enter Tryz.func15, Tryz.ntmps15
      go_wp2_with fail
      with_reducible refine Calls.mono (LA _) ?_
      rintro e w8 ⟨rfl, hw8⟩
      obtain rfl := hw8.symm
      clear hw8
      go_wp2_with fail
      with_reducible refine Calls.mono (OA _) ?_
      rintro e w1 ⟨rfl, u1⟩
      have HU1 := hide (HU0.out.then u1 (fun _ _ => id))
      have HV1 := hide (u1.get HV0.out id)
      have HX1 := hide (u1.get HX0.out id)
      have HY1 := hide (u1.get HY0.out id)
      clear u1
      go_wp2_with fail
      with_reducible refine Calls.mono (CC _) ?_
      rintro e w8 ⟨rfl, hw8⟩
      obtain rfl := hw8.symm
      clear hw8
      go_wp2_with fail
      with_reducible refine Calls.mono (BA _) ?_
      rintro e w9 ⟨rfl, u9⟩
      have HU9 := hide (HU1.out.then u9 (fun _ _ => id))
      have bV := u9.get HV1.out id
      obtain ⟨v0, v1, v2, v3, v4⟩ := cells5 bV
      have vl := lt_at bV
      have fv0 := free_at bV 0
      have fv1 := free_at bV 1
      have fv2 := free_at bV 2
      have fv3 := free_at bV 3
      have fv4 := free_at bV 4
      have HB := hide bV
      clear bV u9
      go_wp2_with fail
      (try simp only [Exit.inBlock, Exit.then])
      refine bodyPost_ret (ret_rvb rfl _ _ (w.heap.size + 1 + 1) ⟨k0, n0, t0, b0, e0'⟩ rfl (rblock5 (x := vZero) HB.out _ _ _ _ _)) rfl ?_
      exact ⟨rfl, upd5 HU9.out (by omega) _ _ _ _ _⟩
    · rw [if_neg hf] at h1
      have bf : (f != 0) = true := by simpa using hf
      have EA := fun w => REk_any w f (hofk.resolve_left hf)
      rw [h1] at EA
      unfold Vl.val at EA
      simp only at EA
      clear h1 hf hord hofk CC
      go_enter Tryz.func15, Tryz.ntmps15
      go_wp2_with fail
      with_reducible refine Calls.mono (LA _) ?_
      rintro e w8 ⟨rfl, hw8⟩
      obtain rfl := hw8.symm
      clear hw8
      go_wp2_with fail
      with_reducible refine Calls.mono (OA _) ?_
      rintro e w1 ⟨rfl, u1⟩
      have HU1 := hide (HU0.out.then u1 (fun _ _ => id))
      have HV1 := hide (u1.get HV0.out id)
      have HX1 := hide (u1.get HX0.out id)
      have HY1 := hide (u1.get HY0.out id)
      clear u1
      go_wp2_with fail
      with_reducible refine Calls.mono (EA _) ?_
      rintro e w9 ⟨rfl, u9⟩
      have HU9 := hide (HU1.out.then u9 (fun _ _ => id))
      have bV := u9.get HV1.out id
      obtain ⟨v0, v1, v2, v3, v4⟩ := cells5 bV
      have vl := lt_at bV
      have fv0 := free_at bV 0
      have fv1 := free_at bV 1
      have fv2 := free_at bV 2
      have fv3 := free_at bV 3
      have fv4 := free_at bV 4
      have HB := hide bV
      clear bV u9
      go_wp2_with fail
      (try simp only [Exit.inBlock, Exit.then])
      refine bodyPost_ret (ret_rvb rfl _ _ (w.heap.size + 1 + 1) ⟨k0, n0, t0, b0, e0'⟩ rfl (rblock5 (x := vZero) HB.out _ _ _ _ _)) rfl ?_
      exact ⟨rfl, upd5 HU9.out (by omega) _ _ _ _ _⟩
  have hc' : isCmp n = false := by simpa using hc
  by_cases h38 : n = [38]
  · have hl : lineN n = 2 := by rw [h38]; rfl
    rw [hl] at LA
    rw [if_pos h38] at hev
    obtain ⟨h1, rfl⟩ := Prod.mk.inj hev
    unfold joinV at h1
    simp only at h1
    clear CA OA XN YN hord hofk nfx nfy noy hev hl hc hc' h38
    by_cases hf : fs = 0
    · subst hf
      rw [if_pos rfl] at h1
      by_cases hg : ft = 0
      · subst hg
        rw [if_pos rfl] at h1
        have q1 : ¬ 9223372036854775807 < s.length + t.length := by omega
        obtain ⟨S, hS⟩ : ∃ S, s ++ t = S := ⟨_, rfl⟩
        have eS : (⟨s.toArray⟩ ++ ⟨t.toArray⟩ : ByteArray) = ⟨S.toArray⟩ := by
          rw [← hS]
          apply ByteArray.ext
          simp
        rw [hS] at h1
        have TA := fun w => RT_any w S
        rw [h1] at TA
        unfold Vl.val at TA
        simp only at TA
        clear h1 hS tlx tly tfx tfy
        go_enter Tryz.func15, Tryz.ntmps15
        go_wp2_with fail
        with_reducible refine Calls.mono (LA _) ?_
        rintro e w8 ⟨rfl, hw8⟩
        obtain rfl := hw8.symm
        clear hw8
        go_wp2_with fail
        with_reducible refine Calls.mono (XT _) ?_
        rintro e w1 ⟨rfl, u1⟩
        have HU1 := hide (HU0.out.then u1 (fun _ _ => id))
        have HV1 := hide (u1.get HV0.out id)
        have HX1 := hide (u1.get HX0.out id)
        have HY1 := hide (u1.get HY0.out id)
        clear u1
        have bY := HY1.out
        obtain ⟨y0, y1, y2, y3, y4⟩ := cells5 bY
        have yl := lt_at bY
        clear bY
        go_wp2_with fail
        with_reducible refine Calls.mono (YT _) ?_
        rintro e w2 ⟨rfl, u2⟩
        have HU2 := hide (HU1.out.then u2 (fun _ _ => id))
        have HV2 := hide (u2.get HV1.out id)
        have HX2 := hide (u2.get HX1.out id)
        have HY2 := hide (u2.get HY1.out id)
        clear u2
        go_wp2_with fail
        with_reducible refine Calls.mono (TA _) ?_
        rintro e w9 ⟨rfl, u9⟩
        have HU9 := hide (HU2.out.then u9 (fun _ _ => id))
        have bV := u9.get HV2.out id
        obtain ⟨v0, v1, v2, v3, v4⟩ := cells5 bV
        have vl := lt_at bV
        have fv0 := free_at bV 0
        have fv1 := free_at bV 1
        have fv2 := free_at bV 2
        have fv3 := free_at bV 3
        have fv4 := free_at bV 4
        have HB := hide bV
        clear bV u9
        go_wp2_with fail
        (try simp only [Exit.inBlock, Exit.then])
        refine bodyPost_ret (ret_rvb rfl _ _ (w.heap.size + 1 + 1) ⟨k0, n0, t0, b0, e0'⟩ rfl (rblock5 (x := vZero) HB.out _ _ _ _ _)) rfl ?_
        exact ⟨rfl, upd5 HU9.out (by omega) _ _ _ _ _⟩
      · rw [if_neg hg] at h1
        have bg : (ft != 0) = true := by simpa using hg
        have EA := fun w => REk_any w ft (tfy.resolve_left hg)
        rw [h1] at EA
        unfold Vl.val at EA
        simp only at EA
        clear h1 hg tlx tly tfx tfy
        go_enter Tryz.func15, Tryz.ntmps15
        go_wp2_with fail
        with_reducible refine Calls.mono (LA _) ?_
        rintro e w8 ⟨rfl, hw8⟩
        obtain rfl := hw8.symm
        clear hw8
        go_wp2_with fail
        with_reducible refine Calls.mono (XT _) ?_
        rintro e w1 ⟨rfl, u1⟩
        have HU1 := hide (HU0.out.then u1 (fun _ _ => id))
        have HV1 := hide (u1.get HV0.out id)
        have HX1 := hide (u1.get HX0.out id)
        have HY1 := hide (u1.get HY0.out id)
        clear u1
        have bY := HY1.out
        obtain ⟨y0, y1, y2, y3, y4⟩ := cells5 bY
        have yl := lt_at bY
        clear bY
        go_wp2_with fail
        with_reducible refine Calls.mono (YT _) ?_
        rintro e w2 ⟨rfl, u2⟩
        have HU2 := hide (HU1.out.then u2 (fun _ _ => id))
        have HV2 := hide (u2.get HV1.out id)
        have HX2 := hide (u2.get HX1.out id)
        have HY2 := hide (u2.get HY1.out id)
        clear u2
        go_wp2_with fail
        with_reducible refine Calls.mono (EA _) ?_
        rintro e w9 ⟨rfl, u9⟩
        have HU9 := hide (HU2.out.then u9 (fun _ _ => id))
        have bV := u9.get HV2.out id
        obtain ⟨v0, v1, v2, v3, v4⟩ := cells5 bV
        have vl := lt_at bV
        have fv0 := free_at bV 0
        have fv1 := free_at bV 1
        have fv2 := free_at bV 2
        have fv3 := free_at bV 3
        have fv4 := free_at bV 4
        have HB := hide bV
        clear bV u9
        go_wp2_with fail
        (try simp only [Exit.inBlock, Exit.then])
        refine bodyPost_ret (ret_rvb rfl _ _ (w.heap.size + 1 + 1) ⟨k0, n0, t0, b0, e0'⟩ rfl (rblock5 (x := vZero) HB.out _ _ _ _ _)) rfl ?_
        exact ⟨rfl, upd5 HU9.out (by omega) _ _ _ _ _⟩
    · rw [if_neg hf] at h1
      have bg : (fs != 0) = true := by simpa using hf
      have EA := fun w => REk_any w fs (tfx.resolve_left hf)
      rw [h1] at EA
      unfold Vl.val at EA
      simp only at EA
      clear h1 hf tlx tly tfx tfy
      go_enter Tryz.func15, Tryz.ntmps15
      go_wp2_with fail
      with_reducible refine Calls.mono (LA _) ?_
      rintro e w8 ⟨rfl, hw8⟩
      obtain rfl := hw8.symm
      clear hw8
      go_wp2_with fail
      with_reducible refine Calls.mono (XT _) ?_
      rintro e w1 ⟨rfl, u1⟩
      have HU1 := hide (HU0.out.then u1 (fun _ _ => id))
      have HV1 := hide (u1.get HV0.out id)
      have HX1 := hide (u1.get HX0.out id)
      have HY1 := hide (u1.get HY0.out id)
      clear u1
      have bY := HY1.out
      obtain ⟨y0, y1, y2, y3, y4⟩ := cells5 bY
      have yl := lt_at bY
      clear bY
      go_wp2_with fail
      with_reducible refine Calls.mono (YT _) ?_
      rintro e w2 ⟨rfl, u2⟩
      have HU2 := hide (HU1.out.then u2 (fun _ _ => id))
      have HV2 := hide (u2.get HV1.out id)
      have HX2 := hide (u2.get HX1.out id)
      have HY2 := hide (u2.get HY1.out id)
      clear u2
      go_wp2_with fail
      with_reducible refine Calls.mono (EA _) ?_
      rintro e w9 ⟨rfl, u9⟩
      have HU9 := hide (HU2.out.then u9 (fun _ _ => id))
      have bV := u9.get HV2.out id
      obtain ⟨v0, v1, v2, v3, v4⟩ := cells5 bV
      have vl := lt_at bV
      have fv0 := free_at bV 0
      have fv1 := free_at bV 1
      have fv2 := free_at bV 2
      have fv3 := free_at bV 3
      have fv4 := free_at bV 4
      have HB := hide bV
      clear bV u9
      go_wp2_with fail
      (try simp only [Exit.inBlock, Exit.then])
      refine bodyPost_ret (ret_rvb rfl _ _ (w.heap.size + 1 + 1) ⟨k0, n0, t0, b0, e0'⟩ rfl (rblock5 (x := vZero) HB.out _ _ _ _ _)) rfl ?_
      exact ⟨rfl, upd5 HU9.out (by omega) _ _ _ _ _⟩
  rw [if_neg h38, if_neg hc] at hev
  have b38 : (n == [38]) = false := by simpa using h38
  clear CA OA XT YT hord hofk tlx tly tfx tfy
  by_cases hbad : (if fa = 0 then fb else fa) = 0
  · have hfa : fa = 0 := by
      by_cases h : fa = 0
      · exact h
      · rw [if_neg h] at hbad; exact hbad
    subst hfa
    rw [if_pos rfl] at hbad
    subst hbad
    rw [if_pos rfl, if_pos rfl] at hev
    clear nfx nfy
    rcases op_cases n with ⟨hn, b1, b2, b3, b4, b5⟩ | ⟨hn, b1, b2, b3, b4, b5⟩ | ⟨hn, b1, b2, b3, b4, b5⟩ | ⟨hn, b1, b2, b3, b4, b5⟩ | ⟨hn, b1, b2, b3, b4, b5⟩ | ⟨n1, n2, n3, n4, n5, b1, b2, b3, b4, b5⟩
    · have er : reckV n a b = (tldV (addF a b), true) := by rw [hn]; rfl
      have hl : lineN n = 3 := by rw [hn]; rfl
      rw [hl] at LA
      rw [er] at hev
      obtain ⟨h1, rfl⟩ := Prod.mk.inj hev
      have IA := fun w => RefAdd_any w a b
      obtain ⟨p, hp⟩ : ∃ p, addV a b = p := ⟨_, rfl⟩
      obtain ⟨c, hcc⟩ : ∃ c, addE a b = c := ⟨_, rfl⟩
      rw [hp, hcc] at IA
      have ev : addF a b = (p, c) := by rw [← hp, ← hcc]; rfl
      rw [ev] at h1
      have TO := fun w => RTold_any w p c
      rw [h1] at TO
      unfold Vl.val at TO
      simp only at TO
      clear h1 ev er hl hev noy hc hc' h38 b38 hn hp hcc
      go_enter Tryz.func15, Tryz.ntmps15
      go_wp2_with fail
      with_reducible refine Calls.mono (LA _) ?_
      rintro e w8 ⟨rfl, hw8⟩
      obtain rfl := hw8.symm
      clear hw8
      go_wp2_with fail
      with_reducible refine Calls.mono (XN _) ?_
      rintro e w1 ⟨rfl, u1⟩
      have HU1 := hide (HU0.out.then u1 (fun _ _ => id))
      have HV1 := hide (u1.get HV0.out id)
      have HX1 := hide (u1.get HX0.out id)
      have HY1 := hide (u1.get HY0.out id)
      clear u1
      have bY := HY1.out
      obtain ⟨y0, y1, y2, y3, y4⟩ := cells5 bY
      have yl := lt_at bY
      clear bY
      go_wp2_with fail
      with_reducible refine Calls.mono (YN _) ?_
      rintro e w2 ⟨rfl, u2⟩
      have HU2 := hide (HU1.out.then u2 (fun _ _ => id))
      have HV2 := hide (u2.get HV1.out id)
      have HX2 := hide (u2.get HX1.out id)
      have HY2 := hide (u2.get HY1.out id)
      clear u2
      go_wp2_with fail
      with_reducible refine Calls.mono (IA _) ?_
      rintro e w3 ⟨rfl, u3⟩
      have HU3 := hide (HU2.out.then u3 (fun _ _ => id))
      have HV3 := hide (u3.get HV2.out id)
      have HX3 := hide (u3.get HX2.out id)
      have HY3 := hide (u3.get HY2.out id)
      clear u3
      go_wp2_with fail
      with_reducible refine Calls.mono (TO _) ?_
      rintro e w9 ⟨rfl, u9⟩
      have HU9 := hide (HU3.out.then u9 (fun _ _ => id))
      have bV := u9.get HV3.out id
      obtain ⟨v0, v1, v2, v3, v4⟩ := cells5 bV
      have vl := lt_at bV
      have fv0 := free_at bV 0
      have fv1 := free_at bV 1
      have fv2 := free_at bV 2
      have fv3 := free_at bV 3
      have fv4 := free_at bV 4
      have HB := hide bV
      clear bV u9
      go_wp2_with fail
      (try simp only [Exit.inBlock, Exit.then])
      refine bodyPost_ret (ret_rvb rfl _ _ (w.heap.size + 1 + 1) ⟨k0, n0, t0, b0, e0'⟩ rfl (rblock5 (x := vZero) HB.out _ _ _ _ _)) rfl ?_
      exact ⟨rfl, upd5 HU9.out (by omega) _ _ _ _ _⟩
    · have er : reckV n a b = (tldV (subF a b), true) := by rw [hn]; rfl
      have hl : lineN n = 3 := by rw [hn]; rfl
      rw [hl] at LA
      rw [er] at hev
      obtain ⟨h1, rfl⟩ := Prod.mk.inj hev
      have IA := fun w => RefSub_any w a b
      obtain ⟨p, hp⟩ : ∃ p, addV a (-b) = p := ⟨_, rfl⟩
      obtain ⟨c, hcc⟩ : ∃ c, addE a (-b) = c := ⟨_, rfl⟩
      rw [hp, hcc] at IA
      have ev : subF a b = (p, c) := by rw [← hp, ← hcc]; rfl
      rw [ev] at h1
      have TO := fun w => RTold_any w p c
      rw [h1] at TO
      unfold Vl.val at TO
      simp only at TO
      clear h1 ev er hl hev noy hc hc' h38 b38 hn hp hcc
      go_enter Tryz.func15, Tryz.ntmps15
      go_wp2_with fail
      with_reducible refine Calls.mono (LA _) ?_
      rintro e w8 ⟨rfl, hw8⟩
      obtain rfl := hw8.symm
      clear hw8
      go_wp2_with fail
      with_reducible refine Calls.mono (XN _) ?_
      rintro e w1 ⟨rfl, u1⟩
      have HU1 := hide (HU0.out.then u1 (fun _ _ => id))
      have HV1 := hide (u1.get HV0.out id)
      have HX1 := hide (u1.get HX0.out id)
      have HY1 := hide (u1.get HY0.out id)
      clear u1
      have bY := HY1.out
      obtain ⟨y0, y1, y2, y3, y4⟩ := cells5 bY
      have yl := lt_at bY
      clear bY
      go_wp2_with fail
      with_reducible refine Calls.mono (YN _) ?_
      rintro e w2 ⟨rfl, u2⟩
      have HU2 := hide (HU1.out.then u2 (fun _ _ => id))
      have HV2 := hide (u2.get HV1.out id)
      have HX2 := hide (u2.get HX1.out id)
      have HY2 := hide (u2.get HY1.out id)
      clear u2
      go_wp2_with fail
      with_reducible refine Calls.mono (IA _) ?_
      rintro e w3 ⟨rfl, u3⟩
      have HU3 := hide (HU2.out.then u3 (fun _ _ => id))
      have HV3 := hide (u3.get HV2.out id)
      have HX3 := hide (u3.get HX2.out id)
      have HY3 := hide (u3.get HY2.out id)
      clear u3
      go_wp2_with fail
      with_reducible refine Calls.mono (TO _) ?_
      rintro e w9 ⟨rfl, u9⟩
      have HU9 := hide (HU3.out.then u9 (fun _ _ => id))
      have bV := u9.get HV3.out id
      obtain ⟨v0, v1, v2, v3, v4⟩ := cells5 bV
      have vl := lt_at bV
      have fv0 := free_at bV 0
      have fv1 := free_at bV 1
      have fv2 := free_at bV 2
      have fv3 := free_at bV 3
      have fv4 := free_at bV 4
      have HB := hide bV
      clear bV u9
      go_wp2_with fail
      (try simp only [Exit.inBlock, Exit.then])
      refine bodyPost_ret (ret_rvb rfl _ _ (w.heap.size + 1 + 1) ⟨k0, n0, t0, b0, e0'⟩ rfl (rblock5 (x := vZero) HB.out _ _ _ _ _)) rfl ?_
      exact ⟨rfl, upd5 HU9.out (by omega) _ _ _ _ _⟩
    · have er : reckV n a b = (tldV (mulF a b), true) := by rw [hn]; rfl
      have hl : lineN n = 4 := by rw [hn]; rfl
      rw [hl] at LA
      rw [er] at hev
      obtain ⟨h1, rfl⟩ := Prod.mk.inj hev
      have IA := (mulB a b).2
      obtain ⟨⟨p, c⟩, ev⟩ : ∃ r, mulF a b = r := ⟨_, rfl⟩
      rw [ev] at IA
      simp only at IA
      rw [ev] at h1
      have TO := fun w => RTold_any w p c
      rw [h1] at TO
      unfold Vl.val at TO
      simp only at TO
      clear h1 ev er hl hev noy hc hc' h38 b38 hn
      go_enter Tryz.func15, Tryz.ntmps15
      go_wp2_with fail
      with_reducible refine Calls.mono (LA _) ?_
      rintro e w8 ⟨rfl, hw8⟩
      obtain rfl := hw8.symm
      clear hw8
      go_wp2_with fail
      with_reducible refine Calls.mono (XN _) ?_
      rintro e w1 ⟨rfl, u1⟩
      have HU1 := hide (HU0.out.then u1 (fun _ _ => id))
      have HV1 := hide (u1.get HV0.out id)
      have HX1 := hide (u1.get HX0.out id)
      have HY1 := hide (u1.get HY0.out id)
      clear u1
      have bY := HY1.out
      obtain ⟨y0, y1, y2, y3, y4⟩ := cells5 bY
      have yl := lt_at bY
      clear bY
      go_wp2_with fail
      with_reducible refine Calls.mono (YN _) ?_
      rintro e w2 ⟨rfl, u2⟩
      have HU2 := hide (HU1.out.then u2 (fun _ _ => id))
      have HV2 := hide (u2.get HV1.out id)
      have HX2 := hide (u2.get HX1.out id)
      have HY2 := hide (u2.get HY1.out id)
      clear u2
      go_wp2_with fail
      with_reducible refine Calls.mono (IA _) ?_
      rintro e w3 ⟨rfl, u3⟩
      have HU3 := hide (HU2.out.then u3 (fun _ _ => id))
      have HV3 := hide (u3.get HV2.out id)
      have HX3 := hide (u3.get HX2.out id)
      have HY3 := hide (u3.get HY2.out id)
      clear u3
      go_wp2_with fail
      with_reducible refine Calls.mono (TO _) ?_
      rintro e w9 ⟨rfl, u9⟩
      have HU9 := hide (HU3.out.then u9 (fun _ _ => id))
      have bV := u9.get HV3.out id
      obtain ⟨v0, v1, v2, v3, v4⟩ := cells5 bV
      have vl := lt_at bV
      have fv0 := free_at bV 0
      have fv1 := free_at bV 1
      have fv2 := free_at bV 2
      have fv3 := free_at bV 3
      have fv4 := free_at bV 4
      have HB := hide bV
      clear bV u9
      go_wp2_with fail
      (try simp only [Exit.inBlock, Exit.then])
      refine bodyPost_ret (ret_rvb rfl _ _ (w.heap.size + 1 + 1) ⟨k0, n0, t0, b0, e0'⟩ rfl (rblock5 (x := vZero) HB.out _ _ _ _ _)) rfl ?_
      exact ⟨rfl, upd5 HU9.out (by omega) _ _ _ _ _⟩
    · have er : reckV n a b = (tldV (divF a b), true) := by rw [hn]; rfl
      have hl : lineN n = 4 := by rw [hn]; rfl
      rw [hl] at LA
      rw [er] at hev
      obtain ⟨h1, rfl⟩ := Prod.mk.inj hev
      have IA := (divB a b).2
      obtain ⟨⟨p, c⟩, ev⟩ : ∃ r, divF a b = r := ⟨_, rfl⟩
      rw [ev] at IA
      simp only at IA
      rw [ev] at h1
      have TO := fun w => RTold_any w p c
      rw [h1] at TO
      unfold Vl.val at TO
      simp only at TO
      clear h1 ev er hl hev noy hc hc' h38 b38 hn
      go_enter Tryz.func15, Tryz.ntmps15
      go_wp2_with fail
      with_reducible refine Calls.mono (LA _) ?_
      rintro e w8 ⟨rfl, hw8⟩
      obtain rfl := hw8.symm
      clear hw8
      go_wp2_with fail
      with_reducible refine Calls.mono (XN _) ?_
      rintro e w1 ⟨rfl, u1⟩
      have HU1 := hide (HU0.out.then u1 (fun _ _ => id))
      have HV1 := hide (u1.get HV0.out id)
      have HX1 := hide (u1.get HX0.out id)
      have HY1 := hide (u1.get HY0.out id)
      clear u1
      have bY := HY1.out
      obtain ⟨y0, y1, y2, y3, y4⟩ := cells5 bY
      have yl := lt_at bY
      clear bY
      go_wp2_with fail
      with_reducible refine Calls.mono (YN _) ?_
      rintro e w2 ⟨rfl, u2⟩
      have HU2 := hide (HU1.out.then u2 (fun _ _ => id))
      have HV2 := hide (u2.get HV1.out id)
      have HX2 := hide (u2.get HX1.out id)
      have HY2 := hide (u2.get HY1.out id)
      clear u2
      go_wp2_with fail
      with_reducible refine Calls.mono (IA _) ?_
      rintro e w3 ⟨rfl, u3⟩
      have HU3 := hide (HU2.out.then u3 (fun _ _ => id))
      have HV3 := hide (u3.get HV2.out id)
      have HX3 := hide (u3.get HX2.out id)
      have HY3 := hide (u3.get HY2.out id)
      clear u3
      go_wp2_with fail
      with_reducible refine Calls.mono (TO _) ?_
      rintro e w9 ⟨rfl, u9⟩
      have HU9 := hide (HU3.out.then u9 (fun _ _ => id))
      have bV := u9.get HV3.out id
      obtain ⟨v0, v1, v2, v3, v4⟩ := cells5 bV
      have vl := lt_at bV
      have fv0 := free_at bV 0
      have fv1 := free_at bV 1
      have fv2 := free_at bV 2
      have fv3 := free_at bV 3
      have fv4 := free_at bV 4
      have HB := hide bV
      clear bV u9
      go_wp2_with fail
      (try simp only [Exit.inBlock, Exit.then])
      refine bodyPost_ret (ret_rvb rfl _ _ (w.heap.size + 1 + 1) ⟨k0, n0, t0, b0, e0'⟩ rfl (rblock5 (x := vZero) HB.out _ _ _ _ _)) rfl ?_
      exact ⟨rfl, upd5 HU9.out (by omega) _ _ _ _ _⟩
    · have er : reckV n a b = (powV a b, true) := by rw [hn]; rfl
      have hl : lineN n = 5 := by rw [hn]; rfl
      rw [hl] at LA
      rw [er] at hev
      obtain ⟨h1, rfl⟩ := Prod.mk.inj hev
      have PA := fun w => RPower_any w a b noy
      rw [h1] at PA
      unfold Vl.val at PA
      simp only at PA
      clear h1 er hl hev noy hc hc' h38 b38 hn
      go_enter Tryz.func15, Tryz.ntmps15
      go_wp2_with fail
      with_reducible refine Calls.mono (LA _) ?_
      rintro e w8 ⟨rfl, hw8⟩
      obtain rfl := hw8.symm
      clear hw8
      go_wp2_with fail
      with_reducible refine Calls.mono (XN _) ?_
      rintro e w1 ⟨rfl, u1⟩
      have HU1 := hide (HU0.out.then u1 (fun _ _ => id))
      have HV1 := hide (u1.get HV0.out id)
      have HX1 := hide (u1.get HX0.out id)
      have HY1 := hide (u1.get HY0.out id)
      clear u1
      have bY := HY1.out
      obtain ⟨y0, y1, y2, y3, y4⟩ := cells5 bY
      have yl := lt_at bY
      clear bY
      go_wp2_with fail
      with_reducible refine Calls.mono (YN _) ?_
      rintro e w2 ⟨rfl, u2⟩
      have HU2 := hide (HU1.out.then u2 (fun _ _ => id))
      have HV2 := hide (u2.get HV1.out id)
      have HX2 := hide (u2.get HX1.out id)
      have HY2 := hide (u2.get HY1.out id)
      clear u2
      go_wp2_with fail
      with_reducible refine Calls.mono (PA _) ?_
      rintro e w9 ⟨rfl, u9⟩
      have HU9 := hide (HU2.out.then u9 (fun _ _ => id))
      have bV := u9.get HV2.out id
      obtain ⟨v0, v1, v2, v3, v4⟩ := cells5 bV
      have vl := lt_at bV
      have fv0 := free_at bV 0
      have fv1 := free_at bV 1
      have fv2 := free_at bV 2
      have fv3 := free_at bV 3
      have fv4 := free_at bV 4
      have HB := hide bV
      clear bV u9
      go_wp2_with fail
      (try simp only [Exit.inBlock, Exit.then])
      refine bodyPost_ret (ret_rvb rfl _ _ (w.heap.size + 1 + 1) ⟨k0, n0, t0, b0, e0'⟩ rfl (rblock5 (x := vZero) HB.out _ _ _ _ _)) rfl ?_
      exact ⟨rfl, upd5 HU9.out (by omega) _ _ _ _ _⟩
    · have er : reckV n a b = (vZero, false) := by unfold reckV; rw [if_neg n1, if_neg n2, if_neg n3, if_neg n4, if_neg n5]
      have hl : lineN n = 0 := by
        unfold lineN
        rw [hc', if_neg (by simp), if_neg h38, if_neg n1, if_neg n2, if_neg n3, if_neg n4, if_neg n5]
      rw [hl] at LA
      rw [er] at hev
      obtain ⟨h1, rfl⟩ := Prod.mk.inj hev
      obtain ⟨rfl, rfl, rfl, rfl, rfl⟩ := Vl.mk.inj h1
      clear h1 hev er hl noy hc hc' h38 b38 XN YN
      go_enter Tryz.func15, Tryz.ntmps15
      go_wp2_with fail
      with_reducible refine Calls.mono (LA _) ?_
      rintro e w8 ⟨rfl, hw8⟩
      obtain rfl := hw8.symm
      clear hw8
      go_wp2_with fail
      (try simp only [Exit.inBlock, Exit.then])
      refine bodyPost_ret (ret_rvb rfl _ _ (w.heap.size + 1 + 1) ⟨0, 0, [], false, 0⟩ rfl HV0.out) rfl ?_
      exact ⟨rfl, HU0.out⟩
  · rw [if_neg hbad] at hev
    rcases op_cases n with ⟨hn, b1, b2, b3, b4, b5⟩ | ⟨hn, b1, b2, b3, b4, b5⟩ | ⟨hn, b1, b2, b3, b4, b5⟩ | ⟨hn, b1, b2, b3, b4, b5⟩ | ⟨hn, b1, b2, b3, b4, b5⟩ | ⟨n1, n2, n3, n4, n5, b1, b2, b3, b4, b5⟩
    · have hl : lineN n = 3 := by rw [hn]; rfl
      have er : (reckV n 0 10000).2 = true := by rw [hn]; rfl
      rw [hl] at LA
      rw [if_pos er] at hev
      obtain ⟨h1, rfl⟩ := Prod.mk.inj hev
      clear hl er hev hc hc' h38 b38 noy hn
      by_cases hfa : fa = 0
      · rw [if_pos hfa] at h1 hbad
        subst hfa
        have bb : (fb != 0) = true := by simpa using hbad
        have EA := fun w => REk_any w fb (nfy.resolve_left hbad)
        rw [h1] at EA
        unfold Vl.val at EA
        simp only at EA
        clear h1 hbad nfx nfy
        go_enter Tryz.func15, Tryz.ntmps15
        go_wp2_with fail
        with_reducible refine Calls.mono (LA _) ?_
        rintro e w8 ⟨rfl, hw8⟩
        obtain rfl := hw8.symm
        clear hw8
        go_wp2_with fail
        with_reducible refine Calls.mono (XN _) ?_
        rintro e w1 ⟨rfl, u1⟩
        have HU1 := hide (HU0.out.then u1 (fun _ _ => id))
        have HV1 := hide (u1.get HV0.out id)
        have HX1 := hide (u1.get HX0.out id)
        have HY1 := hide (u1.get HY0.out id)
        clear u1
        have bY := HY1.out
        obtain ⟨y0, y1, y2, y3, y4⟩ := cells5 bY
        have yl := lt_at bY
        clear bY
        go_wp2_with fail
        with_reducible refine Calls.mono (YN _) ?_
        rintro e w2 ⟨rfl, u2⟩
        have HU2 := hide (HU1.out.then u2 (fun _ _ => id))
        have HV2 := hide (u2.get HV1.out id)
        have HX2 := hide (u2.get HX1.out id)
        have HY2 := hide (u2.get HY1.out id)
        clear u2
        go_wp2_with fail
        with_reducible refine Calls.mono (EA _) ?_
        rintro e w9 ⟨rfl, u9⟩
        have HU9 := hide (HU2.out.then u9 (fun _ _ => id))
        have bV := u9.get HV2.out id
        obtain ⟨v0, v1, v2, v3, v4⟩ := cells5 bV
        have vl := lt_at bV
        have fv0 := free_at bV 0
        have fv1 := free_at bV 1
        have fv2 := free_at bV 2
        have fv3 := free_at bV 3
        have fv4 := free_at bV 4
        have HB := hide bV
        clear bV u9
        go_wp2_with fail
        (try simp only [Exit.inBlock, Exit.then])
        refine bodyPost_ret (ret_rvb rfl _ _ (w.heap.size + 1 + 1) ⟨k0, n0, t0, b0, e0'⟩ rfl (rblock5 (x := vZero) HB.out _ _ _ _ _)) rfl ?_
        exact ⟨rfl, upd5 HU9.out (by omega) _ _ _ _ _⟩
      · rw [if_neg hfa] at h1 hbad
        have bb : (fa != 0) = true := by simpa using hfa
        have EA := fun w => REk_any w fa (nfx.resolve_left hfa)
        rw [h1] at EA
        unfold Vl.val at EA
        simp only at EA
        clear h1 hbad nfx nfy hfa
        go_enter Tryz.func15, Tryz.ntmps15
        go_wp2_with fail
        with_reducible refine Calls.mono (LA _) ?_
        rintro e w8 ⟨rfl, hw8⟩
        obtain rfl := hw8.symm
        clear hw8
        go_wp2_with fail
        with_reducible refine Calls.mono (XN _) ?_
        rintro e w1 ⟨rfl, u1⟩
        have HU1 := hide (HU0.out.then u1 (fun _ _ => id))
        have HV1 := hide (u1.get HV0.out id)
        have HX1 := hide (u1.get HX0.out id)
        have HY1 := hide (u1.get HY0.out id)
        clear u1
        have bY := HY1.out
        obtain ⟨y0, y1, y2, y3, y4⟩ := cells5 bY
        have yl := lt_at bY
        clear bY
        go_wp2_with fail
        with_reducible refine Calls.mono (YN _) ?_
        rintro e w2 ⟨rfl, u2⟩
        have HU2 := hide (HU1.out.then u2 (fun _ _ => id))
        have HV2 := hide (u2.get HV1.out id)
        have HX2 := hide (u2.get HX1.out id)
        have HY2 := hide (u2.get HY1.out id)
        clear u2
        go_wp2_with fail
        with_reducible refine Calls.mono (EA _) ?_
        rintro e w9 ⟨rfl, u9⟩
        have HU9 := hide (HU2.out.then u9 (fun _ _ => id))
        have bV := u9.get HV2.out id
        obtain ⟨v0, v1, v2, v3, v4⟩ := cells5 bV
        have vl := lt_at bV
        have fv0 := free_at bV 0
        have fv1 := free_at bV 1
        have fv2 := free_at bV 2
        have fv3 := free_at bV 3
        have fv4 := free_at bV 4
        have HB := hide bV
        clear bV u9
        go_wp2_with fail
        (try simp only [Exit.inBlock, Exit.then])
        refine bodyPost_ret (ret_rvb rfl _ _ (w.heap.size + 1 + 1) ⟨k0, n0, t0, b0, e0'⟩ rfl (rblock5 (x := vZero) HB.out _ _ _ _ _)) rfl ?_
        exact ⟨rfl, upd5 HU9.out (by omega) _ _ _ _ _⟩
    · have hl : lineN n = 3 := by rw [hn]; rfl
      have er : (reckV n 0 10000).2 = true := by rw [hn]; rfl
      rw [hl] at LA
      rw [if_pos er] at hev
      obtain ⟨h1, rfl⟩ := Prod.mk.inj hev
      clear hl er hev hc hc' h38 b38 noy hn
      by_cases hfa : fa = 0
      · rw [if_pos hfa] at h1 hbad
        subst hfa
        have bb : (fb != 0) = true := by simpa using hbad
        have EA := fun w => REk_any w fb (nfy.resolve_left hbad)
        rw [h1] at EA
        unfold Vl.val at EA
        simp only at EA
        clear h1 hbad nfx nfy
        go_enter Tryz.func15, Tryz.ntmps15
        go_wp2_with fail
        with_reducible refine Calls.mono (LA _) ?_
        rintro e w8 ⟨rfl, hw8⟩
        obtain rfl := hw8.symm
        clear hw8
        go_wp2_with fail
        with_reducible refine Calls.mono (XN _) ?_
        rintro e w1 ⟨rfl, u1⟩
        have HU1 := hide (HU0.out.then u1 (fun _ _ => id))
        have HV1 := hide (u1.get HV0.out id)
        have HX1 := hide (u1.get HX0.out id)
        have HY1 := hide (u1.get HY0.out id)
        clear u1
        have bY := HY1.out
        obtain ⟨y0, y1, y2, y3, y4⟩ := cells5 bY
        have yl := lt_at bY
        clear bY
        go_wp2_with fail
        with_reducible refine Calls.mono (YN _) ?_
        rintro e w2 ⟨rfl, u2⟩
        have HU2 := hide (HU1.out.then u2 (fun _ _ => id))
        have HV2 := hide (u2.get HV1.out id)
        have HX2 := hide (u2.get HX1.out id)
        have HY2 := hide (u2.get HY1.out id)
        clear u2
        go_wp2_with fail
        with_reducible refine Calls.mono (EA _) ?_
        rintro e w9 ⟨rfl, u9⟩
        have HU9 := hide (HU2.out.then u9 (fun _ _ => id))
        have bV := u9.get HV2.out id
        obtain ⟨v0, v1, v2, v3, v4⟩ := cells5 bV
        have vl := lt_at bV
        have fv0 := free_at bV 0
        have fv1 := free_at bV 1
        have fv2 := free_at bV 2
        have fv3 := free_at bV 3
        have fv4 := free_at bV 4
        have HB := hide bV
        clear bV u9
        go_wp2_with fail
        (try simp only [Exit.inBlock, Exit.then])
        refine bodyPost_ret (ret_rvb rfl _ _ (w.heap.size + 1 + 1) ⟨k0, n0, t0, b0, e0'⟩ rfl (rblock5 (x := vZero) HB.out _ _ _ _ _)) rfl ?_
        exact ⟨rfl, upd5 HU9.out (by omega) _ _ _ _ _⟩
      · rw [if_neg hfa] at h1 hbad
        have bb : (fa != 0) = true := by simpa using hfa
        have EA := fun w => REk_any w fa (nfx.resolve_left hfa)
        rw [h1] at EA
        unfold Vl.val at EA
        simp only at EA
        clear h1 hbad nfx nfy hfa
        go_enter Tryz.func15, Tryz.ntmps15
        go_wp2_with fail
        with_reducible refine Calls.mono (LA _) ?_
        rintro e w8 ⟨rfl, hw8⟩
        obtain rfl := hw8.symm
        clear hw8
        go_wp2_with fail
        with_reducible refine Calls.mono (XN _) ?_
        rintro e w1 ⟨rfl, u1⟩
        have HU1 := hide (HU0.out.then u1 (fun _ _ => id))
        have HV1 := hide (u1.get HV0.out id)
        have HX1 := hide (u1.get HX0.out id)
        have HY1 := hide (u1.get HY0.out id)
        clear u1
        have bY := HY1.out
        obtain ⟨y0, y1, y2, y3, y4⟩ := cells5 bY
        have yl := lt_at bY
        clear bY
        go_wp2_with fail
        with_reducible refine Calls.mono (YN _) ?_
        rintro e w2 ⟨rfl, u2⟩
        have HU2 := hide (HU1.out.then u2 (fun _ _ => id))
        have HV2 := hide (u2.get HV1.out id)
        have HX2 := hide (u2.get HX1.out id)
        have HY2 := hide (u2.get HY1.out id)
        clear u2
        go_wp2_with fail
        with_reducible refine Calls.mono (EA _) ?_
        rintro e w9 ⟨rfl, u9⟩
        have HU9 := hide (HU2.out.then u9 (fun _ _ => id))
        have bV := u9.get HV2.out id
        obtain ⟨v0, v1, v2, v3, v4⟩ := cells5 bV
        have vl := lt_at bV
        have fv0 := free_at bV 0
        have fv1 := free_at bV 1
        have fv2 := free_at bV 2
        have fv3 := free_at bV 3
        have fv4 := free_at bV 4
        have HB := hide bV
        clear bV u9
        go_wp2_with fail
        (try simp only [Exit.inBlock, Exit.then])
        refine bodyPost_ret (ret_rvb rfl _ _ (w.heap.size + 1 + 1) ⟨k0, n0, t0, b0, e0'⟩ rfl (rblock5 (x := vZero) HB.out _ _ _ _ _)) rfl ?_
        exact ⟨rfl, upd5 HU9.out (by omega) _ _ _ _ _⟩
    · have hl : lineN n = 4 := by rw [hn]; rfl
      have er : (reckV n 0 10000).2 = true := by rw [hn]; rfl
      rw [hl] at LA
      rw [if_pos er] at hev
      obtain ⟨h1, rfl⟩ := Prod.mk.inj hev
      clear hl er hev hc hc' h38 b38 noy hn
      by_cases hfa : fa = 0
      · rw [if_pos hfa] at h1 hbad
        subst hfa
        have bb : (fb != 0) = true := by simpa using hbad
        have EA := fun w => REk_any w fb (nfy.resolve_left hbad)
        rw [h1] at EA
        unfold Vl.val at EA
        simp only at EA
        clear h1 hbad nfx nfy
        go_enter Tryz.func15, Tryz.ntmps15
        go_wp2_with fail
        with_reducible refine Calls.mono (LA _) ?_
        rintro e w8 ⟨rfl, hw8⟩
        obtain rfl := hw8.symm
        clear hw8
        go_wp2_with fail
        with_reducible refine Calls.mono (XN _) ?_
        rintro e w1 ⟨rfl, u1⟩
        have HU1 := hide (HU0.out.then u1 (fun _ _ => id))
        have HV1 := hide (u1.get HV0.out id)
        have HX1 := hide (u1.get HX0.out id)
        have HY1 := hide (u1.get HY0.out id)
        clear u1
        have bY := HY1.out
        obtain ⟨y0, y1, y2, y3, y4⟩ := cells5 bY
        have yl := lt_at bY
        clear bY
        go_wp2_with fail
        with_reducible refine Calls.mono (YN _) ?_
        rintro e w2 ⟨rfl, u2⟩
        have HU2 := hide (HU1.out.then u2 (fun _ _ => id))
        have HV2 := hide (u2.get HV1.out id)
        have HX2 := hide (u2.get HX1.out id)
        have HY2 := hide (u2.get HY1.out id)
        clear u2
        go_wp2_with fail
        with_reducible refine Calls.mono (EA _) ?_
        rintro e w9 ⟨rfl, u9⟩
        have HU9 := hide (HU2.out.then u9 (fun _ _ => id))
        have bV := u9.get HV2.out id
        obtain ⟨v0, v1, v2, v3, v4⟩ := cells5 bV
        have vl := lt_at bV
        have fv0 := free_at bV 0
        have fv1 := free_at bV 1
        have fv2 := free_at bV 2
        have fv3 := free_at bV 3
        have fv4 := free_at bV 4
        have HB := hide bV
        clear bV u9
        go_wp2_with fail
        (try simp only [Exit.inBlock, Exit.then])
        refine bodyPost_ret (ret_rvb rfl _ _ (w.heap.size + 1 + 1) ⟨k0, n0, t0, b0, e0'⟩ rfl (rblock5 (x := vZero) HB.out _ _ _ _ _)) rfl ?_
        exact ⟨rfl, upd5 HU9.out (by omega) _ _ _ _ _⟩
      · rw [if_neg hfa] at h1 hbad
        have bb : (fa != 0) = true := by simpa using hfa
        have EA := fun w => REk_any w fa (nfx.resolve_left hfa)
        rw [h1] at EA
        unfold Vl.val at EA
        simp only at EA
        clear h1 hbad nfx nfy hfa
        go_enter Tryz.func15, Tryz.ntmps15
        go_wp2_with fail
        with_reducible refine Calls.mono (LA _) ?_
        rintro e w8 ⟨rfl, hw8⟩
        obtain rfl := hw8.symm
        clear hw8
        go_wp2_with fail
        with_reducible refine Calls.mono (XN _) ?_
        rintro e w1 ⟨rfl, u1⟩
        have HU1 := hide (HU0.out.then u1 (fun _ _ => id))
        have HV1 := hide (u1.get HV0.out id)
        have HX1 := hide (u1.get HX0.out id)
        have HY1 := hide (u1.get HY0.out id)
        clear u1
        have bY := HY1.out
        obtain ⟨y0, y1, y2, y3, y4⟩ := cells5 bY
        have yl := lt_at bY
        clear bY
        go_wp2_with fail
        with_reducible refine Calls.mono (YN _) ?_
        rintro e w2 ⟨rfl, u2⟩
        have HU2 := hide (HU1.out.then u2 (fun _ _ => id))
        have HV2 := hide (u2.get HV1.out id)
        have HX2 := hide (u2.get HX1.out id)
        have HY2 := hide (u2.get HY1.out id)
        clear u2
        go_wp2_with fail
        with_reducible refine Calls.mono (EA _) ?_
        rintro e w9 ⟨rfl, u9⟩
        have HU9 := hide (HU2.out.then u9 (fun _ _ => id))
        have bV := u9.get HV2.out id
        obtain ⟨v0, v1, v2, v3, v4⟩ := cells5 bV
        have vl := lt_at bV
        have fv0 := free_at bV 0
        have fv1 := free_at bV 1
        have fv2 := free_at bV 2
        have fv3 := free_at bV 3
        have fv4 := free_at bV 4
        have HB := hide bV
        clear bV u9
        go_wp2_with fail
        (try simp only [Exit.inBlock, Exit.then])
        refine bodyPost_ret (ret_rvb rfl _ _ (w.heap.size + 1 + 1) ⟨k0, n0, t0, b0, e0'⟩ rfl (rblock5 (x := vZero) HB.out _ _ _ _ _)) rfl ?_
        exact ⟨rfl, upd5 HU9.out (by omega) _ _ _ _ _⟩
    · have hl : lineN n = 4 := by rw [hn]; rfl
      have er : (reckV n 0 10000).2 = true := by rw [hn]; rfl
      rw [hl] at LA
      rw [if_pos er] at hev
      obtain ⟨h1, rfl⟩ := Prod.mk.inj hev
      clear hl er hev hc hc' h38 b38 noy hn
      by_cases hfa : fa = 0
      · rw [if_pos hfa] at h1 hbad
        subst hfa
        have bb : (fb != 0) = true := by simpa using hbad
        have EA := fun w => REk_any w fb (nfy.resolve_left hbad)
        rw [h1] at EA
        unfold Vl.val at EA
        simp only at EA
        clear h1 hbad nfx nfy
        go_enter Tryz.func15, Tryz.ntmps15
        go_wp2_with fail
        with_reducible refine Calls.mono (LA _) ?_
        rintro e w8 ⟨rfl, hw8⟩
        obtain rfl := hw8.symm
        clear hw8
        go_wp2_with fail
        with_reducible refine Calls.mono (XN _) ?_
        rintro e w1 ⟨rfl, u1⟩
        have HU1 := hide (HU0.out.then u1 (fun _ _ => id))
        have HV1 := hide (u1.get HV0.out id)
        have HX1 := hide (u1.get HX0.out id)
        have HY1 := hide (u1.get HY0.out id)
        clear u1
        have bY := HY1.out
        obtain ⟨y0, y1, y2, y3, y4⟩ := cells5 bY
        have yl := lt_at bY
        clear bY
        go_wp2_with fail
        with_reducible refine Calls.mono (YN _) ?_
        rintro e w2 ⟨rfl, u2⟩
        have HU2 := hide (HU1.out.then u2 (fun _ _ => id))
        have HV2 := hide (u2.get HV1.out id)
        have HX2 := hide (u2.get HX1.out id)
        have HY2 := hide (u2.get HY1.out id)
        clear u2
        go_wp2_with fail
        with_reducible refine Calls.mono (EA _) ?_
        rintro e w9 ⟨rfl, u9⟩
        have HU9 := hide (HU2.out.then u9 (fun _ _ => id))
        have bV := u9.get HV2.out id
        obtain ⟨v0, v1, v2, v3, v4⟩ := cells5 bV
        have vl := lt_at bV
        have fv0 := free_at bV 0
        have fv1 := free_at bV 1
        have fv2 := free_at bV 2
        have fv3 := free_at bV 3
        have fv4 := free_at bV 4
        have HB := hide bV
        clear bV u9
        go_wp2_with fail
        (try simp only [Exit.inBlock, Exit.then])
        refine bodyPost_ret (ret_rvb rfl _ _ (w.heap.size + 1 + 1) ⟨k0, n0, t0, b0, e0'⟩ rfl (rblock5 (x := vZero) HB.out _ _ _ _ _)) rfl ?_
        exact ⟨rfl, upd5 HU9.out (by omega) _ _ _ _ _⟩
      · rw [if_neg hfa] at h1 hbad
        have bb : (fa != 0) = true := by simpa using hfa
        have EA := fun w => REk_any w fa (nfx.resolve_left hfa)
        rw [h1] at EA
        unfold Vl.val at EA
        simp only at EA
        clear h1 hbad nfx nfy hfa
        go_enter Tryz.func15, Tryz.ntmps15
        go_wp2_with fail
        with_reducible refine Calls.mono (LA _) ?_
        rintro e w8 ⟨rfl, hw8⟩
        obtain rfl := hw8.symm
        clear hw8
        go_wp2_with fail
        with_reducible refine Calls.mono (XN _) ?_
        rintro e w1 ⟨rfl, u1⟩
        have HU1 := hide (HU0.out.then u1 (fun _ _ => id))
        have HV1 := hide (u1.get HV0.out id)
        have HX1 := hide (u1.get HX0.out id)
        have HY1 := hide (u1.get HY0.out id)
        clear u1
        have bY := HY1.out
        obtain ⟨y0, y1, y2, y3, y4⟩ := cells5 bY
        have yl := lt_at bY
        clear bY
        go_wp2_with fail
        with_reducible refine Calls.mono (YN _) ?_
        rintro e w2 ⟨rfl, u2⟩
        have HU2 := hide (HU1.out.then u2 (fun _ _ => id))
        have HV2 := hide (u2.get HV1.out id)
        have HX2 := hide (u2.get HX1.out id)
        have HY2 := hide (u2.get HY1.out id)
        clear u2
        go_wp2_with fail
        with_reducible refine Calls.mono (EA _) ?_
        rintro e w9 ⟨rfl, u9⟩
        have HU9 := hide (HU2.out.then u9 (fun _ _ => id))
        have bV := u9.get HV2.out id
        obtain ⟨v0, v1, v2, v3, v4⟩ := cells5 bV
        have vl := lt_at bV
        have fv0 := free_at bV 0
        have fv1 := free_at bV 1
        have fv2 := free_at bV 2
        have fv3 := free_at bV 3
        have fv4 := free_at bV 4
        have HB := hide bV
        clear bV u9
        go_wp2_with fail
        (try simp only [Exit.inBlock, Exit.then])
        refine bodyPost_ret (ret_rvb rfl _ _ (w.heap.size + 1 + 1) ⟨k0, n0, t0, b0, e0'⟩ rfl (rblock5 (x := vZero) HB.out _ _ _ _ _)) rfl ?_
        exact ⟨rfl, upd5 HU9.out (by omega) _ _ _ _ _⟩
    · have hl : lineN n = 5 := by rw [hn]; rfl
      have er : (reckV n 0 10000).2 = true := by rw [hn]; rfl
      rw [hl] at LA
      rw [if_pos er] at hev
      obtain ⟨h1, rfl⟩ := Prod.mk.inj hev
      clear hl er hev hc hc' h38 b38 noy hn
      by_cases hfa : fa = 0
      · rw [if_pos hfa] at h1 hbad
        subst hfa
        have bb : (fb != 0) = true := by simpa using hbad
        have EA := fun w => REk_any w fb (nfy.resolve_left hbad)
        rw [h1] at EA
        unfold Vl.val at EA
        simp only at EA
        clear h1 hbad nfx nfy
        go_enter Tryz.func15, Tryz.ntmps15
        go_wp2_with fail
        with_reducible refine Calls.mono (LA _) ?_
        rintro e w8 ⟨rfl, hw8⟩
        obtain rfl := hw8.symm
        clear hw8
        go_wp2_with fail
        with_reducible refine Calls.mono (XN _) ?_
        rintro e w1 ⟨rfl, u1⟩
        have HU1 := hide (HU0.out.then u1 (fun _ _ => id))
        have HV1 := hide (u1.get HV0.out id)
        have HX1 := hide (u1.get HX0.out id)
        have HY1 := hide (u1.get HY0.out id)
        clear u1
        have bY := HY1.out
        obtain ⟨y0, y1, y2, y3, y4⟩ := cells5 bY
        have yl := lt_at bY
        clear bY
        go_wp2_with fail
        with_reducible refine Calls.mono (YN _) ?_
        rintro e w2 ⟨rfl, u2⟩
        have HU2 := hide (HU1.out.then u2 (fun _ _ => id))
        have HV2 := hide (u2.get HV1.out id)
        have HX2 := hide (u2.get HX1.out id)
        have HY2 := hide (u2.get HY1.out id)
        clear u2
        go_wp2_with fail
        with_reducible refine Calls.mono (EA _) ?_
        rintro e w9 ⟨rfl, u9⟩
        have HU9 := hide (HU2.out.then u9 (fun _ _ => id))
        have bV := u9.get HV2.out id
        obtain ⟨v0, v1, v2, v3, v4⟩ := cells5 bV
        have vl := lt_at bV
        have fv0 := free_at bV 0
        have fv1 := free_at bV 1
        have fv2 := free_at bV 2
        have fv3 := free_at bV 3
        have fv4 := free_at bV 4
        have HB := hide bV
        clear bV u9
        go_wp2_with fail
        (try simp only [Exit.inBlock, Exit.then])
        refine bodyPost_ret (ret_rvb rfl _ _ (w.heap.size + 1 + 1) ⟨k0, n0, t0, b0, e0'⟩ rfl (rblock5 (x := vZero) HB.out _ _ _ _ _)) rfl ?_
        exact ⟨rfl, upd5 HU9.out (by omega) _ _ _ _ _⟩
      · rw [if_neg hfa] at h1 hbad
        have bb : (fa != 0) = true := by simpa using hfa
        have EA := fun w => REk_any w fa (nfx.resolve_left hfa)
        rw [h1] at EA
        unfold Vl.val at EA
        simp only at EA
        clear h1 hbad nfx nfy hfa
        go_enter Tryz.func15, Tryz.ntmps15
        go_wp2_with fail
        with_reducible refine Calls.mono (LA _) ?_
        rintro e w8 ⟨rfl, hw8⟩
        obtain rfl := hw8.symm
        clear hw8
        go_wp2_with fail
        with_reducible refine Calls.mono (XN _) ?_
        rintro e w1 ⟨rfl, u1⟩
        have HU1 := hide (HU0.out.then u1 (fun _ _ => id))
        have HV1 := hide (u1.get HV0.out id)
        have HX1 := hide (u1.get HX0.out id)
        have HY1 := hide (u1.get HY0.out id)
        clear u1
        have bY := HY1.out
        obtain ⟨y0, y1, y2, y3, y4⟩ := cells5 bY
        have yl := lt_at bY
        clear bY
        go_wp2_with fail
        with_reducible refine Calls.mono (YN _) ?_
        rintro e w2 ⟨rfl, u2⟩
        have HU2 := hide (HU1.out.then u2 (fun _ _ => id))
        have HV2 := hide (u2.get HV1.out id)
        have HX2 := hide (u2.get HX1.out id)
        have HY2 := hide (u2.get HY1.out id)
        clear u2
        go_wp2_with fail
        with_reducible refine Calls.mono (EA _) ?_
        rintro e w9 ⟨rfl, u9⟩
        have HU9 := hide (HU2.out.then u9 (fun _ _ => id))
        have bV := u9.get HV2.out id
        obtain ⟨v0, v1, v2, v3, v4⟩ := cells5 bV
        have vl := lt_at bV
        have fv0 := free_at bV 0
        have fv1 := free_at bV 1
        have fv2 := free_at bV 2
        have fv3 := free_at bV 3
        have fv4 := free_at bV 4
        have HB := hide bV
        clear bV u9
        go_wp2_with fail
        (try simp only [Exit.inBlock, Exit.then])
        refine bodyPost_ret (ret_rvb rfl _ _ (w.heap.size + 1 + 1) ⟨k0, n0, t0, b0, e0'⟩ rfl (rblock5 (x := vZero) HB.out _ _ _ _ _)) rfl ?_
        exact ⟨rfl, upd5 HU9.out (by omega) _ _ _ _ _⟩
    · have er : reckV n 0 10000 = (vZero, false) := by unfold reckV; rw [if_neg n1, if_neg n2, if_neg n3, if_neg n4, if_neg n5]
      have hl : lineN n = 0 := by
        unfold lineN
        rw [hc', if_neg (by simp), if_neg h38, if_neg n1, if_neg n2, if_neg n3, if_neg n4, if_neg n5]
      rw [hl] at LA
      rw [if_neg (by rw [er]; simp)] at hev
      obtain ⟨h1, rfl⟩ := Prod.mk.inj hev
      obtain ⟨rfl, rfl, rfl, rfl, rfl⟩ := Vl.mk.inj h1
      clear h1 hev er hl noy hc hc' h38 b38 XN YN hbad nfx nfy
      go_enter Tryz.func15, Tryz.ntmps15
      go_wp2_with fail
      with_reducible refine Calls.mono (LA _) ?_
      rintro e w8 ⟨rfl, hw8⟩
      obtain rfl := hw8.symm
      clear hw8
      go_wp2_with fail
      (try simp only [Exit.inBlock, Exit.then])
      refine bodyPost_ret (ret_rvb rfl _ _ (w.heap.size + 1 + 1) ⟨0, 0, [], false, 0⟩ rfl HV0.out) rfl ?_
      exact ⟨rfl, HU0.out⟩
end Go.Proofs.YtmfngdjhkpddoaaGreatDoor
