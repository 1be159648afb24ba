/- The walks of nums' reckon, holds, joined. -/
import Derived.Test.YtmfngdjhkpddoaaGreatDoorJ22
/- The walks of nums' reckon, holds, joined. -/
set_option maxRecDepth 100000
namespace Go.Proofs.YtmfngdjhkpddoaaGreatDoor
open Go.RowKit Go.Lat Go.Lib

theorem reckon_any (w : World) (n : List UInt8) (a b : Int) (hb : okNum b = true) : Calls Tryz.prog 39 #[enS n, .int .i64 a, .int .i64 b] w fun e w' => e = .returned (.tuple #[(reckV n a b).1.val, .bool (reckV n a b).2]) ∧ Upd w w' (fun _ => False) := by
  have HU0 : Hid (Upd w (w.alloc (.cells #[.int .i64 0, .int .i64 0, .string ⟨#[]⟩, .bool false, .int .i64 0] 26)) (fun _ => False)) := hide ((Upd.refl w _).alloc _)
  have HV0 : Hid ((w.alloc (.cells #[.int .i64 0, .int .i64 0, .string ⟨#[]⟩, .bool false, .int .i64 0] 26)).heap[w.heap.size]? = some (.cells #[.int .i64 0, .int .i64 0, .string ⟨#[]⟩, .bool false, .int .i64 0] 26 (0, 0))) := hide (Vnew1 w _)
  rcases op_cases n with ⟨hn, b1, b2, b3, b4, b5⟩ | ⟨hn, b1, b2, b3, b4, b5⟩ | ⟨hn, b1, b2, b3, b4, b5⟩ | ⟨hn, b1, b2, b3, b4, b5⟩ | ⟨hn, b1, b2, b3, b4, b5⟩ | ⟨n1, n2, n3, n4, n5, b1, b2, b3, b4, b5⟩
  · have IA := fun w => Add_any w a b
    obtain ⟨p, hp⟩ : ∃ p, addV a b = p := ⟨_, rfl⟩
    obtain ⟨c, hc⟩ : ∃ c, addE a b = c := ⟨_, rfl⟩
    rw [hp, hc] at IA
    have er : reckV n a b = (tldV (p, c), true) := by rw [hn, ← hp, ← hc]; rfl
    clear hp hc
    rw [er]
    have TO := fun w => nTold_any w p c
    simp only
    obtain ⟨⟨k0, n0, t0, b0, e0'⟩, hev⟩ : ∃ v, tldV (p, c) = v := ⟨_, rfl⟩
    rw [hev] at TO ⊢
    unfold Vl.val at TO
    (try unfold Vl.val)
    simp only at TO ⊢
    clear hev
    clear er hn
    go_enter Tryz.func39, Tryz.ntmps39
    go_wp2_with fail
    with_reducible refine Calls.mono (IA _) ?_
    rintro e w1 ⟨rfl, u1⟩
    have HU1 := hide (HU0.out.then u1 (fun _ _ => id))
    have HV1 := hide (u1.get HV0.out id)
    clear u1
    go_wp2_with fail
    with_reducible refine Calls.mono (TO _) ?_
    rintro e w9 ⟨rfl, u9⟩
    have HU9 := hide (HU1.out.then u9 (fun _ _ => id))
    have bV := u9.get HV1.out id
    obtain ⟨v0, v1, v2, v3, v4⟩ := cells5 bV
    have vl := lt_at bV
    have fv0 := free_at bV 0
    have fv1 := free_at bV 1
    have fv2 := free_at bV 2
    have fv3 := free_at bV 3
    have fv4 := free_at bV 4
    have HB := hide bV
    clear bV u9
    go_wp2_with fail
    (try simp only [Exit.inBlock, Exit.then])
    refine bodyPost_ret (ret_vlb rfl _ _ (w.heap.size) ⟨k0, n0, t0, b0, e0'⟩ rfl (block5 (x := vZero) HB.out _ _ _ _ _)) rfl ?_
    exact ⟨rfl, upd5 HU9.out (by omega) _ _ _ _ _⟩
  · have IA := fun w => Sub_any w a b
    obtain ⟨p, hp⟩ : ∃ p, addV a (-b) = p := ⟨_, rfl⟩
    obtain ⟨c, hc⟩ : ∃ c, addE a (-b) = c := ⟨_, rfl⟩
    rw [hp, hc] at IA
    have er : reckV n a b = (tldV (p, c), true) := by rw [hn, ← hp, ← hc]; rfl
    clear hp hc
    rw [er]
    have TO := fun w => nTold_any w p c
    simp only
    obtain ⟨⟨k0, n0, t0, b0, e0'⟩, hev⟩ : ∃ v, tldV (p, c) = v := ⟨_, rfl⟩
    rw [hev] at TO ⊢
    unfold Vl.val at TO
    (try unfold Vl.val)
    simp only at TO ⊢
    clear hev
    clear er hn
    go_enter Tryz.func39, Tryz.ntmps39
    go_wp2_with fail
    with_reducible refine Calls.mono (IA _) ?_
    rintro e w1 ⟨rfl, u1⟩
    have HU1 := hide (HU0.out.then u1 (fun _ _ => id))
    have HV1 := hide (u1.get HV0.out id)
    clear u1
    go_wp2_with fail
    with_reducible refine Calls.mono (TO _) ?_
    rintro e w9 ⟨rfl, u9⟩
    have HU9 := hide (HU1.out.then u9 (fun _ _ => id))
    have bV := u9.get HV1.out id
    obtain ⟨v0, v1, v2, v3, v4⟩ := cells5 bV
    have vl := lt_at bV
    have fv0 := free_at bV 0
    have fv1 := free_at bV 1
    have fv2 := free_at bV 2
    have fv3 := free_at bV 3
    have fv4 := free_at bV 4
    have HB := hide bV
    clear bV u9
    go_wp2_with fail
    (try simp only [Exit.inBlock, Exit.then])
    refine bodyPost_ret (ret_vlb rfl _ _ (w.heap.size) ⟨k0, n0, t0, b0, e0'⟩ rfl (block5 (x := vZero) HB.out _ _ _ _ _)) rfl ?_
    exact ⟨rfl, upd5 HU9.out (by omega) _ _ _ _ _⟩
  · have IA := (mulB a b).1
    obtain ⟨⟨p, c⟩, hp⟩ : ∃ r, mulF a b = r := ⟨_, rfl⟩
    rw [hp] at IA
    simp only at IA
    have er : reckV n a b = (tldV (p, c), true) := by rw [hn, ← hp]; rfl
    clear hp
    rw [er]
    have TO := fun w => nTold_any w p c
    simp only
    obtain ⟨⟨k0, n0, t0, b0, e0'⟩, hev⟩ : ∃ v, tldV (p, c) = v := ⟨_, rfl⟩
    rw [hev] at TO ⊢
    unfold Vl.val at TO
    (try unfold Vl.val)
    simp only at TO ⊢
    clear hev
    clear er hn
    go_enter Tryz.func39, Tryz.ntmps39
    go_wp2_with fail
    with_reducible refine Calls.mono (IA _) ?_
    rintro e w1 ⟨rfl, u1⟩
    have HU1 := hide (HU0.out.then u1 (fun _ _ => id))
    have HV1 := hide (u1.get HV0.out id)
    clear u1
    go_wp2_with fail
    with_reducible refine Calls.mono (TO _) ?_
    rintro e w9 ⟨rfl, u9⟩
    have HU9 := hide (HU1.out.then u9 (fun _ _ => id))
    have bV := u9.get HV1.out id
    obtain ⟨v0, v1, v2, v3, v4⟩ := cells5 bV
    have vl := lt_at bV
    have fv0 := free_at bV 0
    have fv1 := free_at bV 1
    have fv2 := free_at bV 2
    have fv3 := free_at bV 3
    have fv4 := free_at bV 4
    have HB := hide bV
    clear bV u9
    go_wp2_with fail
    (try simp only [Exit.inBlock, Exit.then])
    refine bodyPost_ret (ret_vlb rfl _ _ (w.heap.size) ⟨k0, n0, t0, b0, e0'⟩ rfl (block5 (x := vZero) HB.out _ _ _ _ _)) rfl ?_
    exact ⟨rfl, upd5 HU9.out (by omega) _ _ _ _ _⟩
  · have IA := (divB a b).1
    obtain ⟨⟨p, c⟩, hp⟩ : ∃ r, divF a b = r := ⟨_, rfl⟩
    rw [hp] at IA
    simp only at IA
    have er : reckV n a b = (tldV (p, c), true) := by rw [hn, ← hp]; rfl
    clear hp
    rw [er]
    have TO := fun w => nTold_any w p c
    simp only
    obtain ⟨⟨k0, n0, t0, b0, e0'⟩, hev⟩ : ∃ v, tldV (p, c) = v := ⟨_, rfl⟩
    rw [hev] at TO ⊢
    unfold Vl.val at TO
    (try unfold Vl.val)
    simp only at TO ⊢
    clear hev
    clear er hn
    go_enter Tryz.func39, Tryz.ntmps39
    go_wp2_with fail
    with_reducible refine Calls.mono (IA _) ?_
    rintro e w1 ⟨rfl, u1⟩
    have HU1 := hide (HU0.out.then u1 (fun _ _ => id))
    have HV1 := hide (u1.get HV0.out id)
    clear u1
    go_wp2_with fail
    with_reducible refine Calls.mono (TO _) ?_
    rintro e w9 ⟨rfl, u9⟩
    have HU9 := hide (HU1.out.then u9 (fun _ _ => id))
    have bV := u9.get HV1.out id
    obtain ⟨v0, v1, v2, v3, v4⟩ := cells5 bV
    have vl := lt_at bV
    have fv0 := free_at bV 0
    have fv1 := free_at bV 1
    have fv2 := free_at bV 2
    have fv3 := free_at bV 3
    have fv4 := free_at bV 4
    have HB := hide bV
    clear bV u9
    go_wp2_with fail
    (try simp only [Exit.inBlock, Exit.then])
    refine bodyPost_ret (ret_vlb rfl _ _ (w.heap.size) ⟨k0, n0, t0, b0, e0'⟩ rfl (block5 (x := vZero) HB.out _ _ _ _ _)) rfl ?_
    exact ⟨rfl, upd5 HU9.out (by omega) _ _ _ _ _⟩
  · have er : reckV n a b = (powV a b, true) := by rw [hn]; rfl
    rw [er]
    have PA := fun w => nPower_any w a b hb
    simp only
    obtain ⟨⟨k0, n0, t0, b0, e0'⟩, hev⟩ : ∃ v, powV a b = v := ⟨_, rfl⟩
    rw [hev] at PA ⊢
    unfold Vl.val at PA
    (try unfold Vl.val)
    simp only at PA ⊢
    clear hev
    clear er hn hb
    go_enter Tryz.func39, Tryz.ntmps39
    go_wp2_with fail
    with_reducible refine Calls.mono (PA _) ?_
    rintro e w9 ⟨rfl, u9⟩
    have HU9 := hide (HU0.out.then u9 (fun _ _ => id))
    have bV := u9.get HV0.out id
    obtain ⟨v0, v1, v2, v3, v4⟩ := cells5 bV
    have vl := lt_at bV
    have fv0 := free_at bV 0
    have fv1 := free_at bV 1
    have fv2 := free_at bV 2
    have fv3 := free_at bV 3
    have fv4 := free_at bV 4
    have HB := hide bV
    clear bV u9
    go_wp2_with fail
    (try simp only [Exit.inBlock, Exit.then])
    refine bodyPost_ret (ret_vlb rfl _ _ (w.heap.size) ⟨k0, n0, t0, b0, e0'⟩ rfl (block5 (x := vZero) HB.out _ _ _ _ _)) rfl ?_
    exact ⟨rfl, upd5 HU9.out (by omega) _ _ _ _ _⟩
  · have er : reckV n a b = (vZero, false) := by unfold reckV; rw [if_neg n1, if_neg n2, if_neg n3, if_neg n4, if_neg n5]
    rw [er]
    clear er n1 n2 n3 n4 n5 hb
    unfold Vl.val vZero
    simp only
    go_enter Tryz.func39, Tryz.ntmps39
    go_wp2_with fail
    (try simp only [Exit.inBlock, Exit.then])
    refine bodyPost_ret (ret_vlb rfl _ _ w.heap.size ⟨0, 0, [], false, 0⟩ rfl (Vnew1 w _)) rfl ?_
    exact ⟨rfl, HU0.out⟩
theorem holds_any (w : World) (n : List UInt8) (r : Int) : Calls Tryz.prog 37 #[enS n, .int .i64 r] w fun e w' => e = .returned (.tuple #[.bool (holdB n r), .bool (isCmp n)]) ∧ w' = w := by
  rcases cmp_cases n with ⟨hn, b1, b2, b3, b4, b5, b6⟩ | ⟨hn, b1, b2, b3, b4, b5, b6⟩ | ⟨hn, b1, b2, b3, b4, b5, b6⟩ | ⟨hn, b1, b2, b3, b4, b5, b6⟩ | ⟨hn, b1, b2, b3, b4, b5, b6⟩ | ⟨hn, b1, b2, b3, b4, b5, b6⟩ | ⟨n1, n2, n3, n4, n5, n6, b1, b2, b3, b4, b5, b6⟩
  · have e1 : holdB n r = (r == 0) := by rw [hn]; rfl
    have e2 : isCmp n = true := by rw [hn]; rfl
    rw [e1, e2]
    clear e1 e2 hn
    go_enter Tryz.func37, Tryz.ntmps37
    go_wp2_with fail
    all_goals go_ret2
    all_goals exact ⟨rfl, rfl⟩
  · have e1 : holdB n r = (r != 0) := by rw [hn]; rfl
    have e2 : isCmp n = true := by rw [hn]; rfl
    rw [e1, e2]
    clear e1 e2 hn
    go_enter Tryz.func37, Tryz.ntmps37
    go_wp2_with fail
    all_goals go_ret2
    all_goals exact ⟨rfl, rfl⟩
  · have e1 : holdB n r = (decide (r < 0)) := by rw [hn]; rfl
    have e2 : isCmp n = true := by rw [hn]; rfl
    rw [e1, e2]
    clear e1 e2 hn
    go_enter Tryz.func37, Tryz.ntmps37
    go_wp2_with fail
    all_goals go_ret2
    all_goals exact ⟨rfl, rfl⟩
  · have e1 : holdB n r = (decide (r ≤ 0)) := by rw [hn]; rfl
    have e2 : isCmp n = true := by rw [hn]; rfl
    rw [e1, e2]
    clear e1 e2 hn
    go_enter Tryz.func37, Tryz.ntmps37
    go_wp2_with fail
    all_goals go_ret2
    all_goals exact ⟨rfl, rfl⟩
  · have e1 : holdB n r = (decide (0 < r)) := by rw [hn]; rfl
    have e2 : isCmp n = true := by rw [hn]; rfl
    rw [e1, e2]
    clear e1 e2 hn
    go_enter Tryz.func37, Tryz.ntmps37
    go_wp2_with fail
    all_goals go_ret2
    all_goals exact ⟨rfl, rfl⟩
  · have e1 : holdB n r = (decide (0 ≤ r)) := by rw [hn]; rfl
    have e2 : isCmp n = true := by rw [hn]; rfl
    rw [e1, e2]
    clear e1 e2 hn
    go_enter Tryz.func37, Tryz.ntmps37
    go_wp2_with fail
    all_goals go_ret2
    all_goals exact ⟨rfl, rfl⟩
  · have e1 : holdB n r = false := by unfold holdB; rw [if_neg n1, if_neg n2, if_neg n3, if_neg n4, if_neg n5, if_neg n6]
    have e2 : isCmp n = false := by unfold isCmp; simp [n1, n2, n3, n4, n5, n6]
    rw [e1, e2]
    clear e1 e2 n1 n2 n3 n4 n5 n6
    go_enter Tryz.func37, Tryz.ntmps37
    go_wp2_with fail
    all_goals go_ret2
    all_goals exact ⟨rfl, rfl⟩
theorem joined_any (w : World) (hg : Sig w) (hp : Pow w) (x y : Vl) (hx : x.ok) (hy : y.ok) : Calls Tryz.prog 35 #[x.val, y.val] w fun e w' => e = .returned (joinV (textF x) (textF y)).val ∧ Upd w w' (fun _ => False) := by
  have XA := fun W h1 h2 => textP_any W h1 h2 x hx
  have YA := fun W h1 h2 => textP_any W h1 h2 y hy
  have l1 := textF_len x
  have l2 := textF_len y
  obtain ⟨⟨s, f⟩, h1⟩ : ∃ r, textF x = r := ⟨_, rfl⟩
  obtain ⟨⟨t, g⟩, h2⟩ : ∃ r, textF y = r := ⟨_, rfl⟩
  rw [h1] at XA l1 ⊢
  rw [h2] at YA l2 ⊢
  simp only at XA YA l1 l2
  clear h1 h2
  obtain ⟨xk, xn, xt, xb, xf⟩ := x
  obtain ⟨yk, yn, yt, yb, yf⟩ := y
  unfold Vl.val at XA YA
  simp only at XA YA
  have HG := hide hg
  have HP := hide hp
  unfold joinV
  simp only
  clear hx hy hg hp
  by_cases hf : f = 0
  · subst hf
    rw [if_pos rfl]
    by_cases hg : g = 0
    · subst hg
      rw [if_pos rfl]
      have q1 : ¬ 9223372036854775807 < s.length + t.length := by omega
      obtain ⟨S, hS⟩ : ∃ S, s ++ t = S := ⟨_, rfl⟩
      have eS : (⟨s.toArray⟩ ++ ⟨t.toArray⟩ : ByteArray) = ⟨S.toArray⟩ := by
        rw [← hS]
        apply ByteArray.ext
        simp
      rw [hS]
      clear hS l1 l2
      have HU0 : Hid (Upd w (((w.alloc (.cells #[.int .i64 xk, .int .i64 xn, enS xt, .bool xb, .int .i64 xf] 26)).alloc (.cells #[.int .i64 yk, .int .i64 yn, enS yt, .bool yb, .int .i64 yf] 26)).alloc (.cells #[.int .i64 0, .int .i64 0, .string ⟨#[]⟩, .bool false, .int .i64 0] 26)) (fun _ => False)) := hide ((((Upd.refl w _).alloc _).alloc _).alloc _)
      have HX0 : Hid ((((w.alloc (.cells #[.int .i64 xk, .int .i64 xn, enS xt, .bool xb, .int .i64 xf] 26)).alloc (.cells #[.int .i64 yk, .int .i64 yn, enS yt, .bool yb, .int .i64 yf] 26)).alloc (.cells #[.int .i64 0, .int .i64 0, .string ⟨#[]⟩, .bool false, .int .i64 0] 26)).heap[w.heap.size]? = some (.cells #[.int .i64 xk, .int .i64 xn, enS xt, .bool xb, .int .i64 xf] 26 (0, 0))) := hide (block_alloc (block_alloc (Vnew1 w _) _) _)
      have HY0 : Hid ((((w.alloc (.cells #[.int .i64 xk, .int .i64 xn, enS xt, .bool xb, .int .i64 xf] 26)).alloc (.cells #[.int .i64 yk, .int .i64 yn, enS yt, .bool yb, .int .i64 yf] 26)).alloc (.cells #[.int .i64 0, .int .i64 0, .string ⟨#[]⟩, .bool false, .int .i64 0] 26)).heap[w.heap.size + 1]? = some (.cells #[.int .i64 yk, .int .i64 yn, enS yt, .bool yb, .int .i64 yf] 26 (0, 0))) := hide (block_alloc (Vnew2 w _ _) _)
      have HV0 : Hid ((((w.alloc (.cells #[.int .i64 xk, .int .i64 xn, enS xt, .bool xb, .int .i64 xf] 26)).alloc (.cells #[.int .i64 yk, .int .i64 yn, enS yt, .bool yb, .int .i64 yf] 26)).alloc (.cells #[.int .i64 0, .int .i64 0, .string ⟨#[]⟩, .bool false, .int .i64 0] 26)).heap[w.heap.size + 1 + 1]? = some (.cells #[.int .i64 0, .int .i64 0, .string ⟨#[]⟩, .bool false, .int .i64 0] 26 (0, 0))) := hide (by have := Vnew2 (w.alloc (.cells #[.int .i64 xk, .int .i64 xn, enS xt, .bool xb, .int .i64 xf] 26)) (.cells #[.int .i64 yk, .int .i64 yn, enS yt, .bool yb, .int .i64 yf] 26) (.cells #[.int .i64 0, .int .i64 0, .string ⟨#[]⟩, .bool false, .int .i64 0] 26); simpa using this)
      have TA := fun w => T_any w S
      obtain ⟨⟨k0, n0, t0, b0, e0'⟩, hev⟩ : ∃ v, mkT S = v := ⟨_, rfl⟩
      rw [hev] at TA ⊢
      unfold Vl.val at TA
      (try unfold Vl.val)
      simp only at TA ⊢
      clear hev
      (try unfold Vl.val)
      (try simp only)
      go_enter Tryz.func35, Tryz.ntmps35
      go_wp2_with fail
      with_reducible refine Calls.mono (XA _ (HG.out.upd HU0.out id) (HP.out.upd HU0.out id)) ?_
      rintro e w1 ⟨rfl, u1⟩
      have HU1 := hide (HU0.out.then u1 (fun _ _ => id))
      have HV1 := hide (u1.get HV0.out id)
      have HX1 := hide (u1.get HX0.out id)
      have HY1 := hide (u1.get HY0.out id)
      clear u1
      have bY := HY1.out
      obtain ⟨y0, y1, y2, y3, y4⟩ := cells5 bY
      have yl := lt_at bY
      clear bY
      go_wp2_with fail
      with_reducible refine Calls.mono (YA _ (HG.out.upd HU1.out id) (HP.out.upd HU1.out id)) ?_
      rintro e w2 ⟨rfl, u2⟩
      have HU2 := hide (HU1.out.then u2 (fun _ _ => id))
      have HV2 := hide (u2.get HV1.out id)
      have HX2 := hide (u2.get HX1.out id)
      have HY2 := hide (u2.get HY1.out id)
      clear u2
      go_wp2_with fail
      with_reducible refine Calls.mono (TA _) ?_
      rintro e w9 ⟨rfl, u9⟩
      have HU9 := hide (HU2.out.then u9 (fun _ _ => id))
      have bV := u9.get HV2.out id
      obtain ⟨v0, v1, v2, v3, v4⟩ := cells5 bV
      have vl := lt_at bV
      have fv0 := free_at bV 0
      have fv1 := free_at bV 1
      have fv2 := free_at bV 2
      have fv3 := free_at bV 3
      have fv4 := free_at bV 4
      have HB := hide bV
      clear bV u9
      go_wp2_with fail
      (try simp only [Exit.inBlock, Exit.then])
      refine bodyPost_ret (ret_vl rfl _ _ (w.heap.size + 1 + 1) ⟨k0, n0, t0, b0, e0'⟩ rfl (block5 (x := vZero) HB.out _ _ _ _ _)) rfl ?_
      exact ⟨rfl, upd5 HU9.out (by omega) _ _ _ _ _⟩
    · rw [if_neg hg]
      have bg : (g != 0) = true := by simpa using hg
      clear hg l1 l2
      have HU0 : Hid (Upd w (((w.alloc (.cells #[.int .i64 xk, .int .i64 xn, enS xt, .bool xb, .int .i64 xf] 26)).alloc (.cells #[.int .i64 yk, .int .i64 yn, enS yt, .bool yb, .int .i64 yf] 26)).alloc (.cells #[.int .i64 0, .int .i64 0, .string ⟨#[]⟩, .bool false, .int .i64 0] 26)) (fun _ => False)) := hide ((((Upd.refl w _).alloc _).alloc _).alloc _)
      have HX0 : Hid ((((w.alloc (.cells #[.int .i64 xk, .int .i64 xn, enS xt, .bool xb, .int .i64 xf] 26)).alloc (.cells #[.int .i64 yk, .int .i64 yn, enS yt, .bool yb, .int .i64 yf] 26)).alloc (.cells #[.int .i64 0, .int .i64 0, .string ⟨#[]⟩, .bool false, .int .i64 0] 26)).heap[w.heap.size]? = some (.cells #[.int .i64 xk, .int .i64 xn, enS xt, .bool xb, .int .i64 xf] 26 (0, 0))) := hide (block_alloc (block_alloc (Vnew1 w _) _) _)
      have HY0 : Hid ((((w.alloc (.cells #[.int .i64 xk, .int .i64 xn, enS xt, .bool xb, .int .i64 xf] 26)).alloc (.cells #[.int .i64 yk, .int .i64 yn, enS yt, .bool yb, .int .i64 yf] 26)).alloc (.cells #[.int .i64 0, .int .i64 0, .string ⟨#[]⟩, .bool false, .int .i64 0] 26)).heap[w.heap.size + 1]? = some (.cells #[.int .i64 yk, .int .i64 yn, enS yt, .bool yb, .int .i64 yf] 26 (0, 0))) := hide (block_alloc (Vnew2 w _ _) _)
      have HV0 : Hid ((((w.alloc (.cells #[.int .i64 xk, .int .i64 xn, enS xt, .bool xb, .int .i64 xf] 26)).alloc (.cells #[.int .i64 yk, .int .i64 yn, enS yt, .bool yb, .int .i64 yf] 26)).alloc (.cells #[.int .i64 0, .int .i64 0, .string ⟨#[]⟩, .bool false, .int .i64 0] 26)).heap[w.heap.size + 1 + 1]? = some (.cells #[.int .i64 0, .int .i64 0, .string ⟨#[]⟩, .bool false, .int .i64 0] 26 (0, 0))) := hide (by have := Vnew2 (w.alloc (.cells #[.int .i64 xk, .int .i64 xn, enS xt, .bool xb, .int .i64 xf] 26)) (.cells #[.int .i64 yk, .int .i64 yn, enS yt, .bool yb, .int .i64 yf] 26) (.cells #[.int .i64 0, .int .i64 0, .string ⟨#[]⟩, .bool false, .int .i64 0] 26); simpa using this)
      have EA := fun w => E_any w g
      obtain ⟨⟨k0, n0, t0, b0, e0'⟩, hev⟩ : ∃ v, mkE g = v := ⟨_, rfl⟩
      rw [hev] at EA ⊢
      unfold Vl.val at EA
      (try unfold Vl.val)
      simp only at EA ⊢
      clear hev
      (try unfold Vl.val)
      (try simp only)
      go_enter Tryz.func35, Tryz.ntmps35
      go_wp2_with fail
      with_reducible refine Calls.mono (XA _ (HG.out.upd HU0.out id) (HP.out.upd HU0.out id)) ?_
      rintro e w1 ⟨rfl, u1⟩
      have HU1 := hide (HU0.out.then u1 (fun _ _ => id))
      have HV1 := hide (u1.get HV0.out id)
      have HX1 := hide (u1.get HX0.out id)
      have HY1 := hide (u1.get HY0.out id)
      clear u1
      have bY := HY1.out
      obtain ⟨y0, y1, y2, y3, y4⟩ := cells5 bY
      have yl := lt_at bY
      clear bY
      go_wp2_with fail
      with_reducible refine Calls.mono (YA _ (HG.out.upd HU1.out id) (HP.out.upd HU1.out id)) ?_
      rintro e w2 ⟨rfl, u2⟩
      have HU2 := hide (HU1.out.then u2 (fun _ _ => id))
      have HV2 := hide (u2.get HV1.out id)
      have HX2 := hide (u2.get HX1.out id)
      have HY2 := hide (u2.get HY1.out id)
      clear u2
      go_wp2_with fail
      with_reducible refine Calls.mono (EA _) ?_
      rintro e w9 ⟨rfl, u9⟩
      have HU9 := hide (HU2.out.then u9 (fun _ _ => id))
      have bV := u9.get HV2.out id
      obtain ⟨v0, v1, v2, v3, v4⟩ := cells5 bV
      have vl := lt_at bV
      have fv0 := free_at bV 0
      have fv1 := free_at bV 1
      have fv2 := free_at bV 2
      have fv3 := free_at bV 3
      have fv4 := free_at bV 4
      have HB := hide bV
      clear bV u9
      go_wp2_with fail
      (try simp only [Exit.inBlock, Exit.then])
      refine bodyPost_ret (ret_vl rfl _ _ (w.heap.size + 1 + 1) ⟨k0, n0, t0, b0, e0'⟩ rfl (block5 (x := vZero) HB.out _ _ _ _ _)) rfl ?_
      exact ⟨rfl, upd5 HU9.out (by omega) _ _ _ _ _⟩
  · rw [if_neg hf]
    have bf : (f != 0) = true := by simpa using hf
    clear hf l1 l2
    have HU0 : Hid (Upd w (((w.alloc (.cells #[.int .i64 xk, .int .i64 xn, enS xt, .bool xb, .int .i64 xf] 26)).alloc (.cells #[.int .i64 yk, .int .i64 yn, enS yt, .bool yb, .int .i64 yf] 26)).alloc (.cells #[.int .i64 0, .int .i64 0, .string ⟨#[]⟩, .bool false, .int .i64 0] 26)) (fun _ => False)) := hide ((((Upd.refl w _).alloc _).alloc _).alloc _)
    have HX0 : Hid ((((w.alloc (.cells #[.int .i64 xk, .int .i64 xn, enS xt, .bool xb, .int .i64 xf] 26)).alloc (.cells #[.int .i64 yk, .int .i64 yn, enS yt, .bool yb, .int .i64 yf] 26)).alloc (.cells #[.int .i64 0, .int .i64 0, .string ⟨#[]⟩, .bool false, .int .i64 0] 26)).heap[w.heap.size]? = some (.cells #[.int .i64 xk, .int .i64 xn, enS xt, .bool xb, .int .i64 xf] 26 (0, 0))) := hide (block_alloc (block_alloc (Vnew1 w _) _) _)
    have HY0 : Hid ((((w.alloc (.cells #[.int .i64 xk, .int .i64 xn, enS xt, .bool xb, .int .i64 xf] 26)).alloc (.cells #[.int .i64 yk, .int .i64 yn, enS yt, .bool yb, .int .i64 yf] 26)).alloc (.cells #[.int .i64 0, .int .i64 0, .string ⟨#[]⟩, .bool false, .int .i64 0] 26)).heap[w.heap.size + 1]? = some (.cells #[.int .i64 yk, .int .i64 yn, enS yt, .bool yb, .int .i64 yf] 26 (0, 0))) := hide (block_alloc (Vnew2 w _ _) _)
    have HV0 : Hid ((((w.alloc (.cells #[.int .i64 xk, .int .i64 xn, enS xt, .bool xb, .int .i64 xf] 26)).alloc (.cells #[.int .i64 yk, .int .i64 yn, enS yt, .bool yb, .int .i64 yf] 26)).alloc (.cells #[.int .i64 0, .int .i64 0, .string ⟨#[]⟩, .bool false, .int .i64 0] 26)).heap[w.heap.size + 1 + 1]? = some (.cells #[.int .i64 0, .int .i64 0, .string ⟨#[]⟩, .bool false, .int .i64 0] 26 (0, 0))) := hide (by have := Vnew2 (w.alloc (.cells #[.int .i64 xk, .int .i64 xn, enS xt, .bool xb, .int .i64 xf] 26)) (.cells #[.int .i64 yk, .int .i64 yn, enS yt, .bool yb, .int .i64 yf] 26) (.cells #[.int .i64 0, .int .i64 0, .string ⟨#[]⟩, .bool false, .int .i64 0] 26); simpa using this)
    have EA := fun w => E_any w f
    obtain ⟨⟨k0, n0, t0, b0, e0'⟩, hev⟩ : ∃ v, mkE f = v := ⟨_, rfl⟩
    rw [hev] at EA ⊢
    unfold Vl.val at EA
    (try unfold Vl.val)
    simp only at EA ⊢
    clear hev
    (try unfold Vl.val)
    (try simp only)
    go_enter Tryz.func35, Tryz.ntmps35
    go_wp2_with fail
    with_reducible refine Calls.mono (XA _ (HG.out.upd HU0.out id) (HP.out.upd HU0.out id)) ?_
    rintro e w1 ⟨rfl, u1⟩
    have HU1 := hide (HU0.out.then u1 (fun _ _ => id))
    have HV1 := hide (u1.get HV0.out id)
    have HX1 := hide (u1.get HX0.out id)
    have HY1 := hide (u1.get HY0.out id)
    clear u1
    have bY := HY1.out
    obtain ⟨y0, y1, y2, y3, y4⟩ := cells5 bY
    have yl := lt_at bY
    clear bY
    go_wp2_with fail
    with_reducible refine Calls.mono (YA _ (HG.out.upd HU1.out id) (HP.out.upd HU1.out id)) ?_
    rintro e w2 ⟨rfl, u2⟩
    have HU2 := hide (HU1.out.then u2 (fun _ _ => id))
    have HV2 := hide (u2.get HV1.out id)
    have HX2 := hide (u2.get HX1.out id)
    have HY2 := hide (u2.get HY1.out id)
    clear u2
    go_wp2_with fail
    with_reducible refine Calls.mono (EA _) ?_
    rintro e w9 ⟨rfl, u9⟩
    have HU9 := hide (HU2.out.then u9 (fun _ _ => id))
    have bV := u9.get HV2.out id
    obtain ⟨v0, v1, v2, v3, v4⟩ := cells5 bV
    have vl := lt_at bV
    have fv0 := free_at bV 0
    have fv1 := free_at bV 1
    have fv2 := free_at bV 2
    have fv3 := free_at bV 3
    have fv4 := free_at bV 4
    have HB := hide bV
    clear bV u9
    go_wp2_with fail
    (try simp only [Exit.inBlock, Exit.then])
    refine bodyPost_ret (ret_vl rfl _ _ (w.heap.size + 1 + 1) ⟨k0, n0, t0, b0, e0'⟩ rfl (block5 (x := vZero) HB.out _ _ _ _ _)) rfl ?_
    exact ⟨rfl, upd5 HU9.out (by omega) _ _ _ _ _⟩
end Go.Proofs.YtmfngdjhkpddoaaGreatDoor
/- The walk of nums' nums: values as numbers, to the first error. -/
set_option maxRecDepth 100000
namespace Go.Proofs.YtmfngdjhkpddoaaGreatDoor
open Go.RowKit Go.Lat Go.Lib

/-- Values as numbers; the first error. -/
noncomputable def numsN (l : List Vl) : List Int := l.map fun x => (numF x).1
noncomputable def numsE : List Vl → Int
  | [] => 0
  | x :: l => if (numF x).2 = 0 then numsE l else (numF x).2
theorem numsE_app (a b : List Vl) (h : numsE a = 0) : numsE (a ++ b) = numsE b := by
  induction a with
  | nil => rfl
  | cons x l ih =>
    rw [numsE] at h
    rw [List.cons_append, numsE]
    by_cases hx : (numF x).2 = 0
    · rw [if_pos hx] at h ⊢
      exact ih h
    · rw [if_neg hx] at h
      exact absurd h hx
theorem numsE_take {l : List Vl} {k : Nat} {x : Vl} (hx : l[k]? = some x) (h : numsE (l.take k) = 0) (hf : (numF x).2 = 0) : numsE (l.take (k + 1)) = 0 := by
  rw [List.take_add_one, hx, numsE_app _ _ h]
  show numsE [x] = 0
  rw [numsE, if_pos hf]
  rfl
theorem numsE_stop {l : List Vl} {k : Nat} {x : Vl} (hx : l[k]? = some x) (h : numsE (l.take k) = 0) (hf : (numF x).2 ≠ 0) : numsE l = (numF x).2 := by
  obtain ⟨hk, hx⟩ := List.getElem?_eq_some_iff.1 hx
  have e : l = l.take k ++ x :: l.drop (k + 1) := by
    conv => lhs; rw [← List.take_append_drop k l]
    rw [List.drop_eq_getElem_cons hk, hx]
  rw [e, numsE_app _ _ h, numsE, if_neg hf]
def nmCells (l : List Int) : List Value := l.map fun z => .int .i64 z
theorem Tryz.infoNum : (Tryz.prog.info? 23).map (fun i => (i.zero, i.size, i.bytes)) = some (some (.int .i64 0), 1, 8) := by kernel_rfl
set_option maxHeartbeats 1600000 in
theorem nums_any (w : World) (l : List Vl) (p : Option Addr) (pc : Nat) (hr : RdV w p l) (ho : oksV l) (hl : l.length ≤ 1000000) :
    Calls Tryz.prog 32 #[.slice p l.length pc] w fun e w' => ∃ v, e = .returned (.tuple #[v, .int .i64 (numsE l)]) ∧ (numsE l = 0 → Rw w' 23 1 v l.length (nmCells (numsN l))) ∧ Upd w w' (fun _ => False) := by
  obtain ⟨i0, hi, hz0, hz1, hz2⟩ := info_p Tryz.infoNum
  obtain ⟨N, hN⟩ : ∃ N, l.length = N := ⟨_, rfl⟩
  rw [hN] at hl ⊢
  obtain ⟨F, hF⟩ : ∃ F, numsE l = F := ⟨_, rfl⟩
  rw [hF]
  have HF0 := hide hF
  have HN := hide hN
  have HR := hide hr
  have HO := hide ho
  clear hN hr ho hF
  go_enter Tryz.func32, Tryz.ntmps32
  go_wp2_with fail
  go_loopg [4, 11] N (fun q ov iv wr => ∃ (k : Nat) (a : Option Addr) (c : Nat), k + q = N ∧ iv = .int .i64 k ∧ ov = .slice a k c ∧ numsE (l.take k) = 0 ∧ Rw wr 23 1 (.slice a k c) k (nmCells (numsN (l.take k))) ∧ (∀ j, (Value.slice a k c).ownBlock = some j → w.heap.size ≤ j) ∧ Upd w wr (fun _ => False))
  case atStart => exact ⟨0, none, 0, by omega, rfl, rfl, rfl, Rw.nil _ _ _, by simp [Value.ownBlock], Upd.refl _ _⟩
  case round =>
    obtain ⟨k, a, c, hk, rfl, rfl, hE, hrw, ha, hu⟩ := hrel
    by_cases hkN : k < N
    · obtain ⟨x, hx⟩ : ∃ x, l[k]? = some x := ⟨_, List.getElem?_eq_getElem (by rw [HN.out]; exact hkN)⟩
      obtain ⟨g, off, rfl, hg, d0, d1, d2, d3, d4⟩ := rdV_at (HR.out.upd hu) hx
      have hox := HO.out x (List.mem_of_getElem? hx)
      have NA := fun w => numP_any w x hox.1 hox.2
      have hk0 : (0 : Int) ≤ (k : Int) := by omega
      have hk1 : (k : Int) < (N : Int) := by omega
      have h1 : (numF x).2 = 0 → numsE (l.take (k + 1)) = 0 := numsE_take hx hE
      have h2 : (numF x).2 ≠ 0 → numsE l = (numF x).2 := numsE_stop hx hE
      have h3 : nmCells (numsN (l.take (k + 1))) = nmCells (numsN (l.take k)) ++ [.int .i64 (numF x).1] := by rw [List.take_add_one, hx]; simp [nmCells, numsN]
      obtain ⟨⟨n, f⟩, hnf⟩ : ∃ r, numF x = r := ⟨_, rfl⟩
      rw [hnf] at NA h1 h2 h3
      simp only at NA h1 h2 h3
      have HE := hide hE
      have H1 := hide h1
      have H2 := hide h2
      have H3 := hide h3
      have HA := hide ha
      have HU := hide hu
      have HRW := hide hrw
      obtain ⟨xk, xn, xt, xb, xf⟩ := x
      unfold Vl.val at NA
      simp only at NA d0 d1 d2 d3 d4
      clear hu hrw ha hE h1 h2 h3 hnf hox hx
      by_cases hf : f = 0
      · subst hf
        go_wp2_with fail
        refine Calls.mono (NA _) ?_
        rintro e w2 ⟨rfl, u2⟩
        have U2 := hide (((Upd.refl wr (fun _ => False)).alloc (.cells #[.int .i64 xk, .int .i64 xn, enS xt, .bool xb, .int .i64 xf] 26)).then u2 (fun _ _ => id))
        have HR2 := hide (U2.out.rw HRW.out (fun _ _ => id))
        have hs2 := U2.out.size
        have hs0 := HU.out.size
        clear u2
        go_wp2_with (at_builtin; go_loud (refine wpList_append_rw _ rfl _ _ 56 56 rfl 23 _ i0 _ 1 8 Tryz.underlying56 Tryz.underlying56 (by simp) hi hz0 hz1 hz2 rfl _ k _ rfl (HR2.out.alloc _) _ 1 [.int .i64 n] rfl (Rw.made w2 #[.int .i64 n] 23 1 1 rfl).src rfl (by simp [Value.oneCell']) (by omega) (by omega) ?_); intro ga gc w4 hv' hg4 hob')
        rw [← H3.out] at hv'
        have ho4 : ∀ j, (Value.slice ga (k + 1) gc).ownBlock = some j → w.heap.size ≤ j := own_ge HA.out hob' ((HU.out.then U2.out (fun _ _ => id)).alloc _)
        have u4 : Upd w w4 (fun _ => False) := ((HU.out.then U2.out (fun _ _ => id)).alloc _).grown hg4 (fun j hj => .inl (HA.out j hj))
        go_roundg (gk - 1)
        case measure => omega
        case rel => exact ⟨k + 1, ga, gc, by omega, by go_num, rfl, H1.out (by trivial), hv', ho4, u4⟩
      · have bf : (f != 0) = true := by simpa using hf
        obtain rfl : F = f := HF0.out.symm.trans (H2.out hf)
        have HF := hide hf
        clear hf
        go_wp2_with fail
        refine Calls.mono (NA _) ?_
        rintro e w2 ⟨rfl, u2⟩
        go_wp2_with fail
        go_ret2
        exact ⟨.slice none 0 0, rfl, fun h => absurd h HF.out, (HU.out.alloc _).then u2 (fun _ _ => id)⟩
    · obtain rfl : k = N := by omega
      have hlt : ¬ (k : Int) < (k : Int) := by omega
      have e1 : l.take k = l := List.take_of_length_le (by rw [HN.out]; exact Nat.le_refl _)
      rw [e1] at hE hrw
      obtain rfl : F = 0 := HF0.out.symm.trans hE
      have HRW := hide hrw
      have HU := hide hu
      clear hE hrw hu e1 ha
      go_wp2_with fail
      go_ret2
      first | exact ⟨.slice a k c, rfl, fun _ => HRW.out, HU.out⟩ | exact ⟨.slice a k c, rfl, HRW.out, HU.out⟩
end Go.Proofs.YtmfngdjhkpddoaaGreatDoor
