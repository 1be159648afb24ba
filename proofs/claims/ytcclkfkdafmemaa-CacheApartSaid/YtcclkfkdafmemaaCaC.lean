/- The walk of package cache's Take. -/
import Derived.Test.YtcclkfkdafmemaaCaB
set_option maxRecDepth 100000
namespace Go.Proofs.Ytcclkfkdafmemaa
open Go.RowKit Go.Lat

theorem cells10 {w : World} {b : Nat} {v0 v1 v2 v3 v4 v5 v6 v7 v8 v9 : Value} {t : TypeId} (h : w.heap[b]? = some (.cells #[v0, v1, v2, v3, v4, v5, v6, v7, v8, v9] t (0, 0))) : w.cell? ⟨b, 0, none⟩ = some v0 ∧ w.cell? ⟨b, 1, none⟩ = some v1 ∧ w.cell? ⟨b, 2, none⟩ = some v2 ∧ w.cell? ⟨b, 3, none⟩ = some v3 ∧ w.cell? ⟨b, 4, none⟩ = some v4 ∧ w.cell? ⟨b, 5, none⟩ = some v5 ∧ w.cell? ⟨b, 6, none⟩ = some v6 ∧ w.cell? ⟨b, 7, none⟩ = some v7 ∧ w.cell? ⟨b, 8, none⟩ = some v8 ∧ w.cell? ⟨b, 9, none⟩ = some v9 :=
  ⟨cell_at h 0 v0 rfl, cell_at h 1 v1 rfl, cell_at h 2 v2 rfl, cell_at h 3 v3 rfl, cell_at h 4 v4 rfl, cell_at h 5 v5 rfl, cell_at h 6 v6 rfl, cell_at h 7 v7 rfl, cell_at h 8 v8 rfl, cell_at h 9 v9 rfl⟩
theorem Vnew3 (w : World) (A B C : Obj) : (((w.alloc A).alloc B).alloc C).heap[w.heap.size + 1 + 1]? = some C := by
  have := Vnew2 (w.alloc A) B C
  simpa using this
set_option maxHeartbeats 3200000 in
theorem Take_no (w : World) (p : Value) (o : Option En) (ho : o = none) (x : Lk) (v : Vl) (ver inc : Int) (G : ∀ w', Upd w w' (fun _ => False) → Calls Try.prog 22 #[p, x.val] w' (GetPost w' o)) : Calls Try.prog 11 #[p, x.val, .int .i64 ver, v.val, .int .i64 inc] w fun e w' => e = .returned (.bool false) ∧ Upd w w' (fun _ => False) := by
  subst ho
  obtain ⟨xb, xs, xc, xr⟩ := x
  obtain ⟨yk, yn, yt, yb, yf⟩ := v
  unfold GetPost Lk.val En.val enZero at G
  unfold Lk.val Vl.val
  simp only at G ⊢
  have HG := hide G
  clear G
  go_enter Try.func11, Try.ntmps11
  go_wp2_with fail
  refine Calls.mono (HG.out _ (((Upd.refl w _).alloc _).alloc _)) ?_
  rintro e w1 ⟨rfl, u1⟩
  have HU1 := hide ((((Upd.refl w (fun _ => False)).alloc _).alloc _).then u1 (fun _ _ => id))
  clear u1 HG
  go_wp2_with fail
  go_ret
  exact ⟨rfl, HU1.out.alloc _⟩
set_option maxHeartbeats 3200000 in
theorem Take_bad (w : World) (b bm n : Nat) (D : DataW Value) (M : Lk → Option En) (h : Cas w b bm n D M) (x : Lk) (v : Vl) (ver inc : Int) (hx : x.ok) (hv : v.ok) (E : En) (hE : M x = some E) (hgd : goodV v = false) : Calls Try.prog 11 #[.pointer (some ⟨b, 0, none⟩), x.val, .int .i64 ver, v.val, .int .i64 inc] w fun e w' => e = .returned (.bool false) ∧ Upd w w' (fun _ => False) := by
  have G := fun w' u => Get_any w' b bm n D M (h.upd (S := fun _ => False) u id id) x hx
  rw [hE] at G
  unfold GetPost at G
  simp only [Option.getD_some, Option.isSome_some] at G
  have GA := fun w => Good_any w v hv
  have EA := fun w => elder_any w E ver inc
  rw [hgd] at GA
  clear hgd EA
  obtain ⟨⟨vk, vn, vt, vb, vf⟩, xver, xinc, has, stale, lost⟩ := E
  obtain ⟨xb, xs, xc, xr⟩ := x
  obtain ⟨yk, yn, yt, yb, yf⟩ := v
  unfold Lk.val En.val at G
  unfold Vl.val at GA
  unfold Lk.val Vl.val
  simp only at G GA ⊢
  have HG := hide G
  have HH := hide h
  have HE := hide hE
  have HX := hide hx
  have HV := hide hv
  clear G h hE hx hv
  go_enter Try.func11, Try.ntmps11
  go_wp2_with fail
  refine Calls.mono (HG.out _ (((Upd.refl w _).alloc _).alloc _)) ?_
  rintro e w1 ⟨rfl, u1⟩
  have bK := u1.get (block_alloc (Vnew1 w (.cells (Lk.mk xb xs xc xr).cs 30)) (.cells (Vl.mk yk yn yt yb yf).cs 46)) id
  have bV := u1.get (Vnew2 w (.cells (Lk.mk xb xs xc xr).cs 30) (.cells (Vl.mk yk yn yt yb yf).cs 46)) id
  obtain ⟨y0, y1, y2, y3, y4⟩ := cells5 bV
  have vl := lt_at bV
  have vl' : w.heap.size < w1.heap.size := by omega
  have HBK := hide bK
  have HBV := hide bV
  have HU1 := hide ((((Upd.refl w (fun _ => False)).alloc _).alloc _).then u1 (fun _ _ => id))
  clear u1 HG bK bV
  go_wp2_with fail
  refine Calls.mono (GA _) ?_
  rintro e w2 ⟨rfl, u2⟩
  have HU2 := hide ((HU1.out.alloc _).then u2 (fun _ _ => id))
  clear u2 GA HU1
  go_wp2_with fail
  go_ret
  exact ⟨rfl, HU2.out⟩
set_option maxHeartbeats 3200000 in
theorem Take_old (w : World) (b bm n : Nat) (D : DataW Value) (M : Lk → Option En) (h : Cas w b bm n D M) (x : Lk) (v : Vl) (ver inc : Int) (hx : x.ok) (hv : v.ok) (E : En) (hE : M x = some E) (hgd : goodV v = true) (hel : elderE E ver inc = true) : Calls Try.prog 11 #[.pointer (some ⟨b, 0, none⟩), x.val, .int .i64 ver, v.val, .int .i64 inc] w fun e w' => e = .returned (.bool false) ∧ Upd w w' (fun _ => False) := by
  have G := fun w' u => Get_any w' b bm n D M (h.upd (S := fun _ => False) u id id) x hx
  rw [hE] at G
  unfold GetPost at G
  simp only [Option.getD_some, Option.isSome_some] at G
  have GA := fun w => Good_any w v hv
  have EA := fun w => elder_any w E ver inc
  rw [hgd] at GA
  rw [hel] at EA
  clear hgd hel
  obtain ⟨⟨vk, vn, vt, vb, vf⟩, xver, xinc, has, stale, lost⟩ := E
  obtain ⟨xb, xs, xc, xr⟩ := x
  obtain ⟨yk, yn, yt, yb, yf⟩ := v
  unfold Lk.val En.val at G
  unfold Vl.val at GA
  unfold En.val at EA
  unfold Lk.val Vl.val
  simp only at G GA EA ⊢
  have HG := hide G
  have HH := hide h
  have HE := hide hE
  have HX := hide hx
  have HV := hide hv
  clear G h hE hx hv
  go_enter Try.func11, Try.ntmps11
  go_wp2_with fail
  refine Calls.mono (HG.out _ (((Upd.refl w _).alloc _).alloc _)) ?_
  rintro e w1 ⟨rfl, u1⟩
  have bK := u1.get (block_alloc (Vnew1 w (.cells (Lk.mk xb xs xc xr).cs 30)) (.cells (Vl.mk yk yn yt yb yf).cs 46)) id
  have bV := u1.get (Vnew2 w (.cells (Lk.mk xb xs xc xr).cs 30) (.cells (Vl.mk yk yn yt yb yf).cs 46)) id
  obtain ⟨y0, y1, y2, y3, y4⟩ := cells5 bV
  have vl := lt_at bV
  have vl' : w.heap.size < w1.heap.size := by omega
  have HBK := hide bK
  have HBV := hide bV
  have HU1 := hide ((((Upd.refl w (fun _ => False)).alloc _).alloc _).then u1 (fun _ _ => id))
  clear u1 HG bK bV
  go_wp2_with fail
  refine Calls.mono (GA _) ?_
  rintro e w2 ⟨rfl, u2⟩
  have bE := u2.get (Vnew1 w1 (.cells (En.mk ⟨vk, vn, vt, vb, vf⟩ xver xinc has stale lost).cs 67)) id
  obtain ⟨c0, c1, c2, c3, c4, c5, c6, c7, c8, c9⟩ := cells10 bE
  have el := lt_at bE
  have HU2 := hide ((HU1.out.alloc _).then u2 (fun _ _ => id))
  have HBK2 := hide (u2.get (block_alloc HBK.out _) id)
  have HBV2 := hide (u2.get (block_alloc HBV.out _) id)
  clear u2 GA HU1 bE y0 y1 y2 y3 y4 vl vl' HBK HBV
  go_wp2_with fail
  refine Calls.mono (EA _) ?_
  rintro e w3 ⟨rfl, u3⟩
  have HU3 := hide (HU2.out.then u3 (fun _ _ => id))
  clear u3 EA HU2
  go_wp2_with fail
  go_ret
  exact ⟨rfl, HU3.out⟩
set_option maxHeartbeats 3200000 in
theorem Take_new (w : World) (b bm n : Nat) (D : DataW Value) (M : Lk → Option En) (h : Cas w b bm n D M) (hn : n ≤ 1000000) (x : Lk) (v : Vl) (ver inc : Int) (hx : x.ok) (hv : v.ok) (E : En) (hE : M x = some E) (hgd : goodV v = true) (hel : elderE E ver inc = false) : Calls Try.prog 11 #[.pointer (some ⟨b, 0, none⟩), x.val, .int .i64 ver, v.val, .int .i64 inc] w fun e w' => e = .returned (.bool true) ∧ (∃ D', Cas w' b bm (n + 1) D' (setF M x (some ⟨v, ver, inc, true, false, false⟩))) ∧ Upd w w' (fun k => k = bm) := by
  have G := fun w' u => Get_any w' b bm n D M (h.upd (S := fun _ => False) u id id) x hx
  rw [hE] at G
  unfold GetPost at G
  simp only [Option.getD_some, Option.isSome_some] at G
  have GA := fun w => Good_any w v hv
  have EA := fun w => elder_any w E ver inc
  rw [hgd] at GA
  rw [hel] at EA
  clear hgd hel
  obtain ⟨⟨vk, vn, vt, vb, vf⟩, xver, xinc, has, stale, lost⟩ := E
  obtain ⟨xb, xs, xc, xr⟩ := x
  obtain ⟨yk, yn, yt, yb, yf⟩ := v
  unfold Lk.val En.val at G
  unfold Vl.val at GA
  unfold En.val at EA
  unfold Lk.val Vl.val
  simp only at G GA EA ⊢
  have HG := hide G
  have HH := hide h
  have HE := hide hE
  have HX := hide hx
  have HV := hide hv
  clear G h hE hx hv
  go_enter Try.func11, Try.ntmps11
  go_wp2_with fail
  refine Calls.mono (HG.out _ (((Upd.refl w _).alloc _).alloc _)) ?_
  rintro e w1 ⟨rfl, u1⟩
  have bK := u1.get (block_alloc (Vnew1 w (.cells (Lk.mk xb xs xc xr).cs 30)) (.cells (Vl.mk yk yn yt yb yf).cs 46)) id
  have bV := u1.get (Vnew2 w (.cells (Lk.mk xb xs xc xr).cs 30) (.cells (Vl.mk yk yn yt yb yf).cs 46)) id
  obtain ⟨y0, y1, y2, y3, y4⟩ := cells5 bV
  have vl := lt_at bV
  have vl' : w.heap.size < w1.heap.size := by omega
  have HBK := hide bK
  have HBV := hide bV
  have HU1 := hide ((((Upd.refl w (fun _ => False)).alloc _).alloc _).then u1 (fun _ _ => id))
  clear u1 HG bK bV
  go_wp2_with fail
  refine Calls.mono (GA _) ?_
  rintro e w2 ⟨rfl, u2⟩
  have bE := u2.get (Vnew1 w1 (.cells (En.mk ⟨vk, vn, vt, vb, vf⟩ xver xinc has stale lost).cs 67)) id
  obtain ⟨c0, c1, c2, c3, c4, c5, c6, c7, c8, c9⟩ := cells10 bE
  have el := lt_at bE
  have HU2 := hide ((HU1.out.alloc _).then u2 (fun _ _ => id))
  have HBK2 := hide (u2.get (block_alloc HBK.out _) id)
  have HBV2 := hide (u2.get (block_alloc HBV.out _) id)
  clear u2 GA HU1 bE y0 y1 y2 y3 y4 vl vl' HBK HBV
  go_wp2_with fail
  refine Calls.mono (EA _) ?_
  rintro e w3 ⟨rfl, u3⟩
  have HU3 := hide (HU2.out.then u3 (fun _ _ => id))
  have bK := u3.get HBK2.out id
  have bV := u3.get HBV2.out id
  have h3 := HH.out.upd HU3.out id id
  obtain ⟨w9, E9, m9, t9⟩ := h3.m.drew.store lkK Try.underlying77 (Nat.lt_of_le_of_lt hn (by decide)) (lk_key HX.out) (val := (En.mk ⟨yk, yn, yt, yb, yf⟩ ver inc true false false).val) (d := .held (En.mk ⟨yk, yn, yt, yb, yf⟩ ver inc true false false).val) (ps := []) rfl
  have HC9 := hide (Cas.put (h3.upd (S := fun _ => False) ((Upd.refl w3 _).drew) id id) ((Upd.refl w3.drew (fun k => k = bm)).grown t9.grown (fun k e => .inr (Option.some.inj e).symm)) HX.out ⟨⟨yk, yn, yt, yb, yf⟩, ver, inc, true, false, false⟩ m9)
  have HU9 := hide (((HU3.out.drew.weaken (T := fun k => k = bm) (fun _ _ e => e.elim)).then (T := fun k => k = bm) ((Upd.refl w3.drew (fun k => k = bm)).grown t9.grown (fun k e => .inr (Option.some.inj e).symm)) (fun _ _ e => e)))
  unfold Lk.val En.val at E9
  simp only at E9
  have b0 := cells1 h3.c
  have blt := lt_at h3.c
  obtain ⟨z0, z1, z2, z3⟩ := cells4 bK
  obtain ⟨y0, y1, y2, y3, y4⟩ := cells5 bV
  clear u3 EA HU2 c0 c1 c2 c3 c4 c5 c6 c7 c8 c9 el bK bV h3 m9 t9
  go_wp2_with fail
  go_region
  all_goals go_wp2_with fail
  all_goals go_ret
  all_goals exact ⟨rfl, ⟨_, HC9.out⟩, HU9.out⟩
end Go.Proofs.Ytcclkfkdafmemaa
