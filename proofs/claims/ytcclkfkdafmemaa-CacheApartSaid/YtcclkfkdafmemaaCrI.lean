/- The walk of package cache's Put. -/
import Derived.Test.YtcclkfkdafmemaaCrB
import Derived.Test.YtcclkfkdafmemaaCaC
set_option maxRecDepth 100000
namespace Go.Proofs.Ytcclkfkdafmemaa
open Go.RowKit Go.Lat

/-- Is an entry put? -/
def putOk (o : Option En) (x : En) : Bool := o.isSome && (!(x.has && !goodV x.v) && !(!x.has && !eqV x.v vZero))
def putM (M : Lk → Option En) (p : Lk) (x : En) : Lk → Option En := if putOk (M p) x = true then setF M p (some x) else M
theorem neq_at (x y : Vl) (hx : x.ok) (hy : y.ok) {q : Bool} (hq : eqV x y = q) : ∀ w, (binOp .neq 46 (.agg #[.int .i64 x.k, .int .i64 x.n, .string ⟨x.t.toArray⟩, .bool x.b, .int .i64 x.f]) (.agg #[.int .i64 y.k, .int .i64 y.n, .string ⟨y.t.toArray⟩, .bool y.b, .int .i64 y.f])).run Try.prog w = .ok (.bool (!q)) w := fun w => by
  have := neq_vl w hx hy
  rw [hq] at this
  exact this
theorem vZ_ok : vZero.ok := by constructor <;> first | decide | (unfold i64ok; decide)
set_option maxHeartbeats 6400000 in
theorem Put_no (w : World) (p : Value) (x : Lk) (e : En) (G : ∀ w', Upd w w' (fun _ => False) → Calls Try.prog 22 #[p, x.val] w' (GetPost w' none)) : Calls Try.prog 26 #[p, x.val, e.val] w fun r w' => r = .returned (.bool false) ∧ Upd w w' (fun _ => False) := by
  obtain ⟨xb, xs, xc, xr⟩ := x
  obtain ⟨⟨vk, vn, vt, vb, vf⟩, ver, inc, has, stale, lost⟩ := e
  unfold GetPost Lk.val En.val enZero at G
  unfold Lk.val En.val
  simp only at G ⊢
  have HG := hide G
  clear G
  go_enter Try.func26, Try.ntmps26
  go_wp2_with fail
  refine Calls.mono (HG.out _ (((Upd.refl w _).alloc _).alloc _)) ?_
  rintro r w1 ⟨rfl, u1⟩
  have HU1 := hide ((((Upd.refl w (fun _ => False)).alloc _).alloc _).then u1 (fun _ _ => id))
  clear u1 HG
  go_wp2_with fail
  go_ret
  exact ⟨rfl, HU1.out.alloc _⟩
set_option maxHeartbeats 6400000 in
theorem Put_bad (w : World) (b bm n : Nat) (D : DataW Value) (M : Lk → Option En) (h : Cas w b bm n D M) (x : Lk) (e : En) (hx : x.ok) (he : e.ok) (E : En) (hE : M x = some E) (hh : e.has = true) (hq : goodV e.v = false) : Calls Try.prog 26 #[.pointer (some ⟨b, 0, none⟩), x.val, e.val] w fun r w' => r = .returned (.bool false) ∧ Upd w w' (fun _ => False) := by
  have G := fun w' u => Get_any w' b bm n D M (h.upd (S := fun _ => False) u id id) x hx
  rw [hE] at G
  unfold GetPost at G
  simp only [Option.getD_some, Option.isSome_some] at G
  have GA := fun w => Good_any w e.v he.v
  rw [hq] at GA
  clear hq
  obtain ⟨⟨vk, vn, vt, vb, vf⟩, ver, inc, has, stale, lost⟩ := e
  simp only at hh
  subst hh
  obtain ⟨xb, xs, xc, xr⟩ := x
  obtain ⟨⟨ek, en, et, eb, ef⟩, ever, einc, ehas, estale, elost⟩ := E
  unfold Lk.val En.val at G
  unfold Lk.val En.val
  unfold Vl.val at GA
  simp only at G GA ⊢
  have HG := hide G
  have HH := hide h
  have HX := hide hx
  have HGA := hide GA
  clear GA
  clear G h hE hx he
  go_enter Try.func26, Try.ntmps26
  go_wp2_with fail
  refine Calls.mono (HG.out _ (((Upd.refl w _).alloc _).alloc _)) ?_
  rintro r w1 ⟨rfl, u1⟩
  have bK := u1.get (block_alloc (Vnew1 w (.cells #[.string ⟨xb.toArray⟩, .string ⟨xs.toArray⟩, .int .i64 xc, .int .i64 xr] 30)) (.cells #[.int .i64 vk, .int .i64 vn, .string ⟨vt.toArray⟩, .bool vb, .int .i64 vf, .int .i64 ver, .int .i64 inc, .bool true, .bool stale, .bool lost] 67)) id
  have bE := u1.get (Vnew2 w (.cells #[.string ⟨xb.toArray⟩, .string ⟨xs.toArray⟩, .int .i64 xc, .int .i64 xr] 30) (.cells #[.int .i64 vk, .int .i64 vn, .string ⟨vt.toArray⟩, .bool vb, .int .i64 vf, .int .i64 ver, .int .i64 inc, .bool true, .bool stale, .bool lost] 67)) id
  have UU := (((Upd.refl w (fun _ => False)).alloc (.cells #[.string ⟨xb.toArray⟩, .string ⟨xs.toArray⟩, .int .i64 xc, .int .i64 xr] 30)).alloc (.cells #[.int .i64 vk, .int .i64 vn, .string ⟨vt.toArray⟩, .bool vb, .int .i64 vf, .int .i64 ver, .int .i64 inc, .bool true, .bool stale, .bool lost] 67)).then u1 (fun _ _ => id)
  have NE : Upd w1 (w1.alloc (.cells (En.mk ⟨ek, en, et, eb, ef⟩ ever einc ehas estale elost).cs 67)) (fun _ => False) := (Upd.refl w1 _).alloc _
  have bK2 := NE.get bK id
  have bE2 := NE.get bE id
  have h3 := HH.out.upd (UU.then NE (fun _ _ => id)) id id
  have HU2 := hide (UU.then NE (fun _ _ => id))
  have HBK := hide bK
  have HBE := hide bE
  have HNE := hide NE
  obtain ⟨c0, c1, c2, c3, c4, c5, c6, c7, c8, c9⟩ := cells10 bE
  have el := lt_at bE
  have el' : w.heap.size < w1.heap.size := by omega
  clear u1 HG bK bE UU NE bK2 bE2 h3
  go_wp2_with fail
  refine Calls.mono (HGA.out _) ?_
  rintro r w3 ⟨rfl, u3⟩
  have HU3 := hide (HU2.out.then u3 (fun _ _ => id))
  have bK3 := u3.get (HNE.out.get HBK.out id) id
  have bE3 := u3.get (HNE.out.get HBE.out id) id
  clear u3 HGA HU2 c0 c1 c2 c3 c4 c5 c6 c7 c8 c9 el el'
  clear bK3 bE3
  go_wp2_with fail
  go_ret
  exact ⟨rfl, HU3.out⟩
set_option maxHeartbeats 6400000 in
theorem Put_full (w : World) (b bm n : Nat) (D : DataW Value) (M : Lk → Option En) (h : Cas w b bm n D M) (x : Lk) (e : En) (hx : x.ok) (he : e.ok) (E : En) (hE : M x = some E) (hh : e.has = false) (hq : eqV e.v vZero = false) : Calls Try.prog 26 #[.pointer (some ⟨b, 0, none⟩), x.val, e.val] w fun r w' => r = .returned (.bool false) ∧ Upd w w' (fun _ => False) := by
  have G := fun w' u => Get_any w' b bm n D M (h.upd (S := fun _ => False) u id id) x hx
  rw [hE] at G
  unfold GetPost at G
  simp only [Option.getD_some, Option.isSome_some] at G
  have GA := neq_at e.v vZero he.v vZ_ok hq
  clear hq
  obtain ⟨⟨vk, vn, vt, vb, vf⟩, ver, inc, has, stale, lost⟩ := e
  simp only at hh
  subst hh
  obtain ⟨xb, xs, xc, xr⟩ := x
  obtain ⟨⟨ek, en, et, eb, ef⟩, ever, einc, ehas, estale, elost⟩ := E
  unfold Lk.val En.val at G
  unfold Lk.val En.val
  unfold vZero at GA
  simp only [Bool.not_false] at G GA ⊢
  have HG := hide G
  have HH := hide h
  have HX := hide hx
  have he0 : (⟨#[]⟩ : ByteArray) = ⟨([] : List UInt8).toArray⟩ := rfl
  clear he0
  clear G h hE hx he
  go_enter Try.func26, Try.ntmps26
  go_wp2_with fail
  refine Calls.mono (HG.out _ (((Upd.refl w _).alloc _).alloc _)) ?_
  rintro r w1 ⟨rfl, u1⟩
  have bK := u1.get (block_alloc (Vnew1 w (.cells #[.string ⟨xb.toArray⟩, .string ⟨xs.toArray⟩, .int .i64 xc, .int .i64 xr] 30)) (.cells #[.int .i64 vk, .int .i64 vn, .string ⟨vt.toArray⟩, .bool vb, .int .i64 vf, .int .i64 ver, .int .i64 inc, .bool false, .bool stale, .bool lost] 67)) id
  have bE := u1.get (Vnew2 w (.cells #[.string ⟨xb.toArray⟩, .string ⟨xs.toArray⟩, .int .i64 xc, .int .i64 xr] 30) (.cells #[.int .i64 vk, .int .i64 vn, .string ⟨vt.toArray⟩, .bool vb, .int .i64 vf, .int .i64 ver, .int .i64 inc, .bool false, .bool stale, .bool lost] 67)) id
  have UU := (((Upd.refl w (fun _ => False)).alloc (.cells #[.string ⟨xb.toArray⟩, .string ⟨xs.toArray⟩, .int .i64 xc, .int .i64 xr] 30)).alloc (.cells #[.int .i64 vk, .int .i64 vn, .string ⟨vt.toArray⟩, .bool vb, .int .i64 vf, .int .i64 ver, .int .i64 inc, .bool false, .bool stale, .bool lost] 67)).then u1 (fun _ _ => id)
  have NE : Upd w1 (w1.alloc (.cells (En.mk ⟨ek, en, et, eb, ef⟩ ever einc ehas estale elost).cs 67)) (fun _ => False) := (Upd.refl w1 _).alloc _
  have bK2 := NE.get bK id
  have bE2 := NE.get bE id
  have h3 := HH.out.upd (UU.then NE (fun _ _ => id)) id id
  have HU2 := hide (UU.then NE (fun _ _ => id))
  have HBK := hide bK
  have HBE := hide bE
  have HNE := hide NE
  obtain ⟨c0, c1, c2, c3, c4, c5, c6, c7, c8, c9⟩ := cells10 bE
  have el := lt_at bE
  have el' : w.heap.size < w1.heap.size := by omega
  clear u1 HG bK bE UU NE bK2 bE2 h3
  go_wp2_with fail
  go_ret
  exact ⟨rfl, HU2.out⟩
set_option maxHeartbeats 6400000 in
theorem Put_good (w : World) (b bm n : Nat) (D : DataW Value) (M : Lk → Option En) (h : Cas w b bm n D M) (x : Lk) (e : En) (hx : x.ok) (he : e.ok) (E : En) (hE : M x = some E) (hh : e.has = true) (hq : goodV e.v = true) (hn : n ≤ 1000000) : Calls Try.prog 26 #[.pointer (some ⟨b, 0, none⟩), x.val, e.val] w fun r w' => r = .returned (.bool true) ∧ (∃ D', Cas w' b bm (n + 1) D' (setF M x (some e))) ∧ Upd w w' (fun k => k = bm) := by
  have G := fun w' u => Get_any w' b bm n D M (h.upd (S := fun _ => False) u id id) x hx
  rw [hE] at G
  unfold GetPost at G
  simp only [Option.getD_some, Option.isSome_some] at G
  have GA := fun w => Good_any w e.v he.v
  rw [hq] at GA
  clear hq
  obtain ⟨⟨vk, vn, vt, vb, vf⟩, ver, inc, has, stale, lost⟩ := e
  simp only at hh
  subst hh
  obtain ⟨xb, xs, xc, xr⟩ := x
  obtain ⟨⟨ek, en, et, eb, ef⟩, ever, einc, ehas, estale, elost⟩ := E
  unfold Lk.val En.val at G
  unfold Lk.val En.val
  unfold Vl.val at GA
  simp only at G GA ⊢
  have HG := hide G
  have HH := hide h
  have HX := hide hx
  have HGA := hide GA
  clear GA
  clear G h hE hx he
  go_enter Try.func26, Try.ntmps26
  go_wp2_with fail
  refine Calls.mono (HG.out _ (((Upd.refl w _).alloc _).alloc _)) ?_
  rintro r w1 ⟨rfl, u1⟩
  have bK := u1.get (block_alloc (Vnew1 w (.cells #[.string ⟨xb.toArray⟩, .string ⟨xs.toArray⟩, .int .i64 xc, .int .i64 xr] 30)) (.cells #[.int .i64 vk, .int .i64 vn, .string ⟨vt.toArray⟩, .bool vb, .int .i64 vf, .int .i64 ver, .int .i64 inc, .bool true, .bool stale, .bool lost] 67)) id
  have bE := u1.get (Vnew2 w (.cells #[.string ⟨xb.toArray⟩, .string ⟨xs.toArray⟩, .int .i64 xc, .int .i64 xr] 30) (.cells #[.int .i64 vk, .int .i64 vn, .string ⟨vt.toArray⟩, .bool vb, .int .i64 vf, .int .i64 ver, .int .i64 inc, .bool true, .bool stale, .bool lost] 67)) id
  have UU := (((Upd.refl w (fun _ => False)).alloc (.cells #[.string ⟨xb.toArray⟩, .string ⟨xs.toArray⟩, .int .i64 xc, .int .i64 xr] 30)).alloc (.cells #[.int .i64 vk, .int .i64 vn, .string ⟨vt.toArray⟩, .bool vb, .int .i64 vf, .int .i64 ver, .int .i64 inc, .bool true, .bool stale, .bool lost] 67)).then u1 (fun _ _ => id)
  have NE : Upd w1 (w1.alloc (.cells (En.mk ⟨ek, en, et, eb, ef⟩ ever einc ehas estale elost).cs 67)) (fun _ => False) := (Upd.refl w1 _).alloc _
  have bK2 := NE.get bK id
  have bE2 := NE.get bE id
  have h3 := HH.out.upd (UU.then NE (fun _ _ => id)) id id
  have HU2 := hide (UU.then NE (fun _ _ => id))
  have HBK := hide bK
  have HBE := hide bE
  have HNE := hide NE
  obtain ⟨c0, c1, c2, c3, c4, c5, c6, c7, c8, c9⟩ := cells10 bE
  have el := lt_at bE
  have el' : w.heap.size < w1.heap.size := by omega
  clear u1 HG bK bE UU NE bK2 bE2 h3
  go_wp2_with fail
  refine Calls.mono (HGA.out _) ?_
  rintro r w3 ⟨rfl, u3⟩
  have HU3 := hide (HU2.out.then u3 (fun _ _ => id))
  have bK3 := u3.get (HNE.out.get HBK.out id) id
  have bE3 := u3.get (HNE.out.get HBE.out id) id
  clear u3 HGA HU2 c0 c1 c2 c3 c4 c5 c6 c7 c8 c9 el el'
  obtain ⟨z0, z1, z2, z3⟩ := cells4 bK3
  obtain ⟨c0, c1, c2, c3, c4, c5, c6, c7, c8, c9⟩ := cells10 bE3
  have el := lt_at bE3
  have el' : w.heap.size < w3.heap.size := by omega
  clear bK3 bE3
  have h3 := HH.out.upd HU3.out id id
  have bK3 := HU3.out
  obtain ⟨w9, E9, m9, t9⟩ := h3.m.drew.store lkK Try.underlying77 (Nat.lt_of_le_of_lt hn (by decide)) (lk_key HX.out) (val := (En.mk ⟨vk, vn, vt, vb, vf⟩ ver inc true stale lost).val) (d := .held (En.mk ⟨vk, vn, vt, vb, vf⟩ ver inc true stale lost).val) (ps := []) rfl
  have HC9 := hide (Cas.put (h3.upd (S := fun _ => False) ((Upd.refl w3 _).drew) id id) ((Upd.refl w3.drew (fun k => k = bm)).grown t9.grown (fun k e => .inr (Option.some.inj e).symm)) HX.out ⟨⟨vk, vn, vt, vb, vf⟩, ver, inc, true, stale, lost⟩ m9)
  have HU9 := hide (((HU3.out.drew.weaken (T := fun k => k = bm) (fun _ _ e => e.elim)).then (T := fun k => k = bm) ((Upd.refl w3.drew (fun k => k = bm)).grown t9.grown (fun k e => .inr (Option.some.inj e).symm)) (fun _ _ e => e)))
  unfold Lk.val En.val at E9
  simp only at E9
  have b0 := cells1 h3.c
  have blt := lt_at h3.c
  clear bK3 h3 m9 t9
  go_wp2_with fail
  go_region
  all_goals go_wp2_with fail
  all_goals go_ret
  all_goals exact ⟨rfl, ⟨_, HC9.out⟩, HU9.out⟩
set_option maxHeartbeats 6400000 in
theorem Put_blank (w : World) (b bm n : Nat) (D : DataW Value) (M : Lk → Option En) (h : Cas w b bm n D M) (x : Lk) (e : En) (hx : x.ok) (he : e.ok) (E : En) (hE : M x = some E) (hh : e.has = false) (hq : eqV e.v vZero = true) (hn : n ≤ 1000000) : Calls Try.prog 26 #[.pointer (some ⟨b, 0, none⟩), x.val, e.val] w fun r w' => r = .returned (.bool true) ∧ (∃ D', Cas w' b bm (n + 1) D' (setF M x (some e))) ∧ Upd w w' (fun k => k = bm) := by
  have G := fun w' u => Get_any w' b bm n D M (h.upd (S := fun _ => False) u id id) x hx
  rw [hE] at G
  unfold GetPost at G
  simp only [Option.getD_some, Option.isSome_some] at G
  have GA := neq_at e.v vZero he.v vZ_ok hq
  clear hq
  obtain ⟨⟨vk, vn, vt, vb, vf⟩, ver, inc, has, stale, lost⟩ := e
  simp only at hh
  subst hh
  obtain ⟨xb, xs, xc, xr⟩ := x
  obtain ⟨⟨ek, en, et, eb, ef⟩, ever, einc, ehas, estale, elost⟩ := E
  unfold Lk.val En.val at G
  unfold Lk.val En.val
  unfold vZero at GA
  simp only [Bool.not_true] at G GA ⊢
  have HG := hide G
  have HH := hide h
  have HX := hide hx
  have he0 : (⟨#[]⟩ : ByteArray) = ⟨([] : List UInt8).toArray⟩ := rfl
  clear he0
  clear G h hE hx he
  go_enter Try.func26, Try.ntmps26
  go_wp2_with fail
  refine Calls.mono (HG.out _ (((Upd.refl w _).alloc _).alloc _)) ?_
  rintro r w1 ⟨rfl, u1⟩
  have bK := u1.get (block_alloc (Vnew1 w (.cells #[.string ⟨xb.toArray⟩, .string ⟨xs.toArray⟩, .int .i64 xc, .int .i64 xr] 30)) (.cells #[.int .i64 vk, .int .i64 vn, .string ⟨vt.toArray⟩, .bool vb, .int .i64 vf, .int .i64 ver, .int .i64 inc, .bool false, .bool stale, .bool lost] 67)) id
  have bE := u1.get (Vnew2 w (.cells #[.string ⟨xb.toArray⟩, .string ⟨xs.toArray⟩, .int .i64 xc, .int .i64 xr] 30) (.cells #[.int .i64 vk, .int .i64 vn, .string ⟨vt.toArray⟩, .bool vb, .int .i64 vf, .int .i64 ver, .int .i64 inc, .bool false, .bool stale, .bool lost] 67)) id
  have UU := (((Upd.refl w (fun _ => False)).alloc (.cells #[.string ⟨xb.toArray⟩, .string ⟨xs.toArray⟩, .int .i64 xc, .int .i64 xr] 30)).alloc (.cells #[.int .i64 vk, .int .i64 vn, .string ⟨vt.toArray⟩, .bool vb, .int .i64 vf, .int .i64 ver, .int .i64 inc, .bool false, .bool stale, .bool lost] 67)).then u1 (fun _ _ => id)
  have NE : Upd w1 (w1.alloc (.cells (En.mk ⟨ek, en, et, eb, ef⟩ ever einc ehas estale elost).cs 67)) (fun _ => False) := (Upd.refl w1 _).alloc _
  have bK2 := NE.get bK id
  have bE2 := NE.get bE id
  have h3 := HH.out.upd (UU.then NE (fun _ _ => id)) id id
  have HU2 := hide (UU.then NE (fun _ _ => id))
  have HBK := hide bK
  have HBE := hide bE
  have HNE := hide NE
  obtain ⟨c0, c1, c2, c3, c4, c5, c6, c7, c8, c9⟩ := cells10 bE
  have el := lt_at bE
  have el' : w.heap.size < w1.heap.size := by omega
  clear c0 c1 c2 c3 c4 c5 c6 c7 c8 c9
  have HU3 := HU2
  obtain ⟨w3, hw3⟩ : ∃ w3, w1.alloc (.cells #[.int .i64 ek, .int .i64 en, .string ⟨et.toArray⟩, .bool eb, .int .i64 ef, .int .i64 ever, .int .i64 einc, .bool ehas, .bool estale, .bool elost] 67) = w3 := ⟨_, rfl⟩
  unfold En.cs at HU3 bK2 bE2 HNE
  simp only at HU3 bK2 bE2 HNE
  have hw3' : w1.alloc (.cells #[.int .i64 ek, .int .i64 en, enS et, .bool eb, .int .i64 ef, .int .i64 ever, .int .i64 einc, .bool ehas, .bool estale, .bool elost] 67) = w3 := hw3
  rw [hw3'] at HU3 bK2 bE2
  have HW3 := hide hw3
  obtain ⟨z0, z1, z2, z3⟩ := cells4 bK2
  obtain ⟨c0, c1, c2, c3, c4, c5, c6, c7, c8, c9⟩ := cells10 bE2
  have el2 := lt_at bE2
  have el3 : w.heap.size < w3.heap.size := by omega
  obtain ⟨k0, k1, k2, k3, k4, k5, k6, k7, k8, k9⟩ := cells10 bE
  clear u1 HG bK bE UU NE bK2 bE2 h3 HU2 HNE hw3 hw3'
  have h3 := HH.out.upd HU3.out id id
  have bK3 := HU3.out
  obtain ⟨w9, E9, m9, t9⟩ := h3.m.drew.store lkK Try.underlying77 (Nat.lt_of_le_of_lt hn (by decide)) (lk_key HX.out) (val := (En.mk ⟨vk, vn, vt, vb, vf⟩ ver inc false stale lost).val) (d := .held (En.mk ⟨vk, vn, vt, vb, vf⟩ ver inc false stale lost).val) (ps := []) rfl
  have HC9 := hide (Cas.put (h3.upd (S := fun _ => False) ((Upd.refl w3 _).drew) id id) ((Upd.refl w3.drew (fun k => k = bm)).grown t9.grown (fun k e => .inr (Option.some.inj e).symm)) HX.out ⟨⟨vk, vn, vt, vb, vf⟩, ver, inc, false, stale, lost⟩ m9)
  have HU9 := hide (((HU3.out.drew.weaken (T := fun k => k = bm) (fun _ _ e => e.elim)).then (T := fun k => k = bm) ((Upd.refl w3.drew (fun k => k = bm)).grown t9.grown (fun k e => .inr (Option.some.inj e).symm)) (fun _ _ e => e)))
  unfold Lk.val En.val at E9
  simp only at E9
  have b0 := cells1 h3.c
  have blt := lt_at h3.c
  clear bK3 h3 m9 t9
  go_upto_region 4 with fail
  rw [HW3.out]
  go_region
  all_goals go_wp2_with fail
  all_goals go_ret
  all_goals exact ⟨rfl, ⟨_, HC9.out⟩, HU9.out⟩
theorem Put_any (w : World) (b bm n : Nat) (D : DataW Value) (M : Lk → Option En) (h : Cas w b bm n D M) (hn : n ≤ 1000000) (x : Lk) (hx : x.ok) (e : En) (he : e.ok) :
    Calls Try.prog 26 #[.pointer (some ⟨b, 0, none⟩), x.val, e.val] w fun r w' => r = .returned (.bool (putOk (M x) e)) ∧ (∃ n' D', n' ≤ n + 1 ∧ Cas w' b bm n' D' (putM M x e)) ∧ Upd w w' (fun k => k = bm) := by
  unfold putM putOk
  cases hE : M x with
  | none =>
    refine Calls.mono (Put_no w _ x e (fun w' u => ?_)) ?_
    · have := Get_any w' b bm n D M (h.upd u id id) x hx
      rwa [hE] at this
    · rintro r w' ⟨rfl, u⟩
      exact ⟨rfl, ⟨n, D, by omega, h.upd u id id⟩, u.weaken fun _ _ e => e.elim⟩
  | some E =>
    cases hh : e.has with
    | true =>
      cases hq : goodV e.v with
      | false =>
        refine Calls.mono (Put_bad w b bm n D M h x e hx he E hE hh hq) ?_
        rintro r w' ⟨rfl, u⟩
        exact ⟨rfl, ⟨n, D, by omega, h.upd u id id⟩, u.weaken fun _ _ e => e.elim⟩
      | true =>
        refine Calls.mono (Put_good w b bm n D M h x e hx he E hE hh hq hn) ?_
        rintro r w' ⟨rfl, ⟨D', h'⟩, u⟩
        exact ⟨rfl, ⟨n + 1, D', Nat.le_refl _, h'⟩, u⟩
    | false =>
      cases hq : eqV e.v vZero with
      | false =>
        refine Calls.mono (Put_full w b bm n D M h x e hx he E hE hh hq) ?_
        rintro r w' ⟨rfl, u⟩
        exact ⟨rfl, ⟨n, D, by omega, h.upd u id id⟩, u.weaken fun _ _ e => e.elim⟩
      | true =>
        refine Calls.mono (Put_blank w b bm n D M h x e hx he E hE hh hq hn) ?_
        rintro r w' ⟨rfl, ⟨D', h'⟩, u⟩
        exact ⟨rfl, ⟨n + 1, D', Nat.le_refl _, h'⟩, u⟩
theorem Put_nil (w : World) (x : Lk) (e : En) : Calls Try.prog 26 #[.pointer none, x.val, e.val] w fun r w' => r = .returned (.bool false) ∧ Upd w w' (fun _ => False) :=
  Put_no w _ x e fun w' _ => Get_nil w' x
end Go.Proofs.Ytcclkfkdafmemaa
