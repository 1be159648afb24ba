/- The walks of package cache's Seen, Take. -/
import Derived.Test.YtcclkfkdafmemaaCaA
import Derived.StillTailTactics
set_option maxRecDepth 100000
namespace Go.Proofs.Ytcclkfkdafmemaa
open Go.RowKit Go.Lat

instance : DecidableEq Lk := fun a b => decidable_of_iff (a.b = b.b ∧ a.s = b.s ∧ a.c = b.c ∧ a.r = b.r) (by
  obtain ⟨a1, a2, a3, a4⟩ := a
  obtain ⟨b1, b2, b3, b4⟩ := b
  simp)
def setF (M : Lk → Option En) (p : Lk) (x : Option En) : Lk → Option En := fun q => if q = p then x else M q
theorem setF_same (M : Lk → Option En) (p : Lk) (x : Option En) : setF M p x p = x := by simp [setF]
theorem setF_other (M : Lk → Option En) (p : Lk) (x : Option En) {q : Lk} (h : q ≠ p) : setF M p x q = M q := by simp [setF, h]
theorem isKey_lk (x : Lk) : WideAt.IsKeyLit (lkLit x) := trivial
/-- A link's entry is stored. -/
theorem Cas.put {w w' : World} {b bm n m : Nat} {D : DataW Value} {M : Lk → Option En} (h : Cas w b bm n D M) (u : Upd w w' (fun k => k = bm)) {p : Lk} (hp : p.ok) (x : En) (hm : w'.ownsMap Try.prog 30 heldElem bm m (D.put (lkLit p) (.held x.val))) :
    Cas w' b bm m (D.put (lkLit p) (.held x.val)) (setF M p (some x)) := by
  have hD := h.m.isMap
  refine ⟨u.get h.c h.ne, hm, fun q hq => ?_, fun q hq => ?_⟩
  · by_cases e : q = p
    · subst e
      rw [setF_same, Go.Maps.has_put_same hD (isKey_lk _)]
      rfl
    · rw [setF_other _ _ _ e, Go.Maps.has_put_other (fun z => e (lkLit_inj hq hp z)), h.has q hq]
  · by_cases e : q = p
    · subst e
      rw [setF_same, Go.Maps.atKey_put_same hD (isKey_lk _)]
      rfl
    · rw [setF_other _ _ _ e, Go.Maps.atKey_put_other (fun z => e (lkLit_inj hq hp z)), h.val q hq]

/-- What formulas find. -/
def seenV (o : Option En) : Vl := if (o.getD enZero).lost = true then mkE 8 else if (o.getD enZero).has = true then (o.getD enZero).v else mkE 6
set_option maxHeartbeats 3200000 in
theorem Seen_at (w : World) (p : Value) (x : Lk) (o : Option En) (G : ∀ w', Upd w w' (fun _ => False) → Calls Try.prog 22 #[p, x.val] w' (GetPost w' o)) :
    Calls Try.prog 14 #[p, x.val] w fun e w' => e = .returned (seenV o).val ∧ Upd w w' (fun _ => False) := by
  unfold seenV GetPost at *
  obtain ⟨q, hq⟩ : ∃ q, o.isSome = q := ⟨_, rfl⟩
  obtain ⟨E, hE⟩ : ∃ E, o.getD enZero = E := ⟨_, rfl⟩
  rw [hq, hE] at G
  rw [hE]
  clear hq hE
  obtain ⟨xb, xs, xc, xr⟩ := x
  obtain ⟨⟨vk, vn, vt, vb, vf⟩, ver, inc, has, stale, lost⟩ := E
  unfold Lk.val En.val at G
  unfold Lk.val
  simp only at G ⊢
  have HG := hide G
  clear G
  cases lost with
  | true =>
    rw [if_pos rfl]
    have EE := fun w => E_any w 8
    obtain ⟨ev, hev⟩ : ∃ v, mkE 8 = v := ⟨_, rfl⟩
    rw [hev] at EE ⊢
    obtain ⟨k0, n0, t0, b0, e0⟩ := ev
    unfold Vl.val at EE
    simp only at EE
    clear hev
    go_enter Try.func14, Try.ntmps14
    go_wp2_with fail
    refine Calls.mono (HG.out _ (((Upd.refl w _).alloc _).alloc _)) ?_
    rintro e w1 ⟨rfl, u1⟩
    have bR := u1.get (Vnew2 w (.cells (Lk.mk xb xs xc xr).cs 30) (.cells vZero.cs 46)) id
    have HB1 := hide bR
    have HU1 := hide ((((Upd.refl w (fun _ => False)).alloc _).alloc _).then u1 (fun _ _ => id))
    clear bR u1
    go_wp2_with fail
    refine Calls.mono (EE _) ?_
    rintro e w2 ⟨rfl, u2⟩
    have bR := u2.get (block_alloc HB1.out _) id
    obtain ⟨c0, c1, c2, c3, c4⟩ := cells5 bR
    have xl := lt_at bR
    have f0 := free_at bR 0
    have f1 := free_at bR 1
    have f2 := free_at bR 2
    have f3 := free_at bR 3
    have f4 := free_at bR 4
    have HB := hide bR
    have HU := hide ((HU1.out.alloc _).then u2 (fun _ _ => id))
    clear bR u2 EE
    go_wp2_with fail
    (try simp only [Exit.inBlock, Exit.then])
    refine bodyPost_ret (ret_vl rfl _ _ (w.heap.size + 1) ⟨k0, n0, t0, b0, e0⟩ rfl (block5 HB.out _ _ _ _ _)) rfl ?_
    exact ⟨rfl, upd5 HU.out (by omega) _ _ _ _ _⟩
  | false =>
    rw [if_neg (by decide)]
    cases has with
    | true =>
      rw [if_pos rfl]
      go_enter Try.func14, Try.ntmps14
      go_wp2_with fail
      refine Calls.mono (HG.out _ (((Upd.refl w _).alloc _).alloc _)) ?_
      rintro e w1 ⟨rfl, u1⟩
      have bR := u1.get (Vnew2 w (.cells (Lk.mk xb xs xc xr).cs 30) (.cells vZero.cs 46)) id
      obtain ⟨c0, c1, c2, c3, c4⟩ := cells5 bR
      have xl := lt_at bR
      have xl1 : w.heap.size + 1 < w1.heap.size + 1 := by omega
      have xl2 : w.heap.size < w1.heap.size := by omega
      have f0 := free_at bR 0
      have f1 := free_at bR 1
      have f2 := free_at bR 2
      have f3 := free_at bR 3
      have f4 := free_at bR 4
      have HB := hide bR
      have HU := hide ((((Upd.refl w (fun _ => False)).alloc _).alloc _).then u1 (fun _ _ => id))
      clear bR u1
      go_wp2_with fail
      (try simp only [Exit.inBlock, Exit.then])
      refine bodyPost_ret (ret_vl rfl _ _ (w.heap.size + 1) ⟨vk, vn, vt, vb, vf⟩ rfl (block_alloc (block5 HB.out _ _ _ _ _) _)) rfl ?_
      exact ⟨rfl, (upd5 HU.out (by omega) _ _ _ _ _).alloc _⟩
    | false =>
      rw [if_neg (by decide)]
      have EE := fun w => E_any w 6
      obtain ⟨ev, hev⟩ : ∃ v, mkE 6 = v := ⟨_, rfl⟩
      rw [hev] at EE ⊢
      obtain ⟨k0, n0, t0, b0, e0⟩ := ev
      unfold Vl.val at EE
      simp only at EE
      clear hev
      go_enter Try.func14, Try.ntmps14
      go_wp2_with fail
      refine Calls.mono (HG.out _ (((Upd.refl w _).alloc _).alloc _)) ?_
      rintro e w1 ⟨rfl, u1⟩
      have bR := u1.get (Vnew2 w (.cells (Lk.mk xb xs xc xr).cs 30) (.cells vZero.cs 46)) id
      have HB1 := hide bR
      have HU1 := hide ((((Upd.refl w (fun _ => False)).alloc _).alloc _).then u1 (fun _ _ => id))
      clear bR u1
      go_wp2_with fail
      refine Calls.mono (EE _) ?_
      rintro e w2 ⟨rfl, u2⟩
      have bR := u2.get (block_alloc HB1.out _) id
      obtain ⟨c0, c1, c2, c3, c4⟩ := cells5 bR
      have xl := lt_at bR
      have f0 := free_at bR 0
      have f1 := free_at bR 1
      have f2 := free_at bR 2
      have f3 := free_at bR 3
      have f4 := free_at bR 4
      have HB := hide bR
      have HU := hide ((HU1.out.alloc _).then u2 (fun _ _ => id))
      clear bR u2 EE
      go_wp2_with fail
      (try simp only [Exit.inBlock, Exit.then])
      refine bodyPost_ret (ret_vl rfl _ _ (w.heap.size + 1) ⟨k0, n0, t0, b0, e0⟩ rfl (block5 HB.out _ _ _ _ _)) rfl ?_
      exact ⟨rfl, upd5 HU.out (by omega) _ _ _ _ _⟩
theorem Seen_any (w : World) (b bm n : Nat) (D : DataW Value) (M : Lk → Option En) (h : Cas w b bm n D M) (x : Lk) (hx : x.ok) : Calls Try.prog 14 #[.pointer (some ⟨b, 0, none⟩), x.val] w fun e w' => e = .returned (seenV (M x)).val ∧ Upd w w' (fun _ => False) :=
  Seen_at w _ x (M x) fun w' u => Get_any w' b bm n D M (h.upd u id id) x hx
theorem Seen_nil (w : World) (x : Lk) : Calls Try.prog 14 #[.pointer none, x.val] w fun e w' => e = .returned (seenV none).val ∧ Upd w w' (fun _ => False) :=
  Seen_at w _ x none fun w' _ => Get_nil w' x
end Go.Proofs.Ytcclkfkdafmemaa
