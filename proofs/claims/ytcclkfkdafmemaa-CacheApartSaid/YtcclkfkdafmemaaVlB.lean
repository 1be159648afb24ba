/- The walks of package value's N, T, Good, sound, beside, rank. -/
import Derived.Test.YtcclkfkdafmemaaVlA
set_option maxRecDepth 100000
namespace Go.Proofs.Ytcclkfkdafmemaa
open Go.RowKit Go.Lat

theorem i0 : i64ok 0 := ⟨by decide, by decide⟩
theorem i1 : i64ok 1 := ⟨by decide, by decide⟩
theorem i2 : i64ok 2 := ⟨by decide, by decide⟩
theorem i3 : i64ok 3 := ⟨by decide, by decide⟩
theorem i4 : i64ok 4 := ⟨by decide, by decide⟩
theorem okFail_i64 {f : Int} (h : okFail f = true) : i64ok f := by
  simp [okFail] at h
  exact ⟨by omega, by omega⟩
theorem mkE_ok (f : Int) : (mkE f).ok := by
  unfold mkE
  refine ⟨i4, i0, Nat.zero_le _, ?_⟩
  simp only
  split
  · rename_i h
    exact okFail_i64 h
  · exact i3
theorem okNum_i64 {n : Int} (h : okNum n = true) : i64ok n := by
  have := okNum_true h
  exact ⟨by omega, by omega⟩
theorem mkN_ok (n : Int) : (mkN n).ok := by
  unfold mkN
  split
  · rename_i h
    exact ⟨i1, okNum_i64 h, Nat.zero_le _, i0⟩
  · exact mkE_ok 2
theorem mkT_ok (s : List UInt8) : (mkT s).ok := by
  unfold mkT
  split
  · rename_i h
    exact ⟨i2, i0, Nat.le_trans h (by decide), i0⟩
  · exact mkE_ok 3
theorem mkB_ok (b : Bool) : (mkB b).ok := ⟨i3, i0, Nat.zero_le _, i0⟩
def vZero : Vl := ⟨0, 0, [], false, 0⟩
theorem vZero_ok : vZero.ok := ⟨i0, i0, Nat.zero_le _, i0⟩

/-- Five cells are stored. -/
theorem block5 {W : World} {g : Nat} {x : Vl} (h : W.heap[g]? = some (.cells x.cs 46 (0, 0))) (v0 v1 v2 v3 v4 : Value) :
    (((((W.setCell ⟨g, 0, none⟩ v0).setCell ⟨g, 1, none⟩ v1).setCell ⟨g, 2, none⟩ v2).setCell ⟨g, 3, none⟩ v3).setCell ⟨g, 4, none⟩ v4).heap[g]? = some (.cells #[v0, v1, v2, v3, v4] 46 (0, 0)) :=
  block_setCell (block_setCell (block_setCell (block_setCell (block_setCell h 0 v0) 1 v1) 2 v2) 3 v3) 4 v4
theorem upd5 {a W : World} {S : Nat → Prop} (h : Upd a W S) {g : Nat} (hg : a.heap.size ≤ g) (v0 v1 v2 v3 v4 : Value) :
    Upd a (((((W.setCell ⟨g, 0, none⟩ v0).setCell ⟨g, 1, none⟩ v1).setCell ⟨g, 2, none⟩ v2).setCell ⟨g, 3, none⟩ v3).setCell ⟨g, 4, none⟩ v4) S :=
  ((((h.setCell ⟨g, 0, none⟩ v0 (.inl hg)).setCell ⟨g, 1, none⟩ v1 (.inl hg)).setCell ⟨g, 2, none⟩ v2 (.inl hg)).setCell ⟨g, 3, none⟩ v3 (.inl hg)).setCell ⟨g, 4, none⟩ v4 (.inl hg)

theorem N_any (w : World) (n : Int) : Calls Try.prog 30 #[.int .i64 n] w fun e w' => e = .returned (mkN n).val ∧ Upd w w' (fun _ => False) := by
  have I := fun w => fits_any w n
  have EA := fun w => E_any w 2
  unfold mkN
  cases h : okNum n with
  | true =>
    rw [h] at I
    simp only [if_true]
    clear h EA
    go_enter Try.func30, Try.ntmps30
    go_wp2_with (go_at_call 49; refine Calls.mono (I _) ?_; rintro e w1 ⟨rfl, u1⟩
                 have bX := u1.get (Vnew1 w (.cells vZero.cs 46)) id
                 obtain ⟨c0, c1, c2, c3, c4⟩ := cells5 bX
                 have xl := lt_at bX
                 have f0 := free_at bX 0
                 have f1 := free_at bX 1
                 have f2 := free_at bX 2
                 have f3 := free_at bX 3
                 have f4 := free_at bX 4
                 have HX := hide bX
                 have HU := hide u1
                 clear bX u1)
    (try simp only [Exit.inBlock, Exit.then])
    refine bodyPost_ret (ret_vl rfl _ _ w.heap.size ⟨1, n, [], false, 0⟩ rfl (block5 HX.out _ _ _ _ _)) rfl ?_
    exact ⟨rfl, upd5 (((Upd.refl w _).alloc _).then HU.out (fun _ _ => id)) (Nat.le_refl _) _ _ _ _ _⟩
  | false =>
    rw [h] at I
    simp only [Bool.false_eq_true, if_false]
    clear h
    obtain ⟨ev, hev⟩ : ∃ v, mkE 2 = v := ⟨_, rfl⟩
    rw [hev] at EA ⊢
    obtain ⟨k0, n0, t0, b0, e0⟩ := ev
    have HEV := hide hev
    unfold Vl.val at EA
    simp only at EA
    clear hev
    go_enter Try.func30, Try.ntmps30
    go_wp2_with (first
      | (go_at_call 49; refine Calls.mono (I _) ?_; rintro e w1 ⟨rfl, u1⟩
         have bX := u1.get (Vnew1 w (.cells vZero.cs 46)) id
         have HX := hide bX
         have HU := hide u1
         clear bX u1)
      | (go_at_call 15; refine Calls.mono (EA _) ?_; rintro e w2 ⟨rfl, u2⟩
         have bX2 := u2.get HX.out id
         obtain ⟨c0, c1, c2, c3, c4⟩ := cells5 bX2
         have xl := lt_at bX2
         have f0 := free_at bX2 0
         have f1 := free_at bX2 1
         have f2 := free_at bX2 2
         have f3 := free_at bX2 3
         have f4 := free_at bX2 4
         have HX2 := hide bX2
         have HU2 := hide u2
         clear bX2 u2))
    (try simp only [Exit.inBlock, Exit.then])
    refine bodyPost_ret (ret_vl rfl _ _ w.heap.size ⟨k0, n0, t0, b0, e0⟩ rfl (block5 HX2.out _ _ _ _ _)) rfl ?_
    exact ⟨rfl, upd5 ((((Upd.refl w _).alloc _).then HU.out (fun _ _ => id)).then HU2.out (fun _ _ => id)) (Nat.le_refl _) _ _ _ _ _⟩
theorem T_any (w : World) (s : List UInt8) : Calls Try.prog 31 #[enS s] w fun e w' => e = .returned (mkT s).val ∧ Upd w w' (fun _ => False) := by
  have EA := fun w => E_any w 3
  unfold mkT
  by_cases h : s.length ≤ 255
  · rw [if_pos h]
    have d1 : decide ((255 : Int) < (s.length : Int)) = false := by simp; omega
    have d2 : decide (255 < s.length) = false := by simp; omega
    clear h EA
    go_enter Try.func31, Try.ntmps31
    go_wp2_with fail
    (try simp only [Exit.inBlock, Exit.then])
    refine bodyPost_ret (ret_vl rfl _ _ w.heap.size ⟨2, 0, s, false, 0⟩ rfl (Vnew1 w _)) rfl ?_
    exact ⟨rfl, (Upd.refl w _).alloc _⟩
  · rw [if_neg h]
    have d1 : decide ((255 : Int) < (s.length : Int)) = true := by simp; omega
    have d2 : decide (255 < s.length) = true := by simp; omega
    clear h
    obtain ⟨ev, hev⟩ : ∃ v, mkE 3 = v := ⟨_, rfl⟩
    rw [hev] at EA ⊢
    obtain ⟨k0, n0, t0, b0, e0⟩ := ev
    have HEV := hide hev
    unfold Vl.val at EA
    simp only at EA
    clear hev
    go_enter Try.func31, Try.ntmps31
    go_wp2_with (go_at_call 15; refine Calls.mono (EA _) ?_; rintro e w2 ⟨rfl, u2⟩
                 have bX2 := u2.get (Vnew1 w (.cells vZero.cs 46)) id
                 obtain ⟨c0, c1, c2, c3, c4⟩ := cells5 bX2
                 have xl := lt_at bX2
                 have f0 := free_at bX2 0
                 have f1 := free_at bX2 1
                 have f2 := free_at bX2 2
                 have f3 := free_at bX2 3
                 have f4 := free_at bX2 4
                 have HX2 := hide bX2
                 have HU2 := hide u2
                 clear bX2 u2)
    (try simp only [Exit.inBlock, Exit.then])
    refine bodyPost_ret (ret_vl rfl _ _ w.heap.size ⟨k0, n0, t0, b0, e0⟩ rfl (block5 HX2.out _ _ _ _ _)) rfl ?_
    exact ⟨rfl, upd5 (((Upd.refl w _).alloc _).then HU2.out (fun _ _ => id)) (Nat.le_refl _) _ _ _ _ _⟩

/-- May a value be? -/
def goodV (x : Vl) : Bool :=
  if x.k = 0 then eqV x vZero else if x.k = 1 then eqV x (mkN x.n) else if x.k = 2 then eqV x (mkT x.t) else if x.k = 3 then eqV x (mkB x.b) else if x.k = 4 then eqV x (mkE x.f) else false
end Go.Proofs.Ytcclkfkdafmemaa
