/- The walks of the reference's Take, Put. -/
import Derived.Test.YtcclkfkdafmemaaCrG
import Derived.Test.YtcclkfkdafmemaaCaV
set_option maxRecDepth 100000
namespace Go.Proofs.Ytcclkfkdafmemaa
open Go.RowKit Go.Lat

/-- Does the reference's Take refuse? -/
theorem take_some (E : En) (v : Vl) (ver inc : Int) : takeOk (some E) v ver inc = (goodV v && !elderE E ver inc) := rfl

set_option maxHeartbeats 6400000 in
theorem RTake_miss (w : World) (va : Option Addr) (vc : Nat) (l : List Rf) (M : Lk → Option En) (h : RefAt w (.slice va l.length vc) l M) (hl : l.length ≤ 1000000) (p : Lk) (hp : p.ok) (v : Vl) (ver inc : Int) (hno : ∀ z ∈ l, z.1 ≠ p) (g : Bool) (hg : goodV v = g) :
    Calls Try.prog 36 #[.slice va l.length vc, p.val, .int .i64 ver, v.val, .int .i64 inc] w fun e w' => e = .returned (.bool false) ∧ Upd w w' (fun _ => False) := by
  have G := fun w => RGood_any w v
  rw [hg] at G
  have F := fun w' (u : Upd w w' (fun _ => False)) => Find_miss w' va vc l (u.rw h.r (fun _ _ => id)) (fun z hz => (h.ok z hz).1) p hp hl hno
  obtain ⟨pb, ps, pc, pr⟩ := p
  obtain ⟨vk, vn, vt, vb, vf⟩ := v
  unfold Lk.val at F
  unfold Vl.val at G
  unfold Lk.val Vl.val
  simp only at F G ⊢
  have HF := hide F
  have HG := hide G
  clear F G h hp hno hg
  go_enter Try.func36, Try.ntmps36
  go_wp2_with fail
  refine Calls.mono (HF.out _ (((Upd.refl w _).alloc _).alloc _)) ?_
  rintro e w1 ⟨rfl, u1⟩
  have bK := u1.get (block_alloc (Vnew1 w (.cells (Lk.mk pb ps pc pr).cs 31)) (.cells (Vl.mk vk vn vt vb vf).cs 47)) id
  have bV := u1.get (Vnew2 w (.cells (Lk.mk pb ps pc pr).cs 31) (.cells (Vl.mk vk vn vt vb vf).cs 47)) id
  obtain ⟨y0, y1, y2, y3, y4⟩ := cells5 bV
  have vl := lt_at bV
  have vl' : w.heap.size < w1.heap.size := by omega
  have HBK := hide bK
  have HBV := hide bV
  have HU1 := hide ((((Upd.refl w (fun _ => False)).alloc _).alloc _).then u1 (fun _ _ => id))
  clear u1 HF bK bV
  go_wp2_with fail
  refine Calls.mono (HG.out _) ?_
  rintro e w2 ⟨rfl, u2⟩
  have HU2 := hide (HU1.out.then u2 (fun _ _ => id))
  have HBK2 := hide (u2.get HBK.out id)
  have HBV2 := hide (u2.get HBV.out id)
  clear u2 HU1 y0 y1 y2 y3 y4 vl vl' HBK HBV HG
  go_wp2_with fail
  go_ret
  exact ⟨rfl, HU2.out⟩
set_option maxHeartbeats 6400000 in
theorem RTake_bad (w : World) (va : Option Addr) (vc : Nat) (l : List Rf) (M : Lk → Option En) (h : RefAt w (.slice va l.length vc) l M) (hl : l.length ≤ 1000000) (p : Lk) (hp : p.ok) (v : Vl) (ver inc : Int) (k : Nat) (z : Rf) (hz : l[k]? = some z) (hzp : z.1 = p) (hfst : ∀ j y, j < k → l[j]? = some y → y.1 ≠ p) (hg : goodV v = false) :
    Calls Try.prog 36 #[.slice va l.length vc, p.val, .int .i64 ver, v.val, .int .i64 inc] w fun e w' => e = .returned (.bool false) ∧ Upd w w' (fun _ => False) := by
  have G := fun w => RGood_any w v
  rw [hg] at G
  have F := fun w' (u : Upd w w' (fun _ => False)) => Find_hit w' va vc l (u.rw h.r (fun _ _ => id)) (fun z hz => (h.ok z hz).1) p hp hl k z hz hzp hfst
  have hkl : k < l.length := (List.getElem?_eq_some_iff.1 hz).1
  obtain ⟨g, off, rfl, hgl, hc⟩ := rf_at h.r k z hz hkl
  have hk0 : (0 : Int) ≤ (k : Int) := by omega
  have hk2 : ¬ (k : Int) < 0 := by omega
  obtain ⟨pb, ps, pc, pr⟩ := p
  obtain ⟨vk, vn, vt, vb, vf⟩ := v
  unfold Lk.val at F
  unfold Vl.val at G
  unfold Lk.val Vl.val
  simp only at F G ⊢
  have HF := hide F
  have HG := hide G
  clear F G h hp hz hzp hfst hg hc
  go_enter Try.func36, Try.ntmps36
  go_wp2_with fail
  refine Calls.mono (HF.out _ (((Upd.refl w _).alloc _).alloc _)) ?_
  rintro e w1 ⟨rfl, u1⟩
  have bK := u1.get (block_alloc (Vnew1 w (.cells (Lk.mk pb ps pc pr).cs 31)) (.cells (Vl.mk vk vn vt vb vf).cs 47)) id
  have bV := u1.get (Vnew2 w (.cells (Lk.mk pb ps pc pr).cs 31) (.cells (Vl.mk vk vn vt vb vf).cs 47)) id
  obtain ⟨y0, y1, y2, y3, y4⟩ := cells5 bV
  have vl := lt_at bV
  have vl' : w.heap.size < w1.heap.size := by omega
  have HBK := hide bK
  have HBV := hide bV
  have HU1 := hide ((((Upd.refl w (fun _ => False)).alloc _).alloc _).then u1 (fun _ _ => id))
  clear u1 HF bK bV
  go_wp2_with fail
  refine Calls.mono (HG.out _) ?_
  rintro e w2 ⟨rfl, u2⟩
  have HU2 := hide (HU1.out.then u2 (fun _ _ => id))
  have HBK2 := hide (u2.get HBK.out id)
  have HBV2 := hide (u2.get HBV.out id)
  clear u2 HU1 y0 y1 y2 y3 y4 vl vl' HBK HBV HG
  go_wp2_with fail
  go_ret
  exact ⟨rfl, HU2.out⟩
set_option maxHeartbeats 6400000 in
theorem RTake_old (w : World) (va : Option Addr) (vc : Nat) (l : List Rf) (M : Lk → Option En) (h : RefAt w (.slice va l.length vc) l M) (hl : l.length ≤ 1000000) (p : Lk) (hp : p.ok) (v : Vl) (ver inc : Int) (k : Nat) (z : Rf) (hz : l[k]? = some z) (hzp : z.1 = p) (hfst : ∀ j y, j < k → l[j]? = some y → y.1 ≠ p) (hg : goodV v = true) (hel : elderE z.2 ver inc = true) :
    Calls Try.prog 36 #[.slice va l.length vc, p.val, .int .i64 ver, v.val, .int .i64 inc] w fun e w' => e = .returned (.bool false) ∧ Upd w w' (fun _ => False) := by
  have G := fun w => RGood_any w v
  rw [hg] at G
  have F := fun w' (u : Upd w w' (fun _ => False)) => Find_hit w' va vc l (u.rw h.r (fun _ _ => id)) (fun z hz => (h.ok z hz).1) p hp hl k z hz hzp hfst
  have hkl : k < l.length := (List.getElem?_eq_some_iff.1 hz).1
  obtain ⟨g, off, rfl, hgl, hc⟩ := rf_at h.r k z hz hkl
  have HH := hide h
  have HZ := hide hz
  have HZP := hide hzp
  have d0 := hc 0 _ rfl
  have d1 := hc 1 _ rfl
  have d2 := hc 2 _ rfl
  have d3 := hc 3 _ rfl
  have d4 := hc 4 _ rfl
  have d5 := hc 5 _ rfl
  have d6 := hc 6 _ rfl
  have d7 := hc 7 _ rfl
  have d8 := hc 8 _ rfl
  have d9 := hc 9 _ rfl
  have d10 := hc 10 _ rfl
  have d11 := hc 11 _ rfl
  have d12 := hc 12 _ rfl
  have d13 := hc 13 _ rfl
  rw [Nat.add_zero] at d0
  obtain ⟨N, hN⟩ : ∃ N, l.length = N := ⟨_, rfl⟩
  rw [hN] at F hkl hl ⊢
  have HN := hide hN
  have hk0 : (0 : Int) ≤ (k : Int) := by omega
  have hk1 : (k : Int) < (N : Int) := by omega
  have hk2 : ¬ (k : Int) < 0 := by omega
  obtain ⟨pb, ps, pc, pr⟩ := p
  obtain ⟨vk, vn, vt, vb, vf⟩ := v
  obtain ⟨⟨zb, zs, zc, zr⟩, ⟨⟨ek, en, et, eb, ef⟩, ever, einc, has, stale, lost⟩⟩ := z
  unfold elderE at hel
  unfold Lk.val at F
  unfold Vl.val at G
  unfold Lk.val Vl.val
  simp only at F G hel d0 d1 d2 d3 d4 d5 d6 d7 d8 d9 d10 d11 d12 d13 ⊢
  have HF := hide F
  have HG := hide G
  clear F G h hp hz hzp hfst hg hc hN
  go_enter Try.func36, Try.ntmps36
  go_wp2_with fail
  refine Calls.mono (HF.out _ (((Upd.refl w _).alloc _).alloc _)) ?_
  rintro e w1 ⟨rfl, u1⟩
  have bK := u1.get (block_alloc (Vnew1 w (.cells (Lk.mk pb ps pc pr).cs 31)) (.cells (Vl.mk vk vn vt vb vf).cs 47)) id
  have bV := u1.get (Vnew2 w (.cells (Lk.mk pb ps pc pr).cs 31) (.cells (Vl.mk vk vn vt vb vf).cs 47)) id
  obtain ⟨y0, y1, y2, y3, y4⟩ := cells5 bV
  have vl := lt_at bV
  have vl' : w.heap.size < w1.heap.size := by omega
  have HBK := hide bK
  have HBV := hide bV
  have HU1 := hide ((((Upd.refl w (fun _ => False)).alloc _).alloc _).then u1 (fun _ _ => id))
  clear u1 HF bK bV
  go_wp2_with fail
  refine Calls.mono (HG.out _) ?_
  rintro e w2 ⟨rfl, u2⟩
  have HU2 := hide (HU1.out.then u2 (fun _ _ => id))
  have HBK2 := hide (u2.get HBK.out id)
  have HBV2 := hide (u2.get HBV.out id)
  clear u2 HU1 y0 y1 y2 y3 y4 vl vl' HBK HBV HG
  have q0 := (HU2.out.cell g _ hgl id).trans d0
  have q1 := (HU2.out.cell g _ hgl id).trans d1
  have q2 := (HU2.out.cell g _ hgl id).trans d2
  have q3 := (HU2.out.cell g _ hgl id).trans d3
  have q4 := (HU2.out.cell g _ hgl id).trans d4
  have q5 := (HU2.out.cell g _ hgl id).trans d5
  have q6 := (HU2.out.cell g _ hgl id).trans d6
  have q7 := (HU2.out.cell g _ hgl id).trans d7
  have q8 := (HU2.out.cell g _ hgl id).trans d8
  have q9 := (HU2.out.cell g _ hgl id).trans d9
  have q10 := (HU2.out.cell g _ hgl id).trans d10
  have q11 := (HU2.out.cell g _ hgl id).trans d11
  have q12 := (HU2.out.cell g _ hgl id).trans d12
  have q13 := (HU2.out.cell g _ hgl id).trans d13
  have gl2 := Nat.lt_of_lt_of_le hgl HU2.out.size
  clear d0 d1 d2 d3 d4 d5 d6 d7 d8 d9 d10 d11 d12 d13
  cases has with
  | false => simp at hel
  | true =>
    by_cases h1 : inc < einc
    · clear hel
      go_wp2_with fail
      go_ret
      exact ⟨rfl, HU2.out⟩
    · by_cases h2 : inc = einc
      · subst h2
        have h3 : ver ≤ ever := by simpa using hel
        clear hel
        go_wp2_with fail
        go_ret
        exact ⟨rfl, HU2.out⟩
      · simp [h1, h2] at hel
set_option maxHeartbeats 6400000 in
theorem RTake_new (w : World) (va : Option Addr) (vc : Nat) (l : List Rf) (M : Lk → Option En) (h : RefAt w (.slice va l.length vc) l M) (hl : l.length ≤ 1000000) (p : Lk) (hp : p.ok) (v : Vl) (ver inc : Int) (k : Nat) (z : Rf) (hz : l[k]? = some z) (hzp : z.1 = p) (hfst : ∀ j y, j < k → l[j]? = some y → y.1 ≠ p) (hg : goodV v = true) (hel : elderE z.2 ver inc = false) (hv : v.ok) (hver : i64ok ver) (hinc : i64ok inc) :
    Calls Try.prog 36 #[.slice va l.length vc, p.val, .int .i64 ver, v.val, .int .i64 inc] w fun e w' => e = .returned (.bool true) ∧ RefAt w' (.slice va l.length vc) (l.set k (z.1, ⟨v, ver, inc, true, false, false⟩)) (setF M z.1 (some ⟨v, ver, inc, true, false, false⟩)) ∧ Upd w w' (fun k => (Value.slice va l.length vc).ownBlock = some k) := by
  have G := fun w => RGood_any w v
  rw [hg] at G
  have F := fun w' (u : Upd w w' (fun _ => False)) => Find_hit w' va vc l (u.rw h.r (fun _ _ => id)) (fun z hz => (h.ok z hz).1) p hp hl k z hz hzp hfst
  have hkl : k < l.length := (List.getElem?_eq_some_iff.1 hz).1
  obtain ⟨g, off, rfl, hgl, hc⟩ := rf_at h.r k z hz hkl
  have HH := hide h
  have HZ := hide hz
  have HZP := hide hzp
  have d0 := hc 0 _ rfl
  have d1 := hc 1 _ rfl
  have d2 := hc 2 _ rfl
  have d3 := hc 3 _ rfl
  have d4 := hc 4 _ rfl
  have d5 := hc 5 _ rfl
  have d6 := hc 6 _ rfl
  have d7 := hc 7 _ rfl
  have d8 := hc 8 _ rfl
  have d9 := hc 9 _ rfl
  have d10 := hc 10 _ rfl
  have d11 := hc 11 _ rfl
  have d12 := hc 12 _ rfl
  have d13 := hc 13 _ rfl
  rw [Nat.add_zero] at d0
  have HVO := hide hv
  have HVE := hide hver
  have HIN := hide hinc
  clear hv hver hinc
  obtain ⟨N, hN⟩ : ∃ N, l.length = N := ⟨_, rfl⟩
  rw [hN] at F hkl hl ⊢
  have HN := hide hN
  have hk0 : (0 : Int) ≤ (k : Int) := by omega
  have hk1 : (k : Int) < (N : Int) := by omega
  have hk2 : ¬ (k : Int) < 0 := by omega
  obtain ⟨pb, ps, pc, pr⟩ := p
  obtain ⟨vk, vn, vt, vb, vf⟩ := v
  obtain ⟨⟨zb, zs, zc, zr⟩, ⟨⟨ek, en, et, eb, ef⟩, ever, einc, has, stale, lost⟩⟩ := z
  unfold elderE at hel
  unfold Lk.val at F
  unfold Vl.val at G
  unfold Lk.val Vl.val
  simp only at F G hel d0 d1 d2 d3 d4 d5 d6 d7 d8 d9 d10 d11 d12 d13 ⊢
  have HF := hide F
  have HG := hide G
  clear F G h hp hz hzp hfst hg hc hN
  go_enter Try.func36, Try.ntmps36
  go_wp2_with fail
  refine Calls.mono (HF.out _ (((Upd.refl w _).alloc _).alloc _)) ?_
  rintro e w1 ⟨rfl, u1⟩
  have bK := u1.get (block_alloc (Vnew1 w (.cells (Lk.mk pb ps pc pr).cs 31)) (.cells (Vl.mk vk vn vt vb vf).cs 47)) id
  have bV := u1.get (Vnew2 w (.cells (Lk.mk pb ps pc pr).cs 31) (.cells (Vl.mk vk vn vt vb vf).cs 47)) id
  obtain ⟨y0, y1, y2, y3, y4⟩ := cells5 bV
  have vl := lt_at bV
  have vl' : w.heap.size < w1.heap.size := by omega
  have HBK := hide bK
  have HBV := hide bV
  have HU1 := hide ((((Upd.refl w (fun _ => False)).alloc _).alloc _).then u1 (fun _ _ => id))
  clear u1 HF bK bV
  go_wp2_with fail
  refine Calls.mono (HG.out _) ?_
  rintro e w2 ⟨rfl, u2⟩
  have HU2 := hide (HU1.out.then u2 (fun _ _ => id))
  have HBK2 := hide (u2.get HBK.out id)
  have HBV2 := hide (u2.get HBV.out id)
  clear u2 HU1 y0 y1 y2 y3 y4 vl vl' HBK HBV HG
  have q0 := (HU2.out.cell g _ hgl id).trans d0
  have q1 := (HU2.out.cell g _ hgl id).trans d1
  have q2 := (HU2.out.cell g _ hgl id).trans d2
  have q3 := (HU2.out.cell g _ hgl id).trans d3
  have q4 := (HU2.out.cell g _ hgl id).trans d4
  have q5 := (HU2.out.cell g _ hgl id).trans d5
  have q6 := (HU2.out.cell g _ hgl id).trans d6
  have q7 := (HU2.out.cell g _ hgl id).trans d7
  have q8 := (HU2.out.cell g _ hgl id).trans d8
  have q9 := (HU2.out.cell g _ hgl id).trans d9
  have q10 := (HU2.out.cell g _ hgl id).trans d10
  have q11 := (HU2.out.cell g _ hgl id).trans d11
  have q12 := (HU2.out.cell g _ hgl id).trans d12
  have q13 := (HU2.out.cell g _ hgl id).trans d13
  have gl2 := Nat.lt_of_lt_of_le hgl HU2.out.size
  clear d0 d1 d2 d3 d4 d5 d6 d7 d8 d9 d10 d11 d12 d13
  have fr := fun o => Rw.free (HU2.out.rw HH.out.r (fun _ _ => id)) o
  simp only at fr
  have f0 := fr (off + k * 14)
  have f1 := fr (off + k * 14 + 1)
  have f2 := fr (off + k * 14 + 2)
  have f3 := fr (off + k * 14 + 3)
  have f4 := fr (off + k * 14 + 4)
  have f5 := fr (off + k * 14 + 5)
  have f6 := fr (off + k * 14 + 6)
  have f7 := fr (off + k * 14 + 7)
  have f8 := fr (off + k * 14 + 8)
  have f9 := fr (off + k * 14 + 9)
  have f10 := fr (off + k * 14 + 10)
  have f11 := fr (off + k * 14 + 11)
  have f12 := fr (off + k * 14 + 12)
  have f13 := fr (off + k * 14 + 13)
  clear fr
  obtain ⟨x0, x1, x2, x3⟩ := cells4 HBK2.out
  obtain ⟨y0, y1, y2, y3, y4⟩ := cells5 HBV2.out
  have vl := lt_at HBV2.out
  have vl' : w.heap.size < w2.heap.size := by omega
  have ng : g ≠ w.heap.size := by omega
  have ng1 : g ≠ w.heap.size + 1 := by omega
  cases has with
  | false =>
    clear hel
    go_wp2_with fail
    go_ret
    refine ⟨rfl, ?_, ?_⟩
    · have r2 := Rw.setMany (rfEnc (⟨zb, zs, zc, zr⟩, ⟨⟨vk, vn, vt, vb, vf⟩, ver, inc, true, false, false⟩)) (HU2.out.rw HH.out.r (fun _ _ => id)) (k * 14) (by rw [rfEnc_len]; have := HN.out; omega)
      rw [← rfCells_set l k _ (by rw [HN.out]; exact hkl)] at r2
      have r3 := HH.out.set HZ.out ⟨⟨vk, vn, vt, vb, vf⟩, ver, inc, true, false, false⟩ ⟨HVO.out, HVE.out, HIN.out⟩ r2
      have ez := HZP.out
      simp only [Lk.mk.injEq] at ez
      obtain ⟨rfl, rfl, rfl, rfl⟩ := ez
      rw [HN.out] at r3
      exact r3
    · have ez := HZP.out
      simp only [Lk.mk.injEq] at ez
      obtain ⟨rfl, rfl, rfl, rfl⟩ := ez
      exact Upd.setCells (S := fun k => (Value.slice (some ⟨g, off, none⟩) N vc).ownBlock = some k) (g := g) (.inr rfl) (rfEnc (⟨zb, zs, zc, zr⟩, ⟨⟨vk, vn, vt, vb, vf⟩, ver, inc, true, false, false⟩)) (HU2.out.weaken (fun _ _ e => e.elim)) (off + k * 14)
  | true =>
    have h1 : ¬ inc < einc := by
      intro q
      simp [q] at hel
    by_cases h2 : inc = einc
    · subst h2
      have h3 : ¬ ver ≤ ever := by
        intro q
        simp [q] at hel
      clear hel h1
      go_wp2_with fail
      go_ret
      refine ⟨rfl, ?_, ?_⟩
      · have r2 := Rw.setMany (rfEnc (⟨zb, zs, zc, zr⟩, ⟨⟨vk, vn, vt, vb, vf⟩, ver, inc, true, false, false⟩)) (HU2.out.rw HH.out.r (fun _ _ => id)) (k * 14) (by rw [rfEnc_len]; have := HN.out; omega)
        rw [← rfCells_set l k _ (by rw [HN.out]; exact hkl)] at r2
        have r3 := HH.out.set HZ.out ⟨⟨vk, vn, vt, vb, vf⟩, ver, inc, true, false, false⟩ ⟨HVO.out, HVE.out, HIN.out⟩ r2
        have ez := HZP.out
        simp only [Lk.mk.injEq] at ez
        obtain ⟨rfl, rfl, rfl, rfl⟩ := ez
        rw [HN.out] at r3
        exact r3
      · have ez := HZP.out
        simp only [Lk.mk.injEq] at ez
        obtain ⟨rfl, rfl, rfl, rfl⟩ := ez
        exact Upd.setCells (S := fun k => (Value.slice (some ⟨g, off, none⟩) N vc).ownBlock = some k) (g := g) (.inr rfl) (rfEnc (⟨zb, zs, zc, zr⟩, ⟨⟨vk, vn, vt, vb, vf⟩, ver, inc, true, false, false⟩)) (HU2.out.weaken (fun _ _ e => e.elim)) (off + k * 14)
    · have h3 : (einc == inc) = false := by
        simp
        omega
      clear hel
      go_wp2_with fail
      go_ret
      refine ⟨rfl, ?_, ?_⟩
      · have r2 := Rw.setMany (rfEnc (⟨zb, zs, zc, zr⟩, ⟨⟨vk, vn, vt, vb, vf⟩, ver, inc, true, false, false⟩)) (HU2.out.rw HH.out.r (fun _ _ => id)) (k * 14) (by rw [rfEnc_len]; have := HN.out; omega)
        rw [← rfCells_set l k _ (by rw [HN.out]; exact hkl)] at r2
        have r3 := HH.out.set HZ.out ⟨⟨vk, vn, vt, vb, vf⟩, ver, inc, true, false, false⟩ ⟨HVO.out, HVE.out, HIN.out⟩ r2
        have ez := HZP.out
        simp only [Lk.mk.injEq] at ez
        obtain ⟨rfl, rfl, rfl, rfl⟩ := ez
        rw [HN.out] at r3
        exact r3
      · have ez := HZP.out
        simp only [Lk.mk.injEq] at ez
        obtain ⟨rfl, rfl, rfl, rfl⟩ := ez
        exact Upd.setCells (S := fun k => (Value.slice (some ⟨g, off, none⟩) N vc).ownBlock = some k) (g := g) (.inr rfl) (rfEnc (⟨zb, zs, zc, zr⟩, ⟨⟨vk, vn, vt, vb, vf⟩, ver, inc, true, false, false⟩)) (HU2.out.weaken (fun _ _ e => e.elim)) (off + k * 14)
theorem RTake_any (w : World) (va : Option Addr) (vc : Nat) (l : List Rf) (M : Lk → Option En) (h : RefAt w (.slice va l.length vc) l M) (hl : l.length ≤ 1000000) (p : Lk) (hp : p.ok) (v : Vl) (hv : v.ok) (ver inc : Int) (hver : i64ok ver) (hinc : i64ok inc) :
    Calls Try.prog 36 #[.slice va l.length vc, p.val, .int .i64 ver, v.val, .int .i64 inc] w fun e w' => e = .returned (.bool (takeOk (M p) v ver inc)) ∧ (∃ l', l'.length = l.length ∧ RefAt w' (.slice va l.length vc) l' (takeM M p v ver inc)) ∧ Upd w w' (fun k => (Value.slice va l.length vc).ownBlock = some k) := by
  unfold takeM
  rcases h.cases p hp with ⟨k, z, h1, h2, h3, -, h4⟩ | ⟨h1, h2⟩
  · rw [h3]
    cases hg : goodV v with
    | false =>
      refine Calls.mono (RTake_bad w va vc l M h hl p hp v ver inc k z h1 h2 h4 hg) ?_
      rintro e w' ⟨rfl, u⟩
      have e0 : takeOk (some z.2) v ver inc = false := by rw [take_some, hg]; rfl
      rw [e0]
      exact ⟨rfl, ⟨l, rfl, h.upd u (fun _ _ => id)⟩, u.weaken fun _ _ e => e.elim⟩
    | true =>
      cases he : elderE z.2 ver inc with
      | true =>
        refine Calls.mono (RTake_old w va vc l M h hl p hp v ver inc k z h1 h2 h4 hg he) ?_
        rintro e w' ⟨rfl, u⟩
        have e0 : takeOk (some z.2) v ver inc = false := by rw [take_some, hg, he]; rfl
        rw [e0]
        exact ⟨rfl, ⟨l, rfl, h.upd u (fun _ _ => id)⟩, u.weaken fun _ _ e => e.elim⟩
      | false =>
        refine Calls.mono (RTake_new w va vc l M h hl p hp v ver inc k z h1 h2 h4 hg he hv hver hinc) ?_
        rintro e w' ⟨rfl, r, u⟩
        have e0 : takeOk (some z.2) v ver inc = true := by rw [take_some, hg, he]; rfl
        rw [e0]
        rw [h2] at r
        exact ⟨rfl, ⟨_, by simp, r⟩, u⟩
  · rw [h1]
    refine Calls.mono (RTake_miss w va vc l M h hl p hp v ver inc h2 _ rfl) ?_
    rintro e w' ⟨rfl, u⟩
    exact ⟨rfl, ⟨l, rfl, h.upd u (fun _ _ => id)⟩, u.weaken fun _ _ e => e.elim⟩
end Go.Proofs.Ytcclkfkdafmemaa
