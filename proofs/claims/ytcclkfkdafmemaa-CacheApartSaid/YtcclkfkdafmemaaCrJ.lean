/- The walk of the reference's Put. -/
import Derived.Test.YtcclkfkdafmemaaCrH
import Derived.Test.YtcclkfkdafmemaaCrI
set_option maxRecDepth 100000
namespace Go.Proofs.Ytcclkfkdafmemaa
open Go.RowKit Go.Lat

theorem cells14 {w : World} {b : Nat} {v0 v1 v2 v3 v4 v5 v6 v7 v8 v9 v10 v11 v12 v13 : Value} {t : TypeId} (h : w.heap[b]? = some (.cells #[v0, v1, v2, v3, v4, v5, v6, v7, v8, v9, v10, v11, v12, v13] t (0, 0))) : w.cell? ⟨b, 0, none⟩ = some v0 ∧ w.cell? ⟨b, 1, none⟩ = some v1 ∧ w.cell? ⟨b, 2, none⟩ = some v2 ∧ w.cell? ⟨b, 3, none⟩ = some v3 ∧ w.cell? ⟨b, 4, none⟩ = some v4 ∧ w.cell? ⟨b, 5, none⟩ = some v5 ∧ w.cell? ⟨b, 6, none⟩ = some v6 ∧ w.cell? ⟨b, 7, none⟩ = some v7 ∧ w.cell? ⟨b, 8, none⟩ = some v8 ∧ w.cell? ⟨b, 9, none⟩ = some v9 ∧ w.cell? ⟨b, 10, none⟩ = some v10 ∧ w.cell? ⟨b, 11, none⟩ = some v11 ∧ w.cell? ⟨b, 12, none⟩ = some v12 ∧ w.cell? ⟨b, 13, none⟩ = some v13 :=
  ⟨cell_at h 0 v0 rfl, cell_at h 1 v1 rfl, cell_at h 2 v2 rfl, cell_at h 3 v3 rfl, cell_at h 4 v4 rfl, cell_at h 5 v5 rfl, cell_at h 6 v6 rfl, cell_at h 7 v7 rfl, cell_at h 8 v8 rfl, cell_at h 9 v9 rfl, cell_at h 10 v10 rfl, cell_at h 11 v11 rfl, cell_at h 12 v12 rfl, cell_at h 13 v13 rfl⟩
theorem eqr_at (x y : Vl) (hx : x.ok) (hy : y.ok) {q : Bool} (hq : eqV x y = q) : ∀ w, (binOp .eql 47 (.agg #[.int .i64 x.k, .int .i64 x.n, .string ⟨x.t.toArray⟩, .bool x.b, .int .i64 x.f]) (.agg #[.int .i64 y.k, .int .i64 y.n, .string ⟨y.t.toArray⟩, .bool y.b, .int .i64 y.f])).run Try.prog w = .ok (.bool q) w := fun w => by
  have := eq_rv w hx hy
  rw [hq] at this
  exact this
/-- An entry of the document's as a value. -/
def rfVal (p : Lk) (e : En) : Value := .agg #[enS p.b, enS p.s, .int .i64 p.c, .int .i64 p.r, .int .i64 e.v.k, .int .i64 e.v.n, enS e.v.t, .bool e.v.b, .int .i64 e.v.f, .int .i64 e.ver, .int .i64 e.inc, .bool e.has, .bool e.stale, .bool e.lost]

set_option maxHeartbeats 6400000 in
theorem RPut_miss (w : World) (va : Option Addr) (vc : Nat) (l : List Rf) (M : Lk → Option En) (h : RefAt w (.slice va l.length vc) l M) (hl : l.length ≤ 1000000) (p : Lk) (hp : p.ok) (e : En) (he : e.ok) (hno : ∀ z ∈ l, z.1 ≠ p) (g : Bool) (hg : goodV e.v = g) (q : Bool) (hq : eqV e.v vZero = q) :
    Calls Try.prog 35 #[.slice va l.length vc, rfVal p e] w fun r w' => r = .returned (.bool false) ∧ Upd w w' (fun _ => False) := by
  have G := fun w => RGood_any w e.v
  rw [hg] at G
  have EQ := eqr_at e.v vZero he.v vZ_ok hq
  have F := fun w' (u : Upd w w' (fun _ => False)) => Find_miss w' va vc l (u.rw h.r (fun _ _ => id)) (fun z hz => (h.ok z hz).1) p hp hl hno
  obtain ⟨pb, ps, pc, pr⟩ := p
  obtain ⟨⟨vk, vn, vt, vb, vf⟩, ver, inc, has, stale, lost⟩ := e
  unfold Lk.val at F
  unfold Vl.val at G
  unfold vZero at EQ
  unfold rfVal
  simp only at F G EQ  ⊢
  have HF := hide F
  have HG := hide G
  clear F G h hp he hq hg hno
  go_enter Try.func35, Try.ntmps35
  go_wp2_with fail
  refine Calls.mono (HF.out _ ((Upd.refl w _).alloc _)) ?_
  rintro r w1 ⟨rfl, u1⟩
  have bE := u1.get (Vnew1 w (.cells #[.string ⟨pb.toArray⟩, .string ⟨ps.toArray⟩, .int .i64 pc, .int .i64 pr, .int .i64 vk, .int .i64 vn, .string ⟨vt.toArray⟩, .bool vb, .int .i64 vf, .int .i64 ver, .int .i64 inc, .bool has, .bool stale, .bool lost] 65)) id
  obtain ⟨c0, c1, c2, c3, c4, c5, c6, c7, c8, c9, c10, c11, c12, c13⟩ := cells14 bE
  have el := lt_at bE
  have HBE := hide bE
  have HU1 := hide (((Upd.refl w (fun _ => False)).alloc (.cells #[.string ⟨pb.toArray⟩, .string ⟨ps.toArray⟩, .int .i64 pc, .int .i64 pr, .int .i64 vk, .int .i64 vn, .string ⟨vt.toArray⟩, .bool vb, .int .i64 vf, .int .i64 ver, .int .i64 inc, .bool has, .bool stale, .bool lost] 65)).then u1 (fun _ _ => id))
  clear u1 HF bE
  go_wp2_with fail
  refine Calls.mono (HG.out _) ?_
  rintro r w2 ⟨rfl, u2⟩
  have HU2 := hide (HU1.out.then u2 (fun _ _ => id))
  have HBE2 := hide (u2.get HBE.out id)
  clear u2 HU1 c0 c1 c2 c3 c4 c5 c6 c7 c8 c9 c10 c11 c12 c13 el HBE HG
  obtain ⟨c0, c1, c2, c3, c4, c5, c6, c7, c8, c9, c10, c11, c12, c13⟩ := cells14 HBE2.out
  have el := lt_at HBE2.out
  go_wp2_with fail
  go_ret
  exact ⟨rfl, HU2.out⟩
set_option maxHeartbeats 6400000 in
theorem RPut_bad (w : World) (va : Option Addr) (vc : Nat) (l : List Rf) (M : Lk → Option En) (h : RefAt w (.slice va l.length vc) l M) (hl : l.length ≤ 1000000) (p : Lk) (hp : p.ok) (e : En) (he : e.ok) (k : Nat) (z : Rf) (hz : l[k]? = some z) (hzp : z.1 = p) (hfst : ∀ j y, j < k → l[j]? = some y → y.1 ≠ p) (hh : e.has = true) (hg : goodV e.v = false) (q : Bool) (hq : eqV e.v vZero = q) :
    Calls Try.prog 35 #[.slice va l.length vc, rfVal p e] w fun r w' => r = .returned (.bool false) ∧ Upd w w' (fun _ => False) := by
  have G := fun w => RGood_any w e.v
  rw [hg] at G
  have EQ := eqr_at e.v vZero he.v vZ_ok hq
  have F := fun w' (u : Upd w w' (fun _ => False)) => Find_hit w' va vc l (u.rw h.r (fun _ _ => id)) (fun z hz => (h.ok z hz).1) p hp hl k z hz hzp hfst
  have hkl : k < l.length := (List.getElem?_eq_some_iff.1 hz).1
  obtain ⟨g, off, rfl, hgl, hc⟩ := rf_at h.r k z hz hkl
  have hk2 : ¬ (k : Int) < 0 := by omega
  obtain ⟨pb, ps, pc, pr⟩ := p
  obtain ⟨⟨vk, vn, vt, vb, vf⟩, ver, inc, has, stale, lost⟩ := e
  simp only at hh
  subst hh
  unfold Lk.val at F
  unfold Vl.val at G
  unfold vZero at EQ
  unfold rfVal
  simp only at F G EQ  ⊢
  have HF := hide F
  have HG := hide G
  clear F G h hp he hq hg hz hzp hfst hc
  go_enter Try.func35, Try.ntmps35
  go_wp2_with fail
  refine Calls.mono (HF.out _ ((Upd.refl w _).alloc _)) ?_
  rintro r w1 ⟨rfl, u1⟩
  have bE := u1.get (Vnew1 w (.cells #[.string ⟨pb.toArray⟩, .string ⟨ps.toArray⟩, .int .i64 pc, .int .i64 pr, .int .i64 vk, .int .i64 vn, .string ⟨vt.toArray⟩, .bool vb, .int .i64 vf, .int .i64 ver, .int .i64 inc, .bool true, .bool stale, .bool lost] 65)) id
  obtain ⟨c0, c1, c2, c3, c4, c5, c6, c7, c8, c9, c10, c11, c12, c13⟩ := cells14 bE
  have el := lt_at bE
  have HBE := hide bE
  have HU1 := hide (((Upd.refl w (fun _ => False)).alloc (.cells #[.string ⟨pb.toArray⟩, .string ⟨ps.toArray⟩, .int .i64 pc, .int .i64 pr, .int .i64 vk, .int .i64 vn, .string ⟨vt.toArray⟩, .bool vb, .int .i64 vf, .int .i64 ver, .int .i64 inc, .bool true, .bool stale, .bool lost] 65)).then u1 (fun _ _ => id))
  clear u1 HF bE
  go_wp2_with fail
  refine Calls.mono (HG.out _) ?_
  rintro r w2 ⟨rfl, u2⟩
  have HU2 := hide (HU1.out.then u2 (fun _ _ => id))
  have HBE2 := hide (u2.get HBE.out id)
  clear u2 HU1 c0 c1 c2 c3 c4 c5 c6 c7 c8 c9 c10 c11 c12 c13 el HBE HG
  obtain ⟨c0, c1, c2, c3, c4, c5, c6, c7, c8, c9, c10, c11, c12, c13⟩ := cells14 HBE2.out
  have el := lt_at HBE2.out
  go_wp2_with fail
  go_ret
  exact ⟨rfl, HU2.out⟩
set_option maxHeartbeats 6400000 in
theorem RPut_good (w : World) (va : Option Addr) (vc : Nat) (l : List Rf) (M : Lk → Option En) (h : RefAt w (.slice va l.length vc) l M) (hl : l.length ≤ 1000000) (p : Lk) (hp : p.ok) (e : En) (he : e.ok) (k : Nat) (z : Rf) (hz : l[k]? = some z) (hzp : z.1 = p) (hfst : ∀ j y, j < k → l[j]? = some y → y.1 ≠ p) (hh : e.has = true) (hg : goodV e.v = true) (q : Bool) (hq : eqV e.v vZero = q) :
    Calls Try.prog 35 #[.slice va l.length vc, rfVal p e] w fun r w' => r = .returned (.bool true) ∧ RefAt w' (.slice va l.length vc) (l.set k (z.1, e)) (setF M z.1 (some e)) ∧ Upd w w' (fun k => (Value.slice va l.length vc).ownBlock = some k) := by
  have G := fun w => RGood_any w e.v
  rw [hg] at G
  have EQ := eqr_at e.v vZero he.v vZ_ok hq
  have F := fun w' (u : Upd w w' (fun _ => False)) => Find_hit w' va vc l (u.rw h.r (fun _ _ => id)) (fun z hz => (h.ok z hz).1) p hp hl k z hz hzp hfst
  have hkl : k < l.length := (List.getElem?_eq_some_iff.1 hz).1
  obtain ⟨g, off, rfl, hgl, hc⟩ := rf_at h.r k z hz hkl
  have HH := hide h
  have HZ := hide hz
  have HZP := hide hzp
  have HEO := hide he
  have d0 := hc 0 _ rfl
  have d1 := hc 1 _ rfl
  have d2 := hc 2 _ rfl
  have d3 := hc 3 _ rfl
  have d4 := hc 4 _ rfl
  have d5 := hc 5 _ rfl
  have d6 := hc 6 _ rfl
  have d7 := hc 7 _ rfl
  have d8 := hc 8 _ rfl
  have d9 := hc 9 _ rfl
  have d10 := hc 10 _ rfl
  have d11 := hc 11 _ rfl
  have d12 := hc 12 _ rfl
  have d13 := hc 13 _ rfl
  rw [Nat.add_zero] at d0
  obtain ⟨N, hN⟩ : ∃ N, l.length = N := ⟨_, rfl⟩
  rw [hN] at F hkl hl ⊢
  have HN := hide hN
  have hk0 : (0 : Int) ≤ (k : Int) := by omega
  have hk1 : (k : Int) < (N : Int) := by omega
  have hk2 : ¬ (k : Int) < 0 := by omega
  obtain ⟨pb, ps, pc, pr⟩ := p
  obtain ⟨⟨vk, vn, vt, vb, vf⟩, ver, inc, has, stale, lost⟩ := e
  simp only at hh
  subst hh
  obtain ⟨⟨zb, zs, zc, zr⟩, ⟨⟨ek, en, et, eb, ef⟩, ever, einc, ehas, estale, elost⟩⟩ := z
  unfold Lk.val at F
  unfold Vl.val at G
  unfold vZero at EQ
  unfold rfVal
  simp only at F G EQ d0 d1 d2 d3 d4 d5 d6 d7 d8 d9 d10 d11 d12 d13 ⊢
  have HF := hide F
  have HG := hide G
  clear F G h hp he hq hg hz hzp hfst hc hN
  go_enter Try.func35, Try.ntmps35
  go_wp2_with fail
  refine Calls.mono (HF.out _ ((Upd.refl w _).alloc _)) ?_
  rintro r w1 ⟨rfl, u1⟩
  have bE := u1.get (Vnew1 w (.cells #[.string ⟨pb.toArray⟩, .string ⟨ps.toArray⟩, .int .i64 pc, .int .i64 pr, .int .i64 vk, .int .i64 vn, .string ⟨vt.toArray⟩, .bool vb, .int .i64 vf, .int .i64 ver, .int .i64 inc, .bool true, .bool stale, .bool lost] 65)) id
  obtain ⟨c0, c1, c2, c3, c4, c5, c6, c7, c8, c9, c10, c11, c12, c13⟩ := cells14 bE
  have el := lt_at bE
  have HBE := hide bE
  have HU1 := hide (((Upd.refl w (fun _ => False)).alloc (.cells #[.string ⟨pb.toArray⟩, .string ⟨ps.toArray⟩, .int .i64 pc, .int .i64 pr, .int .i64 vk, .int .i64 vn, .string ⟨vt.toArray⟩, .bool vb, .int .i64 vf, .int .i64 ver, .int .i64 inc, .bool true, .bool stale, .bool lost] 65)).then u1 (fun _ _ => id))
  clear u1 HF bE
  go_wp2_with fail
  refine Calls.mono (HG.out _) ?_
  rintro r w2 ⟨rfl, u2⟩
  have HU2 := hide (HU1.out.then u2 (fun _ _ => id))
  have HBE2 := hide (u2.get HBE.out id)
  clear u2 HU1 c0 c1 c2 c3 c4 c5 c6 c7 c8 c9 c10 c11 c12 c13 el HBE HG
  obtain ⟨c0, c1, c2, c3, c4, c5, c6, c7, c8, c9, c10, c11, c12, c13⟩ := cells14 HBE2.out
  have el := lt_at HBE2.out
  have q0 := (HU2.out.cell g _ hgl id).trans d0
  have q1 := (HU2.out.cell g _ hgl id).trans d1
  have q2 := (HU2.out.cell g _ hgl id).trans d2
  have q3 := (HU2.out.cell g _ hgl id).trans d3
  have q4 := (HU2.out.cell g _ hgl id).trans d4
  have q5 := (HU2.out.cell g _ hgl id).trans d5
  have q6 := (HU2.out.cell g _ hgl id).trans d6
  have q7 := (HU2.out.cell g _ hgl id).trans d7
  have q8 := (HU2.out.cell g _ hgl id).trans d8
  have q9 := (HU2.out.cell g _ hgl id).trans d9
  have q10 := (HU2.out.cell g _ hgl id).trans d10
  have q11 := (HU2.out.cell g _ hgl id).trans d11
  have q12 := (HU2.out.cell g _ hgl id).trans d12
  have q13 := (HU2.out.cell g _ hgl id).trans d13
  have gl2 := Nat.lt_of_lt_of_le hgl HU2.out.size
  clear d0 d1 d2 d3 d4 d5 d6 d7 d8 d9 d10 d11 d12 d13
  have fr := fun o => Rw.free (HU2.out.rw HH.out.r (fun _ _ => id)) o
  simp only at fr
  have f0 := fr (off + k * 14)
  have f1 := fr (off + k * 14 + 1)
  have f2 := fr (off + k * 14 + 2)
  have f3 := fr (off + k * 14 + 3)
  have f4 := fr (off + k * 14 + 4)
  have f5 := fr (off + k * 14 + 5)
  have f6 := fr (off + k * 14 + 6)
  have f7 := fr (off + k * 14 + 7)
  have f8 := fr (off + k * 14 + 8)
  have f9 := fr (off + k * 14 + 9)
  have f10 := fr (off + k * 14 + 10)
  have f11 := fr (off + k * 14 + 11)
  have f12 := fr (off + k * 14 + 12)
  have f13 := fr (off + k * 14 + 13)
  clear fr
  have ng : g ≠ w.heap.size := by omega
  go_wp2_with fail
  go_ret
  have ez := HZP.out
  simp only [Lk.mk.injEq] at ez
  obtain ⟨rfl, rfl, rfl, rfl⟩ := ez
  refine ⟨rfl, ?_, ?_⟩
  · have r2 := Rw.setMany (rfEnc (⟨zb, zs, zc, zr⟩, ⟨⟨vk, vn, vt, vb, vf⟩, ver, inc, true, stale, lost⟩)) (HU2.out.rw HH.out.r (fun _ _ => id)) (k * 14) (by rw [rfEnc_len]; have := HN.out; omega)
    rw [← rfCells_set l k _ (by rw [HN.out]; exact hkl)] at r2
    have r3 := HH.out.set HZ.out ⟨⟨vk, vn, vt, vb, vf⟩, ver, inc, true, stale, lost⟩ HEO.out r2
    rw [HN.out] at r3
    exact r3
  · exact Upd.setCells (S := fun k => (Value.slice (some ⟨g, off, none⟩) N vc).ownBlock = some k) (g := g) (.inr rfl) (rfEnc (⟨zb, zs, zc, zr⟩, ⟨⟨vk, vn, vt, vb, vf⟩, ver, inc, true, stale, lost⟩)) (HU2.out.weaken (fun _ _ e => e.elim)) (off + k * 14)
set_option maxHeartbeats 6400000 in
theorem RPut_full (w : World) (va : Option Addr) (vc : Nat) (l : List Rf) (M : Lk → Option En) (h : RefAt w (.slice va l.length vc) l M) (hl : l.length ≤ 1000000) (p : Lk) (hp : p.ok) (e : En) (he : e.ok) (k : Nat) (z : Rf) (hz : l[k]? = some z) (hzp : z.1 = p) (hfst : ∀ j y, j < k → l[j]? = some y → y.1 ≠ p) (hh : e.has = false) (g : Bool) (hg : goodV e.v = g) (hq : eqV e.v vZero = false) :
    Calls Try.prog 35 #[.slice va l.length vc, rfVal p e] w fun r w' => r = .returned (.bool false) ∧ Upd w w' (fun _ => False) := by
  have G := fun w => RGood_any w e.v
  rw [hg] at G
  have EQ := eqr_at e.v vZero he.v vZ_ok hq
  have F := fun w' (u : Upd w w' (fun _ => False)) => Find_hit w' va vc l (u.rw h.r (fun _ _ => id)) (fun z hz => (h.ok z hz).1) p hp hl k z hz hzp hfst
  have hkl : k < l.length := (List.getElem?_eq_some_iff.1 hz).1
  obtain ⟨g, off, rfl, hgl, hc⟩ := rf_at h.r k z hz hkl
  have hk2 : ¬ (k : Int) < 0 := by omega
  obtain ⟨pb, ps, pc, pr⟩ := p
  obtain ⟨⟨vk, vn, vt, vb, vf⟩, ver, inc, has, stale, lost⟩ := e
  simp only at hh
  subst hh
  unfold Lk.val at F
  unfold Vl.val at G
  unfold vZero at EQ
  unfold rfVal
  simp only at F G EQ  ⊢
  have HF := hide F
  have HG := hide G
  clear F G h hp he hq hg hz hzp hfst hc
  go_enter Try.func35, Try.ntmps35
  go_wp2_with fail
  refine Calls.mono (HF.out _ ((Upd.refl w _).alloc _)) ?_
  rintro r w1 ⟨rfl, u1⟩
  have bE := u1.get (Vnew1 w (.cells #[.string ⟨pb.toArray⟩, .string ⟨ps.toArray⟩, .int .i64 pc, .int .i64 pr, .int .i64 vk, .int .i64 vn, .string ⟨vt.toArray⟩, .bool vb, .int .i64 vf, .int .i64 ver, .int .i64 inc, .bool false, .bool stale, .bool lost] 65)) id
  obtain ⟨c0, c1, c2, c3, c4, c5, c6, c7, c8, c9, c10, c11, c12, c13⟩ := cells14 bE
  have el := lt_at bE
  have HBE := hide bE
  have HU1 := hide (((Upd.refl w (fun _ => False)).alloc (.cells #[.string ⟨pb.toArray⟩, .string ⟨ps.toArray⟩, .int .i64 pc, .int .i64 pr, .int .i64 vk, .int .i64 vn, .string ⟨vt.toArray⟩, .bool vb, .int .i64 vf, .int .i64 ver, .int .i64 inc, .bool false, .bool stale, .bool lost] 65)).then u1 (fun _ _ => id))
  clear u1 HF bE
  go_wp2_with fail
  refine Calls.mono (HG.out _) ?_
  rintro r w2 ⟨rfl, u2⟩
  have HU2 := hide (HU1.out.then u2 (fun _ _ => id))
  have HBE2 := hide (u2.get HBE.out id)
  clear u2 HU1 c0 c1 c2 c3 c4 c5 c6 c7 c8 c9 c10 c11 c12 c13 el HBE HG
  obtain ⟨c0, c1, c2, c3, c4, c5, c6, c7, c8, c9, c10, c11, c12, c13⟩ := cells14 HBE2.out
  have el := lt_at HBE2.out
  go_wp2_with fail
  go_ret
  exact ⟨rfl, HU2.out⟩
set_option maxHeartbeats 6400000 in
theorem RPut_blank (w : World) (va : Option Addr) (vc : Nat) (l : List Rf) (M : Lk → Option En) (h : RefAt w (.slice va l.length vc) l M) (hl : l.length ≤ 1000000) (p : Lk) (hp : p.ok) (e : En) (he : e.ok) (k : Nat) (z : Rf) (hz : l[k]? = some z) (hzp : z.1 = p) (hfst : ∀ j y, j < k → l[j]? = some y → y.1 ≠ p) (hh : e.has = false) (g : Bool) (hg : goodV e.v = g) (hq : eqV e.v vZero = true) :
    Calls Try.prog 35 #[.slice va l.length vc, rfVal p e] w fun r w' => r = .returned (.bool true) ∧ RefAt w' (.slice va l.length vc) (l.set k (z.1, e)) (setF M z.1 (some e)) ∧ Upd w w' (fun k => (Value.slice va l.length vc).ownBlock = some k) := by
  have G := fun w => RGood_any w e.v
  rw [hg] at G
  have EQ := eqr_at e.v vZero he.v vZ_ok hq
  have F := fun w' (u : Upd w w' (fun _ => False)) => Find_hit w' va vc l (u.rw h.r (fun _ _ => id)) (fun z hz => (h.ok z hz).1) p hp hl k z hz hzp hfst
  have hkl : k < l.length := (List.getElem?_eq_some_iff.1 hz).1
  obtain ⟨g, off, rfl, hgl, hc⟩ := rf_at h.r k z hz hkl
  have HH := hide h
  have HZ := hide hz
  have HZP := hide hzp
  have HEO := hide he
  have d0 := hc 0 _ rfl
  have d1 := hc 1 _ rfl
  have d2 := hc 2 _ rfl
  have d3 := hc 3 _ rfl
  have d4 := hc 4 _ rfl
  have d5 := hc 5 _ rfl
  have d6 := hc 6 _ rfl
  have d7 := hc 7 _ rfl
  have d8 := hc 8 _ rfl
  have d9 := hc 9 _ rfl
  have d10 := hc 10 _ rfl
  have d11 := hc 11 _ rfl
  have d12 := hc 12 _ rfl
  have d13 := hc 13 _ rfl
  rw [Nat.add_zero] at d0
  obtain ⟨N, hN⟩ : ∃ N, l.length = N := ⟨_, rfl⟩
  rw [hN] at F hkl hl ⊢
  have HN := hide hN
  have hk0 : (0 : Int) ≤ (k : Int) := by omega
  have hk1 : (k : Int) < (N : Int) := by omega
  have hk2 : ¬ (k : Int) < 0 := by omega
  obtain ⟨pb, ps, pc, pr⟩ := p
  obtain ⟨⟨vk, vn, vt, vb, vf⟩, ver, inc, has, stale, lost⟩ := e
  simp only at hh
  subst hh
  obtain ⟨⟨zb, zs, zc, zr⟩, ⟨⟨ek, en, et, eb, ef⟩, ever, einc, ehas, estale, elost⟩⟩ := z
  unfold Lk.val at F
  unfold Vl.val at G
  unfold vZero at EQ
  unfold rfVal
  simp only at F G EQ d0 d1 d2 d3 d4 d5 d6 d7 d8 d9 d10 d11 d12 d13 ⊢
  have HF := hide F
  have HG := hide G
  clear F G h hp he hq hg hz hzp hfst hc hN
  go_enter Try.func35, Try.ntmps35
  go_wp2_with fail
  refine Calls.mono (HF.out _ ((Upd.refl w _).alloc _)) ?_
  rintro r w1 ⟨rfl, u1⟩
  have bE := u1.get (Vnew1 w (.cells #[.string ⟨pb.toArray⟩, .string ⟨ps.toArray⟩, .int .i64 pc, .int .i64 pr, .int .i64 vk, .int .i64 vn, .string ⟨vt.toArray⟩, .bool vb, .int .i64 vf, .int .i64 ver, .int .i64 inc, .bool false, .bool stale, .bool lost] 65)) id
  obtain ⟨c0, c1, c2, c3, c4, c5, c6, c7, c8, c9, c10, c11, c12, c13⟩ := cells14 bE
  have el := lt_at bE
  have HBE := hide bE
  have HU1 := hide (((Upd.refl w (fun _ => False)).alloc (.cells #[.string ⟨pb.toArray⟩, .string ⟨ps.toArray⟩, .int .i64 pc, .int .i64 pr, .int .i64 vk, .int .i64 vn, .string ⟨vt.toArray⟩, .bool vb, .int .i64 vf, .int .i64 ver, .int .i64 inc, .bool false, .bool stale, .bool lost] 65)).then u1 (fun _ _ => id))
  clear u1 HF bE
  go_wp2_with fail
  refine Calls.mono (HG.out _) ?_
  rintro r w2 ⟨rfl, u2⟩
  have HU2 := hide (HU1.out.then u2 (fun _ _ => id))
  have HBE2 := hide (u2.get HBE.out id)
  clear u2 HU1 c0 c1 c2 c3 c4 c5 c6 c7 c8 c9 c10 c11 c12 c13 el HBE HG
  obtain ⟨c0, c1, c2, c3, c4, c5, c6, c7, c8, c9, c10, c11, c12, c13⟩ := cells14 HBE2.out
  have el := lt_at HBE2.out
  have q0 := (HU2.out.cell g _ hgl id).trans d0
  have q1 := (HU2.out.cell g _ hgl id).trans d1
  have q2 := (HU2.out.cell g _ hgl id).trans d2
  have q3 := (HU2.out.cell g _ hgl id).trans d3
  have q4 := (HU2.out.cell g _ hgl id).trans d4
  have q5 := (HU2.out.cell g _ hgl id).trans d5
  have q6 := (HU2.out.cell g _ hgl id).trans d6
  have q7 := (HU2.out.cell g _ hgl id).trans d7
  have q8 := (HU2.out.cell g _ hgl id).trans d8
  have q9 := (HU2.out.cell g _ hgl id).trans d9
  have q10 := (HU2.out.cell g _ hgl id).trans d10
  have q11 := (HU2.out.cell g _ hgl id).trans d11
  have q12 := (HU2.out.cell g _ hgl id).trans d12
  have q13 := (HU2.out.cell g _ hgl id).trans d13
  have gl2 := Nat.lt_of_lt_of_le hgl HU2.out.size
  clear d0 d1 d2 d3 d4 d5 d6 d7 d8 d9 d10 d11 d12 d13
  have fr := fun o => Rw.free (HU2.out.rw HH.out.r (fun _ _ => id)) o
  simp only at fr
  have f0 := fr (off + k * 14)
  have f1 := fr (off + k * 14 + 1)
  have f2 := fr (off + k * 14 + 2)
  have f3 := fr (off + k * 14 + 3)
  have f4 := fr (off + k * 14 + 4)
  have f5 := fr (off + k * 14 + 5)
  have f6 := fr (off + k * 14 + 6)
  have f7 := fr (off + k * 14 + 7)
  have f8 := fr (off + k * 14 + 8)
  have f9 := fr (off + k * 14 + 9)
  have f10 := fr (off + k * 14 + 10)
  have f11 := fr (off + k * 14 + 11)
  have f12 := fr (off + k * 14 + 12)
  have f13 := fr (off + k * 14 + 13)
  clear fr
  have ng : g ≠ w.heap.size := by omega
  go_wp2_with fail
  go_ret
  have ez := HZP.out
  simp only [Lk.mk.injEq] at ez
  obtain ⟨rfl, rfl, rfl, rfl⟩ := ez
  refine ⟨rfl, ?_, ?_⟩
  · have r2 := Rw.setMany (rfEnc (⟨zb, zs, zc, zr⟩, ⟨⟨vk, vn, vt, vb, vf⟩, ver, inc, false, stale, lost⟩)) (HU2.out.rw HH.out.r (fun _ _ => id)) (k * 14) (by rw [rfEnc_len]; have := HN.out; omega)
    rw [← rfCells_set l k _ (by rw [HN.out]; exact hkl)] at r2
    have r3 := HH.out.set HZ.out ⟨⟨vk, vn, vt, vb, vf⟩, ver, inc, false, stale, lost⟩ HEO.out r2
    rw [HN.out] at r3
    exact r3
  · exact Upd.setCells (S := fun k => (Value.slice (some ⟨g, off, none⟩) N vc).ownBlock = some k) (g := g) (.inr rfl) (rfEnc (⟨zb, zs, zc, zr⟩, ⟨⟨vk, vn, vt, vb, vf⟩, ver, inc, false, stale, lost⟩)) (HU2.out.weaken (fun _ _ e => e.elim)) (off + k * 14)
theorem RPut_any (w : World) (va : Option Addr) (vc : Nat) (l : List Rf) (M : Lk → Option En) (h : RefAt w (.slice va l.length vc) l M) (hl : l.length ≤ 1000000) (p : Lk) (hp : p.ok) (e : En) (he : e.ok) :
    Calls Try.prog 35 #[.slice va l.length vc, rfVal p e] w fun r w' => r = .returned (.bool (putOk (M p) e)) ∧ (∃ l', l'.length = l.length ∧ RefAt w' (.slice va l.length vc) l' (putM M p e)) ∧ Upd w w' (fun k => (Value.slice va l.length vc).ownBlock = some k) := by
  unfold putM putOk
  rcases h.cases p hp with ⟨k, z, h1, h2, h3, -, h4⟩ | ⟨h1, h2⟩
  · rw [h3]
    cases hh : e.has with
    | true =>
      cases hg : goodV e.v with
      | false =>
        refine Calls.mono (RPut_bad w va vc l M h hl p hp e he k z h1 h2 h4 hh hg _ rfl) ?_
        rintro r w' ⟨rfl, u⟩
        exact ⟨rfl, ⟨l, rfl, h.upd u (fun _ _ => id)⟩, u.weaken fun _ _ e => e.elim⟩
      | true =>
        refine Calls.mono (RPut_good w va vc l M h hl p hp e he k z h1 h2 h4 hh hg _ rfl) ?_
        rintro r w' ⟨rfl, r2, u⟩
        rw [h2] at r2
        exact ⟨rfl, ⟨_, by simp, r2⟩, u⟩
    | false =>
      cases hq : eqV e.v vZero with
      | false =>
        refine Calls.mono (RPut_full w va vc l M h hl p hp e he k z h1 h2 h4 hh _ rfl hq) ?_
        rintro r w' ⟨rfl, u⟩
        exact ⟨rfl, ⟨l, rfl, h.upd u (fun _ _ => id)⟩, u.weaken fun _ _ e => e.elim⟩
      | true =>
        refine Calls.mono (RPut_blank w va vc l M h hl p hp e he k z h1 h2 h4 hh _ rfl hq) ?_
        rintro r w' ⟨rfl, r2, u⟩
        rw [h2] at r2
        exact ⟨rfl, ⟨_, by simp, r2⟩, u⟩
  · rw [h1]
    refine Calls.mono (RPut_miss w va vc l M h hl p hp e he h2 _ rfl _ rfl) ?_
    rintro r w' ⟨rfl, u⟩
    exact ⟨rfl, ⟨l, rfl, h.upd u (fun _ _ => id)⟩, u.weaken fun _ _ e => e.elim⟩
end Go.Proofs.Ytcclkfkdafmemaa
