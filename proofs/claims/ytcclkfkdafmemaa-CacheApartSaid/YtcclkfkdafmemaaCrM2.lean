/- The law's act: a branch. -/
import Derived.Test.YtcclkfkdafmemaaCrM
set_option maxRecDepth 100000
namespace Go.Proofs.Ytcclkfkdafmemaa
open Go.RowKit Go.Lat

set_option maxHeartbeats 12800000 in
theorem act_lose (w W : World) (b bm n : Nat) (D : DataW Value) (v : Value) (l : List Rf) (M : Lk → Option En) (h : Both w W b bm n D v l M) (hn : n ≤ 900000) (hl : l.length ≤ 20) (x : AcD) (lv : Value) (hlv : PlArg W lv x.l) (hx : x.ok) (m : Int) (hm : (x.dov.tmod 6 + 6).tmod 6 = m) (hm2 : m = 4) :
    Calls Try.prog 16 #[.pointer (some ⟨b, 0, none⟩), v, acVal x lv] W (ActPost w W b bm n v) := by
  subst hm2
  obtain ⟨va, vc, rfl⟩ := h.f
  obtain ⟨R, hR⟩ : ∃ R, x.dov.tmod 6 = R := ⟨_, rfl⟩
  rw [hR] at hm
  have hRb : -6 < R ∧ R < 6 := by
    have h1 := Int.natAbs_tmod x.dov 6
    rw [hR] at h1
    have : x.dov.natAbs % 6 < 6 := Nat.mod_lt _ (by decide)
    simp at h1
    omega
  have wr0 : IntKind.i64.wrap R = R := IntWalk.i64_in _ (by omega)
  have wr1 : IntKind.i64.wrap (R + 6) = R + 6 := IntWalk.i64_in _ (by omega)
  obtain ⟨la, lcap, elv, -⟩ := id hlv
  obtain ⟨N, hN⟩ : ∃ N, l.length = N := ⟨_, rfl⟩
  have HN := hide hN
  have pok := Lk.cut_ok hx.p
  have vok := cutV_ok hx.v
  have HX := hide hx
  have HLV := hide hlv
  have HB := hide h
  clear hlv h hx
  obtain ⟨dov, xl, ⟨pb, ps, pc, pr⟩, ver, inc, ⟨vk, vn, vt, vb, vf⟩, has, stale, lost⟩ := x
  obtain ⟨nl, hnl⟩ : ∃ n, xl.length = n := ⟨_, rfl⟩
  simp only at elv hR
  rw [hnl] at elv
  subst elv
  have HNL := hide hnl
  obtain ⟨tb, htb⟩ : ∃ t, pb.take 20 = t := ⟨_, rfl⟩
  obtain ⟨ts, hts⟩ : ∃ t, ps.take 20 = t := ⟨_, rfl⟩
  obtain ⟨tc, htc⟩ : ∃ t, vt.take 300 = t := ⟨_, rfl⟩
  have LA := fun w => link_at w pb ps tb ts pc pr htb hts
  have VA := fun w => values_any w vk vn vt tc vb vf htc
  unfold Lk.cut at pok
  unfold cutV at vok
  simp only [htb, hts, htc] at pok vok
  rw [hN]
  unfold acVal AcD.cs
  simp only
  have HLA := hide LA
  have HVA := hide VA
  have HPOK := hide pok
  have HVOK := hide vok
  have bx0 := Vnew1 W (.cells #[.int .i64 dov, .slice la nl lcap, .string ⟨pb.toArray⟩, .string ⟨ps.toArray⟩, .int .i64 pc, .int .i64 pr, .int .i64 ver, .int .i64 inc, .int .i64 vk, .int .i64 vn, .string ⟨vt.toArray⟩, .bool vb, .int .i64 vf, .bool has, .bool stale, .bool lost] 41)
  have HBX0 := hide bx0
  clear LA VA pok vok htb hts htc hN hnl bx0
  go_enter Try.func16, Try.ntmps16
  go_upto_region 14 with (first
    | (go_at_call 8; refine Calls.mono (HLA.out _) ?_; rintro e w1 ⟨rfl, u1⟩; have b1 := u1.get HBX0.out id; have x8 := cell_at b1 8 _ rfl; have x9 := cell_at b1 9 _ rfl; have x10 := cell_at b1 10 _ rfl; have x11 := cell_at b1 11 _ rfl; have x12 := cell_at b1 12 _ rfl; have xl1 := lt_at b1; have HSZ1 := hide xl1; have HBX1 := hide b1; have HU1 := hide (((Upd.refl W (fun _ => False)).alloc (.cells #[.int .i64 dov, .slice la nl lcap, .string ⟨pb.toArray⟩, .string ⟨ps.toArray⟩, .int .i64 pc, .int .i64 pr, .int .i64 ver, .int .i64 inc, .int .i64 vk, .int .i64 vn, .string ⟨vt.toArray⟩, .bool vb, .int .i64 vf, .bool has, .bool stale, .bool lost] 41)).then u1 (fun _ _ => id)); clear b1 u1)
    | (go_at_call 10; refine Calls.mono (HVA.out _) ?_; rintro e w2 ⟨rfl, u2⟩; have b2 := u2.get (block_alloc (block_alloc HBX1.out (.cells #[.string ⟨tb.toArray⟩, .string ⟨ts.toArray⟩, .int .i64 pc, .int .i64 pr] 30)) (.cells #[.string ⟨tb.toArray⟩, .string ⟨ts.toArray⟩, .int .i64 pc, .int .i64 pr] 31)) id; have y0 := cell_at b2 0 _ rfl; have xl2 := lt_at b2; have HSZ2 := hide xl2; have HBX2 := hide b2; have HBA := hide (u2.get (block_alloc (Vnew1 w1 (.cells #[.string ⟨tb.toArray⟩, .string ⟨ts.toArray⟩, .int .i64 pc, .int .i64 pr] 30)) (.cells #[.string ⟨tb.toArray⟩, .string ⟨ts.toArray⟩, .int .i64 pc, .int .i64 pr] 31)) id); have HBB := hide (u2.get (Vnew2 w1 (.cells #[.string ⟨tb.toArray⟩, .string ⟨ts.toArray⟩, .int .i64 pc, .int .i64 pr] 30) (.cells #[.string ⟨tb.toArray⟩, .string ⟨ts.toArray⟩, .int .i64 pc, .int .i64 pr] 31)) id); have HU2 := hide (((HU1.out.alloc (.cells #[.string ⟨tb.toArray⟩, .string ⟨ts.toArray⟩, .int .i64 pc, .int .i64 pr] 30)).alloc (.cells #[.string ⟨tb.toArray⟩, .string ⟨ts.toArray⟩, .int .i64 pc, .int .i64 pr] 31)).then u2 (fun _ _ => id)); clear b2 u2 x8 x9 x10 x11 x12 xl1))
  obtain ⟨W4, hW4⟩ : ∃ W4, (w2.alloc (.cells #[.int .i64 vk, .int .i64 vn, .string ⟨tc.toArray⟩, .bool vb, .int .i64 vf] 46)).alloc (.cells #[.int .i64 vk, .int .i64 vn, .string ⟨tc.toArray⟩, .bool vb, .int .i64 vf] 47) = W4 := ⟨_, rfl⟩
  have bX := block_alloc (block_alloc HBX2.out (.cells #[.int .i64 vk, .int .i64 vn, .string ⟨tc.toArray⟩, .bool vb, .int .i64 vf] 46)) (.cells #[.int .i64 vk, .int .i64 vn, .string ⟨tc.toArray⟩, .bool vb, .int .i64 vf] 47)
  have bA := block_alloc (block_alloc HBA.out (.cells #[.int .i64 vk, .int .i64 vn, .string ⟨tc.toArray⟩, .bool vb, .int .i64 vf] 46)) (.cells #[.int .i64 vk, .int .i64 vn, .string ⟨tc.toArray⟩, .bool vb, .int .i64 vf] 47)
  have bB := block_alloc (block_alloc HBB.out (.cells #[.int .i64 vk, .int .i64 vn, .string ⟨tc.toArray⟩, .bool vb, .int .i64 vf] 46)) (.cells #[.int .i64 vk, .int .i64 vn, .string ⟨tc.toArray⟩, .bool vb, .int .i64 vf] 47)
  have bC := block_alloc (Vnew1 w2 (.cells #[.int .i64 vk, .int .i64 vn, .string ⟨tc.toArray⟩, .bool vb, .int .i64 vf] 46)) (.cells #[.int .i64 vk, .int .i64 vn, .string ⟨tc.toArray⟩, .bool vb, .int .i64 vf] 47)
  have bD := Vnew2 w2 (.cells #[.int .i64 vk, .int .i64 vn, .string ⟨tc.toArray⟩, .bool vb, .int .i64 vf] 46) (.cells #[.int .i64 vk, .int .i64 vn, .string ⟨tc.toArray⟩, .bool vb, .int .i64 vf] 47)
  have u4 := (HU2.out.alloc (.cells #[.int .i64 vk, .int .i64 vn, .string ⟨tc.toArray⟩, .bool vb, .int .i64 vf] 46)).alloc (.cells #[.int .i64 vk, .int .i64 vn, .string ⟨tc.toArray⟩, .bool vb, .int .i64 vf] 47)
  rw [hW4] at bX bA bB bC bD u4
  have HW4 := hide hW4
  have HU4 := hide u4
  have h4 := HB.out.upd u4
  obtain ⟨a0, a1, a2, a3⟩ := cells4 bA
  obtain ⟨p0, p1, p2, p3⟩ := cells4 bB
  obtain ⟨c0, c1, c2, c3, c4⟩ := cells5 bC
  obtain ⟨d0, d1, d2, d3, d4⟩ := cells5 bD
  have z0 := cell_at bX 0 _ rfl
  have z1 := cell_at bX 1 _ rfl
  have z6 := cell_at bX 6 _ rfl
  have z7 := cell_at bX 7 _ rfl
  have z13 := cell_at bX 13 _ rfl
  have z14 := cell_at bX 14 _ rfl
  have z15 := cell_at bX 15 _ rfl
  have lA := lt_at bA
  have lB := lt_at bB
  have lC := lt_at bC
  have lD := lt_at bD
  have lX := lt_at bX
  have nA := h4.c.nbm bA
  have nB := h4.c.nbm bB
  have nC := h4.c.nbm bC
  have nD := h4.c.nbm bD
  have nX := h4.c.nbm bX
  have HA4 := hide bA
  have HB4 := hide bB
  have HC4 := hide bC
  have HD4 := hide bD
  have HX4 := hide bX
  have H4 := hide h4
  rw [HW4.out]
  clear hW4 u4 bX bA bB bC bD h4 y0 xl2 HBX2 HBA HBB HBX1 HU1 HU2 HBX0 hR
  have ST := Lose_any W4 b bm n D M H4.out.c (by omega) tb
  have HST := hide ST
  clear ST
  have HMK : Hid (∀ w5, Upd W4 w5 (fun k => k = bm) → Calls Try.prog 34 #[.slice va N vc, .string ⟨tb.toArray⟩, .bool true] w5 fun e w' => e = .returned (.tuple #[]) ∧ RefAt w' (.slice va N vc) (l.map (mkR tb loseE)) (MB M loseE tb) ∧ Upd w5 w' (fun k => (Value.slice va N vc).ownBlock = some k)) := hide (fun w5 u5 => by
    have r5 := H4.out.r.upd u5 (fun k hk e => (H4.out.ne hk).2 e)
    have q := RMarkLose_any w5 va vc l M r5 (by omega) tb
    rw [HN.out] at q
    exact q)
  go_wp2_with (first
    | (go_at_call 27; refine Calls.mono HST.out ?_; rintro e w5 ⟨rfl, ⟨D5, hc5⟩, u5⟩; have p0' := (u5.cell (w1.heap.size + 1) 0 lB nB).trans p0; have lB5 := Nat.lt_of_lt_of_le lB u5.size; have HC5 := hide hc5; have HU5 := hide u5; clear hc5 u5)
    | (go_at_call 34; refine Calls.mono (HMK.out _ HU5.out) ?_; rintro e w6 ⟨rfl, r6, u6⟩; have HR6 := hide r6; have HU6 := hide u6; clear r6 u6))
  go_ret2
  have hl2 : (l.map (mkR tb loseE)).length = N := by rw [List.length_map, HN.out]
  have nbb : ∀ k, (Value.slice va N vc).ownBlock = some k → k ≠ b ∧ k ≠ bm := fun k hk => H4.out.ne (k := k) (by rw [HN.out]; exact hk)
  refine ⟨_, n, D5, l.map (mkR tb loseE), _, rfl, by omega, by rw [hl2]; have := HN.out; omega, ⟨HC5.out.upd HU6.out (fun e => (nbb _ e).1 rfl) (fun e => (nbb _ e).2 rfl), HR6.out, ⟨va, vc, by rw [hl2]; rfl⟩, HB.out.bb, HB.out.bbm, fun k hk => HB.out.bv k (by rw [HN.out]; exact hk)⟩, ?_⟩
  exact ((HU4.out.weaken (T := ActF bm (.slice va N vc)) (fun _ _ e => e.elim)).then HU5.out (fun _ _ e => .inl e)).then HU6.out (fun _ _ e => .inr e)
end Go.Proofs.Ytcclkfkdafmemaa
