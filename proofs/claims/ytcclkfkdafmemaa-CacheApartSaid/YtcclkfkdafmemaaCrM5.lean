/- The law's act: a branch. -/
import Derived.Test.YtcclkfkdafmemaaCrM
set_option maxRecDepth 100000
namespace Go.Proofs.Ytcclkfkdafmemaa
open Go.RowKit Go.Lat

set_option maxHeartbeats 12800000 in
theorem act_want (w W : World) (b bm n : Nat) (D : DataW Value) (v : Value) (l : List Rf) (M : Lk → Option En) (h : Both w W b bm n D v l M) (hn : n ≤ 900000) (hl : l.length ≤ 20) (x : AcD) (lv : Value) (hlv : PlArg W lv x.l) (hx : x.ok) (m : Int) (hm : (x.dov.tmod 6 + 6).tmod 6 = m) (hm2 : m = 0) :
    Calls Try.prog 16 #[.pointer (some ⟨b, 0, none⟩), v, acVal x lv] W (ActPost w W b bm n v) := by
  subst hm2
  obtain ⟨va, vc, rfl⟩ := h.f
  obtain ⟨R, hR⟩ : ∃ R, x.dov.tmod 6 = R := ⟨_, rfl⟩
  rw [hR] at hm
  have hRb : -6 < R ∧ R < 6 := by
    have h1 := Int.natAbs_tmod x.dov 6
    rw [hR] at h1
    have : x.dov.natAbs % 6 < 6 := Nat.mod_lt _ (by decide)
    simp at h1
    omega
  have wr0 : IntKind.i64.wrap R = R := IntWalk.i64_in _ (by omega)
  have wr1 : IntKind.i64.wrap (R + 6) = R + 6 := IntWalk.i64_in _ (by omega)
  obtain ⟨la, lcap, elv, -⟩ := id hlv
  obtain ⟨N, hN⟩ : ∃ N, l.length = N := ⟨_, rfl⟩
  have HN := hide hN
  have pok := Lk.cut_ok hx.p
  have vok := cutV_ok hx.v
  have HX := hide hx
  have HLV := hide hlv
  have HB := hide h
  clear hlv h hx
  obtain ⟨dov, xl, ⟨pb, ps, pc, pr⟩, ver, inc, ⟨vk, vn, vt, vb, vf⟩, has, stale, lost⟩ := x
  obtain ⟨nl, hnl⟩ : ∃ n, xl.length = n := ⟨_, rfl⟩
  simp only at elv hR
  rw [hnl] at elv
  subst elv
  have HNL := hide hnl
  obtain ⟨tb, htb⟩ : ∃ t, pb.take 20 = t := ⟨_, rfl⟩
  obtain ⟨ts, hts⟩ : ∃ t, ps.take 20 = t := ⟨_, rfl⟩
  obtain ⟨tc, htc⟩ : ∃ t, vt.take 300 = t := ⟨_, rfl⟩
  have LA := fun w => link_at w pb ps tb ts pc pr htb hts
  have VA := fun w => values_any w vk vn vt tc vb vf htc
  unfold Lk.cut at pok
  unfold cutV at vok
  simp only [htb, hts, htc] at pok vok
  rw [hN]
  unfold acVal AcD.cs
  simp only
  have HLA := hide LA
  have HVA := hide VA
  have HPOK := hide pok
  have HVOK := hide vok
  have bx0 := Vnew1 W (.cells #[.int .i64 dov, .slice la nl lcap, .string ⟨pb.toArray⟩, .string ⟨ps.toArray⟩, .int .i64 pc, .int .i64 pr, .int .i64 ver, .int .i64 inc, .int .i64 vk, .int .i64 vn, .string ⟨vt.toArray⟩, .bool vb, .int .i64 vf, .bool has, .bool stale, .bool lost] 41)
  have HBX0 := hide bx0
  clear LA VA pok vok htb hts htc hN hnl bx0
  go_enter Try.func16, Try.ntmps16
  go_upto_region 5 with (first
    | (go_at_call 8; refine Calls.mono (HLA.out _) ?_; rintro e w1 ⟨rfl, u1⟩; have b1 := u1.get HBX0.out id; have x8 := cell_at b1 8 _ rfl; have x9 := cell_at b1 9 _ rfl; have x10 := cell_at b1 10 _ rfl; have x11 := cell_at b1 11 _ rfl; have x12 := cell_at b1 12 _ rfl; have xl1 := lt_at b1; have HSZ1 := hide xl1; have HBX1 := hide b1; have HU1 := hide (((Upd.refl W (fun _ => False)).alloc (.cells #[.int .i64 dov, .slice la nl lcap, .string ⟨pb.toArray⟩, .string ⟨ps.toArray⟩, .int .i64 pc, .int .i64 pr, .int .i64 ver, .int .i64 inc, .int .i64 vk, .int .i64 vn, .string ⟨vt.toArray⟩, .bool vb, .int .i64 vf, .bool has, .bool stale, .bool lost] 41)).then u1 (fun _ _ => id)); clear b1 u1)
    | (go_at_call 10; refine Calls.mono (HVA.out _) ?_; rintro e w2 ⟨rfl, u2⟩; have b2 := u2.get (block_alloc (block_alloc HBX1.out (.cells #[.string ⟨tb.toArray⟩, .string ⟨ts.toArray⟩, .int .i64 pc, .int .i64 pr] 30)) (.cells #[.string ⟨tb.toArray⟩, .string ⟨ts.toArray⟩, .int .i64 pc, .int .i64 pr] 31)) id; have y0 := cell_at b2 0 _ rfl; have xl2 := lt_at b2; have HSZ2 := hide xl2; have HBX2 := hide b2; have HBA := hide (u2.get (block_alloc (Vnew1 w1 (.cells #[.string ⟨tb.toArray⟩, .string ⟨ts.toArray⟩, .int .i64 pc, .int .i64 pr] 30)) (.cells #[.string ⟨tb.toArray⟩, .string ⟨ts.toArray⟩, .int .i64 pc, .int .i64 pr] 31)) id); have HBB := hide (u2.get (Vnew2 w1 (.cells #[.string ⟨tb.toArray⟩, .string ⟨ts.toArray⟩, .int .i64 pc, .int .i64 pr] 30) (.cells #[.string ⟨tb.toArray⟩, .string ⟨ts.toArray⟩, .int .i64 pc, .int .i64 pr] 31)) id); have HU2 := hide (((HU1.out.alloc (.cells #[.string ⟨tb.toArray⟩, .string ⟨ts.toArray⟩, .int .i64 pc, .int .i64 pr] 30)).alloc (.cells #[.string ⟨tb.toArray⟩, .string ⟨ts.toArray⟩, .int .i64 pc, .int .i64 pr] 31)).then u2 (fun _ _ => id)); clear b2 u2 x8 x9 x10 x11 x12 xl1))
  obtain ⟨W4, hW4⟩ : ∃ W4, (w2.alloc (.cells #[.int .i64 vk, .int .i64 vn, .string ⟨tc.toArray⟩, .bool vb, .int .i64 vf] 46)).alloc (.cells #[.int .i64 vk, .int .i64 vn, .string ⟨tc.toArray⟩, .bool vb, .int .i64 vf] 47) = W4 := ⟨_, rfl⟩
  have bX := block_alloc (block_alloc HBX2.out (.cells #[.int .i64 vk, .int .i64 vn, .string ⟨tc.toArray⟩, .bool vb, .int .i64 vf] 46)) (.cells #[.int .i64 vk, .int .i64 vn, .string ⟨tc.toArray⟩, .bool vb, .int .i64 vf] 47)
  have bA := block_alloc (block_alloc HBA.out (.cells #[.int .i64 vk, .int .i64 vn, .string ⟨tc.toArray⟩, .bool vb, .int .i64 vf] 46)) (.cells #[.int .i64 vk, .int .i64 vn, .string ⟨tc.toArray⟩, .bool vb, .int .i64 vf] 47)
  have bB := block_alloc (block_alloc HBB.out (.cells #[.int .i64 vk, .int .i64 vn, .string ⟨tc.toArray⟩, .bool vb, .int .i64 vf] 46)) (.cells #[.int .i64 vk, .int .i64 vn, .string ⟨tc.toArray⟩, .bool vb, .int .i64 vf] 47)
  have bC := block_alloc (Vnew1 w2 (.cells #[.int .i64 vk, .int .i64 vn, .string ⟨tc.toArray⟩, .bool vb, .int .i64 vf] 46)) (.cells #[.int .i64 vk, .int .i64 vn, .string ⟨tc.toArray⟩, .bool vb, .int .i64 vf] 47)
  have bD := Vnew2 w2 (.cells #[.int .i64 vk, .int .i64 vn, .string ⟨tc.toArray⟩, .bool vb, .int .i64 vf] 46) (.cells #[.int .i64 vk, .int .i64 vn, .string ⟨tc.toArray⟩, .bool vb, .int .i64 vf] 47)
  have u4 := (HU2.out.alloc (.cells #[.int .i64 vk, .int .i64 vn, .string ⟨tc.toArray⟩, .bool vb, .int .i64 vf] 46)).alloc (.cells #[.int .i64 vk, .int .i64 vn, .string ⟨tc.toArray⟩, .bool vb, .int .i64 vf] 47)
  rw [hW4] at bX bA bB bC bD u4
  have HW4 := hide hW4
  have HU4 := hide u4
  have h4 := HB.out.upd u4
  obtain ⟨a0, a1, a2, a3⟩ := cells4 bA
  obtain ⟨p0, p1, p2, p3⟩ := cells4 bB
  obtain ⟨c0, c1, c2, c3, c4⟩ := cells5 bC
  obtain ⟨d0, d1, d2, d3, d4⟩ := cells5 bD
  have z0 := cell_at bX 0 _ rfl
  have z1 := cell_at bX 1 _ rfl
  have z6 := cell_at bX 6 _ rfl
  have z7 := cell_at bX 7 _ rfl
  have z13 := cell_at bX 13 _ rfl
  have z14 := cell_at bX 14 _ rfl
  have z15 := cell_at bX 15 _ rfl
  have lA := lt_at bA
  have lB := lt_at bB
  have lC := lt_at bC
  have lD := lt_at bD
  have lX := lt_at bX
  have nA := h4.c.nbm bA
  have nB := h4.c.nbm bB
  have nC := h4.c.nbm bC
  have nD := h4.c.nbm bD
  have nX := h4.c.nbm bX
  have HA4 := hide bA
  have HB4 := hide bB
  have HC4 := hide bC
  have HD4 := hide bD
  have HX4 := hide bX
  have H4 := hide h4
  rw [HW4.out]
  clear hW4 u4 bX bA bB bC bD h4 y0 xl2 HBX2 HBA HBB HBX1 HU1 HU2 HBX0 hR
  have PL4 : PlArg W4 (.slice la nl lcap) xl := HLV.out.upd HU4.out (fun _ _ => id)
  have HLK := hide (links_any W4 (.slice la nl lcap) xl PL4)
  obtain ⟨CU, hCU⟩ : ∃ C, cuts xl = C := ⟨_, rfl⟩
  have hcl : CU.length ≤ 20 := by
    rw [← hCU]
    unfold cuts
    simp
    omega
  have hcok : ∀ x ∈ CU, x.ok := by
    intro x hx
    rw [← hCU] at hx
    unfold cuts at hx
    obtain ⟨y, hy, rfl⟩ := List.mem_map.1 hx
    obtain ⟨a, cap, _, _, _, _, hr⟩ := PL4
    obtain ⟨i, hi⟩ := List.mem_iff_getElem?.1 (List.mem_of_mem_take hy)
    obtain ⟨_, _, _, _, _, _, _, _, ok⟩ := hr i y hi
    exact Lk.cut_ok ok
  rw [hCU] at HLK
  have HCOK := hide hcok
  clear PL4 hCU hcok
  have HHL : Hid (N ≤ 20) := hide (by rw [← HN.out]; exact hl)
  go_wp2_with (first
    | (go_at_call 23; refine Calls.mono HLK.out ?_; rintro e w5 ⟨v1, v2, rfl, r1, r2, o1, o2, u5⟩; obtain ⟨a1, c1, rfl, -⟩ := Rw.form r1; obtain ⟨a2, c2, rfl, -⟩ := Rw.form r2; have hW := Want_any w5 b bm n D M (H4.out.upd u5).c a1 c1 CU r1 HCOK.out (by omega); have HWT := hide hW; have HR1 := hide r1; have HR2 := hide r2; have HU5 := hide u5; have H5 := hide (H4.out.upd u5); have HO2 := hide o2; clear r1 r2 u5 hW o1 o2)
    | (go_at_call 9; refine Calls.mono HWT.out ?_; rintro e w6 ⟨a3, c3, k3, a4, c4, k4, rfl, r3, r4, l3, l4, ⟨n6, D6, hn6, hc6⟩, u6⟩; have nR : ∀ k, (Value.slice va N vc).ownBlock = some k → ¬ k = bm := (fun k hk => (H5.out.ne (k := k) (by rw [HN.out]; exact hk)).2); have nP : ∀ k, (Value.slice a2 CU.length c2).ownBlock = some k → ¬ k = bm := (fun k hk e => by obtain ⟨cur, hc⟩ := Rw.kind HR2.out hk; exact H5.out.c.nbm hc e); have hRW := RWant_any w6 va vc l M (H5.out.r.upd u6 (fun k hk => nR k (by rw [← HN.out]; exact hk))) (by omega) a2 c2 CU (u6.rw HR2.out nP) HCOK.out (by omega); rw [HN.out] at hRW; have HRW := hide hRW; have HR3 := hide r3; have HR4 := hide r4; have HN6 := hide hn6; have HC6 := hide hc6; have HU6 := hide u6; have HL3 := hide l3; have HL4 := hide l4; clear r3 r4 hn6 hc6 u6 nR nP hRW l3 l4)
    | (go_at_call 33; refine Calls.mono HRW.out ?_; rintro e w7 ⟨a0, c0', lo, a8, c8, k8, a9, c9, k9, rfl, r0, ll, oo, r8, r9, u7⟩; have e38 : k3 = k8 := sorted_uniq HR3.out.ord r8.ord (fun z => ⟨fun hz => (r8.mem z (HR3.out.ok z hz)).2 ((HR3.out.mem z (HR3.out.ok z hz)).1 hz), fun hz => (HR3.out.mem z (r8.ok z hz)).2 ((r8.mem z (r8.ok z hz)).1 hz)⟩); have e49 : k4 = k9 := sorted_uniq HR4.out.ord r9.ord (fun z => ⟨fun hz => (r9.mem z (HR4.out.ok z hz)).2 ((HR4.out.mem z (HR4.out.ok z hz)).1 hz), fun hz => (HR4.out.mem z (r9.ok z hz)).2 ((r9.mem z (r9.ok z hz)).1 hz)⟩); subst e38; subst e49; have hS1 := sameLinks_true w7 (.slice a3 k3.length c3) (.slice a8 k3.length c8) k3 (u7.rw HR3.out.rw (fun _ _ => id)) r8.rw (by have := HL3.out; omega); have HS1 := hide hS1; have hS2 := fun w8 (u8 : Upd w7 w8 (fun _ => False)) => sameLinks_true w8 (.slice a4 k4.length c4) (.slice a9 k4.length c9) k4 ((u7.then u8 (fun _ _ => id)).rw HR4.out.rw (fun _ _ => id)) (u8.rw r9.rw (fun _ _ => id)) (by have := HL4.out; omega); have HS2 := hide hS2; have HR0 := hide r0; have HLL := hide ll; have HOO := hide oo; have HU7 := hide u7; clear r0 ll oo r8 r9 u7 hS1 hS2)
    | (go_at_call 17; with_reducible refine Calls.mono HS1.out ?_; rintro e w8 ⟨rfl, u8⟩; have HU8 := hide u8; clear u8)
    | (go_at_call 17; with_reducible refine Calls.mono (HS2.out _ HU8.out) ?_; rintro e w9 ⟨rfl, u9⟩; have HU9 := hide u9; clear u9))
  go_ret2
  have U69 := (HU7.out.then HU8.out (fun _ _ => id)).then HU9.out (fun _ _ => id)
  have U79 := HU8.out.then HU9.out (fun _ _ => id)
  have sz : W.heap.size ≤ w6.heap.size := Nat.le_trans HU4.out.size (Nat.le_trans HU5.out.size HU6.out.size)
  have szw : w.heap.size ≤ W.heap.size := by
    obtain ⟨es, clock, hb, _⟩ := HB.out.c.m
    have := (Array.getElem?_eq_some_iff.1 hb).1
    have := HB.out.bbm
    omega
  refine ⟨_, n6, D6, lo, _, by simp, by have := HN6.out; omega, by have := HLL.out; omega, ⟨HC6.out.upd U69 id id, HR0.out.upd U79 (fun _ _ => id), ⟨a0, c0', rfl⟩, HB.out.bb, HB.out.bbm, fun k hk => by have := HOO.out k hk; omega⟩, ?_⟩
  exact (((HU4.out.weaken (T := ActF bm (.slice va N vc)) (fun _ _ e => e.elim)).then HU5.out (fun _ _ e => e.elim)).then HU6.out (fun _ _ e => .inl e)).then U69 (fun _ _ e => e.elim)
end Go.Proofs.Ytcclkfkdafmemaa
