/- The law's act: a branch. -/
import Derived.Test.YtcclkfkdafmemaaCrM
set_option maxRecDepth 100000
namespace Go.Proofs.Ytcclkfkdafmemaa
open Go.RowKit Go.Lat

set_option maxHeartbeats 12800000 in
theorem act_take (w W : World) (b bm n : Nat) (D : DataW Value) (v : Value) (l : List Rf) (M : Lk → Option En) (h : Both w W b bm n D v l M) (hn : n ≤ 900000) (hl : l.length ≤ 20) (x : AcD) (lv : Value) (hlv : PlArg W lv x.l) (hx : x.ok) (m : Int) (hm : (x.dov.tmod 6 + 6).tmod 6 = m) (h0 : m ≠ 0) (h3 : m ≠ 3) (h4 : m ≠ 4) (h5 : m ≠ 5) :
    Calls Try.prog 16 #[.pointer (some ⟨b, 0, none⟩), v, acVal x lv] W (ActPost w W b bm n v) := by
  obtain ⟨va, vc, rfl⟩ := h.f
  have q0 : (m == 0) = false := by simpa using h0
  have q3 : (m == 3) = false := by simpa using h3
  have q4 : (m == 4) = false := by simpa using h4
  have q5 : (m == 5) = false := by simpa using h5
  clear h0 h3 h4 h5
  obtain ⟨R, hR⟩ : ∃ R, x.dov.tmod 6 = R := ⟨_, rfl⟩
  rw [hR] at hm
  have hRb : -6 < R ∧ R < 6 := by
    have h1 := Int.natAbs_tmod x.dov 6
    rw [hR] at h1
    have : x.dov.natAbs % 6 < 6 := Nat.mod_lt _ (by decide)
    simp at h1
    omega
  have hmb : 0 ≤ m ∧ m < 6 := by
    rw [← hm, Int.tmod_eq_emod_of_nonneg (by omega)]
    exact ⟨Int.emod_nonneg _ (by decide), Int.emod_lt_of_pos _ (by decide)⟩
  have wr0 : IntKind.i64.wrap R = R := IntWalk.i64_in _ (by omega)
  have wr1 : IntKind.i64.wrap (R + 6) = R + 6 := IntWalk.i64_in _ (by omega)
  have wr2 : IntKind.i64.wrap m = m := IntWalk.i64_in _ (by omega)
  obtain ⟨la, lcap, elv, -⟩ := id hlv
  obtain ⟨N, hN⟩ : ∃ N, l.length = N := ⟨_, rfl⟩
  have HN := hide hN
  have pok := Lk.cut_ok hx.p
  have vok := cutV_ok hx.v
  have HX := hide hx
  have HLV := hide hlv
  have HB := hide h
  clear hlv h hx
  obtain ⟨dov, xl, ⟨pb, ps, pc, pr⟩, ver, inc, ⟨vk, vn, vt, vb, vf⟩, has, stale, lost⟩ := x
  obtain ⟨nl, hnl⟩ : ∃ n, xl.length = n := ⟨_, rfl⟩
  simp only at elv hR
  rw [hnl] at elv
  subst elv
  have HNL := hide hnl
  obtain ⟨tb, htb⟩ : ∃ t, pb.take 20 = t := ⟨_, rfl⟩
  obtain ⟨ts, hts⟩ : ∃ t, ps.take 20 = t := ⟨_, rfl⟩
  obtain ⟨tc, htc⟩ : ∃ t, vt.take 300 = t := ⟨_, rfl⟩
  have LA := fun w => link_at w pb ps tb ts pc pr htb hts
  have VA := fun w => values_any w vk vn vt tc vb vf htc
  unfold Lk.cut at pok
  unfold cutV at vok
  simp only [htb, hts, htc] at pok vok
  rw [hN]
  unfold acVal AcD.cs
  simp only
  have HLA := hide LA
  have HVA := hide VA
  have HPOK := hide pok
  have HVOK := hide vok
  have bx0 := Vnew1 W (.cells #[.int .i64 dov, .slice la nl lcap, .string ⟨pb.toArray⟩, .string ⟨ps.toArray⟩, .int .i64 pc, .int .i64 pr, .int .i64 ver, .int .i64 inc, .int .i64 vk, .int .i64 vn, .string ⟨vt.toArray⟩, .bool vb, .int .i64 vf, .bool has, .bool stale, .bool lost] 41)
  have HBX0 := hide bx0
  clear LA VA pok vok htb hts htc hN hnl bx0
  go_enter Try.func16, Try.ntmps16
  go_upto_region 20 with (first
    | (go_at_call 8; refine Calls.mono (HLA.out _) ?_; rintro e w1 ⟨rfl, u1⟩; have b1 := u1.get HBX0.out id; have x8 := cell_at b1 8 _ rfl; have x9 := cell_at b1 9 _ rfl; have x10 := cell_at b1 10 _ rfl; have x11 := cell_at b1 11 _ rfl; have x12 := cell_at b1 12 _ rfl; have xl1 := lt_at b1; have HSZ1 := hide xl1; have HBX1 := hide b1; have HU1 := hide (((Upd.refl W (fun _ => False)).alloc (.cells #[.int .i64 dov, .slice la nl lcap, .string ⟨pb.toArray⟩, .string ⟨ps.toArray⟩, .int .i64 pc, .int .i64 pr, .int .i64 ver, .int .i64 inc, .int .i64 vk, .int .i64 vn, .string ⟨vt.toArray⟩, .bool vb, .int .i64 vf, .bool has, .bool stale, .bool lost] 41)).then u1 (fun _ _ => id)); clear b1 u1)
    | (go_at_call 10; refine Calls.mono (HVA.out _) ?_; rintro e w2 ⟨rfl, u2⟩; have b2 := u2.get (block_alloc (block_alloc HBX1.out (.cells #[.string ⟨tb.toArray⟩, .string ⟨ts.toArray⟩, .int .i64 pc, .int .i64 pr] 30)) (.cells #[.string ⟨tb.toArray⟩, .string ⟨ts.toArray⟩, .int .i64 pc, .int .i64 pr] 31)) id; have y0 := cell_at b2 0 _ rfl; have xl2 := lt_at b2; have HSZ2 := hide xl2; have HBX2 := hide b2; have HBA := hide (u2.get (block_alloc (Vnew1 w1 (.cells #[.string ⟨tb.toArray⟩, .string ⟨ts.toArray⟩, .int .i64 pc, .int .i64 pr] 30)) (.cells #[.string ⟨tb.toArray⟩, .string ⟨ts.toArray⟩, .int .i64 pc, .int .i64 pr] 31)) id); have HBB := hide (u2.get (Vnew2 w1 (.cells #[.string ⟨tb.toArray⟩, .string ⟨ts.toArray⟩, .int .i64 pc, .int .i64 pr] 30) (.cells #[.string ⟨tb.toArray⟩, .string ⟨ts.toArray⟩, .int .i64 pc, .int .i64 pr] 31)) id); have HU2 := hide (((HU1.out.alloc (.cells #[.string ⟨tb.toArray⟩, .string ⟨ts.toArray⟩, .int .i64 pc, .int .i64 pr] 30)).alloc (.cells #[.string ⟨tb.toArray⟩, .string ⟨ts.toArray⟩, .int .i64 pc, .int .i64 pr] 31)).then u2 (fun _ _ => id)); clear b2 u2 x8 x9 x10 x11 x12 xl1))
  obtain ⟨W4, hW4⟩ : ∃ W4, (w2.alloc (.cells #[.int .i64 vk, .int .i64 vn, .string ⟨tc.toArray⟩, .bool vb, .int .i64 vf] 46)).alloc (.cells #[.int .i64 vk, .int .i64 vn, .string ⟨tc.toArray⟩, .bool vb, .int .i64 vf] 47) = W4 := ⟨_, rfl⟩
  have bX := block_alloc (block_alloc HBX2.out (.cells #[.int .i64 vk, .int .i64 vn, .string ⟨tc.toArray⟩, .bool vb, .int .i64 vf] 46)) (.cells #[.int .i64 vk, .int .i64 vn, .string ⟨tc.toArray⟩, .bool vb, .int .i64 vf] 47)
  have bA := block_alloc (block_alloc HBA.out (.cells #[.int .i64 vk, .int .i64 vn, .string ⟨tc.toArray⟩, .bool vb, .int .i64 vf] 46)) (.cells #[.int .i64 vk, .int .i64 vn, .string ⟨tc.toArray⟩, .bool vb, .int .i64 vf] 47)
  have bB := block_alloc (block_alloc HBB.out (.cells #[.int .i64 vk, .int .i64 vn, .string ⟨tc.toArray⟩, .bool vb, .int .i64 vf] 46)) (.cells #[.int .i64 vk, .int .i64 vn, .string ⟨tc.toArray⟩, .bool vb, .int .i64 vf] 47)
  have bC := block_alloc (Vnew1 w2 (.cells #[.int .i64 vk, .int .i64 vn, .string ⟨tc.toArray⟩, .bool vb, .int .i64 vf] 46)) (.cells #[.int .i64 vk, .int .i64 vn, .string ⟨tc.toArray⟩, .bool vb, .int .i64 vf] 47)
  have bD := Vnew2 w2 (.cells #[.int .i64 vk, .int .i64 vn, .string ⟨tc.toArray⟩, .bool vb, .int .i64 vf] 46) (.cells #[.int .i64 vk, .int .i64 vn, .string ⟨tc.toArray⟩, .bool vb, .int .i64 vf] 47)
  have u4 := (HU2.out.alloc (.cells #[.int .i64 vk, .int .i64 vn, .string ⟨tc.toArray⟩, .bool vb, .int .i64 vf] 46)).alloc (.cells #[.int .i64 vk, .int .i64 vn, .string ⟨tc.toArray⟩, .bool vb, .int .i64 vf] 47)
  rw [hW4] at bX bA bB bC bD u4
  have HW4 := hide hW4
  have HU4 := hide u4
  have h4 := HB.out.upd u4
  obtain ⟨a0, a1, a2, a3⟩ := cells4 bA
  obtain ⟨p0, p1, p2, p3⟩ := cells4 bB
  obtain ⟨c0, c1, c2, c3, c4⟩ := cells5 bC
  obtain ⟨d0, d1, d2, d3, d4⟩ := cells5 bD
  have z0 := cell_at bX 0 _ rfl
  have z1 := cell_at bX 1 _ rfl
  have z6 := cell_at bX 6 _ rfl
  have z7 := cell_at bX 7 _ rfl
  have z13 := cell_at bX 13 _ rfl
  have z14 := cell_at bX 14 _ rfl
  have z15 := cell_at bX 15 _ rfl
  have lA := lt_at bA
  have lB := lt_at bB
  have lC := lt_at bC
  have lD := lt_at bD
  have lX := lt_at bX
  have nA := h4.c.nbm bA
  have nB := h4.c.nbm bB
  have nC := h4.c.nbm bC
  have nD := h4.c.nbm bD
  have nX := h4.c.nbm bX
  have HA4 := hide bA
  have HB4 := hide bB
  have HC4 := hide bC
  have HD4 := hide bD
  have HX4 := hide bX
  have H4 := hide h4
  rw [HW4.out]
  clear hW4 u4 bX bA bB bC bD h4 y0 xl2 HBX2 HBA HBB HBX1 HU1 HU2 HBX0 hR hmb
  have nbb : ∀ k, (Value.slice va N vc).ownBlock = some k → k ≠ b ∧ k ≠ bm := fun k hk => H4.out.ne (k := k) (by rw [HN.out]; exact hk)
  have vlt : ∀ k, (Value.slice va N vc).ownBlock = some k → k < W.heap.size := fun k hk => HB.out.r.r.lt k (by rw [HN.out]; exact hk)
  have sz1 : W.heap.size < w1.heap.size := HSZ1.out
  have sz2 : W.heap.size < w2.heap.size := HSZ2.out
  have mA : ¬ (Value.slice va N vc).ownBlock = some w1.heap.size := fun e => by have := vlt _ e; omega
  have mB : ¬ (Value.slice va N vc).ownBlock = some (w1.heap.size + 1) := fun e => by have := vlt _ e; omega
  have mC : ¬ (Value.slice va N vc).ownBlock = some w2.heap.size := fun e => by have := vlt _ e; omega
  have mD : ¬ (Value.slice va N vc).ownBlock = some (w2.heap.size + 1) := fun e => by have := vlt _ e; omega
  have mX : ¬ (Value.slice va N vc).ownBlock = some W.heap.size := fun e => by have := vlt _ e; omega
  have TK := Take_any W4.drew b bm n D M (H4.out.upd ((Upd.refl W4 (fun _ => False)).drew)).c (by omega) ⟨tb, ts, pc, pr⟩ ⟨vk, vn, tc, vb, vf⟩ ver inc HPOK.out HVOK.out
  have HRT : Hid (∀ w5, Upd W4.drew w5 (fun k => k = bm) → Calls Try.prog 36 #[.slice va N vc, (Lk.mk tb ts pc pr).val, .int .i64 ver, (Vl.mk vk vn tc vb vf).val, .int .i64 inc] w5 fun r w' => r = .returned (.bool (takeOk (M ⟨tb, ts, pc, pr⟩) ⟨vk, vn, tc, vb, vf⟩ ver inc)) ∧ (∃ l', l'.length = N ∧ RefAt w' (.slice va N vc) l' (takeM M ⟨tb, ts, pc, pr⟩ ⟨vk, vn, tc, vb, vf⟩ ver inc)) ∧ Upd w5 w' (fun k => (Value.slice va N vc).ownBlock = some k)) := hide (fun w5 u5 => by
    have r5 := (H4.out.upd ((Upd.refl W4 (fun _ => False)).drew)).r.upd u5 (fun k hk e => (H4.out.ne hk).2 e)
    have q := RTake_any w5 va vc l M r5 (by omega) ⟨tb, ts, pc, pr⟩ HPOK.out ⟨vk, vn, tc, vb, vf⟩ HVOK.out ver inc HX.out.ver HX.out.inc
    rw [HN.out] at q
    exact q)
  obtain ⟨Q, hQ⟩ : ∃ Q, takeOk (M ⟨tb, ts, pc, pr⟩) ⟨vk, vn, tc, vb, vf⟩ ver inc = Q := ⟨_, rfl⟩
  rw [hQ] at TK HRT
  unfold Lk.val Vl.val at TK HRT
  simp only at TK HRT
  have HTK := hide TK
  clear TK hQ
  go_region_held3 (fun w' => w'.cell? ⟨w1.heap.size, 0, none⟩ = some (.string ⟨tb.toArray⟩) ∧ w'.cell? ⟨w1.heap.size, 1, none⟩ = some (.string ⟨ts.toArray⟩) ∧ w'.cell? ⟨w1.heap.size, 2, none⟩ = some (.int .i64 pc) ∧ w'.cell? ⟨w1.heap.size, 3, none⟩ = some (.int .i64 pr) ∧ w'.cell? ⟨w1.heap.size + 1, 0, none⟩ = some (.string ⟨tb.toArray⟩) ∧ w'.cell? ⟨w1.heap.size + 1, 1, none⟩ = some (.string ⟨ts.toArray⟩) ∧ w'.cell? ⟨w1.heap.size + 1, 2, none⟩ = some (.int .i64 pc) ∧ w'.cell? ⟨w1.heap.size + 1, 3, none⟩ = some (.int .i64 pr) ∧ w'.cell? ⟨w2.heap.size, 0, none⟩ = some (.int .i64 vk) ∧ w'.cell? ⟨w2.heap.size, 1, none⟩ = some (.int .i64 vn) ∧ w'.cell? ⟨w2.heap.size, 2, none⟩ = some (.string ⟨tc.toArray⟩) ∧ w'.cell? ⟨w2.heap.size, 3, none⟩ = some (.bool vb) ∧ w'.cell? ⟨w2.heap.size, 4, none⟩ = some (.int .i64 vf) ∧ w'.cell? ⟨w2.heap.size + 1, 0, none⟩ = some (.int .i64 vk) ∧ w'.cell? ⟨w2.heap.size + 1, 1, none⟩ = some (.int .i64 vn) ∧ w'.cell? ⟨w2.heap.size + 1, 2, none⟩ = some (.string ⟨tc.toArray⟩) ∧ w'.cell? ⟨w2.heap.size + 1, 3, none⟩ = some (.bool vb) ∧ w'.cell? ⟨w2.heap.size + 1, 4, none⟩ = some (.int .i64 vf) ∧ w'.cell? ⟨W.heap.size, 6, none⟩ = some (.int .i64 ver) ∧ w'.cell? ⟨W.heap.size, 7, none⟩ = some (.int .i64 inc))
    (first | (go_split_ands; first | exact ⟨(u6.cell (w1.heap.size) 0 lA5 (fun e => mA e)).trans a0', (u6.cell (w1.heap.size) 1 lA5 (fun e => mA e)).trans a1', (u6.cell (w1.heap.size) 2 lA5 (fun e => mA e)).trans a2', (u6.cell (w1.heap.size) 3 lA5 (fun e => mA e)).trans a3', (u6.cell (w1.heap.size + 1) 0 lB5 (fun e => mB e)).trans p0', (u6.cell (w1.heap.size + 1) 1 lB5 (fun e => mB e)).trans p1', (u6.cell (w1.heap.size + 1) 2 lB5 (fun e => mB e)).trans p2', (u6.cell (w1.heap.size + 1) 3 lB5 (fun e => mB e)).trans p3', (u6.cell (w2.heap.size) 0 lC5 (fun e => mC e)).trans c0', (u6.cell (w2.heap.size) 1 lC5 (fun e => mC e)).trans c1', (u6.cell (w2.heap.size) 2 lC5 (fun e => mC e)).trans c2', (u6.cell (w2.heap.size) 3 lC5 (fun e => mC e)).trans c3', (u6.cell (w2.heap.size) 4 lC5 (fun e => mC e)).trans c4', (u6.cell (w2.heap.size + 1) 0 lD5 (fun e => mD e)).trans d0', (u6.cell (w2.heap.size + 1) 1 lD5 (fun e => mD e)).trans d1', (u6.cell (w2.heap.size + 1) 2 lD5 (fun e => mD e)).trans d2', (u6.cell (w2.heap.size + 1) 3 lD5 (fun e => mD e)).trans d3', (u6.cell (w2.heap.size + 1) 4 lD5 (fun e => mD e)).trans d4', (u6.cell (W.heap.size) 6 lX5 (fun e => mX e)).trans z6', (u6.cell (W.heap.size) 7 lX5 (fun e => mX e)).trans z7'⟩ | exact ⟨a0', a1', a2', a3', p0', p1', p2', p3', c0', c1', c2', c3', c4', d0', d1', d2', d3', d4', z6', z7'⟩) | go_keep)
    (first
      | (go_at_call 11; refine Calls.mono HTK.out ?_; rintro e w5 ⟨rfl, ⟨n5, D5, hn5, hc5⟩, u5⟩; have a0' := (u5.cell (w1.heap.size) 0 lA nA).trans a0; have a1' := (u5.cell (w1.heap.size) 1 lA nA).trans a1; have a2' := (u5.cell (w1.heap.size) 2 lA nA).trans a2; have a3' := (u5.cell (w1.heap.size) 3 lA nA).trans a3; have p0' := (u5.cell (w1.heap.size + 1) 0 lB nB).trans p0; have p1' := (u5.cell (w1.heap.size + 1) 1 lB nB).trans p1; have p2' := (u5.cell (w1.heap.size + 1) 2 lB nB).trans p2; have p3' := (u5.cell (w1.heap.size + 1) 3 lB nB).trans p3; have c0' := (u5.cell (w2.heap.size) 0 lC nC).trans c0; have c1' := (u5.cell (w2.heap.size) 1 lC nC).trans c1; have c2' := (u5.cell (w2.heap.size) 2 lC nC).trans c2; have c3' := (u5.cell (w2.heap.size) 3 lC nC).trans c3; have c4' := (u5.cell (w2.heap.size) 4 lC nC).trans c4; have d0' := (u5.cell (w2.heap.size + 1) 0 lD nD).trans d0; have d1' := (u5.cell (w2.heap.size + 1) 1 lD nD).trans d1; have d2' := (u5.cell (w2.heap.size + 1) 2 lD nD).trans d2; have d3' := (u5.cell (w2.heap.size + 1) 3 lD nD).trans d3; have d4' := (u5.cell (w2.heap.size + 1) 4 lD nD).trans d4; have z6' := (u5.cell (W.heap.size) 6 lX nX).trans z6; have z7' := (u5.cell (W.heap.size) 7 lX nX).trans z7; have lA5 := Nat.lt_of_lt_of_le lA u5.size; have lB5 := Nat.lt_of_lt_of_le lB u5.size; have lC5 := Nat.lt_of_lt_of_le lC u5.size; have lD5 := Nat.lt_of_lt_of_le lD u5.size; have lX5 := Nat.lt_of_lt_of_le lX u5.size;)
      | (go_at_call 36; refine Calls.mono (HRT.out w5 u5) ?_; rintro e w6 ⟨rfl, ⟨l6, hl6, r6⟩, u6⟩))
  go_wp2_with fail
  go_ret2
  refine ⟨_, n5, D5, l6, _, by simp, by omega, by rw [hl6, ← HN.out]; exact hl, ⟨hc5.upd u6 (fun e => (nbb _ e).1 rfl) (fun e => (nbb _ e).2 rfl), r6, ⟨va, vc, by rw [hl6]⟩, HB.out.bb, HB.out.bbm, fun k hk => HB.out.bv k (by rw [HN.out]; exact hk)⟩, ?_⟩
  exact (((HU4.out.weaken (T := ActF bm (.slice va N vc)) (fun _ _ e => e.elim)).drew).then u5 (fun _ _ e => .inl e)).then u6 (fun _ _ e => .inr e)
end Go.Proofs.Ytcclkfkdafmemaa
