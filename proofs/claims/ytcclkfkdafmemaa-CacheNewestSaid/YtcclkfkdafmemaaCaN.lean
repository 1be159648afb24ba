/- The walk of CacheNewest. -/
import Derived.Test.YtcclkfkdafmemaaCaW
import Derived.Test.YtcclkfkdafmemaaCaArg
set_option maxRecDepth 100000
namespace Go.Proofs.Ytcclkfkdafmemaa
open Go.RowKit Go.Lat

theorem takeD {P : Program} {ops : Array Oper} {Q : Exit → Act → World → Prop} {md : Region.Mode} {S : World → Prop} {i : Nat} {oi : Oper} {d : Option Tmp} {v : Value} {fuel : Nat} {listed : Array Bool} {a : Act} {w : World} (hi : ops[i]? = some oi) (hd : oi.dst = d)
    (hs : Region.noSelect ops = true) (hf : Region.free md ops listed i = true) (hr : (Region.ready md ops listed).contains i = true)
    (hQ : ∀ c a w, Q (.panic c) (a.put d v) w → Q (.panic c) a w) (hy : YieldsIf P ops S oi v a) (hS : S w)
    (h : wpAnyH P md ops Q S fuel (listed.setIfInBounds i true) (a.put d v) w) : wpAnyH P md ops Q S (fuel + 1) listed a w := by
  subst hd
  exact wpAnyH_take hi hs hf hr hQ hy hS h
/-- The memory of a law's walk: the cache at b, a link at X. -/
def StL (l : Lk) (w W : World) (X b bm k : Nat) (M : Lk → Option En) : Prop :=
  (∃ n D, n ≤ k ∧ Cas W b bm n D M) ∧ W.heap[X]? = some (.cells l.cs 30 (0, 0)) ∧ Upd w W (fun _ => False) ∧ w.heap.size ≤ b ∧ w.heap.size ≤ bm ∧ X ≠ bm
theorem StL.quiet {l : Lk} {w W W' : World} {X b bm k : Nat} {M : Lk → Option En} (u : Upd W W' (fun _ => False)) (h : StL l w W X b bm k M) : StL l w W' X b bm k M := by
  obtain ⟨⟨n, D, hn, hc⟩, hx, hu, h1, h2, h3⟩ := h
  exact ⟨⟨n, D, hn, hc.upd u id id⟩, u.get hx id, hu.then u (fun _ _ e => e.elim), h1, h2, h3⟩
theorem StL.take {l : Lk} (hl : l.ok) {w W : World} {X b bm k : Nat} {M : Lk → Option En} (hk : k ≤ 1000) (v : Vl) (hv : v.ok) (ver inc : Int) (h : StL l w W X b bm k M) :
    Calls Try.prog 11 #[.pointer (some ⟨b, 0, none⟩), l.val, .int .i64 ver, v.val, .int .i64 inc] W fun e w' => e = .returned (.bool (takeOk (M l) v ver inc)) ∧ StL l w w' X b bm (k + 1) (takeM M l v ver inc) ∧ Upd W w' (fun i => i = bm) := by
  obtain ⟨⟨n, D, hn, hc⟩, hx, hu, h1, h2, h3⟩ := h
  refine Calls.mono (Take_any W b bm n D M hc (by omega) l v ver inc hl hv) ?_
  rintro e w' ⟨rfl, ⟨n', D', hn', hc'⟩, u⟩
  exact ⟨rfl, ⟨⟨n', D', by omega, hc'⟩, u.get hx h3, hu.then u (fun i hi e => by omega), h1, h2, h3⟩, u⟩
theorem StL.seen {l : Lk} (hl : l.ok) {w W : World} {X b bm k : Nat} {M : Lk → Option En} (h : StL l w W X b bm k M) :
    Calls Try.prog 14 #[.pointer (some ⟨b, 0, none⟩), l.val] W fun e w' => e = .returned (seenV (M l)).val ∧ Upd W w' (fun _ => False) := by
  obtain ⟨⟨n, D, hn, hc⟩, r⟩ := id h
  exact Seen_any W b bm n D M hc l hl
theorem vE6_ok : (Vl.mk 4 0 [] false 6).ok := by constructor <;> first | decide | (unfold i64ok; decide)
/-- What the cache has of the link, by the best of the calls. -/
def bestE (acs : List AcD) : Option Nat → En
  | none => enZero
  | some i => match acs[i]? with
    | some a => ⟨cutV a.v, a.ver, a.inc, true, false, false⟩
    | none => enZero
theorem bestE_some {acs : List AcD} {i : Nat} {y : AcD} (h : acs[i]? = some y) : bestE acs (some i) = ⟨cutV y.v, y.ver, y.inc, true, false, false⟩ := by
  unfold bestE
  simp only [h]
def bsV : Option Nat → Int
  | none => -1
  | some i => (i : Nat)

set_option maxHeartbeats 12800000 in
theorem CacheNewest_walk (w : World) (l : Lk) (hl : l.ok) (v0 : Value) (acs : List AcD) (h : AcArg w v0 acs) :
    Calls Try.prog 3 #[l.val, v0] w fun e w' => e = .returned (.bool true) ∧ Upd w w' (fun _ => False) := by
  obtain ⟨a, cap, rfl, hlc, hcm, hnil, hrow⟩ := h
  obtain ⟨L0, hL⟩ : ∃ L0, acs.length = L0 := ⟨_, rfl⟩
  rw [hL] at hlc ⊢
  obtain ⟨N, hN⟩ : ∃ N, min L0 30 = N := ⟨_, rfl⟩
  have hN2 : (min (L0 : Int) 30) = (N : Int) := by omega
  have n0 : (0 : Int) ≤ (N : Int) := by omega
  have n20 : N ≤ 30 := by omega
  have n1 : (N : Int) ≤ (cap : Int) := by omega
  have HL := hide hL
  have HN := hide hN
  have HR := hide hrow
  clear hL hN hrow
  have LK := fun w => link_any w l
  have cok := Lk.cut_ok hl
  obtain ⟨lc, hlcut⟩ : ∃ lc, l.cut = lc := ⟨_, rfl⟩
  rw [hlcut] at LK cok
  have HOKC := hide cok
  obtain ⟨LC, hLC⟩ : ∃ LC, LC = lc := ⟨_, rfl⟩
  have HLC := hide hLC
  obtain ⟨lb, ls, lcc, lr⟩ := l
  obtain ⟨cb, cs, cc, cr⟩ := lc
  unfold Lk.val at LK ⊢
  simp only at LK ⊢
  have HLK := hide LK
  clear LK cok hl hlcut hLC
  go_enter Try.func3, Try.ntmps3
  go_wp2_with (first
    | (go_at_call 7; refine Calls.mono (New_any _) ?_; rintro e w1 ⟨b, bm, rfl, hc1, hb1, hbm1, u1⟩; have HC1 := hide hc1; have HU1 := hide u1; have HBb := hide hb1; have HBbm := hide hbm1; have g0 := u1.get (Vnew1 w (.cells (Lk.mk lb ls lcc lr).cs 23)) id; obtain ⟨p0, p1, p2, p3⟩ := cells4 g0; have gl0 := lt_at g0; clear hc1 u1 hb1 hbm1 g0)
    | (go_at_call 8; refine Calls.mono (HLK.out _) ?_; rintro e w2 ⟨rfl, u2⟩; have HU2 := hide u2; clear u2))
  obtain ⟨X, hX⟩ : ∃ X, w2.heap.size = X := ⟨_, rfl⟩
  have HX := hide hX
  have c0 := HC1.out.upd HU2.out id id
  have bm2 := c0.m.lt
  have c1 := c0.upd ((((Upd.refl w2 (fun _ => False)).alloc (.cells #[.string ⟨cb.toArray⟩, .string ⟨cs.toArray⟩, .int .i64 cc, .int .i64 cr] 30)).alloc (.cells #[.string ⟨cb.toArray⟩, .string ⟨cs.toArray⟩, .int .i64 cc, .int .i64 cr] 31)).alloc (.cells #[.string ⟨cb.toArray⟩, .string ⟨cs.toArray⟩, .int .i64 cc, .int .i64 cr] 30)) id id
  have WO := Want_one (((w2.alloc (.cells #[.string ⟨cb.toArray⟩, .string ⟨cs.toArray⟩, .int .i64 cc, .int .i64 cr] 30)).alloc (.cells #[.string ⟨cb.toArray⟩, .string ⟨cs.toArray⟩, .int .i64 cc, .int .i64 cr] 31)).alloc (.cells #[.string ⟨cb.toArray⟩, .string ⟨cs.toArray⟩, .int .i64 cc, .int .i64 cr] 30)) b bm 0 _ c1 (by decide) (w2.heap.size + 1 + 1) ⟨cb, cs, cc, cr⟩ HOKC.out (Vnew3 w2 (.cells #[.string ⟨cb.toArray⟩, .string ⟨cs.toArray⟩, .int .i64 cc, .int .i64 cr] 30) (.cells #[.string ⟨cb.toArray⟩, .string ⟨cs.toArray⟩, .int .i64 cc, .int .i64 cr] 31) (.cells #[.string ⟨cb.toArray⟩, .string ⟨cs.toArray⟩, .int .i64 cc, .int .i64 cr] 30))
  have HWO := hide WO
  have hXbm : X ≠ bm := by omega
  have u03 : Upd w (((w2.alloc (.cells #[.string ⟨cb.toArray⟩, .string ⟨cs.toArray⟩, .int .i64 cc, .int .i64 cr] 30)).alloc (.cells #[.string ⟨cb.toArray⟩, .string ⟨cs.toArray⟩, .int .i64 cc, .int .i64 cr] 31)).alloc (.cells #[.string ⟨cb.toArray⟩, .string ⟨cs.toArray⟩, .int .i64 cc, .int .i64 cr] 30)) (fun _ => False) := (((((((Upd.refl w (fun _ => False)).alloc _).then HU1.out (fun _ _ => id)).then HU2.out (fun _ _ => id)).alloc _).alloc _).alloc _)
  have bX0 : (((w2.alloc (.cells #[.string ⟨cb.toArray⟩, .string ⟨cs.toArray⟩, .int .i64 cc, .int .i64 cr] 30)).alloc (.cells #[.string ⟨cb.toArray⟩, .string ⟨cs.toArray⟩, .int .i64 cc, .int .i64 cr] 31)).alloc (.cells #[.string ⟨cb.toArray⟩, .string ⟨cs.toArray⟩, .int .i64 cc, .int .i64 cr] 30)).heap[X]? = some (.cells (Lk.mk cb cs cc cr).cs 30 (0, 0)) := by
    rw [← hX]
    exact block_alloc (block_alloc (Vnew1 w2 (.cells #[.string ⟨cb.toArray⟩, .string ⟨cs.toArray⟩, .int .i64 cc, .int .i64 cr] 30)) _) _
  have HU03 := hide u03
  have HBX0 := hide bX0
  clear hX c0 c1 WO u03 bX0 HC1 HU1 HU2 bm2
  refine Calls.mono HWO.out ?_
  rintro e w4 ⟨a1, c1, a2, c2, rfl, ⟨n4, D4, hn4, hc4⟩, u4⟩
  have st4 : StL ⟨cb, cs, cc, cr⟩ w w4 X b bm 1 (oneM ⟨cb, cs, cc, cr⟩) := ⟨⟨n4, D4, hn4, hc4⟩, u4.get HBX0.out hXbm, HU03.out.then u4 (fun i hi e => by have := HBbm.out; simp at this; omega), by have := HBb.out; simp at this; omega, by have := HBbm.out; simp at this; omega, hXbm⟩
  have HST4 := hide st4
  rw [HX.out]
  clear hn4 hc4 u4 st4 HWO HU03 HBX0 HBb HBbm p0 p1 p2 p3 gl0 hXbm
  go_wp2_with fail
  go_loopg [8, 34] N (fun q bv iv wr => ∃ (j : Nat) (bs : Option Nat) (M : Lk → Option En), j + q = N ∧ iv = .int .i64 j ∧ bv = .int .i64 (bsV bs) ∧ (∀ i, bs = some i → i < j) ∧ M ⟨cb, cs, cc, cr⟩ = some (bestE acs bs) ∧ StL ⟨cb, cs, cc, cr⟩ w wr X b bm (1 + j) M)
  case atStart => exact ⟨0, none, _, by omega, rfl, rfl, by simp, by simp [oneM, bestE], HST4.out⟩
  case round =>
    obtain ⟨j, bs, M, hj, rfl, rfl, hbs, hM, hst⟩ := hrel
    by_cases hjN : j < N
    · obtain ⟨x, hx⟩ : ∃ x, acs[j]? = some x := ⟨_, List.getElem?_eq_getElem (by rw [HL.out]; have := HN.out; omega)⟩
      obtain ⟨g, off, lv, rfl, hg, hcell, hpl, xok⟩ := HR.out j x hx
      obtain ⟨la, lcap, rfl, -⟩ := hpl
      have xlen : Hid (x.l.length = x.l.length) := hide rfl
      have vok := cutV_ok xok.v
      have d0 := (hst.2.2.1.cell g _ hg id).trans (hcell 0 _ rfl)
      have d1 := (hst.2.2.1.cell g _ hg id).trans (hcell 1 _ rfl)
      have d2 := (hst.2.2.1.cell g _ hg id).trans (hcell 2 _ rfl)
      have d3 := (hst.2.2.1.cell g _ hg id).trans (hcell 3 _ rfl)
      have d4 := (hst.2.2.1.cell g _ hg id).trans (hcell 4 _ rfl)
      have d5 := (hst.2.2.1.cell g _ hg id).trans (hcell 5 _ rfl)
      have d6 := (hst.2.2.1.cell g _ hg id).trans (hcell 6 _ rfl)
      have d7 := (hst.2.2.1.cell g _ hg id).trans (hcell 7 _ rfl)
      have d8 := (hst.2.2.1.cell g _ hg id).trans (hcell 8 _ rfl)
      have d9 := (hst.2.2.1.cell g _ hg id).trans (hcell 9 _ rfl)
      have d10 := (hst.2.2.1.cell g _ hg id).trans (hcell 10 _ rfl)
      have d11 := (hst.2.2.1.cell g _ hg id).trans (hcell 11 _ rfl)
      have d12 := (hst.2.2.1.cell g _ hg id).trans (hcell 12 _ rfl)
      have d13 := (hst.2.2.1.cell g _ hg id).trans (hcell 13 _ rfl)
      have d14 := (hst.2.2.1.cell g _ hg id).trans (hcell 14 _ rfl)
      have d15 := (hst.2.2.1.cell g _ hg id).trans (hcell 15 _ rfl)
      rw [Nat.add_zero] at d0
      have hk0 : (0 : Int) ≤ (j : Int) := by omega
      have hk1 : (j : Int) < (N : Int) := by omega
      have HXX := hide hx
      obtain ⟨dov, xl, ⟨pb, ps, pc, pr⟩, ver, inc, ⟨vk, vn, vt, vb, vf⟩, has, stale, lost⟩ := x
      obtain ⟨tc, htc⟩ : ∃ t, vt.take 300 = t := ⟨_, rfl⟩
      have VA := fun w => values_any w vk vn vt tc vb vf htc
      have vok' : (Vl.mk vk vn tc vb vf).ok := by
        unfold cutV at vok
        simp only at vok
        rwa [htc] at vok
      have HVA := hide VA
      have HVOK := hide vok'
      have HTC := hide htc
      have glt : g < wr.heap.size := Nat.lt_of_lt_of_le hg hst.2.2.1.size
      simp only at d0 d1 d2 d3 d4 d5 d6 d7 d8 d9 d10 d11 d12 d13 d14 d15
      obtain ⟨nl, hnl⟩ : ∃ n, xl.length = n := ⟨_, rfl⟩
      rw [hnl] at d1
      obtain ⟨C10, hC10⟩ : ∃ c : Obj, c = .cells #[.int .i64 dov, .slice la nl lcap, .string ⟨pb.toArray⟩, .string ⟨ps.toArray⟩, .int .i64 pc, .int .i64 pr, .int .i64 ver, .int .i64 inc, .int .i64 vk, .int .i64 vn, .string ⟨vt.toArray⟩, .bool vb, .int .i64 vf, .bool has, .bool stale, .bool lost] 41 := ⟨_, rfl⟩
      have b10 := Vnew1 wr C10
      rw [hC10] at b10
      have st1 := hst.quiet ((Upd.refl wr (fun _ => False)).alloc C10)
      rw [hC10] at st1
      have HB10 := hide b10
      have HST1 := hide st1
      have HCELL := hide hcell
      have HMM := hide hM
      have HBS := hide hbs
      have bmY : wr.heap.size ≠ bm := by
        obtain ⟨⟨n, D, _, hc⟩, _⟩ := hst
        have := hc.m.lt
        omega
      have HBMY := hide bmY
      have HB5 : Hid (∀ W : World, wr.heap.size ≤ W.heap.size → W.heap.size ≠ bm) := hide (fun W hW => by
        obtain ⟨⟨n, D, _, hc⟩, _⟩ := hst
        have := hc.m.lt
        omega)
      clear hx VA vok vok' htc hst hcell hnl b10 st1 hC10 hM hbs xok xlen bmY
      go_upto_region 11 with (first
        | (go_at_call 10; refine Calls.mono (HVA.out _) ?_; rintro e w5 ⟨rfl, u5⟩; have st5 := HST1.out.quiet u5; have z0 := cell_at st5.2.1 0 _ rfl; have z1 := cell_at st5.2.1 1 _ rfl; have z2 := cell_at st5.2.1 2 _ rfl; have z3 := cell_at st5.2.1 3 _ rfl; have zl := lt_at st5.2.1; have b5 := u5.get HB10.out id; have e6 := cell_at b5 6 _ rfl; have e7 := cell_at b5 7 _ rfl; have el := lt_at b5; have HB10' := hide b5; have HB5' := hide (HB5.out w5 (Nat.le_of_lt el)); have HTK := hide ((st5.quiet (((Upd.refl w5 (fun _ => False)).alloc (.cells #[.int .i64 vk, .int .i64 vn, .string ⟨tc.toArray⟩, .bool vb, .int .i64 vf] 46)).alloc (.cells #[.int .i64 vk, .int .i64 vn, .string ⟨tc.toArray⟩, .bool vb, .int .i64 vf] 47))).take HOKC.out (by omega) ⟨vk, vn, tc, vb, vf⟩ HVOK.out ver inc); clear st5 u5 b5)
        | (go_at_call 11; refine Calls.mono HTK.out ?_; rintro e w6 ⟨rfl, s6, u6⟩; have HS6 := hide s6; have HU6 := hide u6; clear s6 u6 z0 z1 z2 z3 zl))
      have b10 := HU6.out.get (block_alloc (block_alloc HB10'.out (.cells #[.int .i64 vk, .int .i64 vn, .string ⟨tc.toArray⟩, .bool vb, .int .i64 vf] 46)) (.cells #[.int .i64 vk, .int .i64 vn, .string ⟨tc.toArray⟩, .bool vb, .int .i64 vf] 47)) HBMY.out
      have b11 := HU6.out.get (block_alloc (Vnew1 w5 (.cells #[.int .i64 vk, .int .i64 vn, .string ⟨tc.toArray⟩, .bool vb, .int .i64 vf] 46)) (.cells #[.int .i64 vk, .int .i64 vn, .string ⟨tc.toArray⟩, .bool vb, .int .i64 vf] 47)) HB5'.out
      have y6 := cell_at b10 6 _ rfl
      have y7 := cell_at b10 7 _ rfl
      have yl := lt_at b10
      have t0 := cell_at b11 0 _ rfl
      have t1 := cell_at b11 1 _ rfl
      have t2 := cell_at b11 2 _ rfl
      have t3 := cell_at b11 3 _ rfl
      have t4 := cell_at b11 4 _ rfl
      have tl := lt_at b11
      have htk : takeOk (M ⟨cb, cs, cc, cr⟩) ⟨vk, vn, tc, vb, vf⟩ ver inc = takeOk (some (bestE acs bs)) ⟨vk, vn, tc, vb, vf⟩ ver inc := by rw [HMM.out]
      rw [htk]
      obtain ⟨tk, htk2⟩ : ∃ t, takeOk (some (bestE acs bs)) ⟨vk, vn, tc, vb, vf⟩ ver inc = t := ⟨_, rfl⟩
      rw [htk2]
      have HTK2 := hide htk2
      clear htk htk2 b10 b11 e6 e7 el HB10' HB5' HU6 d0 d1 d2 d3 d4 d5 d6 d7 d8 d9 d10 d11 d12 d13 d14 d15
      go_cut [14] (fun s14 wx => s14 = .bool tk ∧ Upd w6 wx (fun _ => False))
      case first =>
        obtain ⟨gd, hgd⟩ : ∃ gd, goodV ⟨vk, vn, tc, vb, vf⟩ = gd := ⟨_, rfl⟩
        have GA := fun w => Good_any w ⟨vk, vn, tc, vb, vf⟩ HVOK.out
        have htk := HTK2.out
        unfold takeOk at htk
        simp only at htk
        rw [hgd] at GA htk
        unfold Vl.val at GA
        simp only at GA
        have HGA := hide GA
        have hund : undef = Value.tuple #[] := rfl
        clear GA hgd
        cases gd with
        | false =>
          have etk : tk = false := by rw [← htk]; rfl
          subst etk
          clear htk
          refine wp_region_held_drew (S := fun w' => w'.cell? ⟨w5.heap.size, 0, none⟩ = some (.int .i64 vk) ∧ w'.cell? ⟨w5.heap.size, 1, none⟩ = some (.int .i64 vn) ∧ w'.cell? ⟨w5.heap.size, 2, none⟩ = some (.string ⟨tc.toArray⟩) ∧ w'.cell? ⟨w5.heap.size, 3, none⟩ = some (.bool vb) ∧ w'.cell? ⟨w5.heap.size, 4, none⟩ = some (.int .i64 vf) ∧ Upd w6 w' (fun _ => False)) (by kernel_rfl) ⟨t0, t1, t2, t3, t4, (Upd.refl w6 _).drew⟩ (fun hHeld => ?_)
          refine takeD (i := 0) (d := some 53) (v := ?_) rfl (by rfl) (by kernel_rfl) (by kernel_rfl) (by kernel_rfl) (fun _ _ _ h => h) (Or.inl ⟨by rfl, ?_⟩) hHeld ?_
          rotate_left
          · intro w hSw; (try dsimp only at hSw); go_simp; (try with_reducible rfl)
          (try simp only [Act.put, List.setIfInBounds_toArray, List.set_cons_zero, List.set_cons_succ])
          refine wpAnyH_ready (rs := [1]) (by kernel_rfl) (by simp) ?_
          refine AllReadyH.cons rfl (fun K hK => ?_) AllReadyH.nil
          go_simp
          go_at_call 12
          with_reducible refine Calls.mono (HGA.out _) ?_
          rintro e w9 ⟨rfl, u9⟩
          have hz : Upd w6 w9 (fun _ => False) := ((Upd.refl w6 (fun _ => False)).drew).then u9 (fun _ _ => id)
          refine hK.out _ _ ⟨(hz.cell (w5.heap.size) (0) tl id).trans t0, (hz.cell (w5.heap.size) (1) tl id).trans t1, (hz.cell (w5.heap.size) (2) tl id).trans t2, (hz.cell (w5.heap.size) (3) tl id).trans t3, (hz.cell (w5.heap.size) (4) tl id).trans t4, hz⟩ (fun hHeld => ?_)
          clear hK K
          (try simp only [Act.put, List.setIfInBounds_toArray, List.set_cons_zero, List.set_cons_succ])
          refine takeD (i := 2) (d := some 55) (v := ?_) rfl (by rfl) (by kernel_rfl) (by kernel_rfl) (by kernel_rfl) (fun _ _ _ h => h) (Or.inl ⟨by rfl, ?_⟩) hHeld ?_
          rotate_left
          · intro w hSw; (try dsimp only at hSw); go_simp; (try with_reducible rfl)
          (try simp only [Act.put, List.setIfInBounds_toArray, List.set_cons_zero, List.set_cons_succ])
          refine takeD (i := 3) (d := some 56) rfl (by rfl) (by kernel_rfl) (by kernel_rfl) (by kernel_rfl) (fun _ _ _ h => h) (Or.inr ⟨by rfl, rfl⟩) hHeld ?_
          (try simp only [Act.put, List.setIfInBounds_toArray, List.set_cons_zero, List.set_cons_succ])
          refine takeD (i := 4) (d := some 57) rfl (by rfl) (by kernel_rfl) (by kernel_rfl) (by kernel_rfl) (fun _ _ _ h => h) (Or.inr ⟨by rfl, rfl⟩) hHeld ?_
          (try simp only [Act.put, List.setIfInBounds_toArray, List.set_cons_zero, List.set_cons_succ])
          refine takeD (i := 5) (d := some 58) rfl (by rfl) (by kernel_rfl) (by kernel_rfl) (by kernel_rfl) (fun _ _ _ h => h) (Or.inr ⟨by rfl, rfl⟩) hHeld ?_
          (try simp only [Act.put, List.setIfInBounds_toArray, List.set_cons_zero, List.set_cons_succ])
          refine takeD (i := 6) (d := some 59) rfl (by rfl) (by kernel_rfl) (by kernel_rfl) (by kernel_rfl) (fun _ _ _ h => h) (Or.inr ⟨by rfl, rfl⟩) hHeld ?_
          (try simp only [Act.put, List.setIfInBounds_toArray, List.set_cons_zero, List.set_cons_succ])
          refine takeD (i := 7) (d := some 60) rfl (by rfl) (by kernel_rfl) (by kernel_rfl) (by kernel_rfl) (fun _ _ _ h => h) (Or.inr ⟨by rfl, rfl⟩) hHeld ?_
          (try simp only [Act.put, List.setIfInBounds_toArray, List.set_cons_zero, List.set_cons_succ])
          refine takeD (i := 8) (d := some 61) rfl (by rfl) (by kernel_rfl) (by kernel_rfl) (by kernel_rfl) (fun _ _ _ h => h) (Or.inr ⟨by rfl, rfl⟩) hHeld ?_
          (try simp only [Act.put, List.setIfInBounds_toArray, List.set_cons_zero, List.set_cons_succ])
          refine takeD (i := 9) (d := some 62) rfl (by rfl) (by kernel_rfl) (by kernel_rfl) (by kernel_rfl) (fun _ _ _ h => h) (Or.inr ⟨by rfl, rfl⟩) hHeld ?_
          (try simp only [Act.put, List.setIfInBounds_toArray, List.set_cons_zero, List.set_cons_succ])
          refine takeD (i := 10) (d := some 63) rfl (by rfl) (by kernel_rfl) (by kernel_rfl) (by kernel_rfl) (fun _ _ _ h => h) (Or.inr ⟨by rfl, rfl⟩) hHeld ?_
          (try simp only [Act.put, List.setIfInBounds_toArray, List.set_cons_zero, List.set_cons_succ])
          refine takeD (i := 11) (d := some 64) rfl (by rfl) (by kernel_rfl) (by kernel_rfl) (by kernel_rfl) (fun _ _ _ h => h) (Or.inr ⟨by rfl, rfl⟩) hHeld ?_
          (try simp only [Act.put, List.setIfInBounds_toArray, List.set_cons_zero, List.set_cons_succ])
          refine takeD (i := 12) (d := some 65) rfl (by rfl) (by kernel_rfl) (by kernel_rfl) (by kernel_rfl) (fun _ _ _ h => h) (Or.inr ⟨by rfl, rfl⟩) hHeld ?_
          (try simp only [Act.put, List.setIfInBounds_toArray, List.set_cons_zero, List.set_cons_succ])
          refine takeD (i := 13) (d := some 66) rfl (by rfl) (by kernel_rfl) (by kernel_rfl) (by kernel_rfl) (fun _ _ _ h => h) (Or.inr ⟨by rfl, rfl⟩) hHeld ?_
          (try simp only [Act.put, List.setIfInBounds_toArray, List.set_cons_zero, List.set_cons_succ])
          refine takeD (i := 14) (d := some 67) rfl (by rfl) (by kernel_rfl) (by kernel_rfl) (by kernel_rfl) (fun _ _ _ h => h) (Or.inr ⟨by rfl, rfl⟩) hHeld ?_
          (try simp only [Act.put, List.setIfInBounds_toArray, List.set_cons_zero, List.set_cons_succ])
          refine takeD (i := 15) (d := some 68) rfl (by rfl) (by kernel_rfl) (by kernel_rfl) (by kernel_rfl) (fun _ _ _ h => h) (Or.inr ⟨by rfl, rfl⟩) hHeld ?_
          (try simp only [Act.put, List.setIfInBounds_toArray, List.set_cons_zero, List.set_cons_succ])
          refine takeD (i := 16) (d := some 69) rfl (by rfl) (by kernel_rfl) (by kernel_rfl) (by kernel_rfl) (fun _ _ _ h => h) (Or.inr ⟨by rfl, rfl⟩) hHeld ?_
          (try simp only [Act.put, List.setIfInBounds_toArray, List.set_cons_zero, List.set_cons_succ])
          refine takeD (i := 17) (d := some 70) rfl (by rfl) (by kernel_rfl) (by kernel_rfl) (by kernel_rfl) (fun _ _ _ h => h) (Or.inr ⟨by rfl, rfl⟩) hHeld ?_
          (try simp only [Act.put, List.setIfInBounds_toArray, List.set_cons_zero, List.set_cons_succ])
          refine takeD (i := 18) (d := some 71) rfl (by rfl) (by kernel_rfl) (by kernel_rfl) (by kernel_rfl) (fun _ _ _ h => h) (Or.inr ⟨by rfl, rfl⟩) hHeld ?_
          (try simp only [Act.put, List.setIfInBounds_toArray, List.set_cons_zero, List.set_cons_succ])
          refine takeD (i := 19) (d := some 72) rfl (by rfl) (by kernel_rfl) (by kernel_rfl) (by kernel_rfl) (fun _ _ _ h => h) (Or.inr ⟨by rfl, rfl⟩) hHeld ?_
          (try simp only [Act.put, List.setIfInBounds_toArray, List.set_cons_zero, List.set_cons_succ])
          refine takeD (i := 20) (d := some 73) rfl (by rfl) (by kernel_rfl) (by kernel_rfl) (by kernel_rfl) (fun _ _ _ h => h) (Or.inr ⟨by rfl, rfl⟩) hHeld ?_
          (try simp only [Act.put, List.setIfInBounds_toArray, List.set_cons_zero, List.set_cons_succ])
          refine takeD (i := 21) (d := some 74) rfl (by rfl) (by kernel_rfl) (by kernel_rfl) (by kernel_rfl) (fun _ _ _ h => h) (Or.inr ⟨by rfl, rfl⟩) hHeld ?_
          (try simp only [Act.put, List.setIfInBounds_toArray, List.set_cons_zero, List.set_cons_succ])
          refine takeD (i := 22) (d := some 75) rfl (by rfl) (by kernel_rfl) (by kernel_rfl) (by kernel_rfl) (fun _ _ _ h => h) (Or.inr ⟨by rfl, rfl⟩) hHeld ?_
          (try simp only [Act.put, List.setIfInBounds_toArray, List.set_cons_zero, List.set_cons_succ])
          refine takeD (i := 23) (d := some 76) rfl (by rfl) (by kernel_rfl) (by kernel_rfl) (by kernel_rfl) (fun _ _ _ h => h) (Or.inr ⟨by rfl, rfl⟩) hHeld ?_
          (try simp only [Act.put, List.setIfInBounds_toArray, List.set_cons_zero, List.set_cons_succ])
          refine takeD (i := 24) (d := some 77) rfl (by rfl) (by kernel_rfl) (by kernel_rfl) (by kernel_rfl) (fun _ _ _ h => h) (Or.inr ⟨by rfl, rfl⟩) hHeld ?_
          (try simp only [Act.put, List.setIfInBounds_toArray, List.set_cons_zero, List.set_cons_succ])
          refine takeD (i := 25) (d := some 78) rfl (by rfl) (by kernel_rfl) (by kernel_rfl) (by kernel_rfl) (fun _ _ _ h => h) (Or.inr ⟨by rfl, rfl⟩) hHeld ?_
          (try simp only [Act.put, List.setIfInBounds_toArray, List.set_cons_zero, List.set_cons_succ])
          refine takeD (i := 26) (d := some 79) rfl (by rfl) (by kernel_rfl) (by kernel_rfl) (by kernel_rfl) (fun _ _ _ h => h) (Or.inr ⟨by rfl, rfl⟩) hHeld ?_
          (try simp only [Act.put, List.setIfInBounds_toArray, List.set_cons_zero, List.set_cons_succ])
          refine takeD (i := 27) (d := some 80) rfl (by rfl) (by kernel_rfl) (by kernel_rfl) (by kernel_rfl) (fun _ _ _ h => h) (Or.inr ⟨by rfl, rfl⟩) hHeld ?_
          (try simp only [Act.put, List.setIfInBounds_toArray, List.set_cons_zero, List.set_cons_succ])
          refine takeD (i := 28) (d := some 81) rfl (by rfl) (by kernel_rfl) (by kernel_rfl) (by kernel_rfl) (fun _ _ _ h => h) (Or.inr ⟨by rfl, rfl⟩) hHeld ?_
          (try simp only [Act.put, List.setIfInBounds_toArray, List.set_cons_zero, List.set_cons_succ])
          refine takeD (i := 29) (d := some 82) rfl (by rfl) (by kernel_rfl) (by kernel_rfl) (by kernel_rfl) (fun _ _ _ h => h) (Or.inr ⟨by rfl, rfl⟩) hHeld ?_
          (try simp only [Act.put, List.setIfInBounds_toArray, List.set_cons_zero, List.set_cons_succ])
          refine takeD (i := 30) (d := some 83) rfl (by rfl) (by kernel_rfl) (by kernel_rfl) (by kernel_rfl) (fun _ _ _ h => h) (Or.inr ⟨by rfl, rfl⟩) hHeld ?_
          (try simp only [Act.put, List.setIfInBounds_toArray, List.set_cons_zero, List.set_cons_succ])
          refine takeD (i := 31) (d := some 84) rfl (by rfl) (by kernel_rfl) (by kernel_rfl) (by kernel_rfl) (fun _ _ _ h => h) (Or.inr ⟨by rfl, rfl⟩) hHeld ?_
          (try simp only [Act.put, List.setIfInBounds_toArray, List.set_cons_zero, List.set_cons_succ])
          refine takeD (i := 32) (d := some 85) rfl (by rfl) (by kernel_rfl) (by kernel_rfl) (by kernel_rfl) (fun _ _ _ h => h) (Or.inr ⟨by rfl, rfl⟩) hHeld ?_
          (try simp only [Act.put, List.setIfInBounds_toArray, List.set_cons_zero, List.set_cons_succ])
          refine takeD (i := 33) (d := some 86) rfl (by rfl) (by kernel_rfl) (by kernel_rfl) (by kernel_rfl) (fun _ _ _ h => h) (Or.inr ⟨by rfl, rfl⟩) hHeld ?_
          (try simp only [Act.put, List.setIfInBounds_toArray, List.set_cons_zero, List.set_cons_succ])
          refine takeD (i := 34) (d := some 87) rfl (by rfl) (by kernel_rfl) (by kernel_rfl) (by kernel_rfl) (fun _ _ _ h => h) (Or.inr ⟨by rfl, rfl⟩) hHeld ?_
          (try simp only [Act.put, List.setIfInBounds_toArray, List.set_cons_zero, List.set_cons_succ])
          refine takeD (i := 35) (d := some 88) (v := ?_) rfl (by rfl) (by kernel_rfl) (by kernel_rfl) (by kernel_rfl) (fun _ _ _ h => h) (Or.inl ⟨by rfl, ?_⟩) hHeld ?_
          rotate_left
          · intro w hSw; (try dsimp only at hSw); go_simp; (try with_reducible rfl)
          (try simp only [Act.put, List.setIfInBounds_toArray, List.set_cons_zero, List.set_cons_succ])
          refine takeD (i := 36) (d := some 14) (v := ?_) rfl (by rfl) (by kernel_rfl) (by kernel_rfl) (by kernel_rfl) (fun _ _ _ h => h) (Or.inl ⟨by rfl, ?_⟩) hHeld ?_
          rotate_left
          · intro w hSw; (try dsimp only at hSw); go_simp; (try with_reducible rfl)
          (try simp only [Act.put, List.setIfInBounds_toArray, List.set_cons_zero, List.set_cons_succ])
          refine wpAnyH_done (by kernel_rfl) ?_ _
          go_wp2_with fail
          go_meet
          exact ⟨rfl, hz⟩
        | true =>
          cases bs with
          | none =>
            have etk : tk = true := by rw [← htk]; rfl
            subst etk
            clear htk
            simp only [bsV]
            refine wp_region_held_drew (S := fun w' => w'.cell? ⟨w5.heap.size, 0, none⟩ = some (.int .i64 vk) ∧ w'.cell? ⟨w5.heap.size, 1, none⟩ = some (.int .i64 vn) ∧ w'.cell? ⟨w5.heap.size, 2, none⟩ = some (.string ⟨tc.toArray⟩) ∧ w'.cell? ⟨w5.heap.size, 3, none⟩ = some (.bool vb) ∧ w'.cell? ⟨w5.heap.size, 4, none⟩ = some (.int .i64 vf) ∧ w'.cell? ⟨wr.heap.size, 6, none⟩ = some (.int .i64 ver) ∧ w'.cell? ⟨wr.heap.size, 7, none⟩ = some (.int .i64 inc) ∧ Upd w6 w' (fun _ => False)) (by kernel_rfl) ⟨t0, t1, t2, t3, t4, y6, y7, (Upd.refl w6 _).drew⟩ (fun hHeld => ?_)
            refine takeD (i := 0) (d := some 53) (v := ?_) rfl (by rfl) (by kernel_rfl) (by kernel_rfl) (by kernel_rfl) (fun _ _ _ h => h) (Or.inl ⟨by rfl, ?_⟩) hHeld ?_
            rotate_left
            · intro w hSw; (try dsimp only at hSw); go_simp; (try with_reducible rfl)
            (try simp only [Act.put, List.setIfInBounds_toArray, List.set_cons_zero, List.set_cons_succ])
            refine wpAnyH_ready (rs := [1]) (by kernel_rfl) (by simp) ?_
            refine AllReadyH.cons rfl (fun K hK => ?_) AllReadyH.nil
            go_simp
            go_at_call 12
            with_reducible refine Calls.mono (HGA.out _) ?_
            rintro e w9 ⟨rfl, u9⟩
            have hz : Upd w6 w9 (fun _ => False) := ((Upd.refl w6 (fun _ => False)).drew).then u9 (fun _ _ => id)
            refine hK.out _ _ ⟨(hz.cell (w5.heap.size) (0) tl id).trans t0, (hz.cell (w5.heap.size) (1) tl id).trans t1, (hz.cell (w5.heap.size) (2) tl id).trans t2, (hz.cell (w5.heap.size) (3) tl id).trans t3, (hz.cell (w5.heap.size) (4) tl id).trans t4, (hz.cell (wr.heap.size) (6) yl id).trans y6, (hz.cell (wr.heap.size) (7) yl id).trans y7, hz⟩ (fun hHeld => ?_)
            clear hK K
            (try simp only [Act.put, List.setIfInBounds_toArray, List.set_cons_zero, List.set_cons_succ])
            refine takeD (i := 2) (d := some 55) (v := ?_) rfl (by rfl) (by kernel_rfl) (by kernel_rfl) (by kernel_rfl) (fun _ _ _ h => h) (Or.inl ⟨by rfl, ?_⟩) hHeld ?_
            rotate_left
            · intro w hSw; (try dsimp only at hSw); go_simp; (try with_reducible rfl)
            (try simp only [Act.put, List.setIfInBounds_toArray, List.set_cons_zero, List.set_cons_succ])
            refine takeD (i := 3) (d := some 56) (v := ?_) rfl (by rfl) (by kernel_rfl) (by kernel_rfl) (by kernel_rfl) (fun _ _ _ h => h) (Or.inl ⟨by rfl, ?_⟩) hHeld ?_
            rotate_left
            · intro w hSw; (try dsimp only at hSw); go_simp; (try with_reducible rfl)
            (try simp only [Act.put, List.setIfInBounds_toArray, List.set_cons_zero, List.set_cons_succ])
            refine takeD (i := 4) (d := some 57) (v := ?_) rfl (by rfl) (by kernel_rfl) (by kernel_rfl) (by kernel_rfl) (fun _ _ _ h => h) (Or.inl ⟨by rfl, ?_⟩) hHeld ?_
            rotate_left
            · intro w hSw; (try dsimp only at hSw); go_simp; (try with_reducible rfl)
            (try simp only [Act.put, List.setIfInBounds_toArray, List.set_cons_zero, List.set_cons_succ])
            refine takeD (i := 5) (d := some 58) (v := ?_) rfl (by rfl) (by kernel_rfl) (by kernel_rfl) (by kernel_rfl) (fun _ _ _ h => h) (Or.inl ⟨by rfl, ?_⟩) hHeld ?_
            rotate_left
            · intro w hSw; (try dsimp only at hSw); go_simp; (try with_reducible rfl)
            (try simp only [Act.put, List.setIfInBounds_toArray, List.set_cons_zero, List.set_cons_succ])
            refine takeD (i := 6) (d := some 59) rfl (by rfl) (by kernel_rfl) (by kernel_rfl) (by kernel_rfl) (fun _ _ _ h => h) (Or.inr ⟨by rfl, rfl⟩) hHeld ?_
            (try simp only [Act.put, List.setIfInBounds_toArray, List.set_cons_zero, List.set_cons_succ])
            refine takeD (i := 7) (d := some 60) rfl (by rfl) (by kernel_rfl) (by kernel_rfl) (by kernel_rfl) (fun _ _ _ h => h) (Or.inr ⟨by rfl, rfl⟩) hHeld ?_
            (try simp only [Act.put, List.setIfInBounds_toArray, List.set_cons_zero, List.set_cons_succ])
            refine takeD (i := 8) (d := some 61) rfl (by rfl) (by kernel_rfl) (by kernel_rfl) (by kernel_rfl) (fun _ _ _ h => h) (Or.inr ⟨by rfl, rfl⟩) hHeld ?_
            (try simp only [Act.put, List.setIfInBounds_toArray, List.set_cons_zero, List.set_cons_succ])
            refine takeD (i := 9) (d := some 62) rfl (by rfl) (by kernel_rfl) (by kernel_rfl) (by kernel_rfl) (fun _ _ _ h => h) (Or.inr ⟨by rfl, rfl⟩) hHeld ?_
            (try simp only [Act.put, List.setIfInBounds_toArray, List.set_cons_zero, List.set_cons_succ])
            refine takeD (i := 10) (d := some 63) rfl (by rfl) (by kernel_rfl) (by kernel_rfl) (by kernel_rfl) (fun _ _ _ h => h) (Or.inr ⟨by rfl, rfl⟩) hHeld ?_
            (try simp only [Act.put, List.setIfInBounds_toArray, List.set_cons_zero, List.set_cons_succ])
            refine takeD (i := 11) (d := some 64) rfl (by rfl) (by kernel_rfl) (by kernel_rfl) (by kernel_rfl) (fun _ _ _ h => h) (Or.inr ⟨by rfl, rfl⟩) hHeld ?_
            (try simp only [Act.put, List.setIfInBounds_toArray, List.set_cons_zero, List.set_cons_succ])
            refine takeD (i := 12) (d := some 65) rfl (by rfl) (by kernel_rfl) (by kernel_rfl) (by kernel_rfl) (fun _ _ _ h => h) (Or.inr ⟨by rfl, rfl⟩) hHeld ?_
            (try simp only [Act.put, List.setIfInBounds_toArray, List.set_cons_zero, List.set_cons_succ])
            refine takeD (i := 13) (d := some 66) rfl (by rfl) (by kernel_rfl) (by kernel_rfl) (by kernel_rfl) (fun _ _ _ h => h) (Or.inr ⟨by rfl, rfl⟩) hHeld ?_
            (try simp only [Act.put, List.setIfInBounds_toArray, List.set_cons_zero, List.set_cons_succ])
            refine takeD (i := 14) (d := some 67) (v := ?_) rfl (by rfl) (by kernel_rfl) (by kernel_rfl) (by kernel_rfl) (fun _ _ _ h => h) (Or.inl ⟨by rfl, ?_⟩) hHeld ?_
            rotate_left
            · intro w hSw; (try dsimp only at hSw); go_simp; (try with_reducible rfl)
            (try simp only [Act.put, List.setIfInBounds_toArray, List.set_cons_zero, List.set_cons_succ])
            refine takeD (i := 15) (d := some 68) (v := ?_) rfl (by rfl) (by kernel_rfl) (by kernel_rfl) (by kernel_rfl) (fun _ _ _ h => h) (Or.inl ⟨by rfl, ?_⟩) hHeld ?_
            rotate_left
            · intro w hSw; (try dsimp only at hSw); go_simp; (try with_reducible rfl)
            (try simp only [Act.put, List.setIfInBounds_toArray, List.set_cons_zero, List.set_cons_succ])
            refine takeD (i := 16) (d := some 69) rfl (by rfl) (by kernel_rfl) (by kernel_rfl) (by kernel_rfl) (fun _ _ _ h => h) (Or.inr ⟨by rfl, rfl⟩) hHeld ?_
            (try simp only [Act.put, List.setIfInBounds_toArray, List.set_cons_zero, List.set_cons_succ])
            refine takeD (i := 17) (d := some 70) rfl (by rfl) (by kernel_rfl) (by kernel_rfl) (by kernel_rfl) (fun _ _ _ h => h) (Or.inr ⟨by rfl, rfl⟩) hHeld ?_
            (try simp only [Act.put, List.setIfInBounds_toArray, List.set_cons_zero, List.set_cons_succ])
            refine takeD (i := 18) (d := some 71) rfl (by rfl) (by kernel_rfl) (by kernel_rfl) (by kernel_rfl) (fun _ _ _ h => h) (Or.inr ⟨by rfl, rfl⟩) hHeld ?_
            (try simp only [Act.put, List.setIfInBounds_toArray, List.set_cons_zero, List.set_cons_succ])
            refine takeD (i := 19) (d := some 72) rfl (by rfl) (by kernel_rfl) (by kernel_rfl) (by kernel_rfl) (fun _ _ _ h => h) (Or.inr ⟨by rfl, rfl⟩) hHeld ?_
            (try simp only [Act.put, List.setIfInBounds_toArray, List.set_cons_zero, List.set_cons_succ])
            refine takeD (i := 20) (d := some 73) rfl (by rfl) (by kernel_rfl) (by kernel_rfl) (by kernel_rfl) (fun _ _ _ h => h) (Or.inr ⟨by rfl, rfl⟩) hHeld ?_
            (try simp only [Act.put, List.setIfInBounds_toArray, List.set_cons_zero, List.set_cons_succ])
            refine takeD (i := 21) (d := some 74) rfl (by rfl) (by kernel_rfl) (by kernel_rfl) (by kernel_rfl) (fun _ _ _ h => h) (Or.inr ⟨by rfl, rfl⟩) hHeld ?_
            (try simp only [Act.put, List.setIfInBounds_toArray, List.set_cons_zero, List.set_cons_succ])
            refine takeD (i := 22) (d := some 75) rfl (by rfl) (by kernel_rfl) (by kernel_rfl) (by kernel_rfl) (fun _ _ _ h => h) (Or.inr ⟨by rfl, rfl⟩) hHeld ?_
            (try simp only [Act.put, List.setIfInBounds_toArray, List.set_cons_zero, List.set_cons_succ])
            refine takeD (i := 23) (d := some 76) rfl (by rfl) (by kernel_rfl) (by kernel_rfl) (by kernel_rfl) (fun _ _ _ h => h) (Or.inr ⟨by rfl, rfl⟩) hHeld ?_
            (try simp only [Act.put, List.setIfInBounds_toArray, List.set_cons_zero, List.set_cons_succ])
            refine takeD (i := 24) (d := some 77) rfl (by rfl) (by kernel_rfl) (by kernel_rfl) (by kernel_rfl) (fun _ _ _ h => h) (Or.inr ⟨by rfl, rfl⟩) hHeld ?_
            (try simp only [Act.put, List.setIfInBounds_toArray, List.set_cons_zero, List.set_cons_succ])
            refine takeD (i := 25) (d := some 78) rfl (by rfl) (by kernel_rfl) (by kernel_rfl) (by kernel_rfl) (fun _ _ _ h => h) (Or.inr ⟨by rfl, rfl⟩) hHeld ?_
            (try simp only [Act.put, List.setIfInBounds_toArray, List.set_cons_zero, List.set_cons_succ])
            refine takeD (i := 26) (d := some 79) rfl (by rfl) (by kernel_rfl) (by kernel_rfl) (by kernel_rfl) (fun _ _ _ h => h) (Or.inr ⟨by rfl, rfl⟩) hHeld ?_
            (try simp only [Act.put, List.setIfInBounds_toArray, List.set_cons_zero, List.set_cons_succ])
            refine takeD (i := 27) (d := some 80) rfl (by rfl) (by kernel_rfl) (by kernel_rfl) (by kernel_rfl) (fun _ _ _ h => h) (Or.inr ⟨by rfl, rfl⟩) hHeld ?_
            (try simp only [Act.put, List.setIfInBounds_toArray, List.set_cons_zero, List.set_cons_succ])
            refine takeD (i := 28) (d := some 81) rfl (by rfl) (by kernel_rfl) (by kernel_rfl) (by kernel_rfl) (fun _ _ _ h => h) (Or.inr ⟨by rfl, rfl⟩) hHeld ?_
            (try simp only [Act.put, List.setIfInBounds_toArray, List.set_cons_zero, List.set_cons_succ])
            refine takeD (i := 29) (d := some 82) rfl (by rfl) (by kernel_rfl) (by kernel_rfl) (by kernel_rfl) (fun _ _ _ h => h) (Or.inr ⟨by rfl, rfl⟩) hHeld ?_
            (try simp only [Act.put, List.setIfInBounds_toArray, List.set_cons_zero, List.set_cons_succ])
            refine takeD (i := 30) (d := some 83) rfl (by rfl) (by kernel_rfl) (by kernel_rfl) (by kernel_rfl) (fun _ _ _ h => h) (Or.inr ⟨by rfl, rfl⟩) hHeld ?_
            (try simp only [Act.put, List.setIfInBounds_toArray, List.set_cons_zero, List.set_cons_succ])
            refine takeD (i := 31) (d := some 84) rfl (by rfl) (by kernel_rfl) (by kernel_rfl) (by kernel_rfl) (fun _ _ _ h => h) (Or.inr ⟨by rfl, rfl⟩) hHeld ?_
            (try simp only [Act.put, List.setIfInBounds_toArray, List.set_cons_zero, List.set_cons_succ])
            refine takeD (i := 32) (d := some 85) rfl (by rfl) (by kernel_rfl) (by kernel_rfl) (by kernel_rfl) (fun _ _ _ h => h) (Or.inr ⟨by rfl, rfl⟩) hHeld ?_
            (try simp only [Act.put, List.setIfInBounds_toArray, List.set_cons_zero, List.set_cons_succ])
            refine takeD (i := 33) (d := some 86) rfl (by rfl) (by kernel_rfl) (by kernel_rfl) (by kernel_rfl) (fun _ _ _ h => h) (Or.inr ⟨by rfl, rfl⟩) hHeld ?_
            (try simp only [Act.put, List.setIfInBounds_toArray, List.set_cons_zero, List.set_cons_succ])
            refine takeD (i := 34) (d := some 87) (v := ?_) rfl (by rfl) (by kernel_rfl) (by kernel_rfl) (by kernel_rfl) (fun _ _ _ h => h) (Or.inl ⟨by rfl, ?_⟩) hHeld ?_
            rotate_left
            · intro w hSw; (try dsimp only at hSw); go_simp; (try with_reducible rfl)
            (try simp only [Act.put, List.setIfInBounds_toArray, List.set_cons_zero, List.set_cons_succ])
            refine takeD (i := 35) (d := some 88) (v := ?_) rfl (by rfl) (by kernel_rfl) (by kernel_rfl) (by kernel_rfl) (fun _ _ _ h => h) (Or.inl ⟨by rfl, ?_⟩) hHeld ?_
            rotate_left
            · intro w hSw; (try dsimp only at hSw); go_simp; (try with_reducible rfl)
            (try simp only [Act.put, List.setIfInBounds_toArray, List.set_cons_zero, List.set_cons_succ])
            refine takeD (i := 36) (d := some 14) (v := ?_) rfl (by rfl) (by kernel_rfl) (by kernel_rfl) (by kernel_rfl) (fun _ _ _ h => h) (Or.inl ⟨by rfl, ?_⟩) hHeld ?_
            rotate_left
            · intro w hSw; (try dsimp only at hSw); go_simp; (try with_reducible rfl)
            (try simp only [Act.put, List.setIfInBounds_toArray, List.set_cons_zero, List.set_cons_succ])
            refine wpAnyH_done (by kernel_rfl) ?_ _
            go_wp2_with fail
            go_meet
            exact ⟨rfl, hz⟩
          | some i =>
            have hij := HBS.out i rfl
            obtain ⟨y, hy⟩ : ∃ y, acs[i]? = some y := ⟨_, List.getElem?_eq_getElem (by rw [HL.out]; have := HN.out; omega)⟩
            obtain ⟨g', off', lv', ea, -, hcell', -, -⟩ := HR.out i y hy
            simp at ea
            obtain ⟨rfl, rfl⟩ := ea
            have r6 := (HS6.out.2.2.1.cell g _ hg id).trans (hcell' 6 _ rfl)
            have r7 := (HS6.out.2.2.1.cell g _ hg id).trans (hcell' 7 _ rfl)
            have rl : g < w6.heap.size := Nat.lt_of_lt_of_le hg HS6.out.2.2.1.size
            obtain ⟨iver, hiv⟩ : ∃ z, y.ver = z := ⟨_, rfl⟩
            obtain ⟨iinc, hii⟩ : ∃ z, y.inc = z := ⟨_, rfl⟩
            rw [hiv] at r6
            rw [hii] at r7
            unfold elderE bestE at htk
            simp only [hy, hiv, hii, Bool.true_and] at htk
            simp only [bsV]
            have i0 : (0 : Int) ≤ (i : Int) := by omega
            have i1 : (i : Int) < (N : Int) := by omega
            have dl : decide ((i : Int) < 0) = false := by simp
            clear hy hcell' hiv hii
            by_cases h1 : iinc < inc
            · have dg : decide (iinc < inc) = true := by simpa using h1
              have etk : tk = true := by
                rw [← htk]
                have e1 : ¬ inc < iinc := by omega
                have e2 : ¬ inc = iinc := by omega
                simp [e1, e2]
              subst etk
              clear htk h1
              refine wp_region_held_drew (S := fun w' => w'.cell? ⟨w5.heap.size, 0, none⟩ = some (.int .i64 vk) ∧ w'.cell? ⟨w5.heap.size, 1, none⟩ = some (.int .i64 vn) ∧ w'.cell? ⟨w5.heap.size, 2, none⟩ = some (.string ⟨tc.toArray⟩) ∧ w'.cell? ⟨w5.heap.size, 3, none⟩ = some (.bool vb) ∧ w'.cell? ⟨w5.heap.size, 4, none⟩ = some (.int .i64 vf) ∧ w'.cell? ⟨wr.heap.size, 6, none⟩ = some (.int .i64 ver) ∧ w'.cell? ⟨wr.heap.size, 7, none⟩ = some (.int .i64 inc) ∧ w'.cell? ⟨g, off + i * 16 + 6, none⟩ = some (.int .i64 iver) ∧ w'.cell? ⟨g, off + i * 16 + 7, none⟩ = some (.int .i64 iinc) ∧ Upd w6 w' (fun _ => False)) (by kernel_rfl) ⟨t0, t1, t2, t3, t4, y6, y7, r6, r7, (Upd.refl w6 _).drew⟩ (fun hHeld => ?_)
              refine takeD (i := 0) (d := some 53) (v := ?_) rfl (by rfl) (by kernel_rfl) (by kernel_rfl) (by kernel_rfl) (fun _ _ _ h => h) (Or.inl ⟨by rfl, ?_⟩) hHeld ?_
              rotate_left
              · intro w hSw; (try dsimp only at hSw); go_simp; (try with_reducible rfl)
              (try simp only [Act.put, List.setIfInBounds_toArray, List.set_cons_zero, List.set_cons_succ])
              refine wpAnyH_ready (rs := [1]) (by kernel_rfl) (by simp) ?_
              refine AllReadyH.cons rfl (fun K hK => ?_) AllReadyH.nil
              go_simp
              go_at_call 12
              with_reducible refine Calls.mono (HGA.out _) ?_
              rintro e w9 ⟨rfl, u9⟩
              have hz : Upd w6 w9 (fun _ => False) := ((Upd.refl w6 (fun _ => False)).drew).then u9 (fun _ _ => id)
              refine hK.out _ _ ⟨(hz.cell (w5.heap.size) (0) tl id).trans t0, (hz.cell (w5.heap.size) (1) tl id).trans t1, (hz.cell (w5.heap.size) (2) tl id).trans t2, (hz.cell (w5.heap.size) (3) tl id).trans t3, (hz.cell (w5.heap.size) (4) tl id).trans t4, (hz.cell (wr.heap.size) (6) yl id).trans y6, (hz.cell (wr.heap.size) (7) yl id).trans y7, (hz.cell (g) (off + i * 16 + 6) rl id).trans r6, (hz.cell (g) (off + i * 16 + 7) rl id).trans r7, hz⟩ (fun hHeld => ?_)
              clear hK K
              (try simp only [Act.put, List.setIfInBounds_toArray, List.set_cons_zero, List.set_cons_succ])
              refine takeD (i := 2) (d := some 55) (v := ?_) rfl (by rfl) (by kernel_rfl) (by kernel_rfl) (by kernel_rfl) (fun _ _ _ h => h) (Or.inl ⟨by rfl, ?_⟩) hHeld ?_
              rotate_left
              · intro w hSw; (try dsimp only at hSw); go_simp; (try with_reducible rfl)
              (try simp only [Act.put, List.setIfInBounds_toArray, List.set_cons_zero, List.set_cons_succ])
              refine takeD (i := 3) (d := some 56) (v := ?_) rfl (by rfl) (by kernel_rfl) (by kernel_rfl) (by kernel_rfl) (fun _ _ _ h => h) (Or.inl ⟨by rfl, ?_⟩) hHeld ?_
              rotate_left
              · intro w hSw; (try dsimp only at hSw); go_simp; (try with_reducible rfl)
              (try simp only [Act.put, List.setIfInBounds_toArray, List.set_cons_zero, List.set_cons_succ])
              refine takeD (i := 4) (d := some 57) (v := ?_) rfl (by rfl) (by kernel_rfl) (by kernel_rfl) (by kernel_rfl) (fun _ _ _ h => h) (Or.inl ⟨by rfl, ?_⟩) hHeld ?_
              rotate_left
              · intro w hSw; (try dsimp only at hSw); go_simp; (try with_reducible rfl)
              (try simp only [Act.put, List.setIfInBounds_toArray, List.set_cons_zero, List.set_cons_succ])
              refine takeD (i := 5) (d := some 58) (v := ?_) rfl (by rfl) (by kernel_rfl) (by kernel_rfl) (by kernel_rfl) (fun _ _ _ h => h) (Or.inl ⟨by rfl, ?_⟩) hHeld ?_
              rotate_left
              · intro w hSw; (try dsimp only at hSw); go_simp; (try with_reducible rfl)
              (try simp only [Act.put, List.setIfInBounds_toArray, List.set_cons_zero, List.set_cons_succ])
              refine takeD (i := 6) (d := some 59) (v := ?_) rfl (by rfl) (by kernel_rfl) (by kernel_rfl) (by kernel_rfl) (fun _ _ _ h => h) (Or.inl ⟨by rfl, ?_⟩) hHeld ?_
              rotate_left
              · intro w hSw; (try dsimp only at hSw); go_simp; (try with_reducible rfl)
              (try simp only [Act.put, List.setIfInBounds_toArray, List.set_cons_zero, List.set_cons_succ])
              refine takeD (i := 7) (d := some 60) (v := ?_) rfl (by rfl) (by kernel_rfl) (by kernel_rfl) (by kernel_rfl) (fun _ _ _ h => h) (Or.inl ⟨by rfl, ?_⟩) hHeld ?_
              rotate_left
              · intro w hSw; (try dsimp only at hSw); go_simp; (try with_reducible rfl)
              (try simp only [Act.put, List.setIfInBounds_toArray, List.set_cons_zero, List.set_cons_succ])
              refine takeD (i := 8) (d := some 61) (v := ?_) rfl (by rfl) (by kernel_rfl) (by kernel_rfl) (by kernel_rfl) (fun _ _ _ h => h) (Or.inl ⟨by rfl, ?_⟩) hHeld ?_
              rotate_left
              · intro w hSw; (try dsimp only at hSw); go_simp; (try with_reducible rfl)
              (try simp only [Act.put, List.setIfInBounds_toArray, List.set_cons_zero, List.set_cons_succ])
              refine takeD (i := 9) (d := some 62) (v := ?_) rfl (by rfl) (by kernel_rfl) (by kernel_rfl) (by kernel_rfl) (fun _ _ _ h => h) (Or.inl ⟨by rfl, ?_⟩) hHeld ?_
              rotate_left
              · intro w hSw; (try dsimp only at hSw); go_simp; (try with_reducible rfl)
              (try simp only [Act.put, List.setIfInBounds_toArray, List.set_cons_zero, List.set_cons_succ])
              refine takeD (i := 10) (d := some 63) (v := ?_) rfl (by rfl) (by kernel_rfl) (by kernel_rfl) (by kernel_rfl) (fun _ _ _ h => h) (Or.inl ⟨by rfl, ?_⟩) hHeld ?_
              rotate_left
              · intro w hSw; (try dsimp only at hSw); go_simp; (try with_reducible rfl)
              (try simp only [Act.put, List.setIfInBounds_toArray, List.set_cons_zero, List.set_cons_succ])
              refine takeD (i := 11) (d := some 64) (v := ?_) rfl (by rfl) (by kernel_rfl) (by kernel_rfl) (by kernel_rfl) (fun _ _ _ h => h) (Or.inl ⟨by rfl, ?_⟩) hHeld ?_
              rotate_left
              · intro w hSw; (try dsimp only at hSw); go_simp; (try with_reducible rfl)
              (try simp only [Act.put, List.setIfInBounds_toArray, List.set_cons_zero, List.set_cons_succ])
              refine takeD (i := 12) (d := some 65) (v := ?_) rfl (by rfl) (by kernel_rfl) (by kernel_rfl) (by kernel_rfl) (fun _ _ _ h => h) (Or.inl ⟨by rfl, ?_⟩) hHeld ?_
              rotate_left
              · intro w hSw; (try dsimp only at hSw); go_simp; (try with_reducible rfl)
              (try simp only [Act.put, List.setIfInBounds_toArray, List.set_cons_zero, List.set_cons_succ])
              refine takeD (i := 13) (d := some 66) (v := ?_) rfl (by rfl) (by kernel_rfl) (by kernel_rfl) (by kernel_rfl) (fun _ _ _ h => h) (Or.inl ⟨by rfl, ?_⟩) hHeld ?_
              rotate_left
              · intro w hSw; (try dsimp only at hSw); go_simp; (try with_reducible rfl)
              (try simp only [Act.put, List.setIfInBounds_toArray, List.set_cons_zero, List.set_cons_succ])
              refine takeD (i := 14) (d := some 67) (v := ?_) rfl (by rfl) (by kernel_rfl) (by kernel_rfl) (by kernel_rfl) (fun _ _ _ h => h) (Or.inl ⟨by rfl, ?_⟩) hHeld ?_
              rotate_left
              · intro w hSw; (try dsimp only at hSw); go_simp; (try with_reducible rfl)
              (try simp only [Act.put, List.setIfInBounds_toArray, List.set_cons_zero, List.set_cons_succ])
              refine takeD (i := 15) (d := some 68) (v := ?_) rfl (by rfl) (by kernel_rfl) (by kernel_rfl) (by kernel_rfl) (fun _ _ _ h => h) (Or.inl ⟨by rfl, ?_⟩) hHeld ?_
              rotate_left
              · intro w hSw; (try dsimp only at hSw); go_simp; (try with_reducible rfl)
              (try simp only [Act.put, List.setIfInBounds_toArray, List.set_cons_zero, List.set_cons_succ])
              refine takeD (i := 16) (d := some 69) rfl (by rfl) (by kernel_rfl) (by kernel_rfl) (by kernel_rfl) (fun _ _ _ h => h) (Or.inr ⟨by rfl, rfl⟩) hHeld ?_
              (try simp only [Act.put, List.setIfInBounds_toArray, List.set_cons_zero, List.set_cons_succ])
              refine takeD (i := 17) (d := some 70) rfl (by rfl) (by kernel_rfl) (by kernel_rfl) (by kernel_rfl) (fun _ _ _ h => h) (Or.inr ⟨by rfl, rfl⟩) hHeld ?_
              (try simp only [Act.put, List.setIfInBounds_toArray, List.set_cons_zero, List.set_cons_succ])
              refine takeD (i := 18) (d := some 71) rfl (by rfl) (by kernel_rfl) (by kernel_rfl) (by kernel_rfl) (fun _ _ _ h => h) (Or.inr ⟨by rfl, rfl⟩) hHeld ?_
              (try simp only [Act.put, List.setIfInBounds_toArray, List.set_cons_zero, List.set_cons_succ])
              refine takeD (i := 19) (d := some 72) rfl (by rfl) (by kernel_rfl) (by kernel_rfl) (by kernel_rfl) (fun _ _ _ h => h) (Or.inr ⟨by rfl, rfl⟩) hHeld ?_
              (try simp only [Act.put, List.setIfInBounds_toArray, List.set_cons_zero, List.set_cons_succ])
              refine takeD (i := 20) (d := some 73) rfl (by rfl) (by kernel_rfl) (by kernel_rfl) (by kernel_rfl) (fun _ _ _ h => h) (Or.inr ⟨by rfl, rfl⟩) hHeld ?_
              (try simp only [Act.put, List.setIfInBounds_toArray, List.set_cons_zero, List.set_cons_succ])
              refine takeD (i := 21) (d := some 74) rfl (by rfl) (by kernel_rfl) (by kernel_rfl) (by kernel_rfl) (fun _ _ _ h => h) (Or.inr ⟨by rfl, rfl⟩) hHeld ?_
              (try simp only [Act.put, List.setIfInBounds_toArray, List.set_cons_zero, List.set_cons_succ])
              refine takeD (i := 22) (d := some 75) rfl (by rfl) (by kernel_rfl) (by kernel_rfl) (by kernel_rfl) (fun _ _ _ h => h) (Or.inr ⟨by rfl, rfl⟩) hHeld ?_
              (try simp only [Act.put, List.setIfInBounds_toArray, List.set_cons_zero, List.set_cons_succ])
              refine takeD (i := 23) (d := some 76) rfl (by rfl) (by kernel_rfl) (by kernel_rfl) (by kernel_rfl) (fun _ _ _ h => h) (Or.inr ⟨by rfl, rfl⟩) hHeld ?_
              (try simp only [Act.put, List.setIfInBounds_toArray, List.set_cons_zero, List.set_cons_succ])
              refine takeD (i := 24) (d := some 77) rfl (by rfl) (by kernel_rfl) (by kernel_rfl) (by kernel_rfl) (fun _ _ _ h => h) (Or.inr ⟨by rfl, rfl⟩) hHeld ?_
              (try simp only [Act.put, List.setIfInBounds_toArray, List.set_cons_zero, List.set_cons_succ])
              refine takeD (i := 25) (d := some 78) rfl (by rfl) (by kernel_rfl) (by kernel_rfl) (by kernel_rfl) (fun _ _ _ h => h) (Or.inr ⟨by rfl, rfl⟩) hHeld ?_
              (try simp only [Act.put, List.setIfInBounds_toArray, List.set_cons_zero, List.set_cons_succ])
              refine takeD (i := 26) (d := some 79) rfl (by rfl) (by kernel_rfl) (by kernel_rfl) (by kernel_rfl) (fun _ _ _ h => h) (Or.inr ⟨by rfl, rfl⟩) hHeld ?_
              (try simp only [Act.put, List.setIfInBounds_toArray, List.set_cons_zero, List.set_cons_succ])
              refine takeD (i := 27) (d := some 80) rfl (by rfl) (by kernel_rfl) (by kernel_rfl) (by kernel_rfl) (fun _ _ _ h => h) (Or.inr ⟨by rfl, rfl⟩) hHeld ?_
              (try simp only [Act.put, List.setIfInBounds_toArray, List.set_cons_zero, List.set_cons_succ])
              refine takeD (i := 28) (d := some 81) rfl (by rfl) (by kernel_rfl) (by kernel_rfl) (by kernel_rfl) (fun _ _ _ h => h) (Or.inr ⟨by rfl, rfl⟩) hHeld ?_
              (try simp only [Act.put, List.setIfInBounds_toArray, List.set_cons_zero, List.set_cons_succ])
              refine takeD (i := 29) (d := some 82) rfl (by rfl) (by kernel_rfl) (by kernel_rfl) (by kernel_rfl) (fun _ _ _ h => h) (Or.inr ⟨by rfl, rfl⟩) hHeld ?_
              (try simp only [Act.put, List.setIfInBounds_toArray, List.set_cons_zero, List.set_cons_succ])
              refine takeD (i := 30) (d := some 83) rfl (by rfl) (by kernel_rfl) (by kernel_rfl) (by kernel_rfl) (fun _ _ _ h => h) (Or.inr ⟨by rfl, rfl⟩) hHeld ?_
              (try simp only [Act.put, List.setIfInBounds_toArray, List.set_cons_zero, List.set_cons_succ])
              refine takeD (i := 31) (d := some 84) rfl (by rfl) (by kernel_rfl) (by kernel_rfl) (by kernel_rfl) (fun _ _ _ h => h) (Or.inr ⟨by rfl, rfl⟩) hHeld ?_
              (try simp only [Act.put, List.setIfInBounds_toArray, List.set_cons_zero, List.set_cons_succ])
              refine takeD (i := 32) (d := some 85) rfl (by rfl) (by kernel_rfl) (by kernel_rfl) (by kernel_rfl) (fun _ _ _ h => h) (Or.inr ⟨by rfl, rfl⟩) hHeld ?_
              (try simp only [Act.put, List.setIfInBounds_toArray, List.set_cons_zero, List.set_cons_succ])
              refine takeD (i := 33) (d := some 86) rfl (by rfl) (by kernel_rfl) (by kernel_rfl) (by kernel_rfl) (fun _ _ _ h => h) (Or.inr ⟨by rfl, rfl⟩) hHeld ?_
              (try simp only [Act.put, List.setIfInBounds_toArray, List.set_cons_zero, List.set_cons_succ])
              refine takeD (i := 34) (d := some 87) (v := ?_) rfl (by rfl) (by kernel_rfl) (by kernel_rfl) (by kernel_rfl) (fun _ _ _ h => h) (Or.inl ⟨by rfl, ?_⟩) hHeld ?_
              rotate_left
              · intro w hSw; (try dsimp only at hSw); go_simp; (try with_reducible rfl)
              (try simp only [Act.put, List.setIfInBounds_toArray, List.set_cons_zero, List.set_cons_succ])
              refine takeD (i := 35) (d := some 88) (v := ?_) rfl (by rfl) (by kernel_rfl) (by kernel_rfl) (by kernel_rfl) (fun _ _ _ h => h) (Or.inl ⟨by rfl, ?_⟩) hHeld ?_
              rotate_left
              · intro w hSw; (try dsimp only at hSw); go_simp; (try with_reducible rfl)
              (try simp only [Act.put, List.setIfInBounds_toArray, List.set_cons_zero, List.set_cons_succ])
              refine takeD (i := 36) (d := some 14) (v := ?_) rfl (by rfl) (by kernel_rfl) (by kernel_rfl) (by kernel_rfl) (fun _ _ _ h => h) (Or.inl ⟨by rfl, ?_⟩) hHeld ?_
              rotate_left
              · intro w hSw; (try dsimp only at hSw); go_simp; (try with_reducible rfl)
              (try simp only [Act.put, List.setIfInBounds_toArray, List.set_cons_zero, List.set_cons_succ])
              refine wpAnyH_done (by kernel_rfl) ?_ _
              go_wp2_with fail
              go_meet
              exact ⟨rfl, hz⟩
            · have dg : decide (iinc < inc) = false := by simpa using h1
              by_cases h2 : inc = iinc
              · subst h2
                by_cases h3 : iver < ver
                · have dv : decide (iver < ver) = true := by simpa using h3
                  have etk : tk = true := by
                    rw [← htk]
                    have e1 : ¬ ver ≤ iver := by omega
                    simp [e1]
                  subst etk
                  clear htk h3 h1
                  go_region_held3 (fun w' => w'.cell? ⟨w5.heap.size, 0, none⟩ = some (.int .i64 vk) ∧ w'.cell? ⟨w5.heap.size, 1, none⟩ = some (.int .i64 vn) ∧ w'.cell? ⟨w5.heap.size, 2, none⟩ = some (.string ⟨tc.toArray⟩) ∧ w'.cell? ⟨w5.heap.size, 3, none⟩ = some (.bool vb) ∧ w'.cell? ⟨w5.heap.size, 4, none⟩ = some (.int .i64 vf) ∧ w'.cell? ⟨wr.heap.size, 6, none⟩ = some (.int .i64 ver) ∧ w'.cell? ⟨wr.heap.size, 7, none⟩ = some (.int .i64 inc) ∧ w'.cell? ⟨g, off + i * 16 + 6, none⟩ = some (.int .i64 iver) ∧ w'.cell? ⟨g, off + i * 16 + 7, none⟩ = some (.int .i64 inc) ∧ Upd w6 w' (fun _ => False))
                    (first | (go_keep; done) | exact ⟨t0, t1, t2, t3, t4, y6, y7, r6, r7, (Upd.refl w6 _).drew⟩ | (have hz : Upd w6 _ (fun _ => False) := Upd.then (And.right (And.right (And.right (And.right (And.right (And.right (And.right (And.right (And.right (by assumption)))))))))) u9 (fun _ _ => id); exact ⟨(hz.cell (w5.heap.size) (0) tl id).trans t0, (hz.cell (w5.heap.size) (1) tl id).trans t1, (hz.cell (w5.heap.size) (2) tl id).trans t2, (hz.cell (w5.heap.size) (3) tl id).trans t3, (hz.cell (w5.heap.size) (4) tl id).trans t4, (hz.cell (wr.heap.size) (6) yl id).trans y6, (hz.cell (wr.heap.size) (7) yl id).trans y7, (hz.cell (g) (off + i * 16 + 6) rl id).trans r6, (hz.cell (g) (off + i * 16 + 7) rl id).trans r7, hz⟩))
                    ((go_at_call 12; with_reducible refine Calls.mono (HGA.out _) ?_; rintro e w9 ⟨rfl, u9⟩))
                  all_goals go_wp2_with fail
                  all_goals go_meet
                  all_goals exact ⟨rfl, And.right (And.right (And.right (And.right (And.right (And.right (And.right (And.right (And.right (by assumption)))))))))⟩
                · have dv : decide (iver < ver) = false := by simpa using h3
                  have etk : tk = false := by
                    rw [← htk]
                    have e1 : ver ≤ iver := by omega
                    simp [e1]
                  subst etk
                  clear htk h3 h1
                  go_region_held3 (fun w' => w'.cell? ⟨w5.heap.size, 0, none⟩ = some (.int .i64 vk) ∧ w'.cell? ⟨w5.heap.size, 1, none⟩ = some (.int .i64 vn) ∧ w'.cell? ⟨w5.heap.size, 2, none⟩ = some (.string ⟨tc.toArray⟩) ∧ w'.cell? ⟨w5.heap.size, 3, none⟩ = some (.bool vb) ∧ w'.cell? ⟨w5.heap.size, 4, none⟩ = some (.int .i64 vf) ∧ w'.cell? ⟨wr.heap.size, 6, none⟩ = some (.int .i64 ver) ∧ w'.cell? ⟨wr.heap.size, 7, none⟩ = some (.int .i64 inc) ∧ w'.cell? ⟨g, off + i * 16 + 6, none⟩ = some (.int .i64 iver) ∧ w'.cell? ⟨g, off + i * 16 + 7, none⟩ = some (.int .i64 inc) ∧ Upd w6 w' (fun _ => False))
                    (first | (go_keep; done) | exact ⟨t0, t1, t2, t3, t4, y6, y7, r6, r7, (Upd.refl w6 _).drew⟩ | (have hz : Upd w6 _ (fun _ => False) := Upd.then (And.right (And.right (And.right (And.right (And.right (And.right (And.right (And.right (And.right (by assumption)))))))))) u9 (fun _ _ => id); exact ⟨(hz.cell (w5.heap.size) (0) tl id).trans t0, (hz.cell (w5.heap.size) (1) tl id).trans t1, (hz.cell (w5.heap.size) (2) tl id).trans t2, (hz.cell (w5.heap.size) (3) tl id).trans t3, (hz.cell (w5.heap.size) (4) tl id).trans t4, (hz.cell (wr.heap.size) (6) yl id).trans y6, (hz.cell (wr.heap.size) (7) yl id).trans y7, (hz.cell (g) (off + i * 16 + 6) rl id).trans r6, (hz.cell (g) (off + i * 16 + 7) rl id).trans r7, hz⟩))
                    ((go_at_call 12; with_reducible refine Calls.mono (HGA.out _) ?_; rintro e w9 ⟨rfl, u9⟩))
                  all_goals go_wp2_with fail
                  all_goals go_meet
                  all_goals exact ⟨rfl, And.right (And.right (And.right (And.right (And.right (And.right (And.right (And.right (And.right (by assumption)))))))))⟩
              · have dq : (inc == iinc) = false := by simpa using h2
                have etk : tk = false := by
                  rw [← htk]
                  have e1 : inc < iinc := by omega
                  simp [e1]
                subst etk
                clear htk h2 h1
                refine wp_region_held_drew (S := fun w' => w'.cell? ⟨w5.heap.size, 0, none⟩ = some (.int .i64 vk) ∧ w'.cell? ⟨w5.heap.size, 1, none⟩ = some (.int .i64 vn) ∧ w'.cell? ⟨w5.heap.size, 2, none⟩ = some (.string ⟨tc.toArray⟩) ∧ w'.cell? ⟨w5.heap.size, 3, none⟩ = some (.bool vb) ∧ w'.cell? ⟨w5.heap.size, 4, none⟩ = some (.int .i64 vf) ∧ w'.cell? ⟨wr.heap.size, 6, none⟩ = some (.int .i64 ver) ∧ w'.cell? ⟨wr.heap.size, 7, none⟩ = some (.int .i64 inc) ∧ w'.cell? ⟨g, off + i * 16 + 6, none⟩ = some (.int .i64 iver) ∧ w'.cell? ⟨g, off + i * 16 + 7, none⟩ = some (.int .i64 iinc) ∧ Upd w6 w' (fun _ => False)) (by kernel_rfl) ⟨t0, t1, t2, t3, t4, y6, y7, r6, r7, (Upd.refl w6 _).drew⟩ (fun hHeld => ?_)
                refine takeD (i := 0) (d := some 53) (v := ?_) rfl (by rfl) (by kernel_rfl) (by kernel_rfl) (by kernel_rfl) (fun _ _ _ h => h) (Or.inl ⟨by rfl, ?_⟩) hHeld ?_
                rotate_left
                · intro w hSw; (try dsimp only at hSw); go_simp; (try with_reducible rfl)
                (try simp only [Act.put, List.setIfInBounds_toArray, List.set_cons_zero, List.set_cons_succ])
                refine wpAnyH_ready (rs := [1]) (by kernel_rfl) (by simp) ?_
                refine AllReadyH.cons rfl (fun K hK => ?_) AllReadyH.nil
                go_simp
                go_at_call 12
                with_reducible refine Calls.mono (HGA.out _) ?_
                rintro e w9 ⟨rfl, u9⟩
                have hz : Upd w6 w9 (fun _ => False) := ((Upd.refl w6 (fun _ => False)).drew).then u9 (fun _ _ => id)
                refine hK.out _ _ ⟨(hz.cell (w5.heap.size) (0) tl id).trans t0, (hz.cell (w5.heap.size) (1) tl id).trans t1, (hz.cell (w5.heap.size) (2) tl id).trans t2, (hz.cell (w5.heap.size) (3) tl id).trans t3, (hz.cell (w5.heap.size) (4) tl id).trans t4, (hz.cell (wr.heap.size) (6) yl id).trans y6, (hz.cell (wr.heap.size) (7) yl id).trans y7, (hz.cell (g) (off + i * 16 + 6) rl id).trans r6, (hz.cell (g) (off + i * 16 + 7) rl id).trans r7, hz⟩ (fun hHeld => ?_)
                clear hK K
                (try simp only [Act.put, List.setIfInBounds_toArray, List.set_cons_zero, List.set_cons_succ])
                refine takeD (i := 2) (d := some 55) (v := ?_) rfl (by rfl) (by kernel_rfl) (by kernel_rfl) (by kernel_rfl) (fun _ _ _ h => h) (Or.inl ⟨by rfl, ?_⟩) hHeld ?_
                rotate_left
                · intro w hSw; (try dsimp only at hSw); go_simp; (try with_reducible rfl)
                (try simp only [Act.put, List.setIfInBounds_toArray, List.set_cons_zero, List.set_cons_succ])
                refine takeD (i := 3) (d := some 56) (v := ?_) rfl (by rfl) (by kernel_rfl) (by kernel_rfl) (by kernel_rfl) (fun _ _ _ h => h) (Or.inl ⟨by rfl, ?_⟩) hHeld ?_
                rotate_left
                · intro w hSw; (try dsimp only at hSw); go_simp; (try with_reducible rfl)
                (try simp only [Act.put, List.setIfInBounds_toArray, List.set_cons_zero, List.set_cons_succ])
                refine takeD (i := 4) (d := some 57) (v := ?_) rfl (by rfl) (by kernel_rfl) (by kernel_rfl) (by kernel_rfl) (fun _ _ _ h => h) (Or.inl ⟨by rfl, ?_⟩) hHeld ?_
                rotate_left
                · intro w hSw; (try dsimp only at hSw); go_simp; (try with_reducible rfl)
                (try simp only [Act.put, List.setIfInBounds_toArray, List.set_cons_zero, List.set_cons_succ])
                refine takeD (i := 5) (d := some 58) (v := ?_) rfl (by rfl) (by kernel_rfl) (by kernel_rfl) (by kernel_rfl) (fun _ _ _ h => h) (Or.inl ⟨by rfl, ?_⟩) hHeld ?_
                rotate_left
                · intro w hSw; (try dsimp only at hSw); go_simp; (try with_reducible rfl)
                (try simp only [Act.put, List.setIfInBounds_toArray, List.set_cons_zero, List.set_cons_succ])
                refine takeD (i := 6) (d := some 59) (v := ?_) rfl (by rfl) (by kernel_rfl) (by kernel_rfl) (by kernel_rfl) (fun _ _ _ h => h) (Or.inl ⟨by rfl, ?_⟩) hHeld ?_
                rotate_left
                · intro w hSw; (try dsimp only at hSw); go_simp; (try with_reducible rfl)
                (try simp only [Act.put, List.setIfInBounds_toArray, List.set_cons_zero, List.set_cons_succ])
                refine takeD (i := 7) (d := some 60) (v := ?_) rfl (by rfl) (by kernel_rfl) (by kernel_rfl) (by kernel_rfl) (fun _ _ _ h => h) (Or.inl ⟨by rfl, ?_⟩) hHeld ?_
                rotate_left
                · intro w hSw; (try dsimp only at hSw); go_simp; (try with_reducible rfl)
                (try simp only [Act.put, List.setIfInBounds_toArray, List.set_cons_zero, List.set_cons_succ])
                refine takeD (i := 8) (d := some 61) (v := ?_) rfl (by rfl) (by kernel_rfl) (by kernel_rfl) (by kernel_rfl) (fun _ _ _ h => h) (Or.inl ⟨by rfl, ?_⟩) hHeld ?_
                rotate_left
                · intro w hSw; (try dsimp only at hSw); go_simp; (try with_reducible rfl)
                (try simp only [Act.put, List.setIfInBounds_toArray, List.set_cons_zero, List.set_cons_succ])
                refine takeD (i := 9) (d := some 62) (v := ?_) rfl (by rfl) (by kernel_rfl) (by kernel_rfl) (by kernel_rfl) (fun _ _ _ h => h) (Or.inl ⟨by rfl, ?_⟩) hHeld ?_
                rotate_left
                · intro w hSw; (try dsimp only at hSw); go_simp; (try with_reducible rfl)
                (try simp only [Act.put, List.setIfInBounds_toArray, List.set_cons_zero, List.set_cons_succ])
                refine takeD (i := 10) (d := some 63) (v := ?_) rfl (by rfl) (by kernel_rfl) (by kernel_rfl) (by kernel_rfl) (fun _ _ _ h => h) (Or.inl ⟨by rfl, ?_⟩) hHeld ?_
                rotate_left
                · intro w hSw; (try dsimp only at hSw); go_simp; (try with_reducible rfl)
                (try simp only [Act.put, List.setIfInBounds_toArray, List.set_cons_zero, List.set_cons_succ])
                refine takeD (i := 11) (d := some 64) (v := ?_) rfl (by rfl) (by kernel_rfl) (by kernel_rfl) (by kernel_rfl) (fun _ _ _ h => h) (Or.inl ⟨by rfl, ?_⟩) hHeld ?_
                rotate_left
                · intro w hSw; (try dsimp only at hSw); go_simp; (try with_reducible rfl)
                (try simp only [Act.put, List.setIfInBounds_toArray, List.set_cons_zero, List.set_cons_succ])
                refine takeD (i := 12) (d := some 65) (v := ?_) rfl (by rfl) (by kernel_rfl) (by kernel_rfl) (by kernel_rfl) (fun _ _ _ h => h) (Or.inl ⟨by rfl, ?_⟩) hHeld ?_
                rotate_left
                · intro w hSw; (try dsimp only at hSw); go_simp; (try with_reducible rfl)
                (try simp only [Act.put, List.setIfInBounds_toArray, List.set_cons_zero, List.set_cons_succ])
                refine takeD (i := 13) (d := some 66) (v := ?_) rfl (by rfl) (by kernel_rfl) (by kernel_rfl) (by kernel_rfl) (fun _ _ _ h => h) (Or.inl ⟨by rfl, ?_⟩) hHeld ?_
                rotate_left
                · intro w hSw; (try dsimp only at hSw); go_simp; (try with_reducible rfl)
                (try simp only [Act.put, List.setIfInBounds_toArray, List.set_cons_zero, List.set_cons_succ])
                refine takeD (i := 14) (d := some 67) (v := ?_) rfl (by rfl) (by kernel_rfl) (by kernel_rfl) (by kernel_rfl) (fun _ _ _ h => h) (Or.inl ⟨by rfl, ?_⟩) hHeld ?_
                rotate_left
                · intro w hSw; (try dsimp only at hSw); go_simp; (try with_reducible rfl)
                (try simp only [Act.put, List.setIfInBounds_toArray, List.set_cons_zero, List.set_cons_succ])
                refine takeD (i := 15) (d := some 68) (v := ?_) rfl (by rfl) (by kernel_rfl) (by kernel_rfl) (by kernel_rfl) (fun _ _ _ h => h) (Or.inl ⟨by rfl, ?_⟩) hHeld ?_
                rotate_left
                · intro w hSw; (try dsimp only at hSw); go_simp; (try with_reducible rfl)
                (try simp only [Act.put, List.setIfInBounds_toArray, List.set_cons_zero, List.set_cons_succ])
                refine takeD (i := 16) (d := some 69) (v := ?_) rfl (by rfl) (by kernel_rfl) (by kernel_rfl) (by kernel_rfl) (fun _ _ _ h => h) (Or.inl ⟨by rfl, ?_⟩) hHeld ?_
                rotate_left
                · intro w hSw; (try dsimp only at hSw); go_simp; (try with_reducible rfl)
                (try simp only [Act.put, List.setIfInBounds_toArray, List.set_cons_zero, List.set_cons_succ])
                refine takeD (i := 17) (d := some 70) (v := ?_) rfl (by rfl) (by kernel_rfl) (by kernel_rfl) (by kernel_rfl) (fun _ _ _ h => h) (Or.inl ⟨by rfl, ?_⟩) hHeld ?_
                rotate_left
                · intro w hSw; (try dsimp only at hSw); go_simp; (try with_reducible rfl)
                (try simp only [Act.put, List.setIfInBounds_toArray, List.set_cons_zero, List.set_cons_succ])
                refine takeD (i := 18) (d := some 71) (v := ?_) rfl (by rfl) (by kernel_rfl) (by kernel_rfl) (by kernel_rfl) (fun _ _ _ h => h) (Or.inl ⟨by rfl, ?_⟩) hHeld ?_
                rotate_left
                · intro w hSw; (try dsimp only at hSw); go_simp; (try with_reducible rfl)
                (try simp only [Act.put, List.setIfInBounds_toArray, List.set_cons_zero, List.set_cons_succ])
                refine takeD (i := 19) (d := some 72) (v := ?_) rfl (by rfl) (by kernel_rfl) (by kernel_rfl) (by kernel_rfl) (fun _ _ _ h => h) (Or.inl ⟨by rfl, ?_⟩) hHeld ?_
                rotate_left
                · intro w hSw; (try dsimp only at hSw); go_simp; (try with_reducible rfl)
                (try simp only [Act.put, List.setIfInBounds_toArray, List.set_cons_zero, List.set_cons_succ])
                refine takeD (i := 20) (d := some 73) (v := ?_) rfl (by rfl) (by kernel_rfl) (by kernel_rfl) (by kernel_rfl) (fun _ _ _ h => h) (Or.inl ⟨by rfl, ?_⟩) hHeld ?_
                rotate_left
                · intro w hSw; (try dsimp only at hSw); go_simp; (try with_reducible rfl)
                (try simp only [Act.put, List.setIfInBounds_toArray, List.set_cons_zero, List.set_cons_succ])
                refine takeD (i := 21) (d := some 74) (v := ?_) rfl (by rfl) (by kernel_rfl) (by kernel_rfl) (by kernel_rfl) (fun _ _ _ h => h) (Or.inl ⟨by rfl, ?_⟩) hHeld ?_
                rotate_left
                · intro w hSw; (try dsimp only at hSw); go_simp; (try with_reducible rfl)
                (try simp only [Act.put, List.setIfInBounds_toArray, List.set_cons_zero, List.set_cons_succ])
                refine takeD (i := 22) (d := some 75) (v := ?_) rfl (by rfl) (by kernel_rfl) (by kernel_rfl) (by kernel_rfl) (fun _ _ _ h => h) (Or.inl ⟨by rfl, ?_⟩) hHeld ?_
                rotate_left
                · intro w hSw; (try dsimp only at hSw); go_simp; (try with_reducible rfl)
                (try simp only [Act.put, List.setIfInBounds_toArray, List.set_cons_zero, List.set_cons_succ])
                refine takeD (i := 23) (d := some 76) (v := ?_) rfl (by rfl) (by kernel_rfl) (by kernel_rfl) (by kernel_rfl) (fun _ _ _ h => h) (Or.inl ⟨by rfl, ?_⟩) hHeld ?_
                rotate_left
                · intro w hSw; (try dsimp only at hSw); go_simp; (try with_reducible rfl)
                (try simp only [Act.put, List.setIfInBounds_toArray, List.set_cons_zero, List.set_cons_succ])
                refine takeD (i := 24) (d := some 77) (v := ?_) rfl (by rfl) (by kernel_rfl) (by kernel_rfl) (by kernel_rfl) (fun _ _ _ h => h) (Or.inl ⟨by rfl, ?_⟩) hHeld ?_
                rotate_left
                · intro w hSw; (try dsimp only at hSw); go_simp; (try with_reducible rfl)
                (try simp only [Act.put, List.setIfInBounds_toArray, List.set_cons_zero, List.set_cons_succ])
                refine takeD (i := 25) (d := some 78) rfl (by rfl) (by kernel_rfl) (by kernel_rfl) (by kernel_rfl) (fun _ _ _ h => h) (Or.inr ⟨by rfl, rfl⟩) hHeld ?_
                (try simp only [Act.put, List.setIfInBounds_toArray, List.set_cons_zero, List.set_cons_succ])
                refine takeD (i := 26) (d := some 79) rfl (by rfl) (by kernel_rfl) (by kernel_rfl) (by kernel_rfl) (fun _ _ _ h => h) (Or.inr ⟨by rfl, rfl⟩) hHeld ?_
                (try simp only [Act.put, List.setIfInBounds_toArray, List.set_cons_zero, List.set_cons_succ])
                refine takeD (i := 27) (d := some 80) rfl (by rfl) (by kernel_rfl) (by kernel_rfl) (by kernel_rfl) (fun _ _ _ h => h) (Or.inr ⟨by rfl, rfl⟩) hHeld ?_
                (try simp only [Act.put, List.setIfInBounds_toArray, List.set_cons_zero, List.set_cons_succ])
                refine takeD (i := 28) (d := some 81) rfl (by rfl) (by kernel_rfl) (by kernel_rfl) (by kernel_rfl) (fun _ _ _ h => h) (Or.inr ⟨by rfl, rfl⟩) hHeld ?_
                (try simp only [Act.put, List.setIfInBounds_toArray, List.set_cons_zero, List.set_cons_succ])
                refine takeD (i := 29) (d := some 82) rfl (by rfl) (by kernel_rfl) (by kernel_rfl) (by kernel_rfl) (fun _ _ _ h => h) (Or.inr ⟨by rfl, rfl⟩) hHeld ?_
                (try simp only [Act.put, List.setIfInBounds_toArray, List.set_cons_zero, List.set_cons_succ])
                refine takeD (i := 30) (d := some 83) rfl (by rfl) (by kernel_rfl) (by kernel_rfl) (by kernel_rfl) (fun _ _ _ h => h) (Or.inr ⟨by rfl, rfl⟩) hHeld ?_
                (try simp only [Act.put, List.setIfInBounds_toArray, List.set_cons_zero, List.set_cons_succ])
                refine takeD (i := 31) (d := some 84) rfl (by rfl) (by kernel_rfl) (by kernel_rfl) (by kernel_rfl) (fun _ _ _ h => h) (Or.inr ⟨by rfl, rfl⟩) hHeld ?_
                (try simp only [Act.put, List.setIfInBounds_toArray, List.set_cons_zero, List.set_cons_succ])
                refine takeD (i := 32) (d := some 85) rfl (by rfl) (by kernel_rfl) (by kernel_rfl) (by kernel_rfl) (fun _ _ _ h => h) (Or.inr ⟨by rfl, rfl⟩) hHeld ?_
                (try simp only [Act.put, List.setIfInBounds_toArray, List.set_cons_zero, List.set_cons_succ])
                refine takeD (i := 33) (d := some 86) (v := ?_) rfl (by rfl) (by kernel_rfl) (by kernel_rfl) (by kernel_rfl) (fun _ _ _ h => h) (Or.inl ⟨by rfl, ?_⟩) hHeld ?_
                rotate_left
                · intro w hSw; (try dsimp only at hSw); go_simp; (try with_reducible rfl)
                (try simp only [Act.put, List.setIfInBounds_toArray, List.set_cons_zero, List.set_cons_succ])
                refine takeD (i := 34) (d := some 87) (v := ?_) rfl (by rfl) (by kernel_rfl) (by kernel_rfl) (by kernel_rfl) (fun _ _ _ h => h) (Or.inl ⟨by rfl, ?_⟩) hHeld ?_
                rotate_left
                · intro w hSw; (try dsimp only at hSw); go_simp; (try with_reducible rfl)
                (try simp only [Act.put, List.setIfInBounds_toArray, List.set_cons_zero, List.set_cons_succ])
                refine takeD (i := 35) (d := some 88) (v := ?_) rfl (by rfl) (by kernel_rfl) (by kernel_rfl) (by kernel_rfl) (fun _ _ _ h => h) (Or.inl ⟨by rfl, ?_⟩) hHeld ?_
                rotate_left
                · intro w hSw; (try dsimp only at hSw); go_simp; (try with_reducible rfl)
                (try simp only [Act.put, List.setIfInBounds_toArray, List.set_cons_zero, List.set_cons_succ])
                refine takeD (i := 36) (d := some 14) (v := ?_) rfl (by rfl) (by kernel_rfl) (by kernel_rfl) (by kernel_rfl) (fun _ _ _ h => h) (Or.inl ⟨by rfl, ?_⟩) hHeld ?_
                rotate_left
                · intro w hSw; (try dsimp only at hSw); go_simp; (try with_reducible rfl)
                (try simp only [Act.put, List.setIfInBounds_toArray, List.set_cons_zero, List.set_cons_succ])
                refine wpAnyH_done (by kernel_rfl) ?_ _
                go_wp2_with fail
                go_meet
                exact ⟨rfl, hz⟩
      case rest =>
        obtain ⟨rfl, ux⟩ := hcut
        have HUX := hide ux
        clear ux t0 t1 t2 t3 t4 y6 y7 yl tl
        cases tk with
        | false =>
          have e1 : takeM M ⟨cb, cs, cc, cr⟩ ⟨vk, vn, tc, vb, vf⟩ ver inc = M := by
            unfold takeM
            rw [HMM.out, HTK2.out]
            rfl
          have HE := hide e1
          clear e1
          go_wp2_with fail
          go_roundg (gk - 1)
          case measure => omega
          case rel =>
            have s7 := HS6.out.quiet HUX.out
            rw [HE.out] at s7
            exact ⟨j + 1, bs, M, by omega, by go_num, rfl, fun i hi => by have := HBS.out i hi; omega, HMM.out, by rw [show 1 + (j + 1) = 1 + j + 1 by omega]; exact s7⟩
        | true =>
          have e1 : takeM M ⟨cb, cs, cc, cr⟩ ⟨vk, vn, tc, vb, vf⟩ ver inc ⟨cb, cs, cc, cr⟩ = some (bestE acs (some j)) := by
            unfold takeM
            rw [HMM.out, HTK2.out, if_pos rfl, setF_same, bestE_some HXX.out]
            unfold cutV
            simp only [HTC.out]
          have HE := hide e1
          clear e1
          go_wp2_with fail
          go_roundg (gk - 1)
          case measure => omega
          case rel =>
            have s7 := HS6.out.quiet HUX.out
            exact ⟨j + 1, some j, _, by omega, by go_num, rfl, fun i hi => by have := Option.some.inj hi; omega, HE.out, by rw [show 1 + (j + 1) = 1 + j + 1 by omega]; exact s7⟩
    · have hk1 : ¬ (j : Int) < (N : Int) := by omega
      have SE := fun W (q : StL ⟨cb, cs, cc, cr⟩ w W X b bm (1 + j) M) => q.seen HOKC.out
      rw [hM] at SE
      cases bs with
      | none =>
        have e0 : seenV (some (bestE acs none)) = ⟨4, 0, [], false, 6⟩ := rfl
        rw [e0] at SE
        unfold Lk.val Vl.val at SE
        simp only at SE
        have HSE := hide SE
        have E6 : ∀ W, Calls Try.prog 15 #[.int .i64 6] W fun e w' => e = .returned (.agg #[.int .i64 4, .int .i64 0, .string ⟨#[]⟩, .bool false, .int .i64 6]) ∧ Upd W w' (fun _ => False) := fun W => E_any W 6
        have Q2 : ∀ w, (binOp .eql 46 (.agg #[.int .i64 4, .int .i64 0, .string ⟨#[]⟩, .bool false, .int .i64 6]) (.agg #[.int .i64 4, .int .i64 0, .string ⟨#[]⟩, .bool false, .int .i64 6])).run Try.prog w = .ok (.bool true) w := fun w => eq_at ⟨4, 0, [], false, 6⟩ ⟨4, 0, [], false, 6⟩ vE6_ok vE6_ok (q := true) rfl w
        have HST := hide hst
        simp only [bsV]
        clear SE e0 hM hbs hst
        go_wp2_with (first
          | (go_at_call 13; refine Calls.mono (wakes_any _) ?_; rintro e w9 ⟨rfl, u9⟩; have s9 := HST.out.quiet u9; have x0 := cell_at s9.2.1 0 _ rfl; have x1 := cell_at s9.2.1 1 _ rfl; have x2 := cell_at s9.2.1 2 _ rfl; have x3 := cell_at s9.2.1 3 _ rfl; have xl := lt_at s9.2.1; have HS9 := hide s9; clear s9 u9)
          | (go_at_call 14; refine Calls.mono (HSE.out _ HS9.out) ?_; rintro e w10 ⟨rfl, u10⟩; have HU10 := hide (HS9.out.2.2.1.then u10 (fun _ _ => id)); clear u10 x0 x1 x2 x3 xl)
          | (go_at_call 15; refine Calls.mono (E6 _) ?_; rintro e w11 ⟨rfl, u11⟩; have HU11 := hide (HU10.out.then u11 (fun _ _ => id)); clear u11))
        go_ret
        exact ⟨rfl, HU11.out⟩
      | some i =>
        have hij := hbs i rfl
        obtain ⟨y, hy⟩ : ∃ y, acs[i]? = some y := ⟨_, List.getElem?_eq_getElem (by rw [HL.out]; have := HN.out; omega)⟩
        obtain ⟨g, off, lv, rfl, hg, hcell, -, yok⟩ := HR.out i y hy
        have vok := cutV_ok yok.v
        have d8 := (hst.2.2.1.cell g _ hg id).trans (hcell 8 _ rfl)
        have d9 := (hst.2.2.1.cell g _ hg id).trans (hcell 9 _ rfl)
        have d10 := (hst.2.2.1.cell g _ hg id).trans (hcell 10 _ rfl)
        have d11 := (hst.2.2.1.cell g _ hg id).trans (hcell 11 _ rfl)
        have d12 := (hst.2.2.1.cell g _ hg id).trans (hcell 12 _ rfl)
        have i0 : (0 : Int) ≤ (i : Int) := by omega
        have i1 : (i : Int) < (N : Int) := by omega
        have dl : decide ((i : Int) < 0) = false := by simp
        have glt : g < wr.heap.size := Nat.lt_of_lt_of_le hg hst.2.2.1.size
        have e0 : seenV (some (bestE acs (some i))) = cutV y.v := by
          rw [bestE_some hy]
          rfl
        rw [e0] at SE
        obtain ⟨dov, yl, ⟨pb, ps, pc, pr⟩, ver, inc, ⟨vk, vn, vt, vb, vf⟩, has, stale, lost⟩ := y
        obtain ⟨tc, htc⟩ : ∃ t, vt.take 300 = t := ⟨_, rfl⟩
        have VA := fun w => values_any w vk vn vt tc vb vf htc
        unfold cutV at vok SE
        simp only [htc] at vok SE
        have Q2 : ∀ w, (binOp .eql 46 (.agg #[.int .i64 vk, .int .i64 vn, .string ⟨tc.toArray⟩, .bool vb, .int .i64 vf]) (.agg #[.int .i64 vk, .int .i64 vn, .string ⟨tc.toArray⟩, .bool vb, .int .i64 vf])).run Try.prog w = .ok (.bool true) w := fun w => eq_at ⟨vk, vn, tc, vb, vf⟩ ⟨vk, vn, tc, vb, vf⟩ vok vok (q := true) (eqV_iff.2 rfl) w
        unfold Lk.val Vl.val at SE
        simp only at SE d8 d9 d10 d11 d12
        have HSE := hide SE
        have HVA := hide VA
        have HST := hide hst
        simp only [bsV]
        clear SE VA e0 hM hbs hst hy hcell yok vok htc
        go_upto_region 20 with (go_at_call 10; refine Calls.mono (HVA.out _) ?_; rintro e w5 ⟨rfl, u5⟩; have HU5 := hide u5; clear u5)
        have s6 := (HST.out.quiet HU5.out).quiet (((Upd.refl w5 (fun _ => False)).alloc (.cells #[.int .i64 vk, .int .i64 vn, .string ⟨tc.toArray⟩, .bool vb, .int .i64 vf] 46)).alloc (.cells #[.int .i64 vk, .int .i64 vn, .string ⟨tc.toArray⟩, .bool vb, .int .i64 vf] 47))
        have b6 := block_alloc (Vnew1 w5 (.cells #[.int .i64 vk, .int .i64 vn, .string ⟨tc.toArray⟩, .bool vb, .int .i64 vf] 46)) (.cells #[.int .i64 vk, .int .i64 vn, .string ⟨tc.toArray⟩, .bool vb, .int .i64 vf] 47)
        obtain ⟨w6, hw6⟩ : ∃ w6, (w5.alloc (.cells #[.int .i64 vk, .int .i64 vn, .string ⟨tc.toArray⟩, .bool vb, .int .i64 vf] 46)).alloc (.cells #[.int .i64 vk, .int .i64 vn, .string ⟨tc.toArray⟩, .bool vb, .int .i64 vf] 47) = w6 := ⟨_, rfl⟩
        rw [hw6] at s6 b6
        have x0 := cell_at s6.2.1 0 _ rfl
        have x1 := cell_at s6.2.1 1 _ rfl
        have x2 := cell_at s6.2.1 2 _ rfl
        have x3 := cell_at s6.2.1 3 _ rfl
        have xl := lt_at s6.2.1
        have t0 := cell_at b6 0 _ rfl
        have t1 := cell_at b6 1 _ rfl
        have t2 := cell_at b6 2 _ rfl
        have t3 := cell_at b6 3 _ rfl
        have t4 := cell_at b6 4 _ rfl
        have tl := lt_at b6
        have HW6 := hide hw6
        have HS6 := hide s6
        clear hw6 s6 b6 d8 d9 d10 d11 d12 HST HU5
        rw [HW6.out]
        go_region_held3 (fun w' => w'.cell? ⟨X, 0, none⟩ = some (.string ⟨cb.toArray⟩) ∧ w'.cell? ⟨X, 1, none⟩ = some (.string ⟨cs.toArray⟩) ∧ w'.cell? ⟨X, 2, none⟩ = some (.int .i64 cc) ∧ w'.cell? ⟨X, 3, none⟩ = some (.int .i64 cr) ∧ w'.cell? ⟨w5.heap.size, 0, none⟩ = some (.int .i64 vk) ∧ w'.cell? ⟨w5.heap.size, 1, none⟩ = some (.int .i64 vn) ∧ w'.cell? ⟨w5.heap.size, 2, none⟩ = some (.string ⟨tc.toArray⟩) ∧ w'.cell? ⟨w5.heap.size, 3, none⟩ = some (.bool vb) ∧ w'.cell? ⟨w5.heap.size, 4, none⟩ = some (.int .i64 vf) ∧ Upd w6 w' (fun _ => False))
          (first | (go_keep; done) | exact ⟨x0, x1, x2, x3, t0, t1, t2, t3, t4, (Upd.refl w6 _).drew⟩ | (have hz : Upd w6 _ (fun _ => False) := Upd.then (And.right (And.right (And.right (And.right (And.right (And.right (And.right (And.right (And.right (by assumption)))))))))) u10 (fun _ _ => id); exact ⟨(hz.cell (X) (0) xl id).trans x0, (hz.cell (X) (1) xl id).trans x1, (hz.cell (X) (2) xl id).trans x2, (hz.cell (X) (3) xl id).trans x3, (hz.cell (w5.heap.size) (0) tl id).trans t0, (hz.cell (w5.heap.size) (1) tl id).trans t1, (hz.cell (w5.heap.size) (2) tl id).trans t2, (hz.cell (w5.heap.size) (3) tl id).trans t3, (hz.cell (w5.heap.size) (4) tl id).trans t4, hz⟩) | (have hz : Upd w6 _ (fun _ => False) := Upd.then (And.right (And.right (And.right (And.right (And.right (And.right (And.right (And.right (And.right (by assumption)))))))))) u11 (fun _ _ => id); exact ⟨(hz.cell (X) (0) xl id).trans x0, (hz.cell (X) (1) xl id).trans x1, (hz.cell (X) (2) xl id).trans x2, (hz.cell (X) (3) xl id).trans x3, (hz.cell (w5.heap.size) (0) tl id).trans t0, (hz.cell (w5.heap.size) (1) tl id).trans t1, (hz.cell (w5.heap.size) (2) tl id).trans t2, (hz.cell (w5.heap.size) (3) tl id).trans t3, (hz.cell (w5.heap.size) (4) tl id).trans t4, hz⟩))
          (first
          | (go_at_call 13; refine Calls.mono (wakes_any _) ?_; rintro e w10 ⟨rfl, u10⟩)
          | (go_at_call 14; refine Calls.mono (HSE.out _ (HS6.out.quiet (And.right (And.right (And.right (And.right (And.right (And.right (And.right (And.right (And.right (by assumption)))))))))))) ?_; rintro e w11 ⟨rfl, u11⟩))
        all_goals go_wp2_with fail
        all_goals go_ret
        all_goals exact ⟨rfl, HS6.out.2.2.1.then (And.right (And.right (And.right (And.right (And.right (And.right (And.right (And.right (And.right (by assumption)))))))))) (fun _ _ => id)⟩
end Go.Proofs.Ytcclkfkdafmemaa

