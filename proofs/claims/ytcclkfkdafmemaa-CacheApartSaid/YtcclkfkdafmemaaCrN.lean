/- The walk of CachePlays. -/
import Derived.Test.YtcclkfkdafmemaaCrM6
import Derived.Test.YtcclkfkdafmemaaCaW
set_option maxRecDepth 100000
namespace Go.Proofs.Ytcclkfkdafmemaa
open Go.RowKit Go.Lat

set_option maxHeartbeats 12800000 in
theorem CachePlays_walk (w : World) (v0 : Value) (acs : List AcD) (h : AcArg w v0 acs) :
    Calls Try.prog 4 #[v0] w fun e w' => e = .returned (.bool true) ∧ Upd w w' (fun _ => False) := by
  obtain ⟨a, cap, rfl, hlc, hcm, hnil, hrow⟩ := h
  obtain ⟨L0, hL⟩ : ∃ L0, acs.length = L0 := ⟨_, rfl⟩
  rw [hL] at hlc ⊢
  obtain ⟨N, hN⟩ : ∃ N, min L0 50 = N := ⟨_, rfl⟩
  have hN2 : (min (L0 : Int) 50) = (N : Int) := by omega
  have n0 : (0 : Int) ≤ (N : Int) := by omega
  have n20 : N ≤ 50 := by omega
  have n1 : (N : Int) ≤ (cap : Int) := by omega
  have HL := hide hL
  have HN := hide hN
  have HR := hide hrow
  clear hL hN hrow
  have HWK := hide wakes_any
  go_enter Try.func4, Try.ntmps4
  go_wp2_with (first
    | (go_at_call 7; refine Calls.mono (New_any _) ?_; rintro e w3 ⟨b, bm, rfl, hc3, hb3, hbm3, u3⟩; have HC3 := hide hc3; have HU3 := hide u3; have HBB := hide hb3; have HBM := hide hbm3; clear hc3 hb3 hbm3 u3)
    | (go_at_call 13; refine Calls.mono (HWK.out _) ?_; rintro e w4 ⟨rfl, u4⟩; have HU4 := hide u4; clear u4))
  have hB : Both w w4 b bm 0 (.map []) (.slice none 0 0) [] (fun _ => none) := ⟨HC3.out.upd HU4.out id id, RefAt.nil _, ⟨none, 0, rfl⟩, HBB.out, HBM.out, fun k hk => (by cases hk)⟩
  have HB0 := hide hB
  have HUW := hide (HU3.out.then HU4.out (fun _ _ => id))
  clear hB HC3 HU3 HU4 HBB HBM
  go_loopg [4, 25] N (fun q v iv wr => ∃ (k n : Nat) (D : DataW Value) (l : List Rf) (M : Lk → Option En), k + q = N ∧ iv = .int .i64 k ∧ n ≤ 20 * k ∧ l.length ≤ 20 ∧ Both w wr b bm n D v l M ∧ Upd w wr (fun _ => False))
  case atStart => exact ⟨0, 0, _, [], _, by omega, rfl, by omega, by simp, HB0.out, HUW.out⟩
  case round =>
    obtain ⟨k, n, D, l, M, hk, rfl, hn, hl, hB, hu⟩ := hrel
    obtain ⟨gi, hgi⟩ : ∃ o, gk = o := ⟨_, rfl⟩
    have HGI := hide hgi
    rw [hgi] at hk
    clear hgi
    by_cases hkN : k < N
    · obtain ⟨x, hx⟩ : ∃ x, acs[k]? = some x := ⟨_, List.getElem?_eq_getElem (by rw [HL.out]; have := HN.out; omega)⟩
      obtain ⟨g, off, lv, rfl, hg, hcell, hpl, xok⟩ := HR.out k x hx
      have d0 := (hu.cell g _ hg id).trans (hcell 0 _ rfl)
      have d1 := (hu.cell g _ hg id).trans (hcell 1 _ rfl)
      have d2 := (hu.cell g _ hg id).trans (hcell 2 _ rfl)
      have d3 := (hu.cell g _ hg id).trans (hcell 3 _ rfl)
      have d4 := (hu.cell g _ hg id).trans (hcell 4 _ rfl)
      have d5 := (hu.cell g _ hg id).trans (hcell 5 _ rfl)
      have d6 := (hu.cell g _ hg id).trans (hcell 6 _ rfl)
      have d7 := (hu.cell g _ hg id).trans (hcell 7 _ rfl)
      have d8 := (hu.cell g _ hg id).trans (hcell 8 _ rfl)
      have d9 := (hu.cell g _ hg id).trans (hcell 9 _ rfl)
      have d10 := (hu.cell g _ hg id).trans (hcell 10 _ rfl)
      have d11 := (hu.cell g _ hg id).trans (hcell 11 _ rfl)
      have d12 := (hu.cell g _ hg id).trans (hcell 12 _ rfl)
      have d13 := (hu.cell g _ hg id).trans (hcell 13 _ rfl)
      have d14 := (hu.cell g _ hg id).trans (hcell 14 _ rfl)
      have d15 := (hu.cell g _ hg id).trans (hcell 15 _ rfl)
      rw [Nat.add_zero] at d0
      have hk0 : (0 : Int) ≤ (k : Int) := by omega
      have hk1 : (k : Int) < (N : Int) := by omega
      have glt : g < wr.heap.size := Nat.lt_of_lt_of_le hg hu.size
      obtain ⟨va, vc, ev⟩ := hB.f
      obtain ⟨W, hW⟩ : ∃ W, wr.alloc (.cells (x.cs lv).toArray 41) = W := ⟨_, rfl⟩
      have uo : Upd wr W (fun _ => False) := hW ▸ (Upd.refl wr _).alloc _
      have hBW := hB.upd uo
      have AC := act_any w W b bm n D _ l M hBW (by omega) hl x lv (hpl.upd (hu.then uo (fun _ _ => id)) (fun _ _ => id)) xok
      have bX := Vnew1 wr (.cells (x.cs lv).toArray 41)
      rw [hW] at bX
      have nX : ¬ ActF bm u4 wr.heap.size := by
        rintro (e | e)
        · exact hBW.c.nbm bX e
        · exact absurd (hB.r.r.lt _ e) (Nat.lt_irrefl _)
      have HFR : Hid (∀ k, k < w.heap.size → ¬ ActF bm u4 k) := hide (by
        rintro k hk (e | e)
        · have := hB.bbm; omega
        · have := hB.bv k e; omega)
      have pok := Lk.cut_ok xok.p
      obtain ⟨la, lcap, elv, -⟩ := id hpl
      have HU := hide (hu.then uo (fun _ _ => id))
      obtain ⟨dov, xl, ⟨pb, ps, pc, pr⟩, ver, inc, ⟨vk, vn, vt, vb, vf⟩, has, stale, lost⟩ := x
      obtain ⟨nl, hnl⟩ : ∃ n, xl.length = n := ⟨_, rfl⟩
      obtain ⟨tb, htb⟩ : ∃ t, pb.take 20 = t := ⟨_, rfl⟩
      obtain ⟨ts, hts⟩ : ∃ t, ps.take 20 = t := ⟨_, rfl⟩
      have LA := fun w => link_at w pb ps tb ts pc pr htb hts
      unfold Lk.cut at pok
      simp only [htb, hts] at pok
      simp only at elv
      rw [hnl] at elv
      subst elv
      unfold acVal AcD.cs at AC
      unfold AcD.cs at bX hW
      simp only at AC bX hW d0 d1 d2 d3 d4 d5 d6 d7 d8 d9 d10 d11 d12 d13 d14 d15
      have AC' : Calls Try.prog 16 #[.pointer (some ⟨b, 0, none⟩), u4, .agg #[.int .i64 dov, .slice la nl lcap, .string ⟨pb.toArray⟩, .string ⟨ps.toArray⟩, .int .i64 pc, .int .i64 pr, .int .i64 ver, .int .i64 inc, .int .i64 vk, .int .i64 vn, .string ⟨vt.toArray⟩, .bool vb, .int .i64 vf, .bool has, .bool stale, .bool lost]] W (ActPost w W b bm n u4) := AC
      have hW' : wr.alloc (.cells #[.int .i64 dov, .slice la nl lcap, .string ⟨pb.toArray⟩, .string ⟨ps.toArray⟩, .int .i64 pc, .int .i64 pr, .int .i64 ver, .int .i64 inc, .int .i64 vk, .int .i64 vn, .string ⟨vt.toArray⟩, .bool vb, .int .i64 vf, .bool has, .bool stale, .bool lost] 41) = W := hW
      have HAC := hide AC'
      have HBX := hide bX
      have HLA := hide LA
      have HPOK := hide pok
      have HNX := hide nX
      have HW := hide hW'
      have lX0 := lt_at bX
      clear hW' AC' hx hcell hpl xok hu hB uo hBW AC bX nX pok hnl htb hts LA hW ev
      go_wp2_with (first
        | (go_at_call 16; rw [HW.out]; refine Calls.mono HAC.out ?_; rintro e w5 ⟨v5, n5, D5, l5, M5, rfl, hn5, hl5, hB5, u5⟩; have b5 := u5.get HBX.out HNX.out; have x2 := cell_at b5 2 _ rfl; have x3 := cell_at b5 3 _ rfl; have x4 := cell_at b5 4 _ rfl; have x5 := cell_at b5 5 _ rfl; have xl5 := lt_at b5; have HB5 := hide hB5; have HU5 := hide (HU.out.then u5 (fun i hi e => HFR.out i hi e)); clear u5 b5 hB5)
        | (go_at_call 8; refine Calls.mono (HLA.out _) ?_; rintro e w6 ⟨rfl, u6⟩; have HU6 := hide u6; clear u6 x2 x3 x4 x5 xl5))
      obtain ⟨va, vc, rfl⟩ := HB5.out.f
      obtain ⟨w7, hw7⟩ : ∃ w7, (w6.alloc (.cells #[.string ⟨tb.toArray⟩, .string ⟨ts.toArray⟩, .int .i64 pc, .int .i64 pr] 30)).alloc (.cells #[.string ⟨tb.toArray⟩, .string ⟨ts.toArray⟩, .int .i64 pc, .int .i64 pr] 31) = w7 := ⟨_, rfl⟩
      have uw7 : Upd w5 w7 (fun _ => False) := hw7 ▸ ((HU6.out.alloc (.cells #[.string ⟨tb.toArray⟩, .string ⟨ts.toArray⟩, .int .i64 pc, .int .i64 pr] 30)).alloc (.cells #[.string ⟨tb.toArray⟩, .string ⟨ts.toArray⟩, .int .i64 pc, .int .i64 pr] 31))
      have hB7 := HB5.out.upd uw7
      have bA : w7.heap[w6.heap.size]? = some (.cells #[.string ⟨tb.toArray⟩, .string ⟨ts.toArray⟩, .int .i64 pc, .int .i64 pr] 30 (0, 0)) := hw7 ▸ block_alloc (Vnew1 w6 (.cells #[.string ⟨tb.toArray⟩, .string ⟨ts.toArray⟩, .int .i64 pc, .int .i64 pr] 30)) (.cells #[.string ⟨tb.toArray⟩, .string ⟨ts.toArray⟩, .int .i64 pc, .int .i64 pr] 31)
      have bB : w7.heap[w6.heap.size + 1]? = some (.cells #[.string ⟨tb.toArray⟩, .string ⟨ts.toArray⟩, .int .i64 pc, .int .i64 pr] 31 (0, 0)) := hw7 ▸ Vnew2 w6 (.cells #[.string ⟨tb.toArray⟩, .string ⟨ts.toArray⟩, .int .i64 pc, .int .i64 pr] 30) (.cells #[.string ⟨tb.toArray⟩, .string ⟨ts.toArray⟩, .int .i64 pc, .int .i64 pr] 31)
      have HU7 := hide (HU5.out.then uw7 (fun _ _ => id))
      obtain ⟨a0, a1, a2, a3⟩ := cells4 bA
      obtain ⟨p0, p1, p2, p3⟩ := cells4 bB
      have lA := lt_at bA
      have lB := lt_at bB
      have HB7 := hide hB7
      have hr7 := hB7.r
      have hn5' : n5 ≤ 900000 := by omega
      obtain ⟨SV, hSV⟩ : ∃ s, seenV (M5 ⟨tb, ts, pc, pr⟩) = s := ⟨_, rfl⟩
      have HSV := hide hSV
      have LK : ∀ X, Upd w7 X (fun _ => False) → Calls Try.prog 18 #[.pointer (some ⟨b, 0, none⟩)] X fun e w' => ∃ a c ks, e = .returned (.slice a ks.length c) ∧ Row2 X w' (.slice a ks.length c) (fun x => (M5 x).isSome = true) ks ∧ ks.length ≤ n5 ∧ Upd X w' (fun _ => False) := fun X u => Links_any X b bm n5 D5 M5 (HB7.out.upd u).c (by omega)
      obtain ⟨q5, hq5⟩ : ∃ q, l5.length = q := ⟨_, rfl⟩
      have HQ5 := hide hq5
      have hq20 : q5 ≤ 20 := by rw [← hq5]; exact hl5
      have RK : ∀ X, Upd w7 X (fun _ => False) → Calls Try.prog 19 #[.slice va q5 vc] X fun e w' => ∃ a c ks, e = .returned (.slice a ks.length c) ∧ Rw w' 31 4 (.slice a ks.length c) ks.length (lkCells ks) ∧ ks.Pairwise ltP ∧ (∀ x, x ∈ ks ↔ (x.ok ∧ (M5 x).isSome = true)) ∧ Upd X w' (fun _ => False) := fun X u => by
        have r := (HB7.out.upd u).r
        have q := RLinks_any X va vc l5 r.r (fun z hz => (r.ok z hz).1) (by omega)
        rw [hq5] at q
        refine Calls.mono q ?_
        rintro e w' ⟨a, c, ks, rfl, r1, r2, r3, -, -, u'⟩
        refine ⟨a, c, ks, rfl, r1, r2, fun x => ?_, u'⟩
        rw [r3]
        constructor
        · intro hx
          obtain ⟨z, hz, rfl⟩ := List.mem_map.1 hx
          have zo := (r.ok z hz).1
          exact ⟨zo, by rw [(r.m z.1 zo).1 z hz rfl]; rfl⟩
        · rintro ⟨xo, hx⟩
          rcases r.cases x xo with ⟨k, z, hz, hzp, _, _, _⟩ | ⟨hn, _⟩
          · exact List.mem_map.2 ⟨z, List.mem_of_getElem? hz, hzp⟩
          · rw [hn] at hx; cases hx
      have SE : ∀ X, Upd w7 X (fun _ => False) → Calls Try.prog 14 #[.pointer (some ⟨b, 0, none⟩), .agg #[.string ⟨tb.toArray⟩, .string ⟨ts.toArray⟩, .int .i64 pc, .int .i64 pr]] X fun e w' => e = .returned SV.val ∧ Upd X w' (fun _ => False) := fun X u => by
        have q := Seen_any X b bm n5 D5 M5 (HB7.out.upd u).c ⟨tb, ts, pc, pr⟩ HPOK.out
        rw [hSV] at q
        exact q
      have RS : ∀ X, Upd w7 X (fun _ => False) → Calls Try.prog 21 #[.slice va q5 vc, .agg #[.string ⟨tb.toArray⟩, .string ⟨ts.toArray⟩, .int .i64 pc, .int .i64 pr]] X fun e w' => e = .returned SV.val ∧ Upd X w' (fun _ => False) := fun X u => by
        have q := RSeen_any X va vc l5 M5 (HB7.out.upd u).r (by omega) ⟨tb, ts, pc, pr⟩ HPOK.out
        rw [hSV, hq5] at q
        exact q
      have HLK := hide LK
      have HRK := hide RK
      have HSE := hide SE
      have HRS := hide RS
      have HW7 := hide hw7
      rw [hw7, hq5]
      clear hw7 hq5 uw7 hB7 bA bB hr7 hSV LK RK SE RS d0 d1 d2 d3 d4 d5 d6 d7 d8 d9 d10 d11 d12 d13 d14 d15
      go_region_held3 (fun w' => w'.cell? ⟨w6.heap.size, 0, none⟩ = some (.string ⟨tb.toArray⟩) ∧ w'.cell? ⟨w6.heap.size, 1, none⟩ = some (.string ⟨ts.toArray⟩) ∧ w'.cell? ⟨w6.heap.size, 2, none⟩ = some (.int .i64 pc) ∧ w'.cell? ⟨w6.heap.size, 3, none⟩ = some (.int .i64 pr) ∧ w'.cell? ⟨w6.heap.size + 1, 0, none⟩ = some (.string ⟨tb.toArray⟩) ∧ w'.cell? ⟨w6.heap.size + 1, 1, none⟩ = some (.string ⟨ts.toArray⟩) ∧ w'.cell? ⟨w6.heap.size + 1, 2, none⟩ = some (.int .i64 pc) ∧ w'.cell? ⟨w6.heap.size + 1, 3, none⟩ = some (.int .i64 pr) ∧ Upd w7 w' (fun _ => False))
        (first | (go_keep; done) | exact ⟨a0, a1, a2, a3, p0, p1, p2, p3, (Upd.refl w7 _).drew⟩ | (have hz : Upd w7 _ (fun _ => False) := Upd.then (And.right (And.right (And.right (And.right (And.right (And.right (And.right (And.right (by assumption))))))))) u13 (fun _ _ => id); exact ⟨(hz.cell (w6.heap.size) 0 lA id).trans a0, (hz.cell (w6.heap.size) 1 lA id).trans a1, (hz.cell (w6.heap.size) 2 lA id).trans a2, (hz.cell (w6.heap.size) 3 lA id).trans a3, (hz.cell (w6.heap.size + 1) 0 lB id).trans p0, (hz.cell (w6.heap.size + 1) 1 lB id).trans p1, (hz.cell (w6.heap.size + 1) 2 lB id).trans p2, (hz.cell (w6.heap.size + 1) 3 lB id).trans p3, hz⟩) | (have hz : Upd w7 _ (fun _ => False) := Upd.then (And.right (And.right (And.right (And.right (And.right (And.right (And.right (And.right (by assumption))))))))) u12 (fun _ _ => id); exact ⟨(hz.cell (w6.heap.size) 0 lA id).trans a0, (hz.cell (w6.heap.size) 1 lA id).trans a1, (hz.cell (w6.heap.size) 2 lA id).trans a2, (hz.cell (w6.heap.size) 3 lA id).trans a3, (hz.cell (w6.heap.size + 1) 0 lB id).trans p0, (hz.cell (w6.heap.size + 1) 1 lB id).trans p1, (hz.cell (w6.heap.size + 1) 2 lB id).trans p2, (hz.cell (w6.heap.size + 1) 3 lB id).trans p3, hz⟩) | (have hz : Upd w7 _ (fun _ => False) := Upd.then (And.right (And.right (And.right (And.right (And.right (And.right (And.right (And.right (by assumption))))))))) u11 (fun _ _ => id); exact ⟨(hz.cell (w6.heap.size) 0 lA id).trans a0, (hz.cell (w6.heap.size) 1 lA id).trans a1, (hz.cell (w6.heap.size) 2 lA id).trans a2, (hz.cell (w6.heap.size) 3 lA id).trans a3, (hz.cell (w6.heap.size + 1) 0 lB id).trans p0, (hz.cell (w6.heap.size + 1) 1 lB id).trans p1, (hz.cell (w6.heap.size + 1) 2 lB id).trans p2, (hz.cell (w6.heap.size + 1) 3 lB id).trans p3, hz⟩) | (have hz : Upd w7 _ (fun _ => False) := Upd.then (And.right (And.right (And.right (And.right (And.right (And.right (And.right (And.right (by assumption))))))))) u10 (fun _ _ => id); exact ⟨(hz.cell (w6.heap.size) 0 lA id).trans a0, (hz.cell (w6.heap.size) 1 lA id).trans a1, (hz.cell (w6.heap.size) 2 lA id).trans a2, (hz.cell (w6.heap.size) 3 lA id).trans a3, (hz.cell (w6.heap.size + 1) 0 lB id).trans p0, (hz.cell (w6.heap.size + 1) 1 lB id).trans p1, (hz.cell (w6.heap.size + 1) 2 lB id).trans p2, (hz.cell (w6.heap.size + 1) 3 lB id).trans p3, hz⟩) | (have hz : Upd w7 _ (fun _ => False) := Upd.then (And.right (And.right (And.right (And.right (And.right (And.right (And.right (And.right (by assumption))))))))) u9 (fun _ _ => id); exact ⟨(hz.cell (w6.heap.size) 0 lA id).trans a0, (hz.cell (w6.heap.size) 1 lA id).trans a1, (hz.cell (w6.heap.size) 2 lA id).trans a2, (hz.cell (w6.heap.size) 3 lA id).trans a3, (hz.cell (w6.heap.size + 1) 0 lB id).trans p0, (hz.cell (w6.heap.size + 1) 1 lB id).trans p1, (hz.cell (w6.heap.size + 1) 2 lB id).trans p2, (hz.cell (w6.heap.size + 1) 3 lB id).trans p3, hz⟩) | (have hz : Upd w7 _ (fun _ => False) := Upd.then (And.right (And.right (And.right (And.right (And.right (And.right (And.right (And.right (by assumption))))))))) u8 (fun _ _ => id); exact ⟨(hz.cell (w6.heap.size) 0 lA id).trans a0, (hz.cell (w6.heap.size) 1 lA id).trans a1, (hz.cell (w6.heap.size) 2 lA id).trans a2, (hz.cell (w6.heap.size) 3 lA id).trans a3, (hz.cell (w6.heap.size + 1) 0 lB id).trans p0, (hz.cell (w6.heap.size + 1) 1 lB id).trans p1, (hz.cell (w6.heap.size + 1) 2 lB id).trans p2, (hz.cell (w6.heap.size + 1) 3 lB id).trans p3, hz⟩))
        (first
        | (go_at_call 18; refine Calls.mono (HLK.out _ (And.right (And.right (And.right (And.right (And.right (And.right (And.right (And.right (by assumption)))))))))) ?_; rintro e w8 ⟨la8, lc8, ks8, rfl, r8, l8, u8⟩; have z8 := And.right (And.right (And.right (And.right (And.right (And.right (And.right (And.right (by assumption)))))))))
        | (go_at_call 19; refine Calls.mono (HRK.out _ (And.right (And.right (And.right (And.right (And.right (And.right (And.right (And.right (by assumption)))))))))) ?_; rintro e w9 ⟨la9, lc9, ks9, rfl, r9, s9, m9, u9⟩; have e89 : ks8 = ks9 := sorted_uniq r8.ord s9 (fun z => ⟨fun hz => (m9 z).2 ⟨r8.ok z hz, (r8.mem z (r8.ok z hz)).1 hz⟩, fun hz => (r8.mem z ((m9 z).1 hz).1).2 ((m9 z).1 hz).2⟩); subst e89; have SL := sameLinks_true w9 (.slice la8 ks8.length lc8) (.slice la9 ks8.length lc9) ks8 (u9.rw r8.rw (fun _ _ => id)) r9 (by omega))
        | (go_at_call 17; refine Calls.mono SL ?_; rintro e w10 ⟨rfl, u10⟩)
        | (go_at_call 14; refine Calls.mono (HSE.out _ (And.right (And.right (And.right (And.right (And.right (And.right (And.right (And.right (by assumption)))))))))) ?_; rintro e w11 ⟨rfl, u11⟩)
        | (go_at_call 21; refine Calls.mono (HRS.out _ (And.right (And.right (And.right (And.right (And.right (And.right (And.right (And.right (by assumption)))))))))) ?_; rintro e w12 ⟨rfl, u12⟩)
        | (go_at_call 20; refine Calls.mono (same_true _ SV) ?_; rintro e w13 ⟨rfl, u13⟩))
      have hz13 : Upd w7 w13 (fun _ => False) := by first | exact And.right (And.right (And.right (And.right (And.right (And.right (And.right (And.right (by assumption)))))))) | exact Upd.then (And.right (And.right (And.right (And.right (And.right (And.right (And.right (And.right (by assumption))))))))) u13 (fun _ _ => id)
      have HZ13 := hide hz13
      have HU13 := hide (HU7.out.then hz13 (fun _ _ => id))
      clear hz13
      go_wp2_with fail
      go_loopg [65] q5 (fun q iv wi => ∃ j : Nat, j + q = q5 ∧ iv = .int .i64 j ∧ Upd w13 wi (fun _ => False))
      case atStart => exact ⟨0, by omega, rfl, Upd.refl _ _⟩
      case round =>
        obtain ⟨j, hj, rfl, hu⟩ := hrel
        by_cases hjK : j < q5
        · have hBj := HB7.out.upd (HZ13.out.then hu (fun _ _ => id))
          obtain ⟨z, hz⟩ : ∃ z, l5[j]? = some z := ⟨_, List.getElem?_eq_getElem (by rw [HQ5.out]; exact hjK)⟩
          have zok := hBj.r.ok z (List.mem_of_getElem? hz)
          have hMz := (hBj.r.m z.1 zok.1).1 z (List.mem_of_getElem? hz) rfl
          have hrr := hBj.r.r
          rw [HQ5.out] at hrr
          obtain ⟨g2, off2, rfl, hg2, hc⟩ := rf_at hrr j z hz hjK
          have d0 := hc 0 _ rfl
          have d1 := hc 1 _ rfl
          have d2 := hc 2 _ rfl
          have d3 := hc 3 _ rfl
          have d4 := hc 4 _ rfl
          have d5 := hc 5 _ rfl
          have d6 := hc 6 _ rfl
          have d7 := hc 7 _ rfl
          have d8 := hc 8 _ rfl
          have d9 := hc 9 _ rfl
          have d10 := hc 10 _ rfl
          have d11 := hc 11 _ rfl
          have d12 := hc 12 _ rfl
          have d13 := hc 13 _ rfl
          rw [Nat.add_zero] at d0
          have hj0 : (0 : Int) ≤ (j : Int) := by omega
          have hj1 : (j : Int) < (q5 : Int) := by omega
          obtain ⟨⟨zb, zs, zc, zr⟩, ⟨⟨ek, en, et, eb, ef⟩, ever, einc, ehas, estale, elost⟩⟩ := z
          have GT := Get_any ((wr.alloc (.cells #[.string ⟨zb.toArray⟩, .string ⟨zs.toArray⟩, .int .i64 zc, .int .i64 zr, .int .i64 ek, .int .i64 en, .string ⟨et.toArray⟩, .bool eb, .int .i64 ef, .int .i64 ever, .int .i64 einc, .bool ehas, .bool estale, .bool elost] 65)).alloc (.cells #[.string ⟨zb.toArray⟩, .string ⟨zs.toArray⟩, .int .i64 zc, .int .i64 zr] 30)) b bm n5 D5 M5 (hBj.upd (((Upd.refl wr (fun _ => False)).alloc (.cells #[.string ⟨zb.toArray⟩, .string ⟨zs.toArray⟩, .int .i64 zc, .int .i64 zr, .int .i64 ek, .int .i64 en, .string ⟨et.toArray⟩, .bool eb, .int .i64 ef, .int .i64 ever, .int .i64 einc, .bool ehas, .bool estale, .bool elost] 65)).alloc (.cells #[.string ⟨zb.toArray⟩, .string ⟨zs.toArray⟩, .int .i64 zc, .int .i64 zr] 30))).c ⟨zb, zs, zc, zr⟩ zok.1
          rw [hMz] at GT
          unfold GetPost Lk.val En.val at GT
          simp only [Option.getD_some, Option.isSome_some] at GT d0 d1 d2 d3 d4 d5 d6 d7 d8 d9 d10 d11 d12 d13
          have HGT := hide GT
          have HUI := hide hu
          clear GT hMz zok hz hc hu hBj hrr
          go_wp2_with (first
            | (go_at_call 22; refine Calls.mono HGT.out ?_; rintro e w14 ⟨rfl, u14⟩; have b12 := u14.get (block_alloc (Vnew1 wr (.cells #[.string ⟨zb.toArray⟩, .string ⟨zs.toArray⟩, .int .i64 zc, .int .i64 zr, .int .i64 ek, .int .i64 en, .string ⟨et.toArray⟩, .bool eb, .int .i64 ef, .int .i64 ever, .int .i64 einc, .bool ehas, .bool estale, .bool elost] 65)) (.cells #[.string ⟨zb.toArray⟩, .string ⟨zs.toArray⟩, .int .i64 zc, .int .i64 zr] 30)) id; have k4 := cell_at b12 4 _ rfl; have k5 := cell_at b12 5 _ rfl; have k6 := cell_at b12 6 _ rfl; have k7 := cell_at b12 7 _ rfl; have k8 := cell_at b12 8 _ rfl; have kl := lt_at b12; have HB12 := hide b12; have HU14 := hide ((((HUI.out.alloc (.cells #[.string ⟨zb.toArray⟩, .string ⟨zs.toArray⟩, .int .i64 zc, .int .i64 zr, .int .i64 ek, .int .i64 en, .string ⟨et.toArray⟩, .bool eb, .int .i64 ef, .int .i64 ever, .int .i64 einc, .bool ehas, .bool estale, .bool elost] 65)).alloc (.cells #[.string ⟨zb.toArray⟩, .string ⟨zs.toArray⟩, .int .i64 zc, .int .i64 zr] 30))).then u14 (fun _ _ => id)); clear u14 b12)
            | (go_at_call 20; refine Calls.mono (same_true _ ⟨ek, en, et, eb, ef⟩) ?_; rintro e w15 ⟨rfl, u15⟩; have b12 := u15.get (block_alloc HB12.out (.cells #[.int .i64 ek, .int .i64 en, .string ⟨et.toArray⟩, .bool eb, .int .i64 ef, .int .i64 ever, .int .i64 einc, .bool ehas, .bool estale, .bool elost] 67)) id; have b14 := u15.get (Vnew1 w14 (.cells #[.int .i64 ek, .int .i64 en, .string ⟨et.toArray⟩, .bool eb, .int .i64 ef, .int .i64 ever, .int .i64 einc, .bool ehas, .bool estale, .bool elost] 67)) id; have m9 := cell_at b12 9 _ rfl; have m10 := cell_at b12 10 _ rfl; have m11 := cell_at b12 11 _ rfl; have m12 := cell_at b12 12 _ rfl; have m13 := cell_at b12 13 _ rfl; have o5 := cell_at b14 5 _ rfl; have o6 := cell_at b14 6 _ rfl; have o7 := cell_at b14 7 _ rfl; have o8 := cell_at b14 8 _ rfl; have o9 := cell_at b14 9 _ rfl; have ml := lt_at b12; have ol := lt_at b14; have HU15 := hide ((HU14.out.alloc (.cells #[.int .i64 ek, .int .i64 en, .string ⟨et.toArray⟩, .bool eb, .int .i64 ef, .int .i64 ever, .int .i64 einc, .bool ehas, .bool estale, .bool elost] 67)).then u15 (fun _ _ => id)); clear u15 b12 b14))
          go_roundg (gk - 1)
          case measure => omega
          case rel => exact ⟨j + 1, by omega, by go_num, HU15.out⟩
        · have hj1 : ¬ (j : Int) < (q5 : Int) := by omega
          have HUI := hide hu
          clear hu
          go_wp2_with fail
          go_roundg (gi - 1)
          case measure => have := HGI.out; omega
          case rel =>
            refine ⟨k + 1, n5, D5, l5, M5, by omega, by go_num, by omega, hl5, ?_, HU13.out.then HUI.out (fun _ _ => id)⟩
            have hb := HB7.out.upd (HZ13.out.then HUI.out (fun _ _ => id))
            rw [HQ5.out] at hb
            exact hb
    · have hk1 : ¬ (k : Int) < (N : Int) := by omega
      have HU := hide hu
      clear hu hB
      go_wp2_with fail
      go_ret
      exact ⟨rfl, HU.out⟩
end Go.Proofs.Ytcclkfkdafmemaa

