/- The walk of CacheApart, a branch. -/
import Derived.Test.YtcclkfkdafmemaaCrQ
set_option maxRecDepth 100000
namespace Go.Proofs.Ytcclkfkdafmemaa
open Go.RowKit Go.Lat

set_option maxHeartbeats 12800000 in
theorem CacheApart_walkF (w : World) (v0 : Value) (acs : List AcD) (h : AcArg w v0 acs) (nm : List UInt8) (hnm : nm.length ≤ maxLen) :
    Calls Try.prog 6 #[v0, enS nm, .bool false] w fun e w' => e = .returned (.bool true) ∧ Upd w w' (fun _ => False) := by
  obtain ⟨a, cap, rfl, hlc, hcm, hnil, hrow⟩ := h
  obtain ⟨L0, hL⟩ : ∃ L0, acs.length = L0 := ⟨_, rfl⟩
  rw [hL] at hlc ⊢
  obtain ⟨N, hN⟩ : ∃ N, min L0 40 = N := ⟨_, rfl⟩
  have hN2 : (min (L0 : Int) 40) = (N : Int) := by omega
  have n0 : (0 : Int) ≤ (N : Int) := by omega
  have n20 : N ≤ 40 := by omega
  have n1 : (N : Int) ≤ (cap : Int) := by omega
  have HL := hide hL
  have HN := hide hN
  have HR := hide hrow
  clear hL hN hrow
  go_enter Try.func6, Try.ntmps6
  go_wp2_with ((go_at_call 7; refine Calls.mono (New_any _) ?_; rintro e w3 ⟨b, bm, rfl, hc3, hb3, hbm3, u3⟩; have HC3 := hide hc3; have HU3 := hide u3; have HBB := hide hb3; have HBM := hide hbm3; clear hc3 hb3 hbm3 u3))
  have hB : Both w w3 b bm 0 (.map []) (.slice none 0 0) [] (fun _ => none) := ⟨HC3.out, RefAt.nil _, ⟨none, 0, rfl⟩, HBB.out, HBM.out, fun k hk => (by cases hk)⟩
  have HB0 := hide hB
  have HUW := hide HU3.out
  clear hB HC3 HU3 HBB HBM
  go_loopg [8, 25] N (fun q v iv wr => ∃ (k n : Nat) (D : DataW Value) (l : List Rf) (M : Lk → Option En), k + q = N ∧ iv = .int .i64 k ∧ n ≤ 20 * k ∧ l.length ≤ 20 ∧ Both w wr b bm n D v l M ∧ Upd w wr (fun _ => False))
  case atStart => exact ⟨0, 0, _, [], _, by omega, rfl, by omega, by simp, HB0.out, HUW.out⟩
  case round =>
    obtain ⟨k, n, D, l, M, hk, rfl, hn, hl, hB, hu⟩ := hrel
    obtain ⟨gi, hgi⟩ : ∃ o, gk = o := ⟨_, rfl⟩
    have HGI := hide hgi
    rw [hgi] at hk
    clear hgi
    by_cases hkN : k < N
    · obtain ⟨x, hx⟩ : ∃ x, acs[k]? = some x := ⟨_, List.getElem?_eq_getElem (by rw [HL.out]; have := HN.out; omega)⟩
      obtain ⟨g, off, lv, rfl, hg, hcell, hpl, xok⟩ := HR.out k x hx
      have d0 := (hu.cell g _ hg id).trans (hcell 0 _ rfl)
      have d1 := (hu.cell g _ hg id).trans (hcell 1 _ rfl)
      have d2 := (hu.cell g _ hg id).trans (hcell 2 _ rfl)
      have d3 := (hu.cell g _ hg id).trans (hcell 3 _ rfl)
      have d4 := (hu.cell g _ hg id).trans (hcell 4 _ rfl)
      have d5 := (hu.cell g _ hg id).trans (hcell 5 _ rfl)
      have d6 := (hu.cell g _ hg id).trans (hcell 6 _ rfl)
      have d7 := (hu.cell g _ hg id).trans (hcell 7 _ rfl)
      have d8 := (hu.cell g _ hg id).trans (hcell 8 _ rfl)
      have d9 := (hu.cell g _ hg id).trans (hcell 9 _ rfl)
      have d10 := (hu.cell g _ hg id).trans (hcell 10 _ rfl)
      have d11 := (hu.cell g _ hg id).trans (hcell 11 _ rfl)
      have d12 := (hu.cell g _ hg id).trans (hcell 12 _ rfl)
      have d13 := (hu.cell g _ hg id).trans (hcell 13 _ rfl)
      have d14 := (hu.cell g _ hg id).trans (hcell 14 _ rfl)
      have d15 := (hu.cell g _ hg id).trans (hcell 15 _ rfl)
      rw [Nat.add_zero] at d0
      have hk0 : (0 : Int) ≤ (k : Int) := by omega
      have hk1 : (k : Int) < (N : Int) := by omega
      have glt : g < wr.heap.size := Nat.lt_of_lt_of_le hg hu.size
      obtain ⟨va, vc, ev⟩ := hB.f
      obtain ⟨W, hW⟩ : ∃ W, wr.alloc (.cells (x.cs lv).toArray 41) = W := ⟨_, rfl⟩
      have uo : Upd wr W (fun _ => False) := hW ▸ (Upd.refl wr _).alloc _
      have hBW := hB.upd uo
      have AC := act_any w W b bm n D _ l M hBW (by omega) hl x lv (hpl.upd (hu.then uo (fun _ _ => id)) (fun _ _ => id)) xok
      have bX := Vnew1 wr (.cells (x.cs lv).toArray 41)
      rw [hW] at bX
      have nX : ¬ ActF bm u8 wr.heap.size := by
        rintro (e | e)
        · exact hBW.c.nbm bX e
        · exact absurd (hB.r.r.lt _ e) (Nat.lt_irrefl _)
      have HFR : Hid (∀ k, k < w.heap.size → ¬ ActF bm u8 k) := hide (by
        rintro k hk (e | e)
        · have := hB.bbm; omega
        · have := hB.bv k e; omega)
      have pok := Lk.cut_ok xok.p
      obtain ⟨la, lcap, elv, -⟩ := id hpl
      have HU := hide (hu.then uo (fun _ _ => id))
      obtain ⟨dov, xl, ⟨pb, ps, pc, pr⟩, ver, inc, ⟨vk, vn, vt, vb, vf⟩, has, stale, lost⟩ := x
      obtain ⟨nl, hnl⟩ : ∃ n, xl.length = n := ⟨_, rfl⟩
      obtain ⟨tb, htb⟩ : ∃ t, pb.take 20 = t := ⟨_, rfl⟩
      obtain ⟨ts, hts⟩ : ∃ t, ps.take 20 = t := ⟨_, rfl⟩
      have LA := fun w => link_at w pb ps tb ts pc pr htb hts
      unfold Lk.cut at pok
      simp only [htb, hts] at pok
      simp only at elv
      rw [hnl] at elv
      subst elv
      unfold acVal AcD.cs at AC
      unfold AcD.cs at bX hW
      simp only at AC bX hW d0 d1 d2 d3 d4 d5 d6 d7 d8 d9 d10 d11 d12 d13 d14 d15
      have AC' : Calls Try.prog 16 #[.pointer (some ⟨b, 0, none⟩), u8, .agg #[.int .i64 dov, .slice la nl lcap, .string ⟨pb.toArray⟩, .string ⟨ps.toArray⟩, .int .i64 pc, .int .i64 pr, .int .i64 ver, .int .i64 inc, .int .i64 vk, .int .i64 vn, .string ⟨vt.toArray⟩, .bool vb, .int .i64 vf, .bool has, .bool stale, .bool lost]] W (ActPost w W b bm n u8) := AC
      have hW' : wr.alloc (.cells #[.int .i64 dov, .slice la nl lcap, .string ⟨pb.toArray⟩, .string ⟨ps.toArray⟩, .int .i64 pc, .int .i64 pr, .int .i64 ver, .int .i64 inc, .int .i64 vk, .int .i64 vn, .string ⟨vt.toArray⟩, .bool vb, .int .i64 vf, .bool has, .bool stale, .bool lost] 41) = W := hW
      have HAC := hide AC'
      have HBX := hide bX
      have HLA := hide LA
      have HPOK := hide pok
      have HNX := hide nX
      have HW := hide hW'
      have lX0 := lt_at bX
      clear hW' AC' hx hcell hpl xok hu hB uo hBW AC bX nX pok hnl htb hts LA hW ev
      go_wp2_with (go_at_call 16; rw [HW.out]; refine Calls.mono HAC.out ?_; rintro e w5 ⟨v5, n5, D5, l5, M5, rfl, hn5, hl5, hB5, u5⟩; have HB5 := hide hB5; have HU5 := hide (HU.out.then u5 (fun i hi e => HFR.out i hi e)); clear u5 hB5)
      go_roundg (gi - 1)
      case measure => have := HGI.out; omega
      case rel => exact ⟨k + 1, n5, D5, l5, M5, by omega, by go_num, by omega, hl5, HB5.out, HU5.out⟩
    · have hk1 : ¬ (k : Int) < (N : Int) := by omega
      have HU := hide hu
      have HB := hide hB
      have hn' : n ≤ 900000 := by omega
      have hmm := @run_makeMap Try.prog
      obtain ⟨C, hC⟩ : ∃ C, wr.heap.size = C := ⟨_, rfl⟩
      obtain ⟨W1, hW1⟩ : ∃ W, wr.alloc (.map #[] 0) = W := ⟨_, rfl⟩
      have u1 : Upd wr W1 (fun _ => False) := hW1 ▸ (Upd.refl wr _).alloc _
      have m1 : Mp W1 C 0 (.map []) (fun _ => none) := hW1 ▸ hC ▸ Mp.made wr
      have B1 := hB.upd u1
      have LK := Links_any W1 b bm n D M B1.c (by omega)
      have s1 : W1.heap.size = C + 1 := by rw [← hW1, ← hC]; simp
      have cb : b < C := hC ▸ lt_at hB.c.c
      have cbm : bm < C := hC ▸ hB.c.m.lt
      have szw : w.heap.size ≤ C := hC ▸ hu.size
      have HLK := hide LK
      have HM1 := hide m1
      have HB1 := hide B1
      have HU1 := hide (hu.then u1 (fun _ _ => id))
      have HW1 := hide hW1
      have HC := hide hC
      clear hu hB u1 m1 B1 LK hW1 hC
      go_wp2_with fail
      rw [HC.out, HW1.out]
      refine Calls.mono HLK.out ?_
      rintro e w2 ⟨ka, kc, ks, rfl, R2, hkl, u2⟩
      obtain ⟨KN, hKN⟩ : ∃ n, ks.length = n := ⟨_, rfl⟩
      have HKN := hide hKN
      have hr2 := R2.rw
      have hnew := R2.new
      rw [hKN] at hkl hr2 hnew ⊢
      have nC : Hid (∀ k, (Value.slice ka KN kc).ownBlock = some k → ¬ k = C) := hide (fun k hk e => by have := hnew k hk; omega)
      have HR2 := hide hr2
      have HS2 := hide R2.ord
      have HO2 := hide R2.ok
      have HE2 := hide R2.mem
      have HM2 := hide (HM1.out.upd u2 id)
      have HB2 := hide (HB1.out.upd u2)
      have HU2 := hide (HU1.out.then u2 (fun _ _ => id))
      have s2 : C < w2.heap.size := by have := u2.size; omega
      clear R2 hr2 hnew hKN u2 HM1 HB1 HU1 HLK
      go_wp2_with fail
      go_loopg [41] KN (fun q iv wr => ∃ (j : Nat) (DW : DataW Value), j + q = KN ∧ iv = .int .i64 j ∧ Mp wr C j DW (fun y => if y ∈ ks.take j then M y else none) ∧ Maps.size DW = j ∧ Upd w2 wr (fun k => k = C))
      case atStart => exact ⟨0, _, by omega, rfl, HM2.out.imp (fun y _ => by simp), rfl, Upd.refl _ _⟩
      case round =>
        obtain ⟨j, DW, hj, rfl, hmp, hsz, hu⟩ := hrel
        by_cases hjK : j < KN
        · obtain ⟨x, hx⟩ : ∃ y, ks[j]? = some y := ⟨_, List.getElem?_eq_getElem (by rw [HKN.out]; exact hjK)⟩
          have xok := HO2.out x (List.mem_of_getElem? hx)
          have hxM := (HE2.out x xok).1 (List.mem_of_getElem? hx)
          obtain ⟨E, hE⟩ := Option.isSome_iff_exists.1 hxM
          obtain ⟨g, off, rfl, hg, d0, d1, d2, d3⟩ := row_at (hu.rw HR2.out nC.out) j x hx hjK
          have hj0 : (0 : Int) ≤ (j : Int) := by omega
          have hj1 : (j : Int) < (KN : Int) := by omega
          have htk := take_next' hx
          have hnot : x ∉ ks.take j := by
            intro hm
            obtain ⟨i, hi⟩ := List.mem_iff_getElem?.1 hm
            have hij : i < j := by
              have := (List.getElem?_eq_some_iff.1 hi).1
              rw [List.length_take] at this
              omega
            rw [List.getElem?_take_of_lt hij] at hi
            have hs := HS2.out
            rw [List.pairwise_iff_getElem] at hs
            obtain ⟨h1, e1⟩ := List.getElem?_eq_some_iff.1 hi
            obtain ⟨h2, e2⟩ := List.getElem?_eq_some_iff.1 hx
            have := hs i j h1 h2 hij
            rw [e1, e2] at this
            exact ltP_irrefl _ this
          obtain ⟨W3, hW3⟩ : ∃ W, wr.alloc (.cells x.cs 30) = W := ⟨_, rfl⟩
          have u3 : Upd wr W3 (fun _ => False) := hW3 ▸ (Upd.refl wr _).alloc _
          have bX : W3.heap[wr.heap.size]? = some (.cells x.cs 30 (0, 0)) := hW3 ▸ Vnew1 wr _
          have mp3 := hmp.upd u3 id
          have cas3 := (HB2.out.c.upd (hu.then u3 (fun _ _ e => e.elim)) (by omega) (by omega)).upd ((Upd.refl W3 (fun _ => False)).drew) id id
          have GT := Get_any W3.drew b bm n D M cas3 x xok
          rw [hE] at GT
          unfold GetPost at GT
          simp only [Option.getD_some, Option.isSome_some] at GT
          have nXC : ¬ wr.heap.size = C := fun e => by have := hmp.m.lt; omega
          have ST : ∀ w5, Upd W3 w5 (fun _ => False) → ∃ w9, (Instr.mapUpdate 77 (.map (some C)) x.val E.val).run Try.prog w5 = .ok () w9 ∧ Mp w9 C (j + 1) (DW.put (lkLit x) (.held E.val)) (setF (fun y => if y ∈ ks.take j then M y else none) x (some E)) ∧ Upd w5 w9 (fun k => k = C) := fun w5 u5 => by
            have mp5 := mp3.upd u5 id
            obtain ⟨w9, e9, m9, t9⟩ := mp5.m.store lkK Try.underlying77 (by unfold maxLen; omega) (lk_key xok) (val := E.val) (d := .held E.val) (ps := []) rfl
            exact ⟨w9, e9, mp5.put xok E m9, (Upd.refl _ _).grown t9.grown (fun k e => .inr (Option.some.inj e).symm)⟩
          have hsz2 : Maps.size (DW.put (lkLit x) (.held E.val)) = j + 1 := by
            rw [Go.Maps.size_put (hmp.m.tidy lkK), hmp.has x xok]
            simp only [hnot, if_false, Option.isSome_none, Bool.false_eq_true]
            rw [hsz]
          have hfun : ∀ y, y.ok → setF (fun y => if y ∈ ks.take j then M y else none) x (some E) y = (if y ∈ ks.take (j + 1) then M y else none) := by
            intro y _
            by_cases e : y = x
            · subst e
              rw [setF_same, htk, if_pos (by simp), hE]
            · rw [setF_other _ _ _ e, htk]
              simp [e]
          have HGT := hide GT
          have HST := hide ST
          have HSZ := hide hsz2
          have HFN := hide hfun
          have HU := hide (hu.then u3 (fun _ _ e => e.elim))
          have HW3 := hide hW3
          have HBX := hide bX
          clear hx xok hxM hE htk hnot u3 bX mp3 cas3 GT ST hsz2 hfun hmp hsz hu hW3
          obtain ⟨PX, hPX⟩ : ∃ P, P = x := ⟨_, rfl⟩
          have HPX := hide hPX
          rw [← hPX] at HSZ HFN
          obtain ⟨PE, hPE⟩ : ∃ P, P = E := ⟨_, rfl⟩
          have HPE := hide hPE
          rw [← hPE] at HSZ HFN
          clear hPX hPE
          obtain ⟨xb, xs, xc, xr⟩ := x
          obtain ⟨⟨ek, en, et, eb, ef⟩, ever, einc, ehas, estale, elost⟩ := E
          unfold Lk.cs at HBX HW3
          unfold Lk.val En.val at HGT
          simp only at HBX HW3 HGT d0 d1 d2 d3
          have hW3' : wr.alloc (.cells #[.string ⟨xb.toArray⟩, .string ⟨xs.toArray⟩, .int .i64 xc, .int .i64 xr] 30) = W3 := HW3.out
          have HW3' := hide hW3'
          obtain ⟨y0, y1, y2, y3⟩ := cells4 HBX.out
          have yl := lt_at HBX.out
          clear hW3'
          go_wp2_with fail
          rw [HW3'.out]
          go_region_held3 (fun w' => w'.cell? ⟨wr.heap.size, 0, none⟩ = some (.string ⟨xb.toArray⟩) ∧ w'.cell? ⟨wr.heap.size, 1, none⟩ = some (.string ⟨xs.toArray⟩) ∧ w'.cell? ⟨wr.heap.size, 2, none⟩ = some (.int .i64 xc) ∧ w'.cell? ⟨wr.heap.size, 3, none⟩ = some (.int .i64 xr))
            (first | (go_split_ands; first | exact ⟨(ut.cell _ _ yl5 nXC).trans z0, (ut.cell _ _ yl5 nXC).trans z1, (ut.cell _ _ yl5 nXC).trans z2, (ut.cell _ _ yl5 nXC).trans z3⟩ | exact ⟨z0, z1, z2, z3⟩) | go_keep)
            ((go_at_call 22; refine Calls.mono HGT.out ?_; rintro e w5 ⟨rfl, u5⟩; have hz : Upd W3 w5 (fun _ => False) := ((Upd.refl W3 (fun _ => False)).drew).then u5 (fun _ _ => id); obtain ⟨W9, E9, mp9, ut⟩ := HST.out w5 hz; unfold Lk.val En.val at E9; simp only at E9; have z0 := (hz.cell _ _ yl id).trans y0; have z1 := (hz.cell _ _ yl id).trans y1; have z2 := (hz.cell _ _ yl id).trans y2; have z3 := (hz.cell _ _ yl id).trans y3; have yl5 := Nat.lt_of_lt_of_le yl hz.size))
          go_wp2_with fail
          go_roundg (gk - 1)
          case measure => omega
          case rel =>
            refine ⟨j + 1, DW.put (lkLit PX) (.held PE.val), by omega, by go_num, ?_, ?_, (HU.out.then hz (fun _ _ e => e.elim)).then ut (fun _ _ e => e)⟩
            · rw [← HPX.out, ← HPE.out] at mp9
              exact mp9.imp HFN.out
            · exact HSZ.out
        · have hj1 : ¬ (j : Int) < (KN : Int) := by omega
          have hjN : j = KN := by omega
          subst hjN
          have htk : ks.take j = ks := List.take_of_length_le (by rw [HKN.out]; omega)
          have hmp2 : Mp wr C j DW M := hmp.imp (fun y hy => by
            rw [htk]
            by_cases e : y ∈ ks
            · rw [if_pos e]
            · rw [if_neg e]
              cases hq : M y with
              | none => rfl
              | some z => exact absurd ((HE2.out y hy).2 (by rw [hq]; rfl)) e)
          have HMP := hide hmp2
          have HSZ := hide hsz
          have HB3 : Hid (Cas wr b bm n D M) := hide (HB2.out.c.upd hu (by omega) (by omega))
          have HEN : Hid (∀ x E, x.ok → M x = some E → E.ok) := hide (fun x E hx hE => by
            rcases HB2.out.r.cases x hx with ⟨k, z, _, _, h3, h4, _⟩ | ⟨h3, _⟩
            · rw [h3] at hE
              exact Option.some.inj hE ▸ h4
            · rw [h3] at hE; cases hE)
          have HU3 := hide (HU2.out.then hu (fun i hi e => by omega))
          have hbbm := HB2.out.bbm
          clear hmp hsz hu htk hmp2
          have ST := Stale_any wr b bm n D M HB3.out (by omega) nm
          have HST := hide ST
          clear ST
          go_wp2_with fail
          refine Calls.mono HST.out ?_
          rintro e w6 ⟨rfl, ⟨D6, hc6⟩, u6⟩
          have LK := Links_any w6 b bm n D6 _ hc6 (by omega)
          have HLK := hide LK
          have HC6 := hide hc6
          have HMP6 := hide (HMP.out.upd u6 (by omega))
          have HU6 := hide (HU3.out.then u6 (fun i hi e => by omega))
          clear LK hc6 u6 HST
          go_wp2_with fail
          refine Calls.mono HLK.out ?_
          rintro e w7 ⟨qa, qc, ks2, rfl, R7, hkl7, u7⟩
          have e72 : ks2 = ks := sorted_uniq R7.ord HS2.out (fun z => by
            constructor
            · intro hz
              have zo := R7.ok z hz
              have := (R7.mem z zo).1 hz
              unfold MB at this
              exact (HE2.out z zo).2 (by split at this <;> simpa using this)
            · intro hz
              have zo := HO2.out z hz
              refine (R7.mem z zo).2 ?_
              have := (HE2.out z zo).1 hz
              unfold MB
              split <;> simpa using this)
          subst e72
          have hr7 := R7.rw
          rw [HKN.out] at hr7 ⊢
          have HR7 := hide hr7
          have HC7 := hide (HC6.out.upd u7 id id)
          have HMP7 := hide (HMP6.out.upd u7 id)
          have HU7 := hide (HU6.out.then u7 (fun _ _ => id))
          clear R7 hr7 u7 HLK HC6 HMP6 HU6 hkl7
          go_wp2_with fail
          go_loopg [64] j (fun q iv wi => ∃ i : Nat, i + q = j ∧ iv = .int .i64 i ∧ Upd w7 wi (fun _ => False))
          case atStart => exact ⟨0, by omega, rfl, Upd.refl _ _⟩
          case round =>
            obtain ⟨i, hi, rfl, hu⟩ := hrel
            by_cases hij : i < j
            · obtain ⟨x, hx⟩ : ∃ y, ks2[i]? = some y := ⟨_, List.getElem?_eq_getElem (by rw [HKN.out]; exact hij)⟩
              have xok := HO2.out x (List.mem_of_getElem? hx)
              have hxM := (HE2.out x xok).1 (List.mem_of_getElem? hx)
              obtain ⟨E, hE⟩ := Option.isSome_iff_exists.1 hxM
              have eok := HEN.out x E xok hE
              obtain ⟨g, off, rfl, hg, d0, d1, d2, d3⟩ := row_at (hu.rw HR7.out (fun _ _ => id)) i x hx hij
              have hi0 : (0 : Int) ≤ (i : Int) := by omega
              have hi1 : (i : Int) < (j : Int) := by omega
              have cas3 := HC7.out.upd (hu.then ((Upd.refl wr (fun _ => False)).alloc (.cells #[.string ⟨x.b.toArray⟩, .string ⟨x.s.toArray⟩, .int .i64 x.c, .int .i64 x.r] 30)) (fun _ _ => id)) id id
              have GT := Get_any _ b bm n D6 _ cas3 x xok
              have hMB : MB M staleE nm x = if x.b = nm then some (staleE E) else some E := by
                unfold MB
                rw [hE]
                rfl
              rw [hMB] at GT
              clear hxM cas3 hMB
              by_cases hb : x.b = nm
              · rw [if_pos hb] at GT
                have Q2 := neq_at E.v E.v eok.v eok.v (q := true) (eqV_iff.2 rfl)
                have LKF : ∀ W, Upd w7 W (fun _ => False) → (Instr.lookup 77 (.map (some C)) x.val false).run Try.prog W = .ok E.val W := fun W u => by
                  have mp := HMP7.out.upd u id
                  have q := look_held mp.m lkK Try.underlying77 (zeroEn _) (lk_key xok) (mp.val x xok)
                  rw [hE] at q
                  exact q
                clear hE hx xok eok
                obtain ⟨xb, xs, xc, xr⟩ := x
                obtain ⟨⟨ek, en, et, eb, ef⟩, ever, einc, ehas, estale, elost⟩ := E
                simp only at hb
                subst hb
                unfold GetPost staleE Lk.val En.val at GT
                unfold Lk.val En.val at LKF
                simp only [Option.getD_some, Option.isSome_some] at GT
                simp only [Bool.not_true] at LKF Q2 d0 d1 d2 d3
                have HGT := hide GT
                have HLKF := hide LKF
                have HUI := hide hu
                clear GT LKF hu
                go_upto_region 21 with (go_at_call 22; refine Calls.mono HGT.out ?_; rintro e w8 ⟨rfl, u8⟩; have HU8 := hide u8; clear u8)
                obtain ⟨w9, hw9⟩ : ∃ w9, w8.alloc (.cells #[.int .i64 ek, .int .i64 en, .string ⟨et.toArray⟩, .bool eb, .int .i64 ef, .int .i64 ever, .int .i64 einc, .bool ehas, .bool true, .bool elost] 67) = w9 := ⟨_, rfl⟩
                have u9 : Upd w7 w9 (fun _ => False) := hw9 ▸ ((HUI.out.alloc (.cells #[.string ⟨xb.toArray⟩, .string ⟨xs.toArray⟩, .int .i64 xc, .int .i64 xr] 30)).then HU8.out (fun _ _ => id)).alloc (.cells #[.int .i64 ek, .int .i64 en, .string ⟨et.toArray⟩, .bool eb, .int .i64 ef, .int .i64 ever, .int .i64 einc, .bool ehas, .bool true, .bool elost] 67)
                have bX : w9.heap[wr.heap.size]? = some (.cells #[.string ⟨xb.toArray⟩, .string ⟨xs.toArray⟩, .int .i64 xc, .int .i64 xr] 30 (0, 0)) := hw9 ▸ block_alloc (HU8.out.get (Vnew1 wr (.cells #[.string ⟨xb.toArray⟩, .string ⟨xs.toArray⟩, .int .i64 xc, .int .i64 xr] 30)) id) (.cells #[.int .i64 ek, .int .i64 en, .string ⟨et.toArray⟩, .bool eb, .int .i64 ef, .int .i64 ever, .int .i64 einc, .bool ehas, .bool true, .bool elost] 67)
                have bE : w9.heap[w8.heap.size]? = some (.cells #[.int .i64 ek, .int .i64 en, .string ⟨et.toArray⟩, .bool eb, .int .i64 ef, .int .i64 ever, .int .i64 einc, .bool ehas, .bool true, .bool elost] 67 (0, 0)) := hw9 ▸ Vnew1 w8 (.cells #[.int .i64 ek, .int .i64 en, .string ⟨et.toArray⟩, .bool eb, .int .i64 ef, .int .i64 ever, .int .i64 einc, .bool ehas, .bool true, .bool elost] 67)
                have L0 := HLKF.out w9 u9
                have L1 := HLKF.out w9.drew u9.drew
                have L2 := fun n => HLKF.out (w9.drewN n) (u9.drewN n)
                obtain ⟨x0, x1, x2, x3⟩ := cells4 bX
                obtain ⟨o0, o1, o2, o3, o4, o5, o6, o7, o8, o9⟩ := cells10 bE
                have xl := lt_at bX
                have ol := lt_at bE
                have HU9 := hide u9
                have HW9 := hide hw9
                rw [HW9.out]
                clear bX bE hw9 u9 HGT
                have FL0 := fun w => fld0 w ek en et eb ef ever einc ehas estale elost
                have FL1 := fun w => fld1 w ek en et eb ef ever einc ehas estale elost
                have FL5 := fun w => fld5 w ek en et eb ef ever einc ehas estale elost
                go_quiet (fail)
                go_wp2_with fail
                go_roundg (gk - 1)
                case measure => omega
                case rel => exact ⟨i + 1, by omega, by go_num, HU9.out.drewN _⟩
              · rw [if_neg hb] at GT
                have hbb : (x.b == nm) = false := by simpa using hb
                have Q1 := fun w => neq_en w eok eok
                have ee : decide (E = E) = true := by simp
                rw [ee] at Q1
                have Q2 := neq_at E.v E.v eok.v eok.v (q := true) (eqV_iff.2 rfl)
                have LKF : ∀ W, Upd w7 W (fun _ => False) → (Instr.lookup 77 (.map (some C)) x.val false).run Try.prog W = .ok E.val W := fun W u => by
                  have mp := HMP7.out.upd u id
                  have q := look_held mp.m lkK Try.underlying77 (zeroEn _) (lk_key xok) (mp.val x xok)
                  rw [hE] at q
                  exact q
                clear hb hE hx xok eok ee
                obtain ⟨xb, xs, xc, xr⟩ := x
                obtain ⟨⟨ek, en, et, eb, ef⟩, ever, einc, ehas, estale, elost⟩ := E
                unfold GetPost Lk.val En.val at GT
                unfold En.val at Q1
                unfold Lk.val En.val at LKF
                simp only [Option.getD_some, Option.isSome_some] at GT
                simp only [Bool.not_true] at LKF Q2 Q1 hbb d0 d1 d2 d3
                have HGT := hide GT
                have HLKF := hide LKF
                have HUI := hide hu
                clear GT LKF hu
                go_upto_region 21 with (go_at_call 22; refine Calls.mono HGT.out ?_; rintro e w8 ⟨rfl, u8⟩; have HU8 := hide u8; clear u8)
                obtain ⟨w9, hw9⟩ : ∃ w9, w8.alloc (.cells #[.int .i64 ek, .int .i64 en, .string ⟨et.toArray⟩, .bool eb, .int .i64 ef, .int .i64 ever, .int .i64 einc, .bool ehas, .bool estale, .bool elost] 67) = w9 := ⟨_, rfl⟩
                have u9 : Upd w7 w9 (fun _ => False) := hw9 ▸ ((HUI.out.alloc (.cells #[.string ⟨xb.toArray⟩, .string ⟨xs.toArray⟩, .int .i64 xc, .int .i64 xr] 30)).then HU8.out (fun _ _ => id)).alloc (.cells #[.int .i64 ek, .int .i64 en, .string ⟨et.toArray⟩, .bool eb, .int .i64 ef, .int .i64 ever, .int .i64 einc, .bool ehas, .bool estale, .bool elost] 67)
                have bX : w9.heap[wr.heap.size]? = some (.cells #[.string ⟨xb.toArray⟩, .string ⟨xs.toArray⟩, .int .i64 xc, .int .i64 xr] 30 (0, 0)) := hw9 ▸ block_alloc (HU8.out.get (Vnew1 wr (.cells #[.string ⟨xb.toArray⟩, .string ⟨xs.toArray⟩, .int .i64 xc, .int .i64 xr] 30)) id) (.cells #[.int .i64 ek, .int .i64 en, .string ⟨et.toArray⟩, .bool eb, .int .i64 ef, .int .i64 ever, .int .i64 einc, .bool ehas, .bool estale, .bool elost] 67)
                have bE : w9.heap[w8.heap.size]? = some (.cells #[.int .i64 ek, .int .i64 en, .string ⟨et.toArray⟩, .bool eb, .int .i64 ef, .int .i64 ever, .int .i64 einc, .bool ehas, .bool estale, .bool elost] 67 (0, 0)) := hw9 ▸ Vnew1 w8 (.cells #[.int .i64 ek, .int .i64 en, .string ⟨et.toArray⟩, .bool eb, .int .i64 ef, .int .i64 ever, .int .i64 einc, .bool ehas, .bool estale, .bool elost] 67)
                have L0 := HLKF.out w9 u9
                have L1 := HLKF.out w9.drew u9.drew
                have L2 := fun n => HLKF.out (w9.drewN n) (u9.drewN n)
                obtain ⟨x0, x1, x2, x3⟩ := cells4 bX
                obtain ⟨o0, o1, o2, o3, o4, o5, o6, o7, o8, o9⟩ := cells10 bE
                have xl := lt_at bX
                have ol := lt_at bE
                have HU9 := hide u9
                have HW9 := hide hw9
                rw [HW9.out]
                clear bX bE hw9 u9 HGT
                go_quiet (fail)
                go_wp2_with fail
                go_roundg (gk - 1)
                case measure => omega
                case rel => exact ⟨i + 1, by omega, by go_num, HU9.out.drewN _⟩
            · have hi1 : ¬ (i : Int) < (j : Int) := by omega
              have LK := fun W (u : Upd w7 W (fun _ => False)) => Links_any W b bm n D6 _ (HC7.out.upd u id id) (by omega)
              have HLK := hide LK
              have HUI := hide hu
              clear LK hu
              go_wp2_with fail
              refine Calls.mono (wakes_any _) ?_
              rintro e w8 ⟨rfl, u8⟩
              have HU8 := hide (HUI.out.then u8 (fun _ _ => id))
              clear u8
              go_wp2_with fail
              refine Calls.mono (HLK.out _ HU8.out) ?_
              rintro e w9 ⟨ra, rc, ks3, rfl, R9, hkl9, u9⟩
              have e93 : ks3 = ks2 := sorted_uniq R9.ord HS2.out (fun z => by
                constructor
                · intro hz
                  have zo := R9.ok z hz
                  have := (R9.mem z zo).1 hz
                  unfold MB at this
                  exact (HE2.out z zo).2 (by split at this <;> simpa using this)
                · intro hz
                  have zo := HO2.out z hz
                  refine (R9.mem z zo).2 ?_
                  have := (HE2.out z zo).1 hz
                  unfold MB
                  split <;> simpa using this)
              subst e93
              have LEN := ((HMP7.out.upd HU8.out id).upd u9 id).m.len Try.underlying77 3
              rw [HSZ.out] at LEN
              rw [HKN.out]
              have HU9 := hide ((HU7.out.then HU8.out (fun _ _ => id)).then u9 (fun _ _ => id))
              clear R9 hkl9 u9
              go_wp2_with fail
              go_ret
              exact ⟨by simp, HU9.out⟩
end Go.Proofs.Ytcclkfkdafmemaa
