/- The walk of the law WebNil. -/
import Derived.Test.YtcdimledeomahaaWebR
set_option maxRecDepth 100000
namespace Go.Proofs.Ytcdimledeomahaa
open Go.RowKit Go.Lat

theorem eds_len (l : List Cl) : (eds l).length ≤ 10 := by simp [eds]; omega
theorem eds_reads (l : List Cl) : ∀ e ∈ eds l, e.reads.length ≤ 20 := by
  intro e he
  simp only [eds, List.mem_map] at he
  obtain ⟨x, _, rfl⟩ := he
  simp [Cl.ed, cuts]
  omega

set_option maxHeartbeats 6400000 in
theorem WebNil_walk (w : World) (nm : ByteArray) (v : Value) (cs : List Cl) (hc : ClArg w v cs) (lb ls : List UInt8) (lc lr : Int) :
    Calls Try.prog 5 #[.string nm, v, .agg #[encStr lb, encStr ls, .int .i64 lc, .int .i64 lr]] w fun e w' => e = .returned (.bool true) ∧ Upd w w' (fun _ => False) := by
  obtain ⟨tb, htb⟩ : ∃ t, lb.take 20 = t := ⟨_, rfl⟩
  obtain ⟨ts, hts⟩ : ∃ t, ls.take 20 = t := ⟨_, rfl⟩
  have htl : tb.length ≤ 20 := by rw [← htb]; simp; omega
  have hes := eds_len cs
  have her := eds_reads cs
  obtain ⟨es, hE⟩ : ∃ es, eds cs = es := ⟨_, rfl⟩
  have ED := edges_any (w.alloc (.cells #[encStr lb, encStr ls, .int .i64 lc, .int .i64 lr] 75)) v cs (by
    obtain ⟨a, cap, h1, h2, h3, h4, h5⟩ := hc
    have u := (Upd.refl w (fun _ => False)).alloc (.cells #[encStr lb, encStr ls, .int .i64 lc, .int .i64 lr] 75)
    refine ⟨a, cap, h1, h2, h3, h4, fun i x hx => ?_⟩
    obtain ⟨g, off, lv, sa, sl, sc, k1, k2, k3, k4, k5, k6, k7, k8, k9⟩ := h5 i x hx
    exact ⟨g, off, lv, sa, sl, sc, k1, by simp; omega, (u.cell g _ k2 id).trans k3, (u.cell g _ k2 id).trans k4, (u.cell g _ k2 id).trans k5, (u.cell g _ k2 id).trans k6, (u.cell g _ k2 id).trans k7, (u.cell g _ k2 id).trans k8, k9.upd u (fun _ _ => id)⟩)
  rw [hE] at ED hes her
  have u0 : Upd w (w.alloc (.cells #[encStr lb, encStr ls, .int .i64 lc, .int .i64 lr] 75)) (fun _ => False) := (Upd.refl w _).alloc _
  have hX0 := new1 w (.cells #[encStr lb, encStr ls, .int .i64 lc, .int .i64 lr] 75)
  have HU0 := hide u0
  have HX0 := hide hX0
  clear u0 hX0 hE
  go_enter Try.func5, Try.ntmps5
  go_wp2_with fail
  refine Calls.mono (Forget_nil _ _) ?_
  rintro e w' ⟨rfl, hw⟩
  replace hw := hw.symm
  subst hw
  go_wp2_with fail
  refine Calls.mono ED ?_
  rintro e w1 ⟨xv, yv, rfl, ex, -, u1⟩
  obtain ⟨xa, xc, rfl, -⟩ := Rw.form ex.2.choose_spec.1
  have hX1 := u1.get HX0.out id
  obtain ⟨c0, c1, c2, c3⟩ := cells4 hX1
  have U1 := hide (HU0.out.then u1 (fun _ _ => id))
  have HX := hide ex
  have LK := link_at w1 lb ls tb ts lc lr htb hts
  clear htb hts hX1 u1 ex
  go_wp2_with fail
  refine Calls.mono LK ?_
  rintro e w2 ⟨rfl, u2⟩
  have U2 := hide u2
  clear u2
  go_wp2_with fail
  refine Calls.mono (Known_nil _ _) ?_
  rintro e w' ⟨rfl, hw⟩
  replace hw := hw.symm
  subst hw
  go_wp2_with fail
  refine Calls.mono (Learn_nil _ _ _ _) ?_
  rintro e w' ⟨rfl, hw⟩
  replace hw := hw.symm
  subst hw
  go_wp2_with fail
  refine Calls.mono (Reads_nil _ ⟨tb, ts, lc, lr⟩) ?_
  rintro e w4 ⟨rfl, u4⟩
  go_wp2_with fail
  refine Calls.mono (Cycles_nil _ _ _) ?_
  rintro e w5 ⟨rfl, u5⟩
  go_wp2_with fail
  have V3 : Upd w2 ((w2.alloc (.cells #[encStr tb, encStr ts, .int .i64 lc, .int .i64 lr] 40)).alloc (.cells #[encStr tb, encStr ts, .int .i64 lc, .int .i64 lr] 73)) (fun _ => False) := ((Upd.refl w2 _).alloc _).alloc _
  have hK3 : ((w2.alloc (.cells #[encStr tb, encStr ts, .int .i64 lc, .int .i64 lr] 40)).alloc (.cells #[encStr tb, encStr ts, .int .i64 lc, .int .i64 lr] 73)).heap[w2.heap.size]? = some (.cells #[encStr tb, encStr ts, .int .i64 lc, .int .i64 lr] 40 (0, 0)) := block_alloc (new1 w2 _) _
  have V5 := V3.then (u4.then u5 (fun _ _ => id)) (fun _ _ => id)
  have hK5 := (u4.then u5 (fun _ _ => id)).get hK3 id
  have U5 := hide ((U2.out).then V5 (fun _ _ => id))
  have HK5 := hide hK5
  clear V3 hK3 V5 hK5 u4 u5
  refine Calls.mono (New_any w5) ?_
  rintro e w6 ⟨rfl, a6, u6⟩
  have hK6 := u6.get HK5.out id
  obtain ⟨k0, k1, k2, k3⟩ := cells4 hK6
  have lK6 := lt_at hK6
  have ex6 := HX.out.upd (U5.out.then u6 (fun _ _ => id)) (fun _ _ => id)
  have LA := Learn_accept w6 (w5.heap.size + 1) w5.heap.size 0 (.map []) a6 (by omega) tb (by unfold maxLen; omega) 1 0 _ (.slice xa es.length xc) es ex6 (by omega) (fun e he => by have := her e he; omega) none 0 0 (Go.Maps.atKey_of_not_has rfl _) false rfl (by simp)
  have z6 := lt_at a6.c
  have s15 := U5.out.size
  have s12 := U2.out.size
  have hK2 : w2.heap.size < w5.heap.size := lt_at HK5.out
  have U6 := hide (U5.out.then u6 (fun _ _ => id))
  have HK6 := hide hK6
  have A6 := hide a6
  clear a6 u6 hK6 ex6
  go_wp2_with fail
  refine Calls.mono LA ?_
  rintro e w7 ⟨rfl, ka, kc, a7, k7, u7⟩
  have kn7 := KnV.put (World.ownsMap.isMap A6.out.m) (KnV.empty w7 (fun k => w6.heap.size ≤ k)) tb 1 es ka kc k7
  have hK7 := u7.get HK6.out (by omega)
  obtain ⟨l0, l1, l2, l3⟩ := cells4 hK7
  obtain ⟨rd, hrd⟩ : ∃ rd, readsOf (fun t => if t = tb then some (1, es) else (fun _ => none) t) ⟨tb, ts, lc, lr⟩ = rd := ⟨_, rfl⟩
  have hFb : ∀ t ver es', (fun t => if t = tb then some ((1 : Int), es) else (fun _ => none) t) t = some (ver, es') → es'.length ≤ 1000 ∧ ∀ e ∈ es', e.reads.length ≤ 1000 := by
    intro t ver es' h
    simp only at h
    split at h
    · cases h
      exact ⟨by omega, fun e he => by have := her e he; omega⟩
    · cases h
  have hrl : rd.length ≤ 1000 := by
    rw [← hrd]
    unfold readsOf
    simp only [if_true, findEd]
    cases hf : es.find? (fun e => e.is ⟨tb, ts, lc, lr⟩) with
    | none => simp
    | some e => have := her e (List.mem_of_find?_eq_some hf); simp; omega
  have RD : ∀ (V : World) (A : Nat → Prop) (D : DataW Value) (n : Nat), WebAt V (w5.heap.size + 1) w5.heap.size n D → KnV V A D (fun t => if t = tb then some (1, es) else (fun _ => none) t) → Calls Try.prog 19 #[.pointer (some ⟨w5.heap.size + 1, 0, none⟩), .agg #[encStr tb, encStr ts, .int .i64 lc, .int .i64 lr]] V fun e w' => ∃ a c, e = .returned (.slice a rd.length c) ∧ Rw w' 40 4 (.slice a rd.length c) rd.length (lkCells rd) ∧ (∀ k, (Value.slice a rd.length c).ownBlock = some k → V.heap.size ≤ k) ∧ Upd V w' (fun _ => False) := by
    intro V A D n hw hk
    have := Reads_any V _ _ n D hw A _ hk ⟨tb, ts, lc, lr⟩ (by show tb.length ≤ maxLen; unfold maxLen; omega) hFb
    rw [hrd] at this
    exact this
  have RD7 := RD w7 _ _ _ a7 kn7
  have U7 := hide (U6.out.then u7 (fun i hi e => by omega))
  have lK7 := lt_at hK7
  have HK7 := hide hK7
  have A7 := hide a7
  have KN7 := hide kn7
  have HRD := hide RD
  clear a7 kn7 hK7 hFb hrd RD k7 LA u7
  go_wp2_with fail
  refine Calls.mono RD7 ?_
  rintro e w8 ⟨wa, wc, rfl, r8, nb8, u8⟩
  have U8 := hide (U7.out.then u8 (fun _ _ => id))
  have V8 := hide u8
  have R8 := hide r8
  have NB8 := hide nb8
  clear u8 r8 nb8 RD7
  go_wp2_with fail
  obtain ⟨hxo, xs, hxs, hx1, hxr⟩ := (HX.out.weaken (B := fun k => w.heap.size ≤ k ∧ k < w1.heap.size) (fun k hk hA => ⟨by simp at hA; omega, hk⟩)).upd U8.out (fun _ _ => id)
  obtain ⟨S, hS⟩ : ∃ S : Nat → Prop, S = fun k => w.heap.size ≤ k ∧ k < w1.heap.size ∧ (Value.slice xa es.length xc).ownBlock ≠ some k := ⟨_, rfl⟩
  have hSx : ∀ k, (Value.slice xa es.length xc).ownBlock = some k → ¬ S k := fun k hk e => by rw [hS] at e; exact e.2.2 hk
  have hSl : ∀ k, S k → w.heap.size ≤ k ∧ k < w1.heap.size := fun k e => by rw [hS] at e; exact ⟨e.1, e.2.1⟩
  have hsh : Shape w8 S xs es := by
    intro i e he
    obtain ⟨rv, q1, q2, q3⟩ := hxr i e he
    obtain ⟨ra, rc, rfl, -⟩ := Rw.form q2
    exact ⟨ra, rc, _, q1, q2, fun k hk => by rw [hS]; exact ⟨(q3 k hk).1, (q3 k hk).2, Rw.away q2 hxs (by decide) hk⟩⟩
  have HXS := hide hxs
  have HSX := hide hSx
  have HSL := hide hSl
  clear hxo hx1 hxr hS hxs hSx hSl
  go_loopg [78] es.length (fun q iv wr => ∃ k : Nat, k + q = es.length ∧ iv = .int .i64 k ∧ Shape wr S xs es ∧ Upd w8 wr S)
  case atStart => exact ⟨0, by omega, rfl, hsh, Upd.refl _ _⟩
  case round =>
    obtain ⟨k, hk, rfl, hsr, hur⟩ := hrel
    obtain ⟨ogk, hogk⟩ : ∃ o, gk = o := ⟨_, rfl⟩
    rw [hogk] at hk
    by_cases hkN : k < es.length
    · obtain ⟨e, he⟩ : ∃ e, es[k]? = some e := ⟨_, List.getElem?_eq_getElem hkN⟩
      obtain ⟨ra, rc, ys, hrow, hrw, hrS⟩ := hsr k e he
      obtain ⟨g, off, rfl, hg, d3⟩ := ed_at (hur.rw HXS.out HSX.out) hrow hkN
      have hk0 : (0 : Int) ≤ (k : Int) := by omega
      have hk1 : (k : Int) < (es.length : Int) := by omega
      have hml : e.reads.length ≤ 20 := her e (List.mem_of_getElem? he)
      obtain ⟨m, hm⟩ : ∃ m, e.reads.length = m := ⟨_, rfl⟩
      have HSR := hide hsr
      have HUR := hide hur
      have HROW := hide hrow
      have HEE := hide he
      rw [hm] at d3 hml
      have HM := hide hm
      clear hsr hur hrow he hm hrw hrS
      go_wp2_with fail
      go_loopg [87] m (fun q jv wr2 => ∃ j : Nat, j + q = m ∧ jv = .int .i64 j ∧ Shape wr2 S xs es ∧ Upd w8 wr2 S)
      case atStart => exact ⟨0, by omega, rfl, HSR.out, HUR.out⟩
      case round =>
        obtain ⟨j, hj, rfl, hs2, hu2⟩ := hrel
        by_cases hjm : j < m
        · obtain ⟨ra2, rc2, ys2, hrow2, hrw2, hrS2⟩ := hs2 k e HEE.out
          have er : Value.slice ra e.reads.length rc = Value.slice ra2 e.reads.length rc2 := Option.some.inj (HROW.out.2.2.2.symm.trans hrow2.2.2.2)
          cases er
          rw [HM.out] at hrw2 hrS2
          obtain ⟨g2, off2, cap2, hv2, hg2, hc2⟩ := Rw.pos hrw2 (by omega)
          cases hv2
          have hlen2 : ys2.length = m * 4 := hrw2.1
          have q0 := hc2 (j * 4) _ (List.getElem?_eq_getElem (by omega))
          have q1 := hc2 (j * 4 + 1) _ (List.getElem?_eq_getElem (by omega))
          have q2 := hc2 (j * 4 + 2) _ (List.getElem?_eq_getElem (by omega))
          have q3 := hc2 (j * 4 + 3) _ (List.getElem?_eq_getElem (by omega))
          obtain ⟨cur2, hb2, _⟩ := Rw.block hrw2
          have f0 := free_at hb2
          simp only [← Nat.add_assoc] at q1 q2 q3
          obtain ⟨y0, hy0⟩ : ∃ y, ys2[j * 4]'(by omega) = y := ⟨_, rfl⟩
          obtain ⟨y1, hy1⟩ : ∃ y, ys2[j * 4 + 1]'(by omega) = y := ⟨_, rfl⟩
          obtain ⟨y2, hy2⟩ : ∃ y, ys2[j * 4 + 2]'(by omega) = y := ⟨_, rfl⟩
          obtain ⟨y3, hy3⟩ : ∃ y, ys2[j * 4 + 3]'(by omega) = y := ⟨_, rfl⟩
          rw [hy0] at q0
          rw [hy1] at q1
          rw [hy2] at q2
          rw [hy3] at q3
          have d3' := hu2.cell g (off + k * 4 + 3) (by
            have := HXS.out.lt g rfl
            exact this) (HSX.out g rfl)
          have dd : wr.cell? ⟨g, off + k * 4 + 3, none⟩ = some (.slice (some ⟨g2, off2, none⟩) m rc) := by
            obtain ⟨g', off', e1, _, e2⟩ := ed_at (hu2.rw HXS.out HSX.out) HROW.out hkN
            cases e1
            rw [HM.out] at e2
            exact e2
          have hj0 : (0 : Int) ≤ (j : Int) := by omega
          have hj1 : (j : Int) < (m : Int) := by omega
          have HS2 := hide hs2
          have HU2 := hide hu2
          have HRS := hide hrS2
          have HM2 := hide (hrS2 g2 rfl)
          clear hs2 hu2 hrS2 hc2 hb2 hrw2 d3' hrow2 hy0 hy1 hy2 hy3 d3
          go_wp2_with fail
          go_roundg (gk - 1)
          case measure => omega
          case rel => exact ⟨j + 1, by omega, by go_num, HS2.out.put _ _ _ _ _ _, upd4 HU2.out (.inr HM2.out) _ _ _ _ _⟩
        · have HS2 := hide hs2
          have HU2 := hide hu2
          clear hs2 hu2 d3
          go_wp2_with fail
          go_roundg (ogk - 1)
          case measure => omega
          case rel => exact ⟨k + 1, by omega, by go_num, HS2.out, HU2.out⟩
    · have HUR := hide hur
      clear hsr hur
      have hK9 := (HUR.out).get ((V8.out).get HK7.out id) (fun e => by have := HSL.out _ e; omega)
      obtain ⟨m0, m1, m2, m3⟩ := cells4 hK9
      have lK9 := lt_at hK9
      obtain ⟨wz, hwz⟩ : ∃ z, wr.heap.size = z := ⟨_, rfl⟩
      have A9 : WebAt wr (w5.heap.size + 1) w5.heap.size _ _ := (A7.out.upd V8.out id id).upd HUR.out (fun e => by have := HSL.out _ e; omega) (fun e => by have := HSL.out _ e; omega)
      have KN9 := (KN7.out.upd V8.out (fun _ _ => id)).upd HUR.out (fun k hk e => by have := HSL.out _ e; have := U6.out.size; omega)
      have R9 := HUR.out.rw R8.out (fun k hk e => by have := NB8.out k hk; have := HSL.out _ e; have := U7.out.size; omega)
      have RDN := HRD.out wr _ _ _ A9 KN9
      have UW : Upd w wr (fun _ => False) := (U1.out.then U8.out (fun _ _ => id)).then HUR.out (fun i hi e => by have := HSL.out _ e; omega)
      have s59 : w5.heap.size + 1 < wz := by rw [← hwz]; exact lt_at A9.c
      have KNW := KN9.weaken (B := fun k => k < wz) (fun k hk _ => by rw [← hwz]; exact hk)
      have s2z : w2.heap.size < wz := by rw [← hwz]; exact lK9
      have sz : w.heap.size ≤ wz := by rw [← hwz]; exact UW.size
      have HA9 := hide A9
      have HKN := hide KNW
      have HR9 := hide R9
      have HUW := hide UW
      have HK9 := hide hK9
      obtain ⟨R, hR⟩ : ∃ R, rd.length = R := ⟨_, rfl⟩
      rw [hR] at RDN hrl
      have HRR := hide hR
      clear A9 KN9 R9 UW KNW hK9 hR
      have HWZ := hide hwz
      go_wp2_with fail
      refine Calls.mono RDN ?_
      rintro e w9 ⟨na, nc, rfl, r9, nb9, u9⟩
      have WA9 := u9.rw HR9.out (fun _ _ => id)
      rw [HRR.out] at WA9
      have hwn : ∀ k, (Value.slice wa R wc).ownBlock = some k → (Value.slice na R nc).ownBlock ≠ some k := fun k hk e => by
        have := nb9 k e
        have q := HR9.out.lt k (by rw [HRR.out]; exact hk)
        omega
      have HN9 := hide r9
      have HW9 := hide WA9
      rw [hwz] at nb9
      have HNB := hide nb9
      have HU9 := hide u9
      have HWN := hide hwn
      clear r9 WA9 nb9 u9 hwn RDN
      rw [HRR.out]
      go_wp2_with fail
      go_loopg [110] R (fun q iv wr3 => ∃ (i : Nat) (ys : List Value), i + q = R ∧ iv = .int .i64 i ∧ Rw wr3 40 4 (.slice na R nc) R ys ∧ (∀ j x, i ≤ j → rd[j]? = some x → LkRow ys j x) ∧ Upd w9 wr3 (fun k => (Value.slice na R nc).ownBlock = some k))
      case atStart => exact ⟨0, _, by omega, rfl, HN9.out, fun j x _ hx => lkRow_of hx, Upd.refl _ _⟩
      case round =>
        obtain ⟨i, ys, hi, rfl, ry, hrow, hu3⟩ := hrel
        have W3 := hu3.rw HW9.out HWN.out
        have HY := hide ry
        have HROW := hide hrow
        have HU3 := hide hu3
        have HW3 := hide W3
        clear hrow hu3
        by_cases hiR : i < R
        · obtain ⟨x, hx⟩ : ∃ x, rd[i]? = some x := ⟨_, List.getElem?_eq_getElem (by rw [HRR.out]; exact hiR)⟩
          obtain ⟨g1, o1, rfl, hg1, p0, p1, p2, p3⟩ := lk_at W3 i x hx hiR
          obtain ⟨g2, o2, rfl, hg2, q0, q1, q2, q3⟩ := LkRow.at ry (HROW.out i x (Nat.le_refl _) hx) hiR
          obtain ⟨cur, hb, _⟩ := Rw.block ry
          have fr := free_at hb
          have hi0 : (0 : Int) ≤ (i : Int) := by omega
          have hi1 : (i : Int) < (R : Int) := by omega
          obtain ⟨xb, xs', xc', xr⟩ := x
          simp only at p0 p1 p2 p3 q0 q1 q2 q3
          clear W3 ry hb hx
          go_wp2_with fail
          go_quiet (fail)
          go_wp2_with fail
          go_roundg (gk - 1)
          case measure => omega
          case rel =>
            obtain ⟨ys', k1, k2⟩ := Rw.put4 (HY.out.drewN nq) i hiR (encStr [63]) (encStr []) (.int .i64 0) (.int .i64 0)
            refine ⟨i + 1, ys', by omega, by go_num, k1, fun j x hj hxj => ?_, upd4 (HU3.out.drewN _) (.inr rfl) _ _ _ _ _⟩
            obtain ⟨r0, r1, r2, r3⟩ := HROW.out j x (by omega) hxj
            exact ⟨(k2 j 0 (by omega) (by omega)).trans r0, (k2 j 1 (by omega) (by omega)).trans r1, (k2 j 2 (by omega) (by omega)).trans r2, (k2 j 3 (by omega) (by omega)).trans r3⟩
        · have hnb : ∀ k, k < wz → (Value.slice na R nc).ownBlock ≠ some k := fun k hk e => by have := HNB.out k e; omega
          have A10 := (HA9.out.upd HU9.out id id).upd HU3.out (hnb _ (by omega)) (hnb _ (by omega))
          have KN10 := (HKN.out.upd HU9.out (fun _ _ => id)).upd HU3.out (fun k hk => hnb k hk)
          have RDA := HRD.out _ _ _ _ A10 KN10
          rw [HRR.out] at RDA
          have hK10 := HU3.out.get (HU9.out.get HK9.out id) (hnb _ s2z)
          obtain ⟨t0, t1, t2, t3⟩ := cells4 hK10
          have lt10 := lt_at hK10
          have UW3 : Upd w wr (fun _ => False) := (HUW.out.then HU9.out (fun _ _ => id)).then HU3.out (fun j hj e => by exact hnb j (by omega) e)
          have HUW3 := hide UW3
          clear A10 KN10 hK10 UW3 W3 ry
          go_wp2_with fail
          refine Calls.mono RDA ?_
          rintro e w11 ⟨ga, gc, rfl, r11, nb11, u11⟩
          have W11 := u11.rw HW3.out (fun _ _ => id)
          have HG := hide r11
          have HW11 := hide W11
          have HU11 := hide u11
          clear r11 W11 u11 RDA
          go_wp2_with fail
          go_loopg [132] R (fun q iv wr4 => ∃ i : Nat, i + q = R ∧ iv = .int .i64 i ∧ Upd w11 wr4 (fun _ => False))
          case atStart => exact ⟨0, by omega, rfl, Upd.refl _ _⟩
          case round =>
            obtain ⟨i4, hi4, rfl, hu4⟩ := hrel
            have HU4 := hide hu4
            have G4 := hu4.rw HG.out (fun _ _ => id)
            have S4 := hu4.rw HW11.out (fun _ _ => id)
            clear hu4
            by_cases hiR4 : i4 < R
            · obtain ⟨x, hx⟩ : ∃ x, rd[i4]? = some x := ⟨_, List.getElem?_eq_getElem (by rw [HRR.out]; exact hiR4)⟩
              obtain ⟨g1, o1, rfl, hg1, p0, p1, p2, p3⟩ := lk_at S4 i4 x hx hiR4
              obtain ⟨g2, o2, rfl, hg2, q0, q1, q2, q3⟩ := lk_at G4 i4 x hx hiR4
              have hi0 : (0 : Int) ≤ (i4 : Int) := by omega
              have hi1 : (i4 : Int) < (R : Int) := by omega
              obtain ⟨xb, xs', xc', xr⟩ := x
              simp only at p0 p1 p2 p3 q0 q1 q2 q3
              clear S4 G4 hx
              go_wp2_with fail
              go_quiet (fail)
              go_wp2_with fail
              go_roundg (gk - 1)
              case measure => omega
              case rel => exact ⟨i4 + 1, by omega, by go_num, HU4.out.drewN _⟩
            · clear S4 G4
              go_wp2_with fail
              refine Calls.mono (wakes_any _) ?_
              rintro e w12 ⟨rfl, u12⟩
              go_wp2_with fail
              go_ret
              exact ⟨rfl, ((HUW3.out.then HU11.out (fun _ _ => id)).then HU4.out (fun _ _ => id)).then u12 (fun _ _ => id)⟩
end Go.Proofs.Ytcdimledeomahaa
