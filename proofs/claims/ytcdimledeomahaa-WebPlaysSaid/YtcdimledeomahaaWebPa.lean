/- The walk of the law WebPlays. -/
import Derived.Test.YtcdimledeomahaaWebZ
set_option maxRecDepth 100000
namespace Go.Proofs.Ytcdimledeomahaa
open Go.RowKit Go.Lat

/-- A call as plain data. -/
structure Ac where
  dv : Int
  nm : List UInt8
  ver : Int
  cells : List Cl
/-- An argument of calls. -/
def AcArg (w : World) (v : Value) (l : List Ac) : Prop :=
  ∃ (a : Option Addr) (cap : Nat), v = .slice a l.length cap ∧ l.length ≤ cap ∧ cap ≤ maxLen ∧ (a = none → cap = 0) ∧
    ∀ i x, l[i]? = some x → ∃ g off ca cl cc, a = some ⟨g, off, none⟩ ∧ g < w.heap.size ∧ w.cell? ⟨g, off + i * 4, none⟩ = some (.int .i64 x.dv) ∧ w.cell? ⟨g, off + i * 4 + 1, none⟩ = some (encStr x.nm) ∧ w.cell? ⟨g, off + i * 4 + 2, none⟩ = some (.int .i64 x.ver) ∧ w.cell? ⟨g, off + i * 4 + 3, none⟩ = some (.slice ca cl cc) ∧ ClArg w (.slice ca cl cc) x.cells
theorem ClArg.upd {w w' : World} {v : Value} {l : List Cl} (h : ClArg w v l) (u : Upd w w' (fun _ => False)) : ClArg w' v l := by
  obtain ⟨a, cap, h1, h2, h3, h4, h5⟩ := h
  refine ⟨a, cap, h1, h2, h3, h4, fun i x hx => ?_⟩
  obtain ⟨g, off, lv, sa, sl, sc, k1, k2, k3, k4, k5, k6, k7, k8, k9⟩ := h5 i x hx
  exact ⟨g, off, lv, sa, sl, sc, k1, Nat.lt_of_lt_of_le k2 u.size, (u.cell g _ k2 id).trans k3, (u.cell g _ k2 id).trans k4, (u.cell g _ k2 id).trans k5, (u.cell g _ k2 id).trans k6, (u.cell g _ k2 id).trans k7, (u.cell g _ k2 id).trans k8, k9.upd u (fun _ _ => id)⟩
theorem cuts_len (l : List Lk) : (cuts l).length ≤ 20 := by simp [cuts]; omega
theorem cuts_b (l : List Lk) : ∀ x ∈ cuts l, x.b.length ≤ 20 := by
  intro x hx
  simp only [cuts, List.mem_map] at hx
  obtain ⟨y, _, rfl⟩ := hx
  simp [Lk.cut]
  omega

/-- What both answer of a name. -/
theorem Known_both {w : World} {b bm n : Nat} {D : DataW Value} {F : List UInt8 → Option (Int × List Ed)} {rb : Nat} {lv : Value} {xs : List Value} {KL : List Kn} (h : Both w b bm n D F rb lv xs KL) (hl : KL.length ≤ 1000000) (s : List UInt8) (hs : s.length ≤ maxLen) :
    ∃ (ver : Int) (m : Nat), Calls Try.prog 15 #[.pointer (some ⟨b, 0, none⟩), encStr s] w (fun e w' => e = .returned (.tuple #[.int .i64 ver, .int .i64 m]) ∧ Upd w w' (fun _ => False)) ∧
      ∀ w2, Upd w w2 (fun _ => False) → Calls Try.prog 16 #[.pointer (some ⟨rb, 0, none⟩), encStr s] w2 (fun e w' => e = .returned (.tuple #[.int .i64 ver, .int .i64 m]) ∧ Upd w2 w' (fun _ => False)) := by
  have hag : told KL = F := funext h.ag
  cases hF : F s with
  | none =>
    refine ⟨0, 0, Known_any w b bm n D h.web ⟨s.toArray⟩ hs 0 none 0 0 (Go.Maps.atKey_of_not_has (h.kn.no s hF) _), fun w2 u => ?_⟩
    refine Calls.mono (Tells_any w2 rb lv xs KL (h.rf.upd u) hl s) ?_
    rintro e w' ⟨⟨q, rfl⟩, ⟨_, rfl⟩ | ⟨ver, es, h1, _⟩⟩
    · exact ⟨rfl, (Upd.refl _ _).drewN _⟩
    · rw [hag, hF] at h1; cases h1
  | some p =>
    obtain ⟨ver, es⟩ := p
    obtain ⟨-, a, c, k2, -⟩ := h.kn.yes s ver es hF
    refine ⟨ver, es.length, Known_any w b bm n D h.web ⟨s.toArray⟩ hs ver a es.length c k2, fun w2 u => ?_⟩
    refine Calls.mono (Tells_any w2 rb lv xs KL (h.rf.upd u) hl s) ?_
    rintro e w' ⟨⟨q, rfl⟩, ⟨h1, _⟩ | ⟨ver', es', h1, rfl⟩⟩
    · rw [hag, hF] at h1; cases h1
    · rw [hag, hF] at h1
      cases h1
      exact ⟨rfl, (Upd.refl _ _).drewN _⟩

set_option maxHeartbeats 6400000 in
theorem WebPlays_walk (w : World) (v : Value) (acs : List Ac) (ha : AcArg w v acs) (lv0 : Value) (l : List Lk) (hl : PlArg w lv0 l) :
    Calls Try.prog 4 #[v, lv0] w fun e w' => e = .returned (.bool true) ∧ Upd w w' (fun _ => False) := by
  obtain ⟨a, cap, rfl, hac, hcm, hnil, hrow⟩ := ha
  obtain ⟨L, hL⟩ : ∃ L, acs.length = L := ⟨_, rfl⟩
  rw [hL] at hac ⊢
  obtain ⟨N, hN⟩ : ∃ N, min L 30 = N := ⟨_, rfl⟩
  have hN2 : (min (L : Int) 30) = (N : Int) := by omega
  have n0 : (0 : Int) ≤ (N : Int) := by omega
  have n30 : N ≤ 30 := by omega
  have n1 : (N : Int) ≤ (cap : Int) := by omega
  have HL := hide hL
  have HN := hide hN
  have HR := hide hrow
  have HPL := hide hl
  clear hL hN hrow hl
  go_enter Try.func4, Try.ntmps4
  go_wp2_with fail
  refine Calls.mono (New_any w) ?_
  rintro e w1 ⟨rfl, a1, u1⟩
  have l1 := lt_at a1.c
  have hb1 := new1 w1 (.cells #[.slice none 0 0] 58)
  have uA : Upd w1 (w1.alloc (.cells #[.slice none 0 0] 58)) (fun _ => False) := (Upd.refl w1 _).alloc _
  have B1 : Both (w1.alloc (.cells #[.slice none 0 0] 58)) (w.heap.size + 1) w.heap.size 0 (.map []) (fun _ => none) w1.heap.size (.slice none 0 0) [] [] :=
    ⟨a1.upd uA id id, KnV.empty _ _, ⟨hb1, Rw.nil _ _ _, by simp, fun i k hk => by simp at hk⟩, fun t => rfl, fun t v e h => by cases h⟩
  have HB1 := hide B1
  have HU1 := hide (u1.then uA (fun _ _ => id))
  clear a1 hb1 uA B1 u1
  go_wp2_with fail
  refine Calls.mono (wakes_any _) ?_
  rintro e w2 ⟨rfl, u2⟩
  have HB2 := hide (HB1.out.upd u2)
  have HU2 := hide (HU1.out.then u2 (fun _ _ => id))
  clear u2
  go_wp2_with fail
  go_loopg [27] N (fun q iv wr => ∃ (k n : Nat) (D : DataW Value) (F : List UInt8 → Option (Int × List Ed)) (lv : Value) (xs : List Value) (KL : List Kn), k + q = N ∧ iv = .int .i64 k ∧ n ≤ k ∧ KL.length ≤ k ∧ Both wr (w.heap.size + 1) w.heap.size n D F w1.heap.size lv xs KL ∧ (∀ j, lv.ownBlock = some j → w.heap.size ≤ j) ∧ Upd w wr (fun _ => False))
  case atStart => exact ⟨0, 0, _, _, _, _, [], by omega, rfl, by omega, by simp, HB2.out, by simp [Value.ownBlock], HU2.out⟩
  case round =>
    obtain ⟨k, n, D, F, lv, xs, KL, hk, rfl, hnk, hKk, hB, ho, hu⟩ := hrel
    obtain ⟨ogk, hogk⟩ : ∃ o, gk = o := ⟨_, rfl⟩
    rw [hogk] at hk
    have HB := hide hB
    have HO := hide ho
    have HU := hide hu
    clear hB ho
    by_cases hkN : k < N
    · obtain ⟨x, hx⟩ : ∃ x, acs[k]? = some x := ⟨_, List.getElem?_eq_getElem (by rw [HL.out]; have := HN.out; omega)⟩
      obtain ⟨g, off, ca, cl, cc, rfl, hg, c0, c1, c2, c3, hcl⟩ := HR.out k x hx
      obtain ⟨dv, nm, ver, cells⟩ := x
      simp only at c0 c1 c2 c3 hcl
      have d0 := (hu.cell g _ hg id).trans c0
      have d1 := (hu.cell g _ hg id).trans c1
      have d2 := (hu.cell g _ hg id).trans c2
      have d3 := (hu.cell g _ hg id).trans c3
      obtain ⟨tn, htn⟩ : ∃ t, nm.take 20 = t := ⟨_, rfl⟩
      have htl : tn.length ≤ 20 := by rw [← htn]; simp; omega
      have hX := new1 wr (.cells #[.int .i64 dv, encStr nm, .int .i64 ver, .slice ca cl cc] 61)
      have uX : Upd wr (wr.alloc (.cells #[.int .i64 dv, encStr nm, .int .i64 ver, .slice ca cl cc] 61)) (fun _ => False) := (Upd.refl wr _).alloc _
      have BX := HB.out.upd uX
      have AC := act_any _ _ _ _ _ _ _ _ _ _ BX (by omega) (by omega) dv ver nm tn htn ca cl cc cells ((hcl.upd hu).upd uX)
      have xne : ¬ (wr.heap.size = w.heap.size ∨ wr.heap.size = w1.heap.size ∨ lv.ownBlock = some wr.heap.size) := by
        rintro (e | e | e)
        · have := hu.size; have := HB.out.web.m.lt; omega
        · have := lt_at HB.out.rf.c; omega
        · have := HB.out.rf.r.lt _ e; omega
      have w1s : w.heap.size ≤ w1.heap.size := by omega
      have HX := hide hX
      have HUX := hide (hu.then uX (fun _ _ => id))
      have HT := hide htn
      have hk0 : (0 : Int) ≤ (k : Int) := by omega
      have hk1 : (k : Int) < (N : Int) := by omega
      clear hx c0 c1 c2 c3 hcl hu htn hX uX BX
      go_wp2_with fail
      refine Calls.mono AC ?_
      rintro e w4 ⟨rfl, n', D', F', lv', xs', KL', hn', hkl, B4, u4, o4⟩
      have hx4 := u4.get HX.out xne
      obtain ⟨x0, x1, x2, x3⟩ := cells4 hx4
      have xl := lt_at hx4
      obtain ⟨kv, km, KN, TL⟩ := Known_both B4 (by omega) tn (by unfold maxLen; omega)
      have U4 : Upd w w4 (fun _ => False) := HUX.out.then u4 (fun i hi e => by
        rcases e with e | e | e
        · omega
        · omega
        · have := HO.out i e; omega)
      have O4 : ∀ j, lv'.ownBlock = some j → w.heap.size ≤ j := fun j hj => by
        rcases o4 j hj with e | e
        · exact HO.out j e
        · have := HUX.out.size; omega
      have HU4 := hide U4
      have HO4 := hide O4
      have HB4 := hide B4
      have HX4 := hide hx4
      clear U4 O4 B4 u4 o4 hx4 AC d0 d1 d2 d3
      go_wp2_with fail
      simp only [cut_eq, HT.out]
      refine Calls.mono KN ?_
      rintro e w5 ⟨rfl, u5⟩
      obtain ⟨y0, y1, y2, y3⟩ := cells4 (u5.get HX4.out id)
      go_wp2_with fail
      simp only [cut_eq, HT.out]
      refine Calls.mono (TL w5 u5) ?_
      rintro e w6 ⟨rfl, u6⟩
      have U6 := HU4.out.then (u5.then u6 (fun _ _ => id)) (fun _ _ => id)
      have LK := links_any w6 lv0 l (HPL.out.upd U6 (fun _ _ => id))
      have HB6 := hide (HB4.out.upd (u5.then u6 (fun _ _ => id)))
      have HU6 := hide U6
      clear U6 u5 u6 TL KN
      go_wp2_with fail
      refine Calls.mono LK ?_
      rintro e w7 ⟨v1, v2, rfl, hl1, hl2, -, -, u7⟩
      have hcl := cuts_len l
      have hcb := cuts_b l
      obtain ⟨zs, hzs⟩ : ∃ zs, cuts l = zs := ⟨_, rfl⟩
      rw [hzs] at hl1 hl2 hcl hcb
      replace hl1 : Rw w7 40 4 v1 zs.length (lkCells zs) := hl1
      replace hl2 : Rw w7 73 4 v2 zs.length (lkCells zs) := hl2
      obtain ⟨va, vc, rfl, -⟩ := Rw.form hl1
      obtain ⟨vb, vd, rfl, -⟩ := Rw.form hl2
      obtain ⟨R, hR⟩ : ∃ R, zs.length = R := ⟨_, rfl⟩
      rw [hR] at hl1 hl2 hcl
      have H1 := hide hl1
      have H2 := hide hl2
      have HRR := hide hR
      have HB7 := hide (HB6.out.upd u7)
      have HU7 := hide (HU6.out.then u7 (fun _ _ => id))
      rw [hR]
      clear hl1 hl2 hR hzs u7 LK
      go_wp2_with fail
      go_loopg [75] R (fun q jv wr2 => ∃ j : Nat, j + q = R ∧ jv = .int .i64 j ∧ Upd w7 wr2 (fun _ => False))
      case atStart => exact ⟨0, by omega, rfl, Upd.refl _ _⟩
      case round =>
        obtain ⟨j, hj, rfl, hu2⟩ := hrel
        by_cases hjR : j < R
        · obtain ⟨z, hz⟩ : ∃ z, zs[j]? = some z := ⟨_, List.getElem?_eq_getElem (by rw [HRR.out]; exact hjR)⟩
          have hzb := hcb z (List.mem_of_getElem? hz)
          obtain ⟨g1, o1, rfl, hg1, p0, p1, p2, p3⟩ := lk_at (hu2.rw H1.out (fun _ _ => id)) j z hz hjR
          obtain ⟨g2, o2, rfl, hg2, q0, q1, q2, q3⟩ := lk_at (hu2.rw H2.out (fun _ _ => id)) j z hz hjR
          have uD : Upd wr wr.drew (fun _ => False) := (Upd.refl wr _).drew
          have B8 := (HB7.out.upd hu2).upd uD
          have hag : told KL' = F' := funext B8.ag
          have RDa := Reads_any wr.drew _ _ _ _ B8.web _ _ B8.kn z (by unfold maxLen; omega) B8.sm
          obtain ⟨rd, hrd⟩ : ∃ rd, readsOf F' z = rd := ⟨_, rfl⟩
          have RDb : ∀ w8, Upd wr.drew w8 (fun _ => False) → Calls Try.prog 20 #[.pointer (some ⟨w1.heap.size, 0, none⟩), z.val] w8 fun e w' => ∃ a c, e = .returned (.slice a rd.length c) ∧ PlsAt w' (.slice a rd.length c) rd ∧ Upd w8 w' (fun _ => False) := by
            intro w8 u8
            have := RReads_any w8 _ _ _ _ (B8.rf.upd u8) (by omega) z (fun ver es h => (B8.sm _ _ _ (by rw [← hag]; exact h)).1)
            rw [hag, hrd] at this
            exact this
          have hrdl : rd.length ≤ 1000 := by
            rw [← hrd]
            unfold readsOf
            cases hF : F' z.b with
            | none => simp
            | some pp =>
              obtain ⟨pv, pe⟩ := pp
              simp only [findEd]
              cases hf : pe.find? (fun e => e.is z) with
              | none => simp
              | some e => exact (B8.sm _ _ _ hF).2 e (List.mem_of_find?_eq_some hf)
          rw [hrd] at RDa
          have HU8 := hide (hu2.then uD (fun _ _ => id))
          unfold Lk.val at RDa RDb
          obtain ⟨zb, zs', zc, zr⟩ := z
          simp only at p0 p1 p2 p3 q0 q1 q2 q3 RDa RDb
          have hj0 : (0 : Int) ≤ (j : Int) := by omega
          have hj1 : (j : Int) < (R : Int) := by omega
          clear hz hzb B8 hag hrd hu2 uD
          go_wp2_with fail
          go_region_held3 (fun w' => w'.cell? ⟨g1, o1 + j * 4, none⟩ = some (encStr zb) ∧ w'.cell? ⟨g1, o1 + j * 4 + 1, none⟩ = some (encStr zs') ∧ w'.cell? ⟨g1, o1 + j * 4 + 2, none⟩ = some (.int .i64 zc) ∧ w'.cell? ⟨g1, o1 + j * 4 + 3, none⟩ = some (.int .i64 zr) ∧ w'.cell? ⟨g2, o2 + j * 4, none⟩ = some (encStr zb) ∧ w'.cell? ⟨g2, o2 + j * 4 + 1, none⟩ = some (encStr zs') ∧ w'.cell? ⟨g2, o2 + j * 4 + 2, none⟩ = some (.int .i64 zc) ∧ w'.cell? ⟨g2, o2 + j * 4 + 3, none⟩ = some (.int .i64 zr))
            (first | (go_split_ands; exact ⟨(uk.cell g1 _ hg1 id).trans p0, (uk.cell g1 _ hg1 id).trans p1, (uk.cell g1 _ hg1 id).trans p2, (uk.cell g1 _ hg1 id).trans p3, (uk.cell g2 _ hg2 id).trans q0, (uk.cell g2 _ hg2 id).trans q1, (uk.cell g2 _ hg2 id).trans q2, (uk.cell g2 _ hg2 id).trans q3⟩) | go_keep)
            (first
              | (go_at_call 19; refine Calls.mono RDa ?_; rintro e w8 ⟨a8, c8, rfl, r8, -, u8⟩; have uk : Upd wr w8 (fun _ => False) := ((Upd.refl wr _).drew).then u8 (fun _ _ => id))
              | (go_at_call 20; refine Calls.mono (RDb w8 u8) ?_; rintro e w9 ⟨a9, c9, rfl, r9, u9⟩; have uk := uk.then u9 (fun _ _ => id))
              | (go_at_call 18; refine Calls.mono (sameLinks_true w9 _ _ rd (u9.rw r8 (fun _ _ => id)) r9 (by omega)) ?_; rintro e w10 ⟨rfl, u10⟩; have uk := uk.then u10 (fun _ _ => id)))
          go_wp2_with fail
          go_roundg (gk - 1)
          case measure => omega
          case rel => exact ⟨j + 1, by omega, by go_num, ((HU8.out.then u8 (fun _ _ => id)).then u9 (fun _ _ => id)).then u10 (fun _ _ => id)⟩
        · have HU9 := hide hu2
          clear hu2
          go_wp2_with fail
          go_roundg (ogk - 1)
          case measure => omega
          case rel => exact ⟨k + 1, n', D', F', lv', xs', KL', by omega, by go_num, by omega, by omega, HB7.out.upd HU9.out, HO4.out, HU7.out.then HU9.out (fun _ _ => id)⟩
    · go_wp2_with fail
      go_ret
      exact ⟨rfl, hu⟩
end Go.Proofs.Ytcdimledeomahaa
