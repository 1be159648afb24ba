/- The walk of NetOwn. -/
import Derived.Test.YtleehgpfoigajaaNtI
import Derived.Test.YtleehgpfoigajaaNtL
import Derived.Test.YtleehgpfoigajaaNetD
set_option maxRecDepth 100000
namespace Go.Proofs.Ytleehgpfoigajaa
open Go.RowKit Go.Lat Go.Sort

theorem and7 (x : Int) : ∃ m : Nat, m < 8 ∧ bits BinOp.and IntKind.i64 x 7 = (m : Int) := by
  refine ⟨(BitVec.ofInt 64 x &&& BitVec.ofInt 64 7).toNat, ?_, ?_⟩
  · rw [BitVec.toNat_and]
    have h1 : (BitVec.ofInt 64 7).toNat = 7 := by decide
    rw [h1]
    exact Nat.lt_of_le_of_lt Nat.and_le_right (by omega)
  · show IntKind.i64.wrap ((BitVec.ofInt 64 x &&& BitVec.ofInt 64 7).toNat : Int) = _
    have h2 : (BitVec.ofInt 64 x &&& BitVec.ofInt 64 7).toNat ≤ 7 := by
      rw [BitVec.toNat_and]
      have h1 : (BitVec.ofInt 64 7).toNat = 7 := by decide
      rw [h1]
      exact Nat.and_le_right
    rw [IntWalk.i64_in _ (by omega)]

theorem twiceM_some {M : Pr → List (List UInt8)} {p : Pr} {i : Int} {x : List UInt8} (h : lookR (M p) i = some x) : twiceM M p i = sendM M p x := by simp [twiceM, h]
theorem twiceM_none {M : Pr → List (List UInt8)} {p : Pr} {i : Int} (h : lookR (M p) i = none) : twiceM M p i = M := by simp [twiceM, h]
theorem takeM_some {M : Pr → List (List UInt8)} {p : Pr} {i : Int} {x : List UInt8} (h : lookR (M p) i = some x) : takeM M p i = setF M p ((M p).take i.toNat ++ (M p).drop (i.toNat + 1)) := by simp [takeM, h]
theorem takeM_none {M : Pr → List (List UInt8)} {p : Pr} {i : Int} (h : lookR (M p) i = none) : takeM M p i = M := by simp [takeM, h]
theorem take_le {M : Pr → List (List UInt8)} {k : Nat} (h : ∀ p, (M p).length ≤ k) (p : Pr) (i : Int) (q : Pr) : (takeM M p i q).length ≤ k := by
  cases hlk : lookR (M p) i with
  | some x =>
    rw [takeM_some hlk]
    by_cases e : q = p
    · subst e
      rw [setF_same]
      have := h q
      simp
      omega
    · rw [setF_other _ _ _ e]
      exact h q
  | none =>
    rw [takeM_none hlk]
    exact h q
theorem send_ok {M : Pr → List (List UInt8)} (h : ∀ p, ∀ s ∈ M p, s.length ≤ maxLen) {p : Pr} {s : List UInt8} (hs : s.length ≤ maxLen) : ∀ q, ∀ u ∈ sendM M p s q, u.length ≤ maxLen := by
  intro q u hu
  unfold sendM at hu
  split at hu
  · by_cases e : q = p
    · subst e
      rw [setF_same] at hu
      rcases List.mem_append.1 hu with z | z
      · exact h q u z
      · simp at z
        rw [z]
        exact hs
    · rw [setF_other _ _ _ e] at hu
      exact h q u hu
  · exact h q u hu
theorem take_ok {M : Pr → List (List UInt8)} (h : ∀ p, ∀ s ∈ M p, s.length ≤ maxLen) {p : Pr} {i : Int} : ∀ q, ∀ u ∈ takeM M p i q, u.length ≤ maxLen := by
  intro q u hu
  cases hlk : lookR (M p) i with
  | some x =>
    rw [takeM_some hlk] at hu
    by_cases e : q = p
    · subst e
      rw [setF_same] at hu
      rcases List.mem_append.1 hu with z | z
      · exact h q u (List.mem_of_mem_take z)
      · exact h q u (List.mem_of_mem_drop z)
    · rw [setF_other _ _ _ e] at hu
      exact h q u hu
  | none =>
    rw [takeM_none hlk] at hu
    exact h q u hu
/-- A network stays, at a write into another map. -/
theorem Nets.past {base : Nat} {w w' : World} {b bm n : Nat} {D : DataW Value} {lost : Nat} {M : Pr → List (List UInt8)} {V : Pr → Value} (h : Nets base w b bm n D lost M V) {T : TypeId} {lm nl : Nat} {Dl : DataW Value} (hl : w.ownsMap Try.prog T heldElem lm nl Dl) (hne : lm ≠ bm) (u : Upd w w' (fun k => k = lm)) : Nets base w' b bm n D lost M V := by
  have f : ∀ p, prOk p → ¬ Nfr b bm V p lm := fun p hp => h.map hp hl hne
  have hb : b ≠ lm := fun e => f ([], []) ⟨Nat.zero_le _, Nat.zero_le _⟩ (.inl e.symm)
  exact ⟨h.net.upd u hb (fun e => hne e.symm), h.bb, h.bbm, fun p hp => (h.line p hp).upd u (fun k hk e => f p hp (.inr (.inr (by rw [← e, hk])))), h.has, h.ap⟩
/-- A map's block holds no cells. -/
theorem map_not {w : World} {T : TypeId} {lm nl : Nat} {Dl : DataW Value} (g : Nat) (cs : Array Value) (t : TypeId) (hg : w.heap[g]? = some (.cells cs t (0, 0))) (hl : w.ownsMap Try.prog T heldElem lm nl Dl) : g ≠ lm := by
  intro e
  subst e
  obtain ⟨es, clock, hb, _⟩ := hl
  rw [hg] at hb
  cases hb

/-- A network stays, at a write into a block of another type. -/
theorem Nets.past2 {base : Nat} {w w' : World} {b bm n : Nat} {D : DataW Value} {lost : Nat} {M : Pr → List (List UInt8)} {V : Pr → Value} (h : Nets base w b bm n D lost M V) {g : Nat} {cs : Array Value} {t : TypeId} (hg : w.heap[g]? = some (.cells cs t (0, 0))) (h1 : t ≠ 54) (h2 : t ≠ 9) (u : Upd w w' (fun k => k = g)) : Nets base w' b bm n D lost M V := by
  refine ⟨h.net.upd u (fun e => ?_) (fun e => map_not g cs t hg h.net.m e.symm), h.bb, h.bbm, fun p hp => (h.line p hp).upd u (fun k hk e => ?_), h.has, h.ap⟩
  · have := h.net.c
    rw [e, hg] at this
    simp at this
    exact h1 this.2
  · subst e
    rcases (h.line p hp).2.1.2 with ⟨q, _⟩ | ⟨g', off, cap, cur, q, hg', _⟩
    · rw [q] at hk; cases hk
    · rw [q] at hk
      have e2 : g' = k := Option.some.inj hk
      rw [e2, hg] at hg'
      simp at hg'
      exact h2 hg'.2
theorem LeftV.put2 {M : Pr → List (List UInt8)} {D : DataW Value} {x : Tr} {c c' : Int} (hD : Go.Maps.IsMap (D.put (trLit x) (.held (.int .i64 c)))) (h : LeftV M D) (hx : trOk x) (hc : c' = (cntM M x : Nat)) : LeftV M ((D.put (trLit x) (.held (.int .i64 c))).put (trLit x) (.held (.int .i64 c'))) := by
  intro y hy
  by_cases e : y = x
  · subst e
    rw [Go.Maps.atKey_put_same hD (isKey_tr _), hc]
  · have hne : trLit y ≠ trLit x := fun q => e (trLit_inj hy hx q)
    rw [Go.Maps.atKey_put_other hne, Go.Maps.atKey_put_other hne, h y hy]

set_option maxHeartbeats 6400000 in
theorem NetOwn_walk (w : World) (v : Value) (l : List AcD) (h : AcArg w v l) :
    Calls Try.prog 4 #[v] w fun e w' => e = .returned (.bool true) ∧ Upd w w' (fun _ => False) := by
  obtain ⟨a, cap, rfl, hlc, hcm, hnil, hrow⟩ := h
  obtain ⟨L, hL⟩ : ∃ L, l.length = L := ⟨_, rfl⟩
  rw [hL] at hlc ⊢
  obtain ⟨N, hN⟩ : ∃ N, min L 80 = N := ⟨_, rfl⟩
  have hN2 : (min (L : Int) 80) = (N : Int) := by omega
  have n0 : (0 : Int) ≤ (N : Int) := by omega
  have n20 : N ≤ 80 := by omega
  have n1 : (N : Int) ≤ (cap : Int) := by omega
  have HL := hide hL
  have HN := hide hN
  have HR := hide hrow
  clear hL hN hrow
  have HNW := hide New_any
  have HWK := hide wakes_any
  have hmm := @run_makeMap Try.prog
  go_enter Try.func4, Try.ntmps4
  go_wp2_with (first
    | (go_at_call 7; refine Calls.mono (HNW.out _) ?_; rintro e w3 ⟨rfl, hn3, u3⟩; have HN3 := hide hn3; have HU3 := hide u3; clear hn3 u3)
    | (go_at_call 9; refine Calls.mono (HWK.out _) ?_; rintro e w4 ⟨rfl, u4⟩; have HU4 := hide u4; clear u4))
  obtain ⟨b, hb⟩ : ∃ b, w.heap.size + 1 = b := ⟨_, rfl⟩
  obtain ⟨bm, hbm⟩ : ∃ bm, w.heap.size = bm := ⟨_, rfl⟩
  obtain ⟨lm, hlm⟩ : ∃ lm, w3.heap.size = lm := ⟨_, rfl⟩
  have uo : Upd w3 (w3.alloc (.map #[] 0)) (fun _ => False) := (Upd.refl w3 _).alloc _
  have hns : Nets w.heap.size w4 b bm 0 (.map []) 0 (fun _ => []) (fun _ => noRow) := by
    have q := HN3.out
    rw [hb, hbm] at q
    exact ((Nets.new q (by omega) (by omega)).upd uo).upd HU4.out
  have hlb : lm ≠ bm := by
    have := (HN3.out).m.lt
    omega
  have hml : w4.ownsMap Try.prog 35 heldElem lm 0 (.map []) := by
    rw [← hlm]
    exact own_upd (World.ownsMap_made w3 Try.prog 35 heldElem) HU4.out id
  have hlo : w.heap.size ≤ lm := by have := HU3.out.size; omega
  have u4 : Upd w w4 (fun _ => False) := (HU3.out.then uo (fun _ _ => id)).then HU4.out (fun _ _ => id)
  rw [hb, hlm]
  have HNS := hide hns
  have HUW := hide u4
  have HML := hide hml
  clear hb hbm hlm hns u4 hml uo
  go_loopg [28] N (fun q iv wr => ∃ (k n lost nl : Nat) (D Dl : DataW Value) (M : Pr → List (List UInt8)) (V : Pr → Value), k + q = N ∧ iv = .int .i64 k ∧ n ≤ k ∧ lost ≤ k ∧ nl ≤ 2 * k ∧ (∀ p, (M p).length ≤ k) ∧ (∀ p, ∀ s ∈ M p, s.length ≤ maxLen) ∧ Nets w.heap.size wr b bm n D lost M V ∧ wr.ownsMap Try.prog 35 heldElem lm nl Dl ∧ LeftV M Dl ∧ Upd w wr (fun _ => False))
  case atStart => exact ⟨0, 0, 0, 0, _, _, _, _, by omega, rfl, by omega, by omega, by omega, by simp, by simp, HNS.out, HML.out, LeftV.start, HUW.out⟩
  case round =>
    obtain ⟨k, n, lost, nl, D, Dl, M, V, hk, rfl, hn, hlost, hnl, hM, hsm, hns, hml, hlv, hu⟩ := hrel
    obtain ⟨wk, rfl⟩ : ∃ wk, wk = wr := ⟨_, rfl⟩
    by_cases hkN : k < N
    · obtain ⟨x, hx⟩ : ∃ x, l[k]? = some x := ⟨_, List.getElem?_eq_getElem (by rw [HL.out]; have := HN.out; omega)⟩
      obtain ⟨g, off, rfl, hg, c0, c1, c2, c3, c4, o2, o3, o4, -⟩ := HR.out k x hx
      have d0 := (hu.cell g _ hg id).trans c0
      have d1 := (hu.cell g _ hg id).trans c1
      have d2 := (hu.cell g _ hg id).trans c2
      have d3 := (hu.cell g _ hg id).trans c3
      have d4 := (hu.cell g _ hg id).trans c4
      obtain ⟨xd, xi, xf, xt, xs⟩ := x
      simp only at c0 c1 c2 c3 c4 d0 d1 d2 d3 d4 o2 o3 o4
      have hk0 : (0 : Int) ≤ (k : Int) := by omega
      have hk1 : (k : Int) < (N : Int) := by omega
      obtain ⟨m, hm8, hmx⟩ := and7 xd
      obtain ⟨W, hW⟩ : ∃ W, (wk.alloc (.cells #[.int .i64 xd, .int .i64 xi, encStr xf, encStr xt, encStr xs] 34)).alloc (.cells #[encStr xf, encStr xt, encStr xs] 35) = W := ⟨_, rfl⟩
      have uo : Upd wk W (fun _ => False) := hW ▸ ((Upd.refl wk _).alloc _).alloc _
      have bA : W.heap[wk.heap.size]? = some (.cells #[.int .i64 xd, .int .i64 xi, encStr xf, encStr xt, encStr xs] 34 (0, 0)) := hW ▸ block_alloc (new1 wk _) _
      have bK : W.heap[wk.heap.size + 1]? = some (.cells #[encStr xf, encStr xt, encStr xs] 35 (0, 0)) := hW ▸ new2 wk _ _
      have pok : prOk (xf, xt) := ⟨o2, o3⟩
      have hfr := hns.fr pok
      have hlf := hns.map pok hml hlb
      have HA := hide bA
      have HK := hide bK
      have HNK := hide (hns.upd uo)
      have HMK := hide (own_upd hml uo id)
      have HLV := hide hlv
      have HUK := hide (hu.then uo (fun _ _ => id))
      have HMM := hide hM
      have HW := hide hW
      have HFR := hide hfr
      have HLF := hide hlf
      have HMX := hide hmx
      have wsz : wk.heap.size + 1 < W.heap.size := lt_at bK
      have wks := hu.size
      have HSM := hide hsm
      clear hsm
      clear hns hml hlv hu hM hW uo bA bK c0 c1 c2 c3 c4 hx hfr hlf
      have hm' : m < 3 ∨ m = 3 ∨ m = 6 ∨ m = 4 ∨ m = 5 ∨ m = 7 := by omega
      clear hm8 hmx
      rcases hm' with hm3 | rfl | rfl | rfl | rfl | rfl
      · have hmx' : bits BinOp.and IntKind.i64 xd 7 = (m : Int) := HMX.out
        clear HMX
        have g0 : ((m : Int) == 3) = false := by simp; omega
        have g1 : ((m : Int) == 6) = false := by simp; omega
        have g2 : ((m : Int) == 4) = false := by simp; omega
        have g3 : ((m : Int) == 5) = false := by simp; omega
        have g4 : ((m : Int) == 7) = false := by simp; omega
        have g5 : (m == 3) = false := by simp; omega
        have g6 : (m == 6) = false := by simp; omega
        have g7 : (m == 4) = false := by simp; omega
        have g8 : (m == 5) = false := by simp; omega
        have g9 : (m == 7) = false := by simp; omega
        have hroom : (M (xf, xt)).length < 256 := by have := HMM.out (xf, xt); omega
        have SD := Send_S w.heap.size W b bm n D lost M V HNK.out (by omega) (by omega) (xf, xt) pok xs
        rw [decide_eq_true hroom, if_pos hroom] at SD
        have HSD := hide SD
        have HROOM := hide hroom
        have tok : trOk (xf, xt, xs) := ⟨o2, o3, o4⟩
        have hat := HLV.out _ tok
        obtain ⟨C, hC⟩ : ∃ C, cntM M (xf, xt, xs) = C := ⟨_, rfl⟩
        have hCb : C ≤ 80 := by rw [← hC]; exact Nat.le_trans List.count_le_length (by have := HMM.out (xf, xt); simp only at *; omega)
        have hwrap : IntKind.i64.wrap ((C : Int) + 1) = (C : Int) + 1 := IntWalk.i64_in _ (by omega)
        rw [hC] at hat
        have HC := hide hC
        clear SD hroom hC
        go_wp2_with (go_at_call 8; rw [HW.out]; refine Calls.mono HSD.out ?_; rintro e w5 ⟨rfl, n', D', V', hn', hns', u5⟩
                     have bA5 := u5.get HA.out (fun e => by have := (HFR.out _ e).2; omega)
                     have bK5 := u5.get HK.out (fun e => by have := (HFR.out _ e).2; omega)
                     obtain ⟨a0, a1, a2, a3, a4⟩ := cells5 bA5
                     obtain ⟨k0, k1, k2⟩ := cells3 bK5
                     have al5 := lt_at bA5
                     have kl5 := lt_at bK5
                     have kf5 := free_at bK5 2
                     have HBA5 := hide bA5
                     have HBK5 := hide bK5
                     have hm5 := own_upd HMK.out u5 HLF.out
                     obtain ⟨st, X, Y, E1, El, Em, E3, my, vx, vy⟩ := bump w5.drew lm nl Dl hm5 (by omega) tok hat ((C : Int) + 1)
                     simp only [trVal] at E1 El Em
                     obtain ⟨q0, q1, q2⟩ := cells3 (vx.get HBK5.out (map_not _ _ _ HBK5.out hm5))
                     have HNS5 := hide (Nets.past (w := w5.drew) (hns'.upd ((Upd.refl w5 _).drew)) hm5 hlb vy)
                     have HMY := hide my
                     have HU5 := hide u5
                     have HVY := hide vy
                     have HM5 := hide hm5
                     clear u5 bA5 bK5 hns' my vy hm5)
        go_region
        all_goals go_wp2_with fail
        all_goals go_roundg (gk - 1)
        case' measure => omega
        all_goals (first
          | (refine ⟨k + 1, n', lost, nl + 1, D', _, _, V', by omega, by go_num, by omega, by omega, by omega, send_le HMM.out _ _, send_ok HSM.out o4, HNS5.out, HMY.out, LeftV.put (World.ownsMap.isMap HMK.out) HLV.out tok (by rw [cnt_send HROOM.out, HC.out]; simp) (fun y hy => by rw [cnt_send HROOM.out, if_neg hy]; rfl), ((HUK.out.then HU5.out (fun i hi e => by have := (HFR.out i e).1; omega)).drew).then HVY.out (fun i hi e => by omega)⟩)
          | omega)
      · have hmx' : bits BinOp.and IntKind.i64 xd 7 = 3 := HMX.out
        clear HMX
        have LK := Look_S w.heap.size W b bm n D lost M V HNK.out (xf, xt) pok xi
        have TW := Twice_S w.heap.size W b bm n D lost M V HNK.out (by omega) (by omega) (xf, xt) pok xi
        have hroom : (M (xf, xt)).length < 256 := by have := HMM.out (xf, xt); omega
        obtain ⟨a0, a1, a2, a3, a4⟩ := cells5 HA.out
        have al5 := lt_at HA.out
        cases hlk : lookR (M (xf, xt)) xi with
        | none =>
          rw [lookV_none hlk] at LK
          rw [show twiceE (M (xf, xt)) xi = 3 by simp [twiceE, hlk], twiceM_none hlk] at TW
          have HLK := hide LK
          have HTW := hide TW
          clear LK TW hlk hroom
          go_wp2_with (first
            | (go_at_call 14; rw [HW.out]; refine Calls.mono HLK.out ?_; rintro e w' ⟨rfl, hw⟩; replace hw := hw.symm; subst hw)
            | (go_at_call 11; refine Calls.mono HTW.out ?_; rintro e w5 ⟨rfl, n', D', V', hn', hns', u5⟩
               have HNS5 := hide hns'
               have HU5 := hide u5
               clear hns' u5))
          go_roundg (gk - 1)
          case measure => omega
          case rel => exact ⟨k + 1, n', lost, nl, D', Dl, M, V', by omega, by go_num, by omega, by omega, by omega, fun p => Nat.le_succ_of_le (HMM.out p), HSM.out, HNS5.out, own_upd HMK.out HU5.out HLF.out, HLV.out, HUK.out.then HU5.out (fun i hi e => by have := (HFR.out i e).1; omega)⟩
        | some x =>
          rw [lookV_some hlk] at LK
          rw [show twiceE (M (xf, xt)) xi = 0 by simp [twiceE, hlk, hroom], twiceM_some hlk] at TW
          have o5 : x.length ≤ maxLen := by
            obtain ⟨q, _, hq⟩ := lookR_some hlk
            exact HSM.out _ _ (List.mem_of_getElem? hq)
          have HLK := hide LK
          have HTW := hide TW
          have HROOM := hide hroom
          have tok : trOk (xf, xt, x) := ⟨o2, o3, o5⟩
          have hat := HLV.out _ tok
          obtain ⟨C, hC⟩ : ∃ C, cntM M (xf, xt, x) = C := ⟨_, rfl⟩
          have hCb : C ≤ 80 := by rw [← hC]; exact Nat.le_trans List.count_le_length (by have := HMM.out (xf, xt); simp only at *; omega)
          have hwrap : IntKind.i64.wrap ((C : Int) + 1) = (C : Int) + 1 := IntWalk.i64_in _ (by omega)
          rw [hC] at hat
          have HC := hide hC
          clear LK TW hlk hroom hC
          go_wp2_with (first
            | (go_at_call 14; rw [HW.out]; refine Calls.mono HLK.out ?_; rintro e w' ⟨rfl, hw⟩; replace hw := hw.symm; subst hw)
            | (go_at_call 11; refine Calls.mono HTW.out ?_; rintro e w5 ⟨rfl, n', D', V', hn', hns', u5⟩
               clear a0 a1 a2 a3 a4
               have bA5 := u5.get HA.out (fun e => by have := (HFR.out _ e).2; omega)
               have bK5 := u5.get HK.out (fun e => by have := (HFR.out _ e).2; omega)
               obtain ⟨a0, a1, a2, a3, a4⟩ := cells5 bA5
               obtain ⟨k0, k1, k2⟩ := cells3 bK5
               have al5 := lt_at bA5
               have kl5 := lt_at bK5
               have kf5 := free_at bK5 2
               have HBA5 := hide bA5
               have HBK5 := hide bK5
               have hm5 := own_upd HMK.out u5 HLF.out
               obtain ⟨st, X, Y, E1, El, Em, E3, my, vx, vy⟩ := bump w5.drew lm nl Dl hm5 (by omega) tok hat ((C : Int) + 1)
               simp only [trVal] at E1 El Em
               have HNS5 := hide (Nets.past (w := w5.drew) (hns'.upd ((Upd.refl w5 _).drew)) hm5 hlb vy)
               have HMY := hide my
               have HU5 := hide u5
               have HVY := hide vy
               have HM5 := hide hm5
               clear u5 bA5 bK5 hns' my vy hm5))
          go_region
          all_goals go_wp2_with fail
          all_goals go_roundg (gk - 1)
          case' measure => omega
          all_goals (first
            | (refine ⟨k + 1, n', lost, nl + 1, D', _, _, V', by omega, by go_num, by omega, by omega, by omega, send_le HMM.out _ _, send_ok HSM.out o5, HNS5.out, HMY.out, LeftV.put (World.ownsMap.isMap HMK.out) HLV.out tok (by rw [cnt_send HROOM.out, HC.out]; simp) (fun y hy => by rw [cnt_send HROOM.out, if_neg hy]; rfl), ((HUK.out.then HU5.out (fun i hi e => by have := (HFR.out i e).1; omega)).drew).then HVY.out (fun i hi e => by omega)⟩)
            | omega)
      · have hmx' : bits BinOp.and IntKind.i64 xd 7 = 6 := HMX.out
        clear HMX
        have LK := Look_S w.heap.size W b bm n D lost M V HNK.out (xf, xt) pok xi
        have TW := Twice_S w.heap.size W b bm n D lost M V HNK.out (by omega) (by omega) (xf, xt) pok xi
        have hroom : (M (xf, xt)).length < 256 := by have := HMM.out (xf, xt); omega
        obtain ⟨a0, a1, a2, a3, a4⟩ := cells5 HA.out
        have al5 := lt_at HA.out
        cases hlk : lookR (M (xf, xt)) xi with
        | none =>
          rw [lookV_none hlk] at LK
          rw [show twiceE (M (xf, xt)) xi = 3 by simp [twiceE, hlk], twiceM_none hlk] at TW
          have HLK := hide LK
          have HTW := hide TW
          clear LK TW hlk hroom
          go_wp2_with (first
            | (go_at_call 14; rw [HW.out]; refine Calls.mono HLK.out ?_; rintro e w' ⟨rfl, hw⟩; replace hw := hw.symm; subst hw)
            | (go_at_call 11; refine Calls.mono HTW.out ?_; rintro e w5 ⟨rfl, n', D', V', hn', hns', u5⟩
               have HNS5 := hide hns'
               have HU5 := hide u5
               clear hns' u5))
          go_roundg (gk - 1)
          case measure => omega
          case rel => exact ⟨k + 1, n', lost, nl, D', Dl, M, V', by omega, by go_num, by omega, by omega, by omega, fun p => Nat.le_succ_of_le (HMM.out p), HSM.out, HNS5.out, own_upd HMK.out HU5.out HLF.out, HLV.out, HUK.out.then HU5.out (fun i hi e => by have := (HFR.out i e).1; omega)⟩
        | some x =>
          rw [lookV_some hlk] at LK
          rw [show twiceE (M (xf, xt)) xi = 0 by simp [twiceE, hlk, hroom], twiceM_some hlk] at TW
          have o5 : x.length ≤ maxLen := by
            obtain ⟨q, _, hq⟩ := lookR_some hlk
            exact HSM.out _ _ (List.mem_of_getElem? hq)
          have HLK := hide LK
          have HTW := hide TW
          have HROOM := hide hroom
          have tok : trOk (xf, xt, x) := ⟨o2, o3, o5⟩
          have hat := HLV.out _ tok
          obtain ⟨C, hC⟩ : ∃ C, cntM M (xf, xt, x) = C := ⟨_, rfl⟩
          have hCb : C ≤ 80 := by rw [← hC]; exact Nat.le_trans List.count_le_length (by have := HMM.out (xf, xt); simp only at *; omega)
          have hwrap : IntKind.i64.wrap ((C : Int) + 1) = (C : Int) + 1 := IntWalk.i64_in _ (by omega)
          rw [hC] at hat
          have HC := hide hC
          clear LK TW hlk hroom hC
          go_wp2_with (first
            | (go_at_call 14; rw [HW.out]; refine Calls.mono HLK.out ?_; rintro e w' ⟨rfl, hw⟩; replace hw := hw.symm; subst hw)
            | (go_at_call 11; refine Calls.mono HTW.out ?_; rintro e w5 ⟨rfl, n', D', V', hn', hns', u5⟩
               clear a0 a1 a2 a3 a4
               have bA5 := u5.get HA.out (fun e => by have := (HFR.out _ e).2; omega)
               have bK5 := u5.get HK.out (fun e => by have := (HFR.out _ e).2; omega)
               obtain ⟨a0, a1, a2, a3, a4⟩ := cells5 bA5
               obtain ⟨k0, k1, k2⟩ := cells3 bK5
               have al5 := lt_at bA5
               have kl5 := lt_at bK5
               have kf5 := free_at bK5 2
               have HBA5 := hide bA5
               have HBK5 := hide bK5
               have hm5 := own_upd HMK.out u5 HLF.out
               obtain ⟨st, X, Y, E1, El, Em, E3, my, vx, vy⟩ := bump w5.drew lm nl Dl hm5 (by omega) tok hat ((C : Int) + 1)
               simp only [trVal] at E1 El Em
               have HNS5 := hide (Nets.past (w := w5.drew) (hns'.upd ((Upd.refl w5 _).drew)) hm5 hlb vy)
               have HMY := hide my
               have HU5 := hide u5
               have HVY := hide vy
               have HM5 := hide hm5
               clear u5 bA5 bK5 hns' my vy hm5))
          go_region
          all_goals go_wp2_with fail
          all_goals go_roundg (gk - 1)
          case' measure => omega
          all_goals (first
            | (refine ⟨k + 1, n', lost, nl + 1, D', _, _, V', by omega, by go_num, by omega, by omega, by omega, send_le HMM.out _ _, send_ok HSM.out o5, HNS5.out, HMY.out, LeftV.put (World.ownsMap.isMap HMK.out) HLV.out tok (by rw [cnt_send HROOM.out, HC.out]; simp) (fun y hy => by rw [cnt_send HROOM.out, if_neg hy]; rfl), ((HUK.out.then HU5.out (fun i hi e => by have := (HFR.out i e).1; omega)).drew).then HVY.out (fun i hi e => by omega)⟩)
            | omega)
      · have hmx' : bits BinOp.and IntKind.i64 xd 7 = 4 := HMX.out
        clear HMX
        have hM1000 : (M (xf, xt)).length ≤ 1000 := by have := HMM.out (xf, xt); omega
        have TK := Take_S w.heap.size W b bm n D lost M V HNK.out (by omega) (xf, xt) pok hM1000 xi
        clear hM1000
        cases hlk : lookR (M (xf, xt)) xi with
        | none =>
          rw [lookV_none hlk, takeM_none hlk] at TK
          have HTK := hide TK
          have o5 : ([] : List UInt8).length ≤ maxLen := Nat.zero_le _
          have tok : trOk (xf, xt, []) := ⟨o2, o3, o5⟩
          have hat := HLV.out _ tok
          obtain ⟨C, hC⟩ : ∃ C, cntM M (xf, xt, []) = C := ⟨_, rfl⟩
          have hCb : C ≤ 80 := by rw [← hC]; exact Nat.le_trans List.count_le_length (by have := HMM.out (xf, xt); simp only at *; omega)
          have hwrap : IntKind.i64.wrap ((C : Int) - 1) = (C : Int) - 1 := IntWalk.i64_in _ (by omega)
          have hwrap2 : IntKind.i64.wrap ((C : Int) - 1 + 1) = (C : Int) := by rw [IntWalk.i64_in _ (by omega)]; omega
          rw [hC] at hat
          have HC := hide hC
          clear TK hlk hC
          go_wp2_with (go_at_call 15; rw [HW.out]; refine Calls.mono HTK.out ?_; rintro e w5 ⟨rfl, n', D', V', hn', hns', u5⟩
                       have bA5 := u5.get HA.out (fun e => by have := (HFR.out _ e).2; omega)
                       have bK5 := u5.get HK.out (fun e => by have := (HFR.out _ e).2; omega)
                       obtain ⟨a0, a1, a2, a3, a4⟩ := cells5 bA5
                       obtain ⟨k0, k1, k2⟩ := cells3 bK5
                       have al5 := lt_at bA5
                       have kl5 := lt_at bK5
                       have kf5 := free_at bK5 2
                       have HBA5 := hide bA5
                       have HBK5 := hide bK5
                       have hm5 := own_upd HMK.out u5 HLF.out
                       have HNS5 := hide hns'
                       have HU5 := hide u5
                       have HM5 := hide hm5
                       clear u5 bA5 bK5 hns' hm5)
          have knm : wk.heap.size + 1 ≠ lm := map_not _ _ _ HBK5.out HM5.out
          obtain ⟨W6, hW6⟩ : ∃ W6, w5.setCell ⟨wk.heap.size + 1, 2, none⟩ (encStr []) = W6 := ⟨_, rfl⟩
          have bK6 : W6.heap[wk.heap.size + 1]? = some (.cells #[encStr xf, encStr xt, encStr []] 35 (0, 0)) := hW6 ▸ block_setCell HBK5.out 2 (encStr [])
          have v6 : Upd w5 W6 (fun k => k = wk.heap.size + 1) := hW6 ▸ (Upd.refl w5 (fun k => k = wk.heap.size + 1)).setCell ⟨wk.heap.size + 1, 2, none⟩ _ (.inr rfl)
          have hm6 := own_upd HM5.out v6 (fun e => knm e.symm)
          have hns6 := Nets.past2 HNS5.out HBK5.out (by decide) (by decide) v6
          have kl6 := lt_at bK6
          obtain ⟨b0, b1, b2⟩ := cells3 bK6
          rw [hW6]
          have HV6 := hide v6
          have HBK6 := hide bK6
          have HW6 := hide hW6
          clear v6 bK6 hW6 a0 a1 a2 a3 a4 k0 k1 k2
          have isM := World.ownsMap.isMap hm6
          have hat2 : (Dl.put (trLit (xf, xt, [])) (.held (.int .i64 ((C : Int) - 1)))).atKey (trLit (xf, xt, [])) (.held (.int .i64 0)) = .held (.int .i64 ((C : Int) - 1)) := Go.Maps.atKey_put_same isM (isKey_tr _) _ _
          obtain ⟨st, X, Y, E1, El, Em, E3, my, vx, vy⟩ := bump W6.drew lm nl Dl hm6 (by omega) tok hat ((C : Int) - 1)
          have myd : Y.drew.ownsMap Try.prog 35 heldElem lm (nl + 1) _ := own_upd my ((Upd.refl Y (fun _ => False)).drew) id
          obtain ⟨st2, X2, Y2, F1, Fl, Fm, F3, my2, vx2, vy2⟩ := bump Y.drew lm (nl + 1) _ myd (by omega) tok hat2 (C : Int)
          simp only [trVal] at E1 El Em F1 Fl Fm
          obtain ⟨q0, q1, q2⟩ := cells3 (vx.get HBK6.out knm)
          obtain ⟨r0, r1, r2⟩ := cells3 (vy.get HBK6.out knm)
          obtain ⟨t0, t1, t2⟩ := cells3 (vx2.get (vy.get HBK6.out knm) knm)
          have kY := lt_at (vy.get HBK6.out knm)
          have kX := lt_at (vx.get HBK6.out knm)
          have HNS6 := hide (Nets.past (w := Y.drew) ((Nets.past (w := W6.drew) (hns6.upd ((Upd.refl W6 _).drew)) hm6 hlb vy).upd ((Upd.refl Y _).drew)) myd hlb vy2)
          have HMY2 := hide my2
          have HVY := hide vy
          have HVY2 := hide vy2
          have HISM := hide (World.ownsMap.isMap myd)
          clear hns6 my my2 vx vy vx2 vy2 isM hat2 myd hm6
          go_region
          all_goals go_wp2_with fail
          all_goals go_region
          all_goals go_wp2_with fail
          all_goals go_roundg (gk - 1)
          case' measure => omega
          all_goals (first
            | (refine ⟨k + 1, n', lost, nl + 2, D', _, M, V', by omega, by go_num, by omega, by omega, by omega, fun p => Nat.le_succ_of_le (HMM.out p), HSM.out, HNS6.out, HMY2.out, LeftV.put2 HISM.out HLV.out tok (by rw [HC.out]), ((((HUK.out.then HU5.out (fun i hi e => by have := (HFR.out i e).1; omega)).then HV6.out (fun i hi e => by omega)).drew.then HVY.out (fun i hi e => by omega)).drew).then HVY2.out (fun i hi e => by omega)⟩)
            | omega)
        | some x =>
          rw [lookV_some hlk] at TK
          obtain ⟨kk, hkk, hkx⟩ := lookR_some hlk
          have hcnt := fun y => cnt_take (M := M) (p := (xf, xt)) hkx y
          have htk : takeM M (xf, xt) xi = setF M (xf, xt) ((M (xf, xt)).take kk ++ (M (xf, xt)).drop (kk + 1)) := by rw [takeM_some hlk, hkk]; simp
          have o5 : x.length ≤ maxLen := HSM.out _ _ (List.mem_of_getElem? hkx)
          have HTK := hide TK
          have HTM := hide htk
          have HCN := hide hcnt
          have tok : trOk (xf, xt, x) := ⟨o2, o3, o5⟩
          have hat := HLV.out _ tok
          obtain ⟨C, hC⟩ : ∃ C, cntM M (xf, xt, x) = C := ⟨_, rfl⟩
          have hCb : C ≤ 80 := by rw [← hC]; exact Nat.le_trans List.count_le_length (by have := HMM.out (xf, xt); simp only at *; omega)
          have hC1 : 1 ≤ C := by
            have := hcnt (xf, xt, x)
            rw [hC] at this
            simp at this
            omega
          have hwrap : IntKind.i64.wrap ((C : Int) - 1) = (C : Int) - 1 := IntWalk.i64_in _ (by omega)
          have hlt0 : decide ((C : Int) - 1 < 0) = false := by simp; omega
          rw [hC] at hat
          have HC := hide hC
          clear TK hlk hC htk hkx hcnt hkk
          go_wp2_with (go_at_call 15; rw [HW.out]; refine Calls.mono HTK.out ?_; rintro e w5 ⟨rfl, n', D', V', hn', hns', u5⟩
                       have bA5 := u5.get HA.out (fun e => by have := (HFR.out _ e).2; omega)
                       have bK5 := u5.get HK.out (fun e => by have := (HFR.out _ e).2; omega)
                       obtain ⟨a0, a1, a2, a3, a4⟩ := cells5 bA5
                       obtain ⟨k0, k1, k2⟩ := cells3 bK5
                       have al5 := lt_at bA5
                       have kl5 := lt_at bK5
                       have kf5 := free_at bK5 2
                       have HBA5 := hide bA5
                       have HBK5 := hide bK5
                       have hm5 := own_upd HMK.out u5 HLF.out
                       have HNS5 := hide hns'
                       have HU5 := hide u5
                       have HM5 := hide hm5
                       clear u5 bA5 bK5 hns' hm5)
          have knm : wk.heap.size + 1 ≠ lm := map_not _ _ _ HBK5.out HM5.out
          obtain ⟨W6, hW6⟩ : ∃ W6, w5.setCell ⟨wk.heap.size + 1, 2, none⟩ (encStr x) = W6 := ⟨_, rfl⟩
          have bK6 : W6.heap[wk.heap.size + 1]? = some (.cells #[encStr xf, encStr xt, encStr x] 35 (0, 0)) := hW6 ▸ block_setCell HBK5.out 2 (encStr x)
          have v6 : Upd w5 W6 (fun k => k = wk.heap.size + 1) := hW6 ▸ (Upd.refl w5 (fun k => k = wk.heap.size + 1)).setCell ⟨wk.heap.size + 1, 2, none⟩ _ (.inr rfl)
          have hm6 := own_upd HM5.out v6 (fun e => knm e.symm)
          have hns6 := Nets.past2 HNS5.out HBK5.out (by decide) (by decide) v6
          have kl6 := lt_at bK6
          obtain ⟨b0, b1, b2⟩ := cells3 bK6
          rw [hW6]
          have HV6 := hide v6
          have HBK6 := hide bK6
          have HW6 := hide hW6
          clear v6 bK6 hW6 a0 a1 a2 a3 a4 k0 k1 k2
          have isM := World.ownsMap.isMap hm6
          have hat2 : (Dl.put (trLit (xf, xt, x)) (.held (.int .i64 ((C : Int) - 1)))).atKey (trLit (xf, xt, x)) (.held (.int .i64 0)) = .held (.int .i64 ((C : Int) - 1)) := Go.Maps.atKey_put_same isM (isKey_tr _) _ _
          obtain ⟨st, X, Y, E1, El, Em, E3, my, vx, vy⟩ := bump W6.drew lm nl Dl hm6 (by omega) tok hat ((C : Int) - 1)
          have ElY := look_held my triK Try.underlying32 (zeroInt _) (tr_key tok) hat2
          simp only [trVal] at E1 El Em ElY
          obtain ⟨q0, q1, q2⟩ := cells3 (vx.get HBK6.out knm)
          obtain ⟨r0, r1, r2⟩ := cells3 (vy.get HBK6.out knm)
          have kY := lt_at (vy.get HBK6.out knm)
          have kX := lt_at (vx.get HBK6.out knm)
          have HNS6 := hide (Nets.past (w := W6.drew) (hns6.upd ((Upd.refl W6 _).drew)) hm6 hlb vy)
          have HMY := hide my
          have HVY := hide vy
          have HISM := hide isM
          clear hns6 my vx vy isM hat2 hm6
          go_region
          all_goals go_wp2_with fail
          all_goals go_roundg (gk - 1)
          case' measure => omega
          all_goals (first
            | (refine ⟨k + 1, n', lost, nl + 1, D', _, takeM M (xf, xt) xi, V', by omega, by go_num, by omega, by omega, by omega, fun p => Nat.le_succ_of_le (take_le HMM.out (xf, xt) xi p), take_ok HSM.out, HNS6.out, HMY.out, LeftV.put HISM.out HLV.out tok (by have := HCN.out (xf, xt, x); rw [HTM.out]; rw [HC.out] at this; simp at this; omega) (fun y hy => by have := HCN.out y; rw [HTM.out]; rw [if_neg hy] at this; omega), (((HUK.out.then HU5.out (fun i hi e => by have := (HFR.out i e).1; omega)).then HV6.out (fun i hi e => by omega)).drew.then HVY.out (fun i hi e => by omega))⟩)
            | omega)
      · have hmx' : bits BinOp.and IntKind.i64 xd 7 = 5 := HMX.out
        clear HMX
        have hM1000 : (M (xf, xt)).length ≤ 1000 := by have := HMM.out (xf, xt); omega
        have TK := Take_S w.heap.size W b bm n D lost M V HNK.out (by omega) (xf, xt) pok hM1000 xi
        clear hM1000
        cases hlk : lookR (M (xf, xt)) xi with
        | none =>
          rw [lookV_none hlk, takeM_none hlk] at TK
          have HTK := hide TK
          have o5 : ([] : List UInt8).length ≤ maxLen := Nat.zero_le _
          have tok : trOk (xf, xt, []) := ⟨o2, o3, o5⟩
          have hat := HLV.out _ tok
          obtain ⟨C, hC⟩ : ∃ C, cntM M (xf, xt, []) = C := ⟨_, rfl⟩
          have hCb : C ≤ 80 := by rw [← hC]; exact Nat.le_trans List.count_le_length (by have := HMM.out (xf, xt); simp only at *; omega)
          have hwrap : IntKind.i64.wrap ((C : Int) - 1) = (C : Int) - 1 := IntWalk.i64_in _ (by omega)
          have hwrap2 : IntKind.i64.wrap ((C : Int) - 1 + 1) = (C : Int) := by rw [IntWalk.i64_in _ (by omega)]; omega
          rw [hC] at hat
          have HC := hide hC
          clear TK hlk hC
          go_wp2_with (go_at_call 15; rw [HW.out]; refine Calls.mono HTK.out ?_; rintro e w5 ⟨rfl, n', D', V', hn', hns', u5⟩
                       have bA5 := u5.get HA.out (fun e => by have := (HFR.out _ e).2; omega)
                       have bK5 := u5.get HK.out (fun e => by have := (HFR.out _ e).2; omega)
                       obtain ⟨a0, a1, a2, a3, a4⟩ := cells5 bA5
                       obtain ⟨k0, k1, k2⟩ := cells3 bK5
                       have al5 := lt_at bA5
                       have kl5 := lt_at bK5
                       have kf5 := free_at bK5 2
                       have HBA5 := hide bA5
                       have HBK5 := hide bK5
                       have hm5 := own_upd HMK.out u5 HLF.out
                       have HNS5 := hide hns'
                       have HU5 := hide u5
                       have HM5 := hide hm5
                       clear u5 bA5 bK5 hns' hm5)
          have knm : wk.heap.size + 1 ≠ lm := map_not _ _ _ HBK5.out HM5.out
          obtain ⟨W6, hW6⟩ : ∃ W6, w5.setCell ⟨wk.heap.size + 1, 2, none⟩ (encStr []) = W6 := ⟨_, rfl⟩
          have bK6 : W6.heap[wk.heap.size + 1]? = some (.cells #[encStr xf, encStr xt, encStr []] 35 (0, 0)) := hW6 ▸ block_setCell HBK5.out 2 (encStr [])
          have v6 : Upd w5 W6 (fun k => k = wk.heap.size + 1) := hW6 ▸ (Upd.refl w5 (fun k => k = wk.heap.size + 1)).setCell ⟨wk.heap.size + 1, 2, none⟩ _ (.inr rfl)
          have hm6 := own_upd HM5.out v6 (fun e => knm e.symm)
          have hns6 := Nets.past2 HNS5.out HBK5.out (by decide) (by decide) v6
          have kl6 := lt_at bK6
          obtain ⟨b0, b1, b2⟩ := cells3 bK6
          rw [hW6]
          have HV6 := hide v6
          have HBK6 := hide bK6
          have HW6 := hide hW6
          clear v6 bK6 hW6 a0 a1 a2 a3 a4 k0 k1 k2
          have isM := World.ownsMap.isMap hm6
          have hat2 : (Dl.put (trLit (xf, xt, [])) (.held (.int .i64 ((C : Int) - 1)))).atKey (trLit (xf, xt, [])) (.held (.int .i64 0)) = .held (.int .i64 ((C : Int) - 1)) := Go.Maps.atKey_put_same isM (isKey_tr _) _ _
          obtain ⟨st, X, Y, E1, El, Em, E3, my, vx, vy⟩ := bump W6.drew lm nl Dl hm6 (by omega) tok hat ((C : Int) - 1)
          have myd : Y.drew.ownsMap Try.prog 35 heldElem lm (nl + 1) _ := own_upd my ((Upd.refl Y (fun _ => False)).drew) id
          obtain ⟨st2, X2, Y2, F1, Fl, Fm, F3, my2, vx2, vy2⟩ := bump Y.drew lm (nl + 1) _ myd (by omega) tok hat2 (C : Int)
          simp only [trVal] at E1 El Em F1 Fl Fm
          obtain ⟨q0, q1, q2⟩ := cells3 (vx.get HBK6.out knm)
          obtain ⟨r0, r1, r2⟩ := cells3 (vy.get HBK6.out knm)
          obtain ⟨t0, t1, t2⟩ := cells3 (vx2.get (vy.get HBK6.out knm) knm)
          have kY := lt_at (vy.get HBK6.out knm)
          have kX := lt_at (vx.get HBK6.out knm)
          have HNS6 := hide (Nets.past (w := Y.drew) ((Nets.past (w := W6.drew) (hns6.upd ((Upd.refl W6 _).drew)) hm6 hlb vy).upd ((Upd.refl Y _).drew)) myd hlb vy2)
          have HMY2 := hide my2
          have HVY := hide vy
          have HVY2 := hide vy2
          have HISM := hide (World.ownsMap.isMap myd)
          clear hns6 my my2 vx vy vx2 vy2 isM hat2 myd hm6
          go_region
          all_goals go_wp2_with fail
          all_goals go_region
          all_goals go_wp2_with fail
          all_goals go_roundg (gk - 1)
          case' measure => omega
          all_goals (first
            | (refine ⟨k + 1, n', lost, nl + 2, D', _, M, V', by omega, by go_num, by omega, by omega, by omega, fun p => Nat.le_succ_of_le (HMM.out p), HSM.out, HNS6.out, HMY2.out, LeftV.put2 HISM.out HLV.out tok (by rw [HC.out]), ((((HUK.out.then HU5.out (fun i hi e => by have := (HFR.out i e).1; omega)).then HV6.out (fun i hi e => by omega)).drew.then HVY.out (fun i hi e => by omega)).drew).then HVY2.out (fun i hi e => by omega)⟩)
            | omega)
        | some x =>
          rw [lookV_some hlk] at TK
          obtain ⟨kk, hkk, hkx⟩ := lookR_some hlk
          have hcnt := fun y => cnt_take (M := M) (p := (xf, xt)) hkx y
          have htk : takeM M (xf, xt) xi = setF M (xf, xt) ((M (xf, xt)).take kk ++ (M (xf, xt)).drop (kk + 1)) := by rw [takeM_some hlk, hkk]; simp
          have o5 : x.length ≤ maxLen := HSM.out _ _ (List.mem_of_getElem? hkx)
          have HTK := hide TK
          have HTM := hide htk
          have HCN := hide hcnt
          have tok : trOk (xf, xt, x) := ⟨o2, o3, o5⟩
          have hat := HLV.out _ tok
          obtain ⟨C, hC⟩ : ∃ C, cntM M (xf, xt, x) = C := ⟨_, rfl⟩
          have hCb : C ≤ 80 := by rw [← hC]; exact Nat.le_trans List.count_le_length (by have := HMM.out (xf, xt); simp only at *; omega)
          have hC1 : 1 ≤ C := by
            have := hcnt (xf, xt, x)
            rw [hC] at this
            simp at this
            omega
          have hwrap : IntKind.i64.wrap ((C : Int) - 1) = (C : Int) - 1 := IntWalk.i64_in _ (by omega)
          have hlt0 : decide ((C : Int) - 1 < 0) = false := by simp; omega
          rw [hC] at hat
          have HC := hide hC
          clear TK hlk hC htk hkx hcnt hkk
          go_wp2_with (go_at_call 15; rw [HW.out]; refine Calls.mono HTK.out ?_; rintro e w5 ⟨rfl, n', D', V', hn', hns', u5⟩
                       have bA5 := u5.get HA.out (fun e => by have := (HFR.out _ e).2; omega)
                       have bK5 := u5.get HK.out (fun e => by have := (HFR.out _ e).2; omega)
                       obtain ⟨a0, a1, a2, a3, a4⟩ := cells5 bA5
                       obtain ⟨k0, k1, k2⟩ := cells3 bK5
                       have al5 := lt_at bA5
                       have kl5 := lt_at bK5
                       have kf5 := free_at bK5 2
                       have HBA5 := hide bA5
                       have HBK5 := hide bK5
                       have hm5 := own_upd HMK.out u5 HLF.out
                       have HNS5 := hide hns'
                       have HU5 := hide u5
                       have HM5 := hide hm5
                       clear u5 bA5 bK5 hns' hm5)
          have knm : wk.heap.size + 1 ≠ lm := map_not _ _ _ HBK5.out HM5.out
          obtain ⟨W6, hW6⟩ : ∃ W6, w5.setCell ⟨wk.heap.size + 1, 2, none⟩ (encStr x) = W6 := ⟨_, rfl⟩
          have bK6 : W6.heap[wk.heap.size + 1]? = some (.cells #[encStr xf, encStr xt, encStr x] 35 (0, 0)) := hW6 ▸ block_setCell HBK5.out 2 (encStr x)
          have v6 : Upd w5 W6 (fun k => k = wk.heap.size + 1) := hW6 ▸ (Upd.refl w5 (fun k => k = wk.heap.size + 1)).setCell ⟨wk.heap.size + 1, 2, none⟩ _ (.inr rfl)
          have hm6 := own_upd HM5.out v6 (fun e => knm e.symm)
          have hns6 := Nets.past2 HNS5.out HBK5.out (by decide) (by decide) v6
          have kl6 := lt_at bK6
          obtain ⟨b0, b1, b2⟩ := cells3 bK6
          rw [hW6]
          have HV6 := hide v6
          have HBK6 := hide bK6
          have HW6 := hide hW6
          clear v6 bK6 hW6 a0 a1 a2 a3 a4 k0 k1 k2
          have isM := World.ownsMap.isMap hm6
          have hat2 : (Dl.put (trLit (xf, xt, x)) (.held (.int .i64 ((C : Int) - 1)))).atKey (trLit (xf, xt, x)) (.held (.int .i64 0)) = .held (.int .i64 ((C : Int) - 1)) := Go.Maps.atKey_put_same isM (isKey_tr _) _ _
          obtain ⟨st, X, Y, E1, El, Em, E3, my, vx, vy⟩ := bump W6.drew lm nl Dl hm6 (by omega) tok hat ((C : Int) - 1)
          have ElY := look_held my triK Try.underlying32 (zeroInt _) (tr_key tok) hat2
          simp only [trVal] at E1 El Em ElY
          obtain ⟨q0, q1, q2⟩ := cells3 (vx.get HBK6.out knm)
          obtain ⟨r0, r1, r2⟩ := cells3 (vy.get HBK6.out knm)
          have kY := lt_at (vy.get HBK6.out knm)
          have kX := lt_at (vx.get HBK6.out knm)
          have HNS6 := hide (Nets.past (w := W6.drew) (hns6.upd ((Upd.refl W6 _).drew)) hm6 hlb vy)
          have HMY := hide my
          have HVY := hide vy
          have HISM := hide isM
          clear hns6 my vx vy isM hat2 hm6
          go_region
          all_goals go_wp2_with fail
          all_goals go_roundg (gk - 1)
          case' measure => omega
          all_goals (first
            | (refine ⟨k + 1, n', lost, nl + 1, D', _, takeM M (xf, xt) xi, V', by omega, by go_num, by omega, by omega, by omega, fun p => Nat.le_succ_of_le (take_le HMM.out (xf, xt) xi p), take_ok HSM.out, HNS6.out, HMY.out, LeftV.put HISM.out HLV.out tok (by have := HCN.out (xf, xt, x); rw [HTM.out]; rw [HC.out] at this; simp at this; omega) (fun y hy => by have := HCN.out y; rw [HTM.out]; rw [if_neg hy] at this; omega), (((HUK.out.then HU5.out (fun i hi e => by have := (HFR.out i e).1; omega)).then HV6.out (fun i hi e => by omega)).drew.then HVY.out (fun i hi e => by omega))⟩)
            | omega)
      · have hmx' : bits BinOp.and IntKind.i64 xd 7 = 7 := HMX.out
        clear HMX
        have hW := HW.out
        subst hW
        go_wp2_with fail
        go_roundg (gk - 1)
        case measure => omega
        case rel => exact ⟨k + 1, n, lost, nl, D, Dl, M, V, by omega, by go_num, by omega, by omega, by omega, fun p => Nat.le_succ_of_le (HMM.out p), HSM.out, HNK.out, HMK.out, HLV.out, HUK.out⟩
    · have hk1 : ¬ (k : Int) < (N : Int) := by omega
      have hk80 : k ≤ 80 := by omega
      have hmlt := hml.lt
      have hsz := World.ownsMap.size_le hml
      have HNK := hide hns
      have HMM := hide hM
      have HSM := hide hsm
      have HLV := hide hlv
      have HUK := hide hu
      clear hns hM hsm hlv hu
      go_wp2_with (at_range; refine wpList_range_own _ rfl _ 32 rfl 35 3 triK Try.underlying32 heldElem lm nl Dl rfl hml ?_; intro w0 hrg0 hg0 hs0)
      first | go_frame | skip
      obtain ⟨r, hr⟩ : ∃ r, wk.heap.size = r := ⟨_, rfl⟩
      have u0 : Upd wk w0 (fun _ => False) := (Upd.refl wk _).grown hg0 (fun k e => by cases e)
      rw [hr] at hrg0 ⊢
      have HR0 := hide hrg0
      have HU0 := hide u0
      have HRR := hide hr
      clear hrg0 u0 hg0 hs0 hr
      go_loopw [13] (fun av wr => ∃ (left : Lit → Bool) (cnt : Nat) (vs : List Tr), wr.ranges Try.prog 35 heldElem lm r nl Dl left cnt ∧ vs.length + cnt ≤ Maps.size Dl ∧ av = .int .i64 ((vs.map fun x => cntM M x).sum : Nat) ∧ (∀ p ∈ vs, trOk p) ∧ vs.Nodup ∧ (∀ p, trOk p → (p ∈ vs ↔ Maps.has Dl (trLit p) = true ∧ left (trLit p) = false)) ∧ Upd wk wr (fun _ => False))
        (fun _ wr => wr.rangeLeft lm r)
      case atStart => exact ⟨_, _, [], HR0.out, by simp, by simp, by simp, List.nodup_nil, fun p _ => by simp, HU0.out⟩
      case round =>
        obtain ⟨left, cnt, vs, hrg, hcnt, rfl, hok, hnd, hmem, hu⟩ := hrel
        have hvl := cnt_sum_le HMM.out vs
        have hvb : vs.length * k ≤ 160 * 80 := Nat.mul_le_mul (by omega) hk80
        obtain ⟨A, hA⟩ : ∃ A, (vs.map fun x => cntM M x).sum = A := ⟨_, rfl⟩
        rw [hA] at hvl ⊢
        have HA := hide hA
        clear hA
        go_wp2_with (at_next; refine wpList_next_ranges _ rfl _ rfl 35 triK heldElem (fun p : Tr => trVal p) (fun v : Value => v) (fun key kl hk => by obtain ⟨p, _, e, _⟩ := tri_inv hk; exact ⟨p, e⟩) (fun v y _ => ⟨v, rfl⟩) lm r nl Dl left cnt rfl hrg ?_ ?_)
        · intro hc0 hl0
          have PS := Pairs_S w.heap.size wr b bm n D lost M V (HNK.out.upd hu) (by omega)
          have HPS := hide PS
          have HOK := hide hok
          have HND := hide hnd
          have HMEM := hide hmem
          have HL0 := hide hl0
          have HUR := hide hu
          clear PS hok hnd hmem hl0 hu hrg
          go_wp2_with (go_at_call 16; refine Calls.mono HPS.out ?_; rintro e w6 ⟨ka, kc, ks, rfl, hks, hkl, hkp, hko, hkm, -, u6⟩
                       have HKS := hide hks
                       have HKP := hide hkp
                       have HKO := hide hko
                       have HKM := hide hkm
                       have HU6 := hide u6
                       clear hks hkp hko hkm u6)
          have hsum := own_sum HKP.out HKO.out HKM.out HSM.out HLV.out HND.out HOK.out (fun x hx hh => (HMEM.out x hx).2 ⟨hh, HL0.out _⟩)
          rw [HA.out] at hsum
          have HSUM := hide hsum
          clear hsum
          obtain ⟨K, hK⟩ : ∃ K, ks.length = K := ⟨_, rfl⟩
          rw [hK] at hkl ⊢
          have hks := HKS.out
          rw [hK] at hks
          have HKK := hide hks
          have HKL := hide hK
          clear hks hK HKS
          go_loopg [13, 150] K (fun q av jv wr => ∃ (j r : Nat), j + q = K ∧ jv = .int .i64 j ∧ av = .int .i64 r ∧ lenS M (ks.take j) + r = A ∧ Upd w6 wr (fun _ => False))
          case atStart => exact ⟨0, A, by omega, rfl, rfl, by simp [lenS], Upd.refl _ _⟩
          case round =>
            obtain ⟨j, rr, hj, rfl, rfl, hrr, hu⟩ := hrel
            obtain ⟨wi, rfl⟩ : ∃ wi, wi = wr := ⟨_, rfl⟩
            by_cases hjK : j < K
            · obtain ⟨p, hp⟩ : ∃ p, ks[j]? = some p := ⟨_, List.getElem?_eq_getElem (by rw [HKL.out]; exact hjK)⟩
              have pok := HKO.out p (List.mem_of_getElem? hp)
              obtain ⟨g, off, rfl, hg, d0, d1⟩ := pr_at (hu.rw HKK.out (fun _ _ => id)) j p hp hjK
              have hj0 : (0 : Int) ≤ (j : Int) := by omega
              have hj1 : (j : Int) < (K : Int) := by omega
              have hnx := lenS_next (M := M) hp
              have htot : lenS M (ks.take (j + 1)) ≤ A := by
                have e1 : lenS M ks = lenS M (ks.take (j + 1)) + lenS M (ks.drop (j + 1)) := by rw [← lenS_app, List.take_append_drop]
                have := HSUM.out
                omega
              have uo : Upd wi (wi.alloc (.cells #[encStr p.1, encStr p.2] 40)) (fun _ => False) := (Upd.refl wi _).alloc _
              have HUJ2 := hide (hu.then uo (fun _ _ => id))
              have LN := Len_S w.heap.size _ b bm n D lost M V ((((HNK.out.upd HUR.out).upd HU6.out).upd hu).upd uo) p pok
              obtain ⟨B, hB⟩ : ∃ B, (M p).length = B := ⟨_, rfl⟩
              rw [hB] at LN hnx
              have HLN2 := hide LN
              obtain ⟨p1, p2⟩ := p
              have hrb : B ≤ rr := by omega
              have hwrap : IntKind.i64.wrap ((rr : Int) - (B : Int)) = ((rr - B : Nat) : Int) := by rw [IntWalk.i64_in _ (by omega)]; omega
              have HREL := hide (show lenS M (ks.take (j + 1)) + (rr - B) = A by omega)
              clear hu uo LN hB hp hnx htot hrr
              simp only at d0 d1
              go_wp2_with (go_at_call 13; refine Calls.mono HLN2.out ?_; rintro e w' ⟨rfl, hw⟩; replace hw := hw.symm; subst hw)
              go_roundg (gk - 1)
              case measure => omega
              case rel => exact ⟨j + 1, rr - B, by omega, by go_num, by first | rfl | (rw [← hwrap]; go_num) | (congr 1; omega), HREL.out, HUJ2.out⟩
            · have hj1 : ¬ (j : Int) < (K : Int) := by omega
              have htk : ks.take j = ks := List.take_of_length_le (by rw [HKL.out]; omega)
              rw [htk, ← HSUM.out] at hrr
              have r0 : rr = 0 := by omega
              subst r0
              have HUI := hide hu
              clear hu htk hrr
              go_wp2_with fail
              go_ret
              exact ⟨rfl, ((HUK.out.then HUR.out (fun _ _ => id)).then HU6.out (fun _ _ => id)).then HUI.out (fun _ _ => id)⟩
        · intro x1 x2 x3 c kl y1 y2 w1 cnt1 hkx hlx hcx hat hrg1 hlt hg1 hs1 hen
          obtain ⟨x, xok, e1, e2⟩ := tri_inv hkx
          have e3 : (x1, x2, x3) = x := by
            obtain ⟨f, t, s⟩ := x
            simpa [trVal] using e1
          subst e3
          subst e2
          have hcv : c = .int .i64 (cntM M (x1, x2, x3) : Nat) := by
            have h1 := hat (.held (.int .i64 0))
            rw [HLV.out _ xok] at h1
            simp only [heldElem, Option.some.injEq, Prod.mk.injEq] at hcx
            rw [← hcx.1] at h1
            simpa using h1.symm
          subst hcv
          have hD : Maps.has Dl (trLit (x1, x2, x3)) = true := by
            cases hd : Maps.has Dl (trLit (x1, x2, x3)) with
            | true => rfl
            | false =>
              have h1 := hat (.held noRow)
              have h2 := hat (.held (.bool true))
              rw [Go.Maps.atKey_of_not_has hd] at h1 h2
              rw [← h1] at h2
              cases h2
          have hx : (x1, x2, x3) ∉ vs := fun q => by
            have := ((hmem _ xok).1 q).2
            rw [hlx] at this
            cases this
          obtain ⟨B, hB⟩ : ∃ B, cntM M (x1, x2, x3) = B := ⟨_, rfl⟩
          have hBb : B ≤ 80 := by rw [← hB]; exact Nat.le_trans List.count_le_length (by have := HMM.out (x1, x2); simp only at *; omega)
          rw [hB] at hen
          have hwrap : IntKind.i64.wrap ((A : Int) + (B : Int)) = ((A + B : Nat) : Int) := by rw [IntWalk.i64_in _ (by omega)]; omega
          have u1 : Upd wk w1 (fun _ => False) := hu.grown hg1 (fun k e => .inl (by have := Option.some.inj e; have := HRR.out; omega))
          have HB := hide hB
          have HU1 := hide u1
          have HRG1 := hide hrg1
          have HRG := hide hrg
          have HMEM := hide hmem
          have HND := hide hnd
          have HOK := hide hok
          have HXO := hide xok
          have HLX := hide hlx
          have HD := hide hD
          have HX := hide hx
          clear hB u1 hrg1 hrg hmem hnd hok xok hlx hD hx hkx hat hcx e1 hg1 hu
          go_wp2_with fail
          go_roundw
          case rel =>
            refine ⟨_, cnt1, vs ++ [(x1, x2, x3)], HRG1.out, by simp; omega, ?_, ?_, ?_, ?_, HU1.out⟩
            · have e1 : ((vs ++ [(x1, x2, x3)]).map fun x => cntM M x).sum = A + B := by
                rw [List.map_append, List.sum_append, HA.out]
                simp [HB.out]
              rw [e1]
              first | rfl | go_num | (congr 1; omega)
            · intro p hp
              rcases List.mem_append.1 hp with q | q
              · exact HOK.out p q
              · simp at q
                subst q
                exact HXO.out
            · rw [List.nodup_append]
              refine ⟨HND.out, by simp, fun a ha b hb e => ?_⟩
              simp at hb
              subst hb
              subst e
              exact HX.out ha
            · intro p hp
              rw [List.mem_append, HMEM.out p hp]
              by_cases e : p = (x1, x2, x3)
              · subst e
                have := WideAt.sameKey_self (isKey_tr (x1, x2, x3))
                simp [this, HD.out]
              · have : (trLit p).sameKey (trLit (x1, x2, x3)) = false := Go.Maps.sameKey_ne (fun q => e (trLit_inj hp HXO.out q))
                simp [this, e]
          case measure => rw [HRG1.out.left_eq, HRG.out.left_eq]; exact hlt
end Go.Proofs.Ytleehgpfoigajaa
