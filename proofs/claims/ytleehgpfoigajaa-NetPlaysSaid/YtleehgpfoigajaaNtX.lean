/- The walk of NetPlays. -/
import Derived.Test.YtleehgpfoigajaaNtW
set_option maxRecDepth 100000
namespace Go.Proofs.Ytleehgpfoigajaa
open Go.RowKit Go.Lat Go.Sort

set_option maxHeartbeats 6400000 in
theorem NetPlays_walk (w : World) (v0 : Value) (l : List AcD) (h : AcArg w v0 l) :
    Calls Try.prog 5 #[v0] w fun e w' => e = .returned (.bool true) ∧ Upd w w' (fun _ => False) := by
  obtain ⟨a, cap, rfl, hlc, hcm, hnil, hrow⟩ := h
  obtain ⟨L0, hL⟩ : ∃ L0, l.length = L0 := ⟨_, rfl⟩
  rw [hL] at hlc ⊢
  obtain ⟨N, hN⟩ : ∃ N, min L0 80 = N := ⟨_, rfl⟩
  have hN2 : (min (L0 : Int) 80) = (N : Int) := by omega
  have n0 : (0 : Int) ≤ (N : Int) := by omega
  have n20 : N ≤ 80 := by omega
  have n1 : (N : Int) ≤ (cap : Int) := by omega
  have HL := hide hL
  have HN := hide hN
  have HR := hide hrow
  clear hL hN hrow
  have HNW := hide New_any
  have HWK := hide wakes_any
  go_enter Try.func5, Try.ntmps5
  go_wp2_with (first
    | (go_at_call 7; refine Calls.mono (HNW.out _) ?_; rintro e w3 ⟨rfl, hn3, u3⟩; have HN3 := hide hn3; have HU3 := hide u3; clear hn3 u3)
    | (go_at_call 9; refine Calls.mono (HWK.out _) ?_; rintro e w4 ⟨rfl, u4⟩; have HU4 := hide u4; clear u4))
  obtain ⟨b, hb⟩ : ∃ b, w.heap.size + 1 = b := ⟨_, rfl⟩
  obtain ⟨bm, hbm⟩ : ∃ bm, w.heap.size = bm := ⟨_, rfl⟩
  obtain ⟨rb, hrb⟩ : ∃ rb, w3.heap.size = rb := ⟨_, rfl⟩
  have uo : Upd w3 (w3.alloc (.cells #[.slice none 0 0, .int .i64 0] 45)) (fun _ => False) := (Upd.refl w3 _).alloc _
  have hB : Both w.heap.size w4 b bm 0 (.map []) 0 (fun _ => noRow) rb (.slice none 0 0) [] := by
    have q := HN3.out
    rw [hb, hbm] at q
    have s3 := HU3.out.size
    have hr := new1 w3 (.cells #[.slice none 0 0, .int .i64 0] 45)
    rw [hrb] at hr
    exact ⟨((Nets.new q (by omega) (by omega)).upd uo).upd HU4.out, ⟨HU4.out.get hr id, Rw.nil _ _ _, by simp [Value.ownBlock], by omega, by simp [Value.ownBlock]⟩, by simp⟩
  have u4 : Upd w w4 (fun _ => False) := (HU3.out.then uo (fun _ _ => id)).then HU4.out (fun _ _ => id)
  rw [hb, hrb]
  have HBB := hide hB
  have HUW := hide u4
  clear hb hbm hrb hB u4 uo
  go_loopg [20] N (fun q iv wr => ∃ (k n lost : Nat) (D : DataW Value) (V : Pr → Value) (v : Value) (L : List On), k + q = N ∧ iv = .int .i64 k ∧ n ≤ k ∧ lost ≤ k ∧ L.length ≤ k ∧ Both w.heap.size wr b bm n D lost V rb v L ∧ Upd w wr (fun _ => False))
  case atStart => exact ⟨0, 0, 0, _, _, _, [], by omega, rfl, by omega, by omega, by simp, HBB.out, HUW.out⟩
  case round =>
    obtain ⟨k, n, lost, D, V, v, L, hk, rfl, hn, hlost, hl, hB, hu⟩ := hrel
    obtain ⟨wk, rfl⟩ : ∃ wk, wk = wr := ⟨_, rfl⟩
    by_cases hkN : k < N
    · obtain ⟨x, hx⟩ : ∃ x, l[k]? = some x := ⟨_, List.getElem?_eq_getElem (by rw [HL.out]; have := HN.out; omega)⟩
      obtain ⟨g, off, rfl, hg, c0, c1, c2, c3, c4, o2, o3, o4, -⟩ := HR.out k x hx
      have d0 := (hu.cell g _ hg id).trans c0
      have d1 := (hu.cell g _ hg id).trans c1
      have d2 := (hu.cell g _ hg id).trans c2
      have d3 := (hu.cell g _ hg id).trans c3
      have d4 := (hu.cell g _ hg id).trans c4
      obtain ⟨xd, xi, xf, xt, xs⟩ := x
      simp only at c0 c1 c2 c3 c4 d0 d1 d2 d3 d4 o2 o3 o4
      have hk0 : (0 : Int) ≤ (k : Int) := by omega
      have hk1 : (k : Int) < (N : Int) := by omega
      obtain ⟨tf, htf⟩ : ∃ t, xf.take 10 = t := ⟨_, rfl⟩
      obtain ⟨tt, htt⟩ : ∃ t, xt.take 10 = t := ⟨_, rfl⟩
      have pok : prOk (tf, tt) := by
        constructor
        · show tf.length ≤ maxLen
          rw [← htf]
          simp [maxLen]
          omega
        · show tt.length ≤ maxLen
          rw [← htt]
          simp [maxLen]
          omega
      obtain ⟨W, hW⟩ : ∃ W, wk.alloc (.cells #[.int .i64 xd, .int .i64 xi, encStr xf, encStr xt, encStr xs] 34) = W := ⟨_, rfl⟩
      have uo : Upd wk W (fun _ => False) := hW ▸ (Upd.refl wk _).alloc _
      have bX : W.heap[wk.heap.size]? = some (.cells #[.int .i64 xd, .int .i64 xi, encStr xf, encStr xt, encStr xs] 34 (0, 0)) := hW ▸ new1 wk _
      have hfr := hB.fr pok
      obtain ⟨X, hX⟩ : ∃ X, wk.heap.size = X := ⟨_, rfl⟩
      rw [hX] at bX hfr
      have BD := (hB.upd uo).upd ((Upd.refl W (fun _ => False)).drew)
      have AC := act_any w.heap.size W.drew b bm n D lost V rb v L BD (by omega) (by omega) (by omega) xd xi xf xt xs tf tt _ htf htt rfl
      obtain ⟨a0, a1, a2, a3, a4⟩ := cells5 bX
      have xl := lt_at bX
      have HAC := hide AC
      have HFR := hide hfr
      have HBX := hide bX
      have HU := hide (hu.then uo (fun _ _ => id))
      have HTF := hide htf
      have HTT := hide htt
      have HPOK := hide pok
      have hW2 := hW
      clear hx c0 c1 c2 c3 c4 hu uo bX hfr BD AC htf htt hB pok hW
      go_wp2_with fail
      first | rw [hX, hW2] | rw [hW2] | skip
      clear hW2 d0 d1 d2 d3 d4 hX
      have m1 : (0 : Int) ≤ min (xf.length : Int) 10 := by omega
      have m2 : min (xf.length : Int) 10 ≤ (xf.length : Int) := by omega
      have m3 : (0 : Int) ≤ min (xt.length : Int) 10 := by omega
      have m4 : min (xt.length : Int) 10 ≤ (xt.length : Int) := by omega
      go_region_law (go_simp; first
        | (go_at_call 17; refine Calls.mono HAC.out ?_; rintro e w5 ⟨rfl, n', D', lost', V', v', L', hn', hl', hlo', hB', u5⟩
           have PS := Pairs_S w.heap.size w5 b bm n' D' lost' (ofP L') V' hB'.net (by omega)
           have HPS := hide PS
           have HB5 := hide hB'
           have HU5 := hide u5
           clear hB' u5 PS)
        | (go_at_call 16; refine Calls.mono HPS.out ?_; rintro e w6 ⟨ka, kc, ks, rfl, hks, hkl, hkp, hko, hkm, -, u6⟩
           obtain rfl := pairs_eq hkp hko hkm HB5.out.ok
           have RP := RPairs_any w.heap.size w6 rb v' L' lost' (HB5.out.rf.upd u6 id (fun _ _ => id)) (by omega) HB5.out.ok
           have HRP := hide RP
           have HKS := hide hks
           have HKO := hide hko
           have HU6 := hide u6
           clear hks hkp hko hkm u6 RP)
        | (go_at_call 19; refine Calls.mono HRP.out ?_; rintro e w7 ⟨ra, rc, rfl, hrs, u7⟩
           have SP := samePairs_any w7 ka ra _ kc rc (u7.rw HKS.out (fun _ _ => id)) hrs HKO.out (by omega)
           have HSP := hide SP
           have HU7 := hide u7
           clear hrs u7 SP)
        | (go_at_call 18; refine Calls.mono HSP.out ?_; rintro e w8 ⟨rfl, sn, hw8⟩
           have u8 : Upd w7 w8 (fun _ => False) := hw8 ▸ (Upd.refl w7 _).drewN sn
           have hB8 := ((HB5.out.upd HU6.out).upd HU7.out).upd u8
           have LO := Lost_any w8 b bm n' D' lost' hB8.net.net
           have r1 := (cells2 hB8.rf.c).2
           have rl := lt_at hB8.rf.c
           have HLO := hide LO
           have HB8 := hide hB8
           have HU8 := hide u8
           clear hB8 u8 LO hw8)
        | (go_at_call 10; refine Calls.mono HLO.out ?_; rintro e w' ⟨rfl, hw⟩; replace hw := hw.symm; subst hw))
      all_goals (
        have bX8 := HU8.out.get (HU7.out.get (HU6.out.get (HU5.out.get HBX.out (fun e => absurd (HFR.out X e).2 (Nat.lt_irrefl _))) id) id) id
        obtain ⟨y0, y1, y2, y3, y4⟩ := cells5 bX8
        have yl := lt_at bX8
        clear bX8)
      all_goals go_wp2_with fail
      all_goals go_quiet (fail)
      all_goals (
        obtain ⟨w9, hw9⟩ : ∃ w9, w8.drewN nq = w9 := ⟨_, rfl⟩
        have u9 : Upd w8 w9 (fun _ => False) := hw9 ▸ (Upd.refl w8 _).drewN nq
        rw [hw9]
        simp only [cut10, HTF.out, HTT.out]
        have LN := Len_S w.heap.size w9 b bm n' D' lost' (ofP L') V' (HB8.out.upd u9).net (tf, tt) HPOK.out
        have RL := RLen_any w.heap.size w9 rb v' L' lost' (HB8.out.upd u9).rf (by omega) (tf, tt)
        obtain ⟨Q, hQ⟩ : ∃ Q, (ofP L' (tf, tt)).length = Q := ⟨_, rfl⟩
        rw [hQ] at LN RL
        have HLN := hide LN
        have HRL := hide RL
        have HU9 := hide u9
        clear LN RL u9 hQ hw9)
      all_goals go_wp2_with (first
        | (go_at_call 13; refine Calls.mono HLN.out ?_; rintro e w' ⟨rfl, hw⟩; replace hw := hw.symm; subst hw)
        | (go_at_call 20; refine Calls.mono HRL.out ?_; rintro e w' ⟨rfl, hw⟩; replace hw := hw.symm; subst hw))
      all_goals go_roundg (gk - 1)
      case' measure => omega
      all_goals (first
        | omega
        | exact ⟨k + 1, n', lost', D', V', v', L', by omega, by go_num, by omega, by omega, by omega, HB8.out.upd HU9.out, (((((HU.out.drew).then HU5.out (fun i hi e => by have := (HFR.out i e).1; omega)).then HU6.out (fun _ _ => id)).then HU7.out (fun _ _ => id)).then HU8.out (fun _ _ => id)).then HU9.out (fun _ _ => id)⟩)
    · have hk1 : ¬ (k : Int) < (N : Int) := by omega
      have HU := hide hu
      clear hu hB
      go_wp2_with fail
      go_ret
      exact ⟨rfl, HU.out⟩
end Go.Proofs.Ytleehgpfoigajaa
