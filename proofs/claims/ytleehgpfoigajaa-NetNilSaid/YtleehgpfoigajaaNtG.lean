/- The walk of NetNil. -/
import Derived.Test.YtleehgpfoigajaaNtF
import Derived.Test.YtleehgpfoigajaaNetD
set_option maxRecDepth 100000
namespace Go.Proofs.Ytleehgpfoigajaa
open Go.RowKit Go.Lat Go.Sort

set_option maxHeartbeats 6400000 in
theorem NetNil_walk (w : World) (v : Value) (l : List AcD) (h : AcArg w v l) (name : List UInt8) :
    Calls Try.prog 6 #[v, encStr name] w fun e w' => e = .returned (.bool true) ∧ Upd w w' (fun _ => False) := by
  obtain ⟨a, cap, rfl, hlc, hcm, hnil, hrow⟩ := h
  obtain ⟨L, hL⟩ : ∃ L, l.length = L := ⟨_, rfl⟩
  rw [hL] at hlc ⊢
  obtain ⟨N, hN⟩ : ∃ N, min L 60 = N := ⟨_, rfl⟩
  have hN2 : (min (L : Int) 60) = (N : Int) := by omega
  have n0 : (0 : Int) ≤ (N : Int) := by omega
  have n20 : N ≤ 60 := by omega
  have n1 : (N : Int) ≤ (cap : Int) := by omega
  have HL := hide hL
  have HN := hide hN
  have HR := hide hrow
  clear hL hN hrow
  obtain ⟨iP, hiP, hP0, hP1, hP2⟩ := info_parts Try.info40
  have HNW := hide New_any
  go_enter Try.func6, Try.ntmps6
  go_wp2_with (first
    | (go_at_call 21; refine Calls.mono (Clear_nil _ _) ?_; rintro e w2 ⟨rfl, u2⟩; have HU2 := hide u2; clear u2)
    | (go_at_call 15; refine Calls.mono (Take_nil _ _ _ _) ?_; rintro e w' ⟨rfl, hw⟩; replace hw := hw.symm; subst hw)
    | (go_at_call 14; refine Calls.mono (Look_nil _ _ _ _) ?_; rintro e w' ⟨rfl, hw⟩; replace hw := hw.symm; subst hw)
    | (go_at_call 8; refine Calls.mono (Send_nil _ _ _ []) ?_; rintro e w' ⟨rfl, hw⟩; replace hw := hw.symm; subst hw)
    | (go_at_call 13; refine Calls.mono (Len_nil _ _ _) ?_; rintro e w' ⟨rfl, hw⟩; replace hw := hw.symm; subst hw)
    | (go_at_call 12; refine Calls.mono (Drop_nil _ _ _ _) ?_; rintro e w' ⟨rfl, hw⟩; replace hw := hw.symm; subst hw)
    | (go_at_call 11; refine Calls.mono (Twice_nil _ _ _ _) ?_; rintro e w' ⟨rfl, hw⟩; replace hw := hw.symm; subst hw)
    | (go_at_call 16; refine Calls.mono (Pairs_nil _) ?_; rintro e w' ⟨rfl, hw⟩; replace hw := hw.symm; subst hw)
    | (go_at_call 10; refine Calls.mono (Lost_nil _) ?_; rintro e w' ⟨rfl, hw⟩; replace hw := hw.symm; subst hw)
    | (go_at_call 7; refine Calls.mono (HNW.out _) ?_; rintro e w3 ⟨rfl, hn3, u3⟩; have HN3 := hide hn3; have HU3 := hide u3; clear hn3 u3))
  obtain ⟨b, hb⟩ : ∃ b, w2.heap.size + 1 = b := ⟨_, rfl⟩
  obtain ⟨bm, hbm⟩ : ∃ bm, w2.heap.size = bm := ⟨_, rfl⟩
  have hns : Nets w.heap.size w3 b bm 0 (.map []) 0 (fun _ => []) (fun _ => noRow) := by
    have q := HN3.out
    rw [hb, hbm] at q
    have := HU2.out.size
    exact Nets.new q (by omega) (by omega)
  have u3 : Upd w w3 (fun _ => False) := HU2.out.then HU3.out (fun _ _ => id)
  rw [hb]
  have HNS := hide hns
  have HUW := hide u3
  clear hb hbm hns u3
  go_loopg [86] N (fun q iv wr => ∃ (k n lost : Nat) (D : DataW Value) (M : Pr → List (List UInt8)) (V : Pr → Value), k + q = N ∧ iv = .int .i64 k ∧ n ≤ k ∧ lost ≤ k ∧ (∀ p, (M p).length ≤ k) ∧ Nets w.heap.size wr b bm n D lost M V ∧ Upd w wr (fun _ => False))
  case atStart => exact ⟨0, 0, 0, _, _, _, by omega, rfl, by omega, by omega, by simp, HNS.out, HUW.out⟩
  case round =>
    obtain ⟨k, n, lost, D, M, V, hk, rfl, hn, hlo, hM, hns, hu⟩ := hrel
    obtain ⟨wk, rfl⟩ : ∃ wk, wk = wr := ⟨_, rfl⟩
    by_cases hkN : k < N
    · obtain ⟨x, hx⟩ : ∃ x, l[k]? = some x := ⟨_, List.getElem?_eq_getElem (by rw [HL.out]; have := HN.out; omega)⟩
      obtain ⟨g, off, rfl, hg, c0, c1, c2, c3, c4, o2, o3, o4, -⟩ := HR.out k x hx
      have d0 := (hu.cell g _ hg id).trans c0
      have d1 := (hu.cell g _ hg id).trans c1
      have d2 := (hu.cell g _ hg id).trans c2
      have d3 := (hu.cell g _ hg id).trans c3
      have d4 := (hu.cell g _ hg id).trans c4
      obtain ⟨xd, xi, xf, xt, xs⟩ := x
      simp only at c0 c1 c2 c3 c4 d0 d1 d2 d3 d4 o2 o3 o4
      have hk0 : (0 : Int) ≤ (k : Int) := by omega
      have hk1 : (k : Int) < (N : Int) := by omega
      have uo : Upd wk (wk.alloc (.cells #[.int .i64 xd, .int .i64 xi, encStr xf, encStr xt, encStr xs] 34)) (fun _ => False) := (Upd.refl wk _).alloc _
      have SD := Send_S w.heap.size _ b bm n D lost M V (hns.upd uo) (by have := (hu.then uo (fun _ _ => id)).size; exact this) (by omega) (by omega) (xf, xt) ⟨o2, o3⟩ xs
      have HSD := hide SD
      have HMM := hide hM
      have HUK := hide (hu.then uo (fun _ _ => id))
      clear SD hM hns hu uo c0 c1 c2 c3 c4 hx
      go_wp2_with (go_at_call 8; refine Calls.mono HSD.out ?_; rintro e w5 ⟨rfl, n', D', V', hn', hns', u5⟩)
      go_roundg (gk - 1)
      case measure => omega
      case rel =>
        refine ⟨k + 1, n', _, D', _, V', by omega, by go_num, by omega, ?_, send_le HMM.out _ _, hns', HUK.out.then u5 (fun i hi e => by omega)⟩
        split <;> omega
    · have hk1 : ¬ (k : Int) < (N : Int) := by omega
      have hk60 : k ≤ 60 := by omega
      have PS := Pairs_S w.heap.size wk b bm n D lost M V hns (by omega)
      have HPS := hide PS
      have HMM := hide hM
      have HUK := hide hu
      have HNK := hide hns
      clear PS hM hu hns
      go_wp2_with (go_at_call 16; refine Calls.mono HPS.out ?_; rintro e w6 ⟨ka, kc, ks, rfl, hks, hkl, hkp, hko, hkm, -, u6⟩
                   have HKS := hide hks
                   have HKP := hide hkp
                   have HKO := hide hko
                   have HKM := hide hkm
                   have HU6 := hide u6
                   clear hks hkp hko hkm u6)
      obtain ⟨K, hK⟩ : ∃ K, ks.length = K := ⟨_, rfl⟩
      rw [hK] at hkl ⊢
      have hks := HKS.out
      rw [hK] at hks
      have HKK := hide hks
      have HKL := hide hK
      have hlo' : lost ≤ 60 := by omega
      clear hks hK HKS
      go_loopg [13, 102] K (fun q kv jv wr => ∃ (j : Nat), j + q = K ∧ jv = .int .i64 j ∧ kv = .int .i64 (lenS M (keptL name (ks.take j)) : Nat) ∧ Upd w6 wr (fun _ => False))
      case atStart => exact ⟨0, by omega, rfl, by simp [lenS, keptL], Upd.refl _ _⟩
      case round =>
        obtain ⟨j, hj, rfl, rfl, hu⟩ := hrel
        obtain ⟨wj, rfl⟩ : ∃ wj, wj = wr := ⟨_, rfl⟩
        by_cases hjK : j < K
        · obtain ⟨p, hp⟩ : ∃ p, ks[j]? = some p := ⟨_, List.getElem?_eq_getElem (by rw [HKL.out]; exact hjK)⟩
          have pok := HKO.out p (List.mem_of_getElem? hp)
          obtain ⟨g, off, rfl, hg, d0, d1⟩ := pr_at (hu.rw HKK.out (fun _ _ => id)) j p hp hjK
          have hj0 : (0 : Int) ≤ (j : Int) := by omega
          have hj1 : (j : Int) < (K : Int) := by omega
          have hKy := fun h => kept_yes (M := M) (name := name) hp h
          have hKn := fun h => kept_no (M := M) (name := name) hp h
          have hbd : lenS M (keptL name (ks.take j)) ≤ 3600 := by
            have q1 := lenS_le HMM.out (keptL name (ks.take j))
            have q2 := keptL_len name (ks.take j)
            have q3 : (ks.take j).length ≤ 60 := by rw [List.length_take]; omega
            have q4 : (keptL name (ks.take j)).length * k ≤ 60 * 60 := Nat.mul_le_mul (by omega) hk60
            omega
          have hpl : (M p).length ≤ 60 := by have := HMM.out p; omega
          obtain ⟨A, hA⟩ : ∃ A, lenS M (keptL name (ks.take j)) = A := ⟨_, rfl⟩
          rw [hA] at hbd hKy hKn ⊢
          have uo : Upd wj (wj.alloc (.cells #[encStr p.1, encStr p.2] 40)) (fun _ => False) := (Upd.refl wj _).alloc _
          have HUJ := hide (hu.then uo (fun _ _ => id))
          have HKY := hide hKy
          have HKN := hide hKn
          have LN := Len_S w.heap.size _ b bm n D lost M V (((HNK.out.upd HU6.out).upd hu).upd uo) p pok
          obtain ⟨B, hB⟩ : ∃ B, (M p).length = B := ⟨_, rfl⟩
          rw [hB] at LN hpl
          have HLN := hide LN
          have HB := hide hB
          obtain ⟨p1, p2⟩ := p
          have hwrap : IntKind.i64.wrap ((A : Int) + (B : Int)) = ((A + B : Nat) : Int) := by rw [IntWalk.i64_in _ (by omega)]; omega
          clear hu uo LN hB hKy hKn hA hp
          simp only at d0 d1
          by_cases h1 : p1 = name
          · subst h1
            have hiv : inv p1 (p1, p2) = true := by simp [inv]
            have HIV := hide (HKN.out hiv)
            clear hiv
            go_wp2_with fail
            go_roundg (gk - 1)
            case measure => omega
            case rel => exact ⟨j + 1, by omega, by go_num, by rw [HIV.out], HUJ.out⟩
          · by_cases h2 : p2 = name
            · subst h2
              have hiv : inv p2 (p1, p2) = true := by simp [inv]
              have HIV := hide (HKN.out hiv)
              clear hiv
              go_wp2_with fail
              go_roundg (gk - 1)
              case measure => omega
              case rel => exact ⟨j + 1, by omega, by go_num, by rw [HIV.out], HUJ.out⟩
            · have hiv : inv name (p1, p2) = false := by simp [inv, h1, h2]
              have hb1 : (p1 == name) = false := by simpa using h1
              have hb2 : (p2 == name) = false := by simpa using h2
              have HIV := hide (HKY.out hiv)
              clear hiv
              go_wp2_with (go_at_call 13; refine Calls.mono HLN.out ?_; rintro e w' ⟨rfl, hw⟩; replace hw := hw.symm; subst hw)
              go_roundg (gk - 1)
              case measure => omega
              case rel => exact ⟨j + 1, by omega, by go_num, by rw [HIV.out, HB.out]; rfl, HUJ.out⟩
        · have hj1 : ¬ (j : Int) < (K : Int) := by omega
          have htk : ks.take j = ks := List.take_of_length_le (by rw [HKL.out]; omega)
          rw [htk]
          have CS := Clear_S w.heap.size wj b bm n D lost M V ((HNK.out.upd HU6.out).upd hu) name
          have HCS := hide CS
          have HUJ := hide hu
          clear CS hu htk
          go_wp2_with (first
            | (go_at_call 21; refine Calls.mono HCS.out ?_; rintro e w8 ⟨rfl, D8, V8, hn8, u8⟩
               have P8 := Pairs_S w.heap.size w8 b bm n D8 lost _ V8 hn8 (by omega)
               have HP8 := hide P8
               have HN8 := hide hn8
               have HU8 := hide u8
               clear P8 hn8 u8)
            | (go_at_call 16; refine Calls.mono HP8.out ?_; rintro e w9 ⟨ka2, kc2, ks2, rfl, hks2, hkl2, hkp2, hko2, hkm2, -, u9⟩
               have HKS2 := hide hks2
               have HEQ := hide (kept_eq HKP.out hkp2 HKO.out hko2 HKM.out hkm2)
               have HKO2 := hide hko2
               have HU9 := hide u9
               clear hks2 hkp2 hko2 hkm2 u9))
          obtain ⟨M2, hM2⟩ : ∃ M2, clearM name M = M2 := ⟨_, rfl⟩
          have hn8 := HN8.out
          have hcl := clear_len (M := M) (name := name) ks
          have hle2 := clear_le (name := name) HMM.out
          rw [← HEQ.out] at hcl ⊢
          rw [hM2] at hn8 hcl hle2
          rw [← hcl]
          obtain ⟨K2, hK2⟩ : ∃ K2, ks2.length = K2 := ⟨_, rfl⟩
          rw [hK2] at hkl2 ⊢
          have hks2 := HKS2.out
          rw [hK2] at hks2
          obtain ⟨T, hT⟩ : ∃ T, lenS M2 ks2 = T := ⟨_, rfl⟩
          rw [hT]
          have hTb : T ≤ 3600 := by
            rw [← hT]
            have q1 := lenS_le hle2 ks2
            have q4 : ks2.length * k ≤ 60 * 60 := Nat.mul_le_mul (by omega) hk60
            omega
          have HK2 := hide hks2
          have HKL2 := hide hK2
          have HT := hide hT
          have HN9 := hide hn8
          clear hks2 hK2 hT hn8 hcl hle2 hM2 HKS2 HN8
          go_loopg [13, 131] K2 (fun q kv jv wr => ∃ (j r : Nat), j + q = K2 ∧ jv = .int .i64 j ∧ kv = .int .i64 r ∧ lenS M2 (ks2.take j) + r = T ∧ Upd w9 wr (fun _ => False))
          case atStart => exact ⟨0, T, by omega, rfl, rfl, by simp [lenS], Upd.refl _ _⟩
          case round =>
            obtain ⟨j, r, hj, rfl, rfl, hr, hu⟩ := hrel
            obtain ⟨wi, rfl⟩ : ∃ wi, wi = wr := ⟨_, rfl⟩
            by_cases hjK : j < K2
            · obtain ⟨p, hp⟩ : ∃ p, ks2[j]? = some p := ⟨_, List.getElem?_eq_getElem (by rw [HKL2.out]; exact hjK)⟩
              have pok := HKO2.out p (List.mem_of_getElem? hp)
              have piv : inv name p = false := by
                have q : p ∈ keptL name ks := by rw [← HEQ.out]; exact List.mem_of_getElem? hp
                simpa [keptL] using (List.mem_filter.1 q).2
              obtain ⟨g, off, rfl, hg, d0, d1⟩ := pr_at (hu.rw HK2.out (fun _ _ => id)) j p hp hjK
              have hj0 : (0 : Int) ≤ (j : Int) := by omega
              have hj1 : (j : Int) < (K2 : Int) := by omega
              have hnx := lenS_next (M := M2) hp
              have htot : lenS M2 (ks2.take (j + 1)) ≤ T := by
                have e1 : lenS M2 ks2 = lenS M2 (ks2.take (j + 1)) + lenS M2 (ks2.drop (j + 1)) := by rw [← lenS_app, List.take_append_drop]
                have := HT.out
                omega
              have uo : Upd wi (wi.alloc (.cells #[encStr p.1, encStr p.2] 40)) (fun _ => False) := (Upd.refl wi _).alloc _
              have HUJ2 := hide (hu.then uo (fun _ _ => id))
              have LN := Len_S w.heap.size _ b bm n D8 lost M2 V8 (((HN9.out.upd HU9.out).upd hu).upd uo) p pok
              obtain ⟨B, hB⟩ : ∃ B, (M2 p).length = B := ⟨_, rfl⟩
              rw [hB] at LN hnx
              have HLN2 := hide LN
              obtain ⟨p1, p2⟩ := p
              obtain ⟨h1, h2⟩ : p1 ≠ name ∧ p2 ≠ name := by simpa [inv] using piv
              have hb1 : (p1 == name) = false := by simpa using h1
              have hb2 : (p2 == name) = false := by simpa using h2
              have hrb : B ≤ r := by omega
              have hwrap : IntKind.i64.wrap ((r : Int) - (B : Int)) = ((r - B : Nat) : Int) := by rw [IntWalk.i64_in _ (by omega)]; omega
              have HREL := hide (show lenS M2 (ks2.take (j + 1)) + (r - B) = T by omega)
              clear hu uo LN hB hp hnx htot hr piv
              simp only at d0 d1
              go_wp2_with (go_at_call 13; refine Calls.mono HLN2.out ?_; rintro e w' ⟨rfl, hw⟩; replace hw := hw.symm; subst hw)
              go_roundg (gk - 1)
              case measure => omega
              case rel => exact ⟨j + 1, r - B, by omega, by go_num, by first | rfl | (rw [← hwrap]; go_num) | (congr 1; omega), HREL.out, HUJ2.out⟩
            · have hj1 : ¬ (j : Int) < (K2 : Int) := by omega
              have htk : ks2.take j = ks2 := List.take_of_length_le (by rw [HKL2.out]; omega)
              rw [htk, HT.out] at hr
              have r0 : r = 0 := by omega
              subst r0
              have HWK := hide (wakes_any wi)
              have HUI := hide hu
              clear hu htk hr
              go_wp2_with (go_at_call 9; refine Calls.mono HWK.out ?_; rintro e w10 ⟨rfl, u10⟩)
              go_ret
              refine ⟨rfl, ?_⟩
              have q1 := (HUK.out.then HU6.out (fun _ _ => id)).then HUJ.out (fun _ _ => id)
              have hbb := HNK.out.bbm
              have q2 := q1.then HU8.out (fun i hi e => by omega)
              exact ((q2.then HU9.out (fun _ _ => id)).then HUI.out (fun _ _ => id)).then u10 (fun _ _ => id)
end Go.Proofs.Ytleehgpfoigajaa
