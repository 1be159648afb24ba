/- The reference's Order. -/
import Derived.Test.YtnhggncpebifhaaGsE
set_option maxRecDepth 100000
namespace Go.Proofs.Ytnhggncpebifhaa
open Go.RowKit Go.Lat Go.Tarjan

theorem mem_nat (l : List Nat) (k : Nat) : decide ((k : Int) ∈ l.map (fun (k : Nat) => (k : Int))) = decide (k ∈ l) := by
  congr 1
  simp only [List.mem_map, eq_iff_iff]
  constructor
  · rintro ⟨x, hx, e⟩
    have : x = k := by omega
    rw [← this]
    exact hx
  · exact fun h => ⟨k, h, rfl⟩
def nxI : Option Nat → Int
  | none => -1
  | some u => (u : Int)
set_option maxHeartbeats 12800000 in
theorem Rorder_any {bs : Nat} {w : World} {rb n : Nat} {v : Value} {fv : Nat → Value} {E : Nat → Nat → Bool} (hr : RgAt bs w rb n v fv E) (hn : n ≤ 4096) (fa : Option Addr) (fc : Nat) (fr : List Int) (hf : RdI w fa fr) (hl : fr.length ≤ 9223372036854775807) :
    Calls Try.prog 21 #[.pointer (some ⟨rb, 0, none⟩), .slice fa fr.length fc] w (NatRes w (ordF n (fun k => decide ((k : Int) ∈ fr) && !wrun E n k k) (wrun E n) (n + 1) [])) := by
  have CL := Closure_any hr hn
  obtain ⟨i0, hi, hz0, hz1, hz2⟩ := info_parts infoI
  obtain ⟨C, hC⟩ : ∃ C, wrun E n = C := ⟨_, rfl⟩
  rw [hC] at CL ⊢
  obtain ⟨inn, hinn⟩ : ∃ p, (fun (k : Nat) => decide ((k : Int) ∈ fr) && !C k k) = p := ⟨_, rfl⟩
  have hin1 : ∀ k : Nat, inn k = (decide ((k : Int) ∈ fr) && !C k k) := fun k => by rw [← hinn]
  rw [hinn]
  obtain ⟨R, hR⟩ : ∃ R, ordF n inn C (n + 1) [] = R := ⟨_, rfl⟩
  rw [hR]
  obtain ⟨N, hN⟩ : ∃ N, fr.length = N := ⟨_, rfl⟩
  have HAS : ∀ (W : World) (z : Int), Upd w W (fun _ => False) → Calls Try.prog 34 #[.slice fa N fc, .int .i64 z] W fun e w' => e = .returned (.bool (decide (z ∈ fr))) ∧ w' = W := fun W z u => by
    rw [← hN]
    exact Rhas_any W fa fc fr (hf.upd u) hl z
  rw [hN]
  have HR := hide hr
  have HIN := hide hin1
  have HHAS := hide HAS
  have HRR := hide hR
  clear hr hC hinn hin1 hf hl HAS hN hR
  go_enter Try.func21, Try.ntmps21
  go_wp2_with (go_at_call 30; go_loud (refine Calls.mono CL ?_); rintro e w1 ⟨ca, cc, fm, rfl, hm, u1⟩)
  have HMM := hide hm
  have HU1 := hide u1
  clear hm u1 CL
  go_loopg [6] (n + 1) (fun q ov wr => ∃ oa oc out, n - out.length < q ∧ ov = .slice oa out.length oc ∧ NatAt w1.heap.size wr oa oc out ∧ Upd w1 wr (fun _ => False) ∧ OrdOk n inn C out ∧ ordF n inn C (n + 1 - out.length) out = R)
  case atStart => exact ⟨none, 0, [], by simp, rfl, NatAt.nil _ _, Upd.refl _ _, OrdOk.nil, HRR.out⟩
  case round =>
    obtain ⟨oa, oc, out, hq, rfl, na, u2, oo, ho⟩ := hrel
    have hol := oo.len
    have hfu : n + 1 - out.length = (n - out.length) + 1 := by omega
    rw [hfu] at ho
    obtain ⟨m, hm⟩ : ∃ m, out.length = m := ⟨_, rfl⟩
    have nr := na.r
    have hol6 : out.length ≤ 1000000 := by omega
    have HASO : ∀ (z : Nat), Calls Try.prog 34 #[.slice oa m oc, .int .i64 (z : Int)] wr fun e w' => e = .returned (.bool (decide (z ∈ out))) ∧ w' = wr := fun z => by
      have := Rhas_any wr oa oc (out.map (fun (k : Nat) => (k : Int))) (RdI.of_rw nr) (by rw [List.length_map]; omega) (z : Int)
      rw [List.length_map, mem_nat, hm] at this
      exact this
    rw [hm] at hq nr ho hol ⊢
    have HNR := hide nr
    have HNA := hide na
    have HU2 := hide u2
    have HM := hide hm
    have HOO := hide oo
    have HO := hide ho
    have HHASO := hide HASO
    clear na u2 hm nr oo ho HASO hfu hol6
    obtain ⟨gko, hgko⟩ : ∃ x, x = gk := ⟨_, rfl⟩
    rw [← hgko] at hq
    go_wp2_with fail
    go_loopg [7, 8] (n + 1) (fun q nv iv wx => ∃ i nx, i ≤ n ∧ n - i < q ∧ iv = .int .i64 (i : Nat) ∧ nv = .int .i64 (nxI nx) ∧ (List.range i).find? (readyB n inn C out) = nx ∧ wx = wr)
    case atStart => exact ⟨0, none, by omega, by omega, rfl, rfl, rfl, rfl⟩
    case round =>
      obtain ⟨i, nx, hin, hq2, rfl, rfl, hfn, rfl⟩ := hrel
      have hr2 := HR.out.quiet (HU1.out.then HU2.out (fun _ _ => id))
      obtain ⟨d0, d1⟩ := cells2 hr2.c
      have lb := lt_at hr2.c
      cases nx with
      | some u =>
        have hnx : nextB n inn C out = some u := by
          obtain ⟨q1, q2, q3⟩ := find_min hfn
          unfold nextB
          rw [List.find?_range_eq_some]
          refine ⟨q2, List.mem_range.2 (by omega), fun j hj => ?_⟩
          rw [q3 j hj]
          rfl
        have u0 : ¬ (u : Int) < 0 := by omega
        have HNX := hide hnx
        have hsz := HU2.out.size
        simp only [nxI]
        clear hr2 hfn hnx
        by_cases hlt : i < n
        · have i1 : (i : Int) < (n : Int) := by omega
          go_wp2_with (at_builtin; go_loud (refine wpList_append_rw _ rfl _ _ 29 29 rfl 3 _ i0 _ 1 8 Try.underlying29 Try.underlying29 (by simp) hi hz0 hz1 hz2 rfl _ m _ rfl (HNR.out.alloc _) _ 1 [.int .i64 (u : Int)] rfl (Rw.made wr #[.int .i64 (u : Int)] 3 1 1 rfl).src rfl (by simp [Value.oneCell']) (by omega) (by omega) ?_); intro ga gc w4 hv' hg4 hob')
          have na2 := (HNA.out.upd ((Upd.refl wr (fun _ => False)).alloc (.cells #[.int .i64 (u : Int)] 3)) (fun _ _ => id)).snoc HM.out (by simp; omega) hv' hob'
          have hl2 : (out ++ [u]).length = m + 1 := by simp [HM.out]
          have u3 : Upd wr w4 (fun j => (Value.slice oa m oc).ownBlock = some j) := ((Upd.refl wr _).alloc _).grown hg4 (fun k e => .inr e)
          have ho2 : ordF n inn C (n - m) (out ++ [u]) = R := by
            rw [← HO.out]
            show _ = (match nextB n inn C out with | none => out | some i => ordF n inn C (n - m) (out ++ [i]))
            rw [HNX.out]
          have oo2 := HOO.out.snoc HNX.out
          have hmn : m + 1 ≤ n := by have := oo2.len; omega
          go_roundg (gko - 1)
          case measure => omega
          case rel => exact ⟨ga, gc, out ++ [u], by rw [hl2]; omega, by rw [hl2], na2, HU2.out.then u3 (fun j hj q => by
            have := HNA.out.o j ((own_slice oa _ _ _ _).trans q)
            omega), oo2, by rw [hl2, show n + 1 - (m + 1) = n - m by omega]; exact ho2⟩
        · have i1 : ¬ (i : Int) < (n : Int) := by omega
          go_wp2_with (at_builtin; go_loud (refine wpList_append_rw _ rfl _ _ 29 29 rfl 3 _ i0 _ 1 8 Try.underlying29 Try.underlying29 (by simp) hi hz0 hz1 hz2 rfl _ m _ rfl (HNR.out.alloc _) _ 1 [.int .i64 (u : Int)] rfl (Rw.made wr #[.int .i64 (u : Int)] 3 1 1 rfl).src rfl (by simp [Value.oneCell']) (by omega) (by omega) ?_); intro ga gc w4 hv' hg4 hob')
          have na2 := (HNA.out.upd ((Upd.refl wr (fun _ => False)).alloc (.cells #[.int .i64 (u : Int)] 3)) (fun _ _ => id)).snoc HM.out (by simp; omega) hv' hob'
          have hl2 : (out ++ [u]).length = m + 1 := by simp [HM.out]
          have u3 : Upd wr w4 (fun j => (Value.slice oa m oc).ownBlock = some j) := ((Upd.refl wr _).alloc _).grown hg4 (fun k e => .inr e)
          have ho2 : ordF n inn C (n - m) (out ++ [u]) = R := by
            rw [← HO.out]
            show _ = (match nextB n inn C out with | none => out | some i => ordF n inn C (n - m) (out ++ [i]))
            rw [HNX.out]
          have oo2 := HOO.out.snoc HNX.out
          have hmn : m + 1 ≤ n := by have := oo2.len; omega
          go_roundg (gko - 1)
          case measure => omega
          case rel => exact ⟨ga, gc, out ++ [u], by rw [hl2]; omega, by rw [hl2], na2, HU2.out.then u3 (fun j hj q => by
            have := HNA.out.o j ((own_slice oa _ _ _ _).trans q)
            omega), oo2, by rw [hl2, show n + 1 - (m + 1) = n - m by omega]; exact ho2⟩
      | none =>
        simp only [nxI]
        by_cases hlt : i < n
        · have i1 : (i : Int) < (n : Int) := by omega
          have i0' : (0 : Int) ≤ (i : Int) := by omega
          have A1 := HHAS.out wr (i : Int) (HU1.out.then HU2.out (fun _ _ => id))
          have A2 := HHASO.out i
          obtain ⟨sg, so, sc, rg, ro, rc, hv, hff, sgl, rgl, s0, r1, -⟩ := (MatAt.quiet HMM.out HU2.out).at hlt hlt
          simp only [Value.slice.injEq] at hv
          obtain ⟨rfl, -, rfl⟩ := hv
          have hrb : readyB n inn C out i = (inn i && (!decide (i ∈ out) && (List.range n).all (fun k => !(inn k && (!decide (k ∈ out) && C i k))))) := rfl
          rw [HIN.out] at hrb
          obtain ⟨a, ha⟩ : ∃ a, decide ((i : Int) ∈ fr) = a := ⟨_, rfl⟩
          obtain ⟨b, hb⟩ : ∃ b, decide (i ∈ out) = b := ⟨_, rfl⟩
          obtain ⟨c, hc⟩ : ∃ c, C i i = c := ⟨_, rfl⟩
          rw [ha] at A1 hrb
          rw [hb] at A2 hrb
          rw [hc] at r1 hrb
          have HA1 := hide A1
          have HA2 := hide A2
          have HFN := hide hfn
          have HRB := hide hrb
          clear hr2 A1 A2 hff ha hb hc hfn hrb
          cases a with
          | false =>
            go_wp2_with (first
                | (go_at_call 34; with_reducible refine Calls.mono HA1.out ?_; rintro e w9 ⟨rfl, hw9⟩; obtain rfl := hw9.symm; clear hw9)
                | (go_at_call 34; with_reducible refine Calls.mono HA2.out ?_; rintro e w9 ⟨rfl, hw9⟩; obtain rfl := hw9.symm; clear hw9))
            go_roundg (gk - 1)
            case measure => omega
            case rel => exact ⟨i + 1, none, by omega, by omega, by go_num, rfl, by rw [find_succ, HFN.out, HRB.out]; rfl, rfl⟩
          | true =>
            cases b with
            | true =>
              go_wp2_with (first
                  | (go_at_call 34; with_reducible refine Calls.mono HA1.out ?_; rintro e w9 ⟨rfl, hw9⟩; obtain rfl := hw9.symm; clear hw9)
                  | (go_at_call 34; with_reducible refine Calls.mono HA2.out ?_; rintro e w9 ⟨rfl, hw9⟩; obtain rfl := hw9.symm; clear hw9))
              go_roundg (gk - 1)
              case measure => omega
              case rel => exact ⟨i + 1, none, by omega, by omega, by go_num, rfl, by rw [find_succ, HFN.out, HRB.out]; simp, rfl⟩
            | false =>
              cases c with
              | true =>
                go_wp2_with (first
                    | (go_at_call 34; with_reducible refine Calls.mono HA1.out ?_; rintro e w9 ⟨rfl, hw9⟩; obtain rfl := hw9.symm; clear hw9)
                    | (go_at_call 34; with_reducible refine Calls.mono HA2.out ?_; rintro e w9 ⟨rfl, hw9⟩; obtain rfl := hw9.symm; clear hw9))
                go_roundg (gk - 1)
                case measure => omega
                case rel => exact ⟨i + 1, none, by omega, by omega, by go_num, rfl, by rw [find_succ, HFN.out, HRB.out]; rfl, rfl⟩
              | false =>
                simp only [Bool.not_false, Bool.true_and] at HRB
                go_wp2_with (first
                    | (go_at_call 34; with_reducible refine Calls.mono HA1.out ?_; rintro e w9 ⟨rfl, hw9⟩; obtain rfl := hw9.symm; clear hw9)
                    | (go_at_call 34; with_reducible refine Calls.mono HA2.out ?_; rintro e w9 ⟨rfl, hw9⟩; obtain rfl := hw9.symm; clear hw9))
                clear d0 d1 lb s0 r1
                obtain ⟨gkm, hgkm⟩ : ∃ x, x = gk := ⟨_, rfl⟩
                rw [← hgkm] at hq2
                go_loopg [11, 12] (n + 1) (fun q sv kv wx => ∃ k s, k ≤ n ∧ n - k < q ∧ kv = .int .i64 (k : Nat) ∧ sv = .bool s ∧ (List.range k).all (fun k => !(inn k && (!decide (k ∈ out) && C i k))) = s ∧ wx = wr)
                case atStart => exact ⟨0, true, by omega, by omega, rfl, rfl, rfl, rfl⟩
                case round =>
                  obtain ⟨k, s, hk, hq3, rfl, rfl, hal, rfl⟩ := hrel
                  have hr2 := HR.out.quiet (HU1.out.then HU2.out (fun _ _ => id))
                  obtain ⟨d0, d1⟩ := cells2 hr2.c
                  have lb := lt_at hr2.c
                  by_cases hkn : k < n
                  · have k1 : (k : Int) < (n : Int) := by omega
                    have k0 : (0 : Int) ≤ (k : Int) := by omega
                    have A3 := HHAS.out wr (k : Int) (HU1.out.then HU2.out (fun _ _ => id))
                    have A4 := HHASO.out k
                    obtain ⟨sg1, so1, sc1, rg1, ro1, rc1, hv1, hf1, sgl1, rgl1, s01, r11, -⟩ := (MatAt.quiet HMM.out HU2.out).at hlt hkn
                    obtain ⟨sg2, so2, sc2, rg2, ro2, rc2, hv2, hf2, sgl2, rgl2, s02, r12, -⟩ := (MatAt.quiet HMM.out HU2.out).at hkn hkn
                    simp only [Value.slice.injEq, Option.some.injEq, Addr.mk.injEq] at hv1 hv2
                    obtain ⟨⟨rfl, rfl, -⟩, -, rfl⟩ := hv1
                    obtain ⟨⟨rfl, rfl, -⟩, -, rfl⟩ := hv2
                    have hal2 : (List.range (k + 1)).all (fun k => !(inn k && (!decide (k ∈ out) && C i k))) = (s && !(inn k && (!decide (k ∈ out) && C i k))) := by
                      rw [List.range_succ, List.all_append, hal]
                      simp
                    rw [HIN.out] at hal2
                    obtain ⟨f1, hf1'⟩ : ∃ a, decide ((k : Int) ∈ fr) = a := ⟨_, rfl⟩
                    obtain ⟨d1', hd1⟩ : ∃ b, decide (k ∈ out) = b := ⟨_, rfl⟩
                    obtain ⟨c1, hc1⟩ : ∃ c, C i k = c := ⟨_, rfl⟩
                    obtain ⟨c2, hc2⟩ : ∃ c, C k k = c := ⟨_, rfl⟩
                    rw [hf1'] at A3 hal2
                    rw [hd1] at A4 hal2
                    rw [hc1] at r11 hal2
                    rw [hc2] at r12 hal2
                    have HA3 := hide A3
                    have HA4 := hide A4
                    have HALL := hide hal2
                    clear hr2 A3 A4 hf1 hf2 hf1' hd1 hc1 hc2 hal hal2
                    cases f1 with
                    | false =>
                      go_wp2_with (first
                          | (go_at_call 34; with_reducible refine Calls.mono HA3.out ?_; rintro e w9 ⟨rfl, hw9⟩; obtain rfl := hw9.symm; clear hw9)
                          | (go_at_call 34; with_reducible refine Calls.mono HA4.out ?_; rintro e w9 ⟨rfl, hw9⟩; obtain rfl := hw9.symm; clear hw9))
                      go_roundg (gk - 1)
                      case measure => omega
                      case rel => exact ⟨k + 1, s, by omega, by omega, by go_num, rfl, by rw [HALL.out]; simp, rfl⟩
                    | true =>
                      cases d1' with
                      | true =>
                        go_wp2_with (first
                            | (go_at_call 34; with_reducible refine Calls.mono HA3.out ?_; rintro e w9 ⟨rfl, hw9⟩; obtain rfl := hw9.symm; clear hw9)
                            | (go_at_call 34; with_reducible refine Calls.mono HA4.out ?_; rintro e w9 ⟨rfl, hw9⟩; obtain rfl := hw9.symm; clear hw9))
                        go_roundg (gk - 1)
                        case measure => omega
                        case rel => exact ⟨k + 1, s, by omega, by omega, by go_num, rfl, by rw [HALL.out]; simp, rfl⟩
                      | false =>
                        cases c1 with
                        | false =>
                          go_wp2_with (first
                              | (go_at_call 34; with_reducible refine Calls.mono HA3.out ?_; rintro e w9 ⟨rfl, hw9⟩; obtain rfl := hw9.symm; clear hw9)
                              | (go_at_call 34; with_reducible refine Calls.mono HA4.out ?_; rintro e w9 ⟨rfl, hw9⟩; obtain rfl := hw9.symm; clear hw9))
                          go_roundg (gk - 1)
                          case measure => omega
                          case rel => exact ⟨k + 1, s, by omega, by omega, by go_num, rfl, by rw [HALL.out]; simp, rfl⟩
                        | true =>
                          cases c2 with
                          | true =>
                            go_wp2_with (first
                                | (go_at_call 34; with_reducible refine Calls.mono HA3.out ?_; rintro e w9 ⟨rfl, hw9⟩; obtain rfl := hw9.symm; clear hw9)
                                | (go_at_call 34; with_reducible refine Calls.mono HA4.out ?_; rintro e w9 ⟨rfl, hw9⟩; obtain rfl := hw9.symm; clear hw9))
                            go_roundg (gk - 1)
                            case measure => omega
                            case rel => exact ⟨k + 1, s, by omega, by omega, by go_num, rfl, by rw [HALL.out]; simp, rfl⟩
                          | false =>
                            go_wp2_with (first
                                | (go_at_call 34; with_reducible refine Calls.mono HA3.out ?_; rintro e w9 ⟨rfl, hw9⟩; obtain rfl := hw9.symm; clear hw9)
                                | (go_at_call 34; with_reducible refine Calls.mono HA4.out ?_; rintro e w9 ⟨rfl, hw9⟩; obtain rfl := hw9.symm; clear hw9))
                            go_roundg (gk - 1)
                            case measure => omega
                            case rel => exact ⟨k + 1, false, by omega, by omega, by go_num, rfl, by rw [HALL.out]; simp, rfl⟩
                  · have k1 : ¬ (k : Int) < (n : Int) := by omega
                    have hkn2 : k = n := by omega
                    rw [hkn2] at hal
                    have hrb : readyB n inn C out i = s := by rw [HRB.out]; exact hal
                    have HRB2 := hide hrb
                    clear hr2 hal hkn2 hrb
                    cases s with
                    | true =>
                      go_wp2_with fail
                      go_roundg (gkm - 1)
                      case measure => omega
                      case rel => exact ⟨i + 1, some i, by omega, by omega, by go_num, rfl, by rw [find_succ, HFN.out, HRB2.out]; rfl, rfl⟩
                    | false =>
                      go_wp2_with fail
                      go_roundg (gkm - 1)
                      case measure => omega
                      case rel => exact ⟨i + 1, none, by omega, by omega, by go_num, rfl, by rw [find_succ, HFN.out, HRB2.out]; rfl, rfl⟩
        · have i1 : ¬ (i : Int) < (n : Int) := by omega
          have hin2 : i = n := by omega
          have hnx : nextB n inn C out = none := by unfold nextB; rw [← hfn, hin2]
          have hRo : R = out := by
            rw [← HO.out]
            show (match nextB n inn C out with | none => out | some i => ordF n inn C (n - m) (out ++ [i])) = out
            rw [hnx]
          have HRO := hide hRo
          clear hr2 hfn hnx hRo hin2
          go_wp2_with fail
          go_ret
          have h1 : NatAt w.heap.size wr oa oc out := ⟨HNA.out.r, fun k q => Nat.le_trans HU1.out.size (HNA.out.o k q)⟩
          have q := h1.res (HU1.out.then HU2.out (fun _ _ => id))
          rw [HM.out] at q
          rw [HRO.out]
          exact q
end Go.Proofs.Ytnhggncpebifhaa
