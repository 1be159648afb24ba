/- The reference's Reach. -/
import Derived.Test.YtnhggncpebifhaaGsD
set_option maxRecDepth 100000
namespace Go.Proofs.Ytnhggncpebifhaa
open Go.RowKit Go.Lat Go.Tarjan

set_option maxHeartbeats 3200000 in
theorem RreachF_any {bs : Nat} {w : World} {rb n : Nat} {v : Value} {fv : Nat → Value} {E : Nat → Nat → Bool} (hr : RgAt bs w rb n v fv E) (hn : n ≤ 4096) (fa : Option Addr) (fc : Nat) (fr : List Int) (hf : RdI w fa fr) (hl : fr.length ≤ 9223372036854775807) :
    Calls Try.prog 18 #[.pointer (some ⟨rb, 0, none⟩), .slice fa fr.length fc, .bool false] w (NatRes w (rowE n (reachB n (fun k i => wrun E n k i) (fun k => decide ((k : Int) ∈ fr))))) := by
  have CL := Closure_any hr hn
  obtain ⟨i0, hi, hz0, hz1, hz2⟩ := info_parts infoI
  obtain ⟨C, hC⟩ : ∃ C, wrun E n = C := ⟨_, rfl⟩
  rw [hC] at CL ⊢
  obtain ⟨f, hf0⟩ : ∃ f, reachB n (fun k i => C k i) (fun k => decide ((k : Int) ∈ fr)) = f := ⟨_, rfl⟩
  have hf1 : ∀ i, f i = (decide ((i : Int) ∈ fr) || (List.range n).any (fun k => decide ((k : Int) ∈ fr) && C k i)) := fun i => by rw [← hf0]; rfl
  rw [hf0]
  obtain ⟨N, hN⟩ : ∃ N, fr.length = N := ⟨_, rfl⟩
  have HAS : ∀ (W : World) (z : Int), Upd w W (fun _ => False) → Calls Try.prog 34 #[.slice fa N fc, .int .i64 z] W fun e w' => e = .returned (.bool (decide (z ∈ fr))) ∧ w' = W := fun W z u => by
    rw [← hN]
    exact Rhas_any W fa fc fr (hf.upd u) hl z
  rw [hN]
  have HR := hide hr
  have HF1 := hide hf1
  have HHAS := hide HAS
  clear hr hC hf0 hf1 hf hl HAS hN
  go_enter Try.func18, Try.ntmps18
  go_wp2_with (go_at_call 30; go_loud (refine Calls.mono CL ?_); rintro e w1 ⟨ca, cc, fm, rfl, hm, u1⟩)
  have HMM := hide hm
  have HU1 := hide u1
  clear hm u1 CL
  go_loopg [8, 9] (n + 1) (fun q ov iv wr => ∃ i oa oc, i ≤ n ∧ n - i < q ∧ iv = .int .i64 (i : Nat) ∧ ov = .slice oa (rowE i f).length oc ∧ NatAt w1.heap.size wr oa oc (rowE i f) ∧ Upd w1 wr (fun _ => False))
  case atStart => exact ⟨0, none, 0, by omega, by omega, rfl, rfl, NatAt.nil _ _, Upd.refl _ _⟩
  case round =>
    obtain ⟨i, oa, oc, hin, hq, rfl, rfl, na, u2⟩ := hrel
    have hr2 := HR.out.quiet (HU1.out.then u2 (fun _ _ => id))
    obtain ⟨d0, d1⟩ := cells2 hr2.c
    have lb := lt_at hr2.c
    by_cases hlt : i < n
    · have i1 : (i : Int) < (n : Int) := by omega
      have i0' : (0 : Int) ≤ (i : Int) := by omega
      have HA := HHAS.out wr (i : Int) (HU1.out.then u2 (fun _ _ => id))
      obtain ⟨a, ha⟩ : ∃ a, decide ((i : Int) ∈ fr) = a := ⟨_, rfl⟩
      have hfi := HF1.out i
      rw [ha] at HA hfi
      have HHA := hide HA
      have HFI := hide hfi
      have hle := rowE_len i f
      have hsz := u2.size
      have nr := na.r
      obtain ⟨m, hm⟩ : ∃ m, (rowE i f).length = m := ⟨_, rfl⟩
      rw [hm] at hle nr ⊢
      have HNR := hide nr
      have HNA := hide na
      have HU2 := hide u2
      have HM := hide hm
      clear na u2 hm nr hr2 HA hfi ha
      go_wp2_with (go_at_call 34; go_loud (refine Calls.mono HHA.out ?_); rintro e w9 ⟨rfl, hw9⟩; obtain rfl := hw9.symm; clear hw9)
      obtain ⟨gko, hgko⟩ : ∃ x, x = gk := ⟨_, rfl⟩
      rw [← hgko] at hq
      go_loopg [10, 11] (n + 1) (fun q sv kv wx => ∃ k s, k ≤ n ∧ n - k < q ∧ kv = .int .i64 (k : Nat) ∧ sv = .bool s ∧ (a || (List.range k).any (fun k => decide ((k : Int) ∈ fr) && C k i)) = s ∧ wx = wr)
      case atStart => exact ⟨0, a, by omega, by omega, rfl, rfl, by simp, rfl⟩
      case round =>
        obtain ⟨k, s, hk, hq2, rfl, rfl, hs, rfl⟩ := hrel
        cases s with
        | true =>
          have hfi : f i = true := by
            rw [HFI.out]
            have : (a || (List.range n).any (fun k => decide ((k : Int) ∈ fr) && C k i)) = true := by
              rw [Bool.or_eq_true] at hs ⊢
              refine hs.imp id (fun q => ?_)
              rw [List.any_eq_true] at q ⊢
              obtain ⟨x, hx, hy⟩ := q
              exact ⟨x, List.mem_range.2 (by have := List.mem_range.1 hx; omega), hy⟩
            exact this
          have HB := hide hfi
          clear hs hfi
          by_cases hkn : k < n
          · have k1 : (k : Int) < (n : Int) := by omega
            go_wp2_with (at_builtin; go_loud (refine wpList_append_rw _ rfl _ _ 29 29 rfl 3 _ i0 _ 1 8 Try.underlying29 Try.underlying29 (by simp) hi hz0 hz1 hz2 rfl _ m _ rfl (HNR.out.alloc _) _ 1 [.int .i64 (i : Int)] rfl (Rw.made wr #[.int .i64 (i : Int)] 3 1 1 rfl).src rfl (by simp [Value.oneCell']) (by omega) (by omega) ?_); intro ga gc w4 hv' hg4 hob')
            have na2 := (HNA.out.upd ((Upd.refl wr (fun _ => False)).alloc (.cells #[.int .i64 (i : Int)] 3)) (fun _ _ => id)).snoc HM.out (by simp; omega) hv' hob'
            have hs := rowE_succ i f
            rw [HB.out] at hs
            simp only [if_true] at hs
            rw [← hs] at na2
            have hl2 : (rowE (i + 1) f).length = m + 1 := by rw [hs]; simp [HM.out]
            have u3 : Upd wr w4 (fun j => (Value.slice oa m oc).ownBlock = some j) := ((Upd.refl wr _).alloc _).grown hg4 (fun k e => .inr e)
            go_roundg (gko - 1)
            case measure => omega
            case rel => exact ⟨i + 1, ga, gc, by omega, by omega, by go_num, by rw [hl2], na2, HU2.out.then u3 (fun j hj q => by
              have := HNA.out.o j ((own_slice oa _ _ _ _).trans q)
              omega)⟩
          · have k1 : ¬ (k : Int) < (n : Int) := by omega
            go_wp2_with (at_builtin; go_loud (refine wpList_append_rw _ rfl _ _ 29 29 rfl 3 _ i0 _ 1 8 Try.underlying29 Try.underlying29 (by simp) hi hz0 hz1 hz2 rfl _ m _ rfl (HNR.out.alloc _) _ 1 [.int .i64 (i : Int)] rfl (Rw.made wr #[.int .i64 (i : Int)] 3 1 1 rfl).src rfl (by simp [Value.oneCell']) (by omega) (by omega) ?_); intro ga gc w4 hv' hg4 hob')
            have na2 := (HNA.out.upd ((Upd.refl wr (fun _ => False)).alloc (.cells #[.int .i64 (i : Int)] 3)) (fun _ _ => id)).snoc HM.out (by simp; omega) hv' hob'
            have hs := rowE_succ i f
            rw [HB.out] at hs
            simp only [if_true] at hs
            rw [← hs] at na2
            have hl2 : (rowE (i + 1) f).length = m + 1 := by rw [hs]; simp [HM.out]
            have u3 : Upd wr w4 (fun j => (Value.slice oa m oc).ownBlock = some j) := ((Upd.refl wr _).alloc _).grown hg4 (fun k e => .inr e)
            go_roundg (gko - 1)
            case measure => omega
            case rel => exact ⟨i + 1, ga, gc, by omega, by omega, by go_num, by rw [hl2], na2, HU2.out.then u3 (fun j hj q => by
              have := HNA.out.o j ((own_slice oa _ _ _ _).trans q)
              omega)⟩
        | false =>
          by_cases hkn : k < n
          · have k1 : (k : Int) < (n : Int) := by omega
            have k0 : (0 : Int) ≤ (k : Int) := by omega
            have HA2 := HHAS.out wr (k : Int) (HU1.out.then HU2.out (fun _ _ => id))
            obtain ⟨sg, so, sc, rg, ro, rc, hv, hff, sgl, rgl, s0, r1, -⟩ := (MatAt.quiet HMM.out HU2.out).at hkn hlt
            simp only [Value.slice.injEq] at hv
            obtain ⟨rfl, -, rfl⟩ := hv
            have hs2 : (a || (List.range (k + 1)).any (fun k => decide ((k : Int) ∈ fr) && C k i)) = (decide ((k : Int) ∈ fr) && C k i) := by
              rw [List.range_succ, List.any_append, ← Bool.or_assoc, hs]
              simp
            obtain ⟨h, hh⟩ : ∃ h, decide ((k : Int) ∈ fr) = h := ⟨_, rfl⟩
            obtain ⟨c, hc⟩ : ∃ c, C k i = c := ⟨_, rfl⟩
            rw [hh] at HA2 hs2
            rw [hc] at r1 hs2
            have HHA2 := hide HA2
            have HS2 := hide hs2
            clear hs HA2 hs2 hh hc hff
            cases h with
            | false =>
              go_wp2_with (go_at_call 34; go_loud (refine Calls.mono HHA2.out ?_); rintro e w9 ⟨rfl, hw9⟩; obtain rfl := hw9.symm; clear hw9)
              go_roundg (gk - 1)
              case measure => omega
              case rel => exact ⟨k + 1, false, by omega, by omega, by go_num, rfl, HS2.out, rfl⟩
            | true =>
              cases c with
              | false =>
                go_wp2_with (go_at_call 34; go_loud (refine Calls.mono HHA2.out ?_); rintro e w9 ⟨rfl, hw9⟩; obtain rfl := hw9.symm; clear hw9)
                go_roundg (gk - 1)
                case measure => omega
                case rel => exact ⟨k + 1, false, by omega, by omega, by go_num, rfl, HS2.out, rfl⟩
              | true =>
                go_wp2_with (go_at_call 34; go_loud (refine Calls.mono HHA2.out ?_); rintro e w9 ⟨rfl, hw9⟩; obtain rfl := hw9.symm; clear hw9)
                go_roundg (gk - 1)
                case measure => omega
                case rel => exact ⟨k + 1, true, by omega, by omega, by go_num, rfl, HS2.out, rfl⟩
          · have k1 : ¬ (k : Int) < (n : Int) := by omega
            have hkn2 : k = n := by omega
            have hfi : f i = false := by
              rw [HFI.out, ← hkn2]
              exact hs
            have HB := hide hfi
            clear hs hfi hkn2
            go_wp2_with fail
            have hs := rowE_succ i f
            rw [HB.out] at hs
            simp only [Bool.false_eq_true, if_false] at hs
            go_roundg (gko - 1)
            case measure => omega
            case rel => exact ⟨i + 1, oa, oc, by omega, by omega, by go_num, by rw [hs, HM.out], by rw [hs]; exact HNA.out, HU2.out⟩
    · have i1 : ¬ (i : Int) < (n : Int) := by omega
      have hin2 : i = n := by omega
      subst hin2
      have HNA := hide na
      have HU2 := hide u2
      clear na u2 hr2
      go_wp2_with fail
      go_ret
      have h1 : NatAt w.heap.size wr oa oc (rowE i f) := ⟨HNA.out.r, fun k q => Nat.le_trans HU1.out.size (HNA.out.o k q)⟩
      exact h1.res (HU1.out.then HU2.out (fun _ _ => id))
set_option maxHeartbeats 3200000 in
theorem RreachB_any {bs : Nat} {w : World} {rb n : Nat} {v : Value} {fv : Nat → Value} {E : Nat → Nat → Bool} (hr : RgAt bs w rb n v fv E) (hn : n ≤ 4096) (fa : Option Addr) (fc : Nat) (fr : List Int) (hf : RdI w fa fr) (hl : fr.length ≤ 9223372036854775807) :
    Calls Try.prog 18 #[.pointer (some ⟨rb, 0, none⟩), .slice fa fr.length fc, .bool true] w (NatRes w (rowE n (reachB n (fun k i => wrun E n i k) (fun k => decide ((k : Int) ∈ fr))))) := by
  have CL := Closure_any hr hn
  obtain ⟨i0, hi, hz0, hz1, hz2⟩ := info_parts infoI
  obtain ⟨C, hC⟩ : ∃ C, wrun E n = C := ⟨_, rfl⟩
  rw [hC] at CL ⊢
  obtain ⟨f, hf0⟩ : ∃ f, reachB n (fun k i => C i k) (fun k => decide ((k : Int) ∈ fr)) = f := ⟨_, rfl⟩
  have hf1 : ∀ i, f i = (decide ((i : Int) ∈ fr) || (List.range n).any (fun k => decide ((k : Int) ∈ fr) && C i k)) := fun i => by rw [← hf0]; rfl
  rw [hf0]
  obtain ⟨N, hN⟩ : ∃ N, fr.length = N := ⟨_, rfl⟩
  have HAS : ∀ (W : World) (z : Int), Upd w W (fun _ => False) → Calls Try.prog 34 #[.slice fa N fc, .int .i64 z] W fun e w' => e = .returned (.bool (decide (z ∈ fr))) ∧ w' = W := fun W z u => by
    rw [← hN]
    exact Rhas_any W fa fc fr (hf.upd u) hl z
  rw [hN]
  have HR := hide hr
  have HF1 := hide hf1
  have HHAS := hide HAS
  clear hr hC hf0 hf1 hf hl HAS hN
  go_enter Try.func18, Try.ntmps18
  go_wp2_with (go_at_call 30; go_loud (refine Calls.mono CL ?_); rintro e w1 ⟨ca, cc, fm, rfl, hm, u1⟩)
  have HMM := hide hm
  have HU1 := hide u1
  clear hm u1 CL
  go_loopg [8, 9] (n + 1) (fun q ov iv wr => ∃ i oa oc, i ≤ n ∧ n - i < q ∧ iv = .int .i64 (i : Nat) ∧ ov = .slice oa (rowE i f).length oc ∧ NatAt w1.heap.size wr oa oc (rowE i f) ∧ Upd w1 wr (fun _ => False))
  case atStart => exact ⟨0, none, 0, by omega, by omega, rfl, rfl, NatAt.nil _ _, Upd.refl _ _⟩
  case round =>
    obtain ⟨i, oa, oc, hin, hq, rfl, rfl, na, u2⟩ := hrel
    have hr2 := HR.out.quiet (HU1.out.then u2 (fun _ _ => id))
    obtain ⟨d0, d1⟩ := cells2 hr2.c
    have lb := lt_at hr2.c
    by_cases hlt : i < n
    · have i1 : (i : Int) < (n : Int) := by omega
      have i0' : (0 : Int) ≤ (i : Int) := by omega
      have HA := HHAS.out wr (i : Int) (HU1.out.then u2 (fun _ _ => id))
      obtain ⟨a, ha⟩ : ∃ a, decide ((i : Int) ∈ fr) = a := ⟨_, rfl⟩
      have hfi := HF1.out i
      rw [ha] at HA hfi
      have HHA := hide HA
      have HFI := hide hfi
      have hle := rowE_len i f
      have hsz := u2.size
      have nr := na.r
      obtain ⟨m, hm⟩ : ∃ m, (rowE i f).length = m := ⟨_, rfl⟩
      rw [hm] at hle nr ⊢
      have HNR := hide nr
      have HNA := hide na
      have HU2 := hide u2
      have HM := hide hm
      clear na u2 hm nr hr2 HA hfi ha
      go_wp2_with (go_at_call 34; go_loud (refine Calls.mono HHA.out ?_); rintro e w9 ⟨rfl, hw9⟩; obtain rfl := hw9.symm; clear hw9)
      obtain ⟨gko, hgko⟩ : ∃ x, x = gk := ⟨_, rfl⟩
      rw [← hgko] at hq
      go_loopg [10, 11] (n + 1) (fun q sv kv wx => ∃ k s, k ≤ n ∧ n - k < q ∧ kv = .int .i64 (k : Nat) ∧ sv = .bool s ∧ (a || (List.range k).any (fun k => decide ((k : Int) ∈ fr) && C i k)) = s ∧ wx = wr)
      case atStart => exact ⟨0, a, by omega, by omega, rfl, rfl, by simp, rfl⟩
      case round =>
        obtain ⟨k, s, hk, hq2, rfl, rfl, hs, rfl⟩ := hrel
        cases s with
        | true =>
          have hfi : f i = true := by
            rw [HFI.out]
            have : (a || (List.range n).any (fun k => decide ((k : Int) ∈ fr) && C i k)) = true := by
              rw [Bool.or_eq_true] at hs ⊢
              refine hs.imp id (fun q => ?_)
              rw [List.any_eq_true] at q ⊢
              obtain ⟨x, hx, hy⟩ := q
              exact ⟨x, List.mem_range.2 (by have := List.mem_range.1 hx; omega), hy⟩
            exact this
          have HB := hide hfi
          clear hs hfi
          by_cases hkn : k < n
          · have k1 : (k : Int) < (n : Int) := by omega
            go_wp2_with (at_builtin; go_loud (refine wpList_append_rw _ rfl _ _ 29 29 rfl 3 _ i0 _ 1 8 Try.underlying29 Try.underlying29 (by simp) hi hz0 hz1 hz2 rfl _ m _ rfl (HNR.out.alloc _) _ 1 [.int .i64 (i : Int)] rfl (Rw.made wr #[.int .i64 (i : Int)] 3 1 1 rfl).src rfl (by simp [Value.oneCell']) (by omega) (by omega) ?_); intro ga gc w4 hv' hg4 hob')
            have na2 := (HNA.out.upd ((Upd.refl wr (fun _ => False)).alloc (.cells #[.int .i64 (i : Int)] 3)) (fun _ _ => id)).snoc HM.out (by simp; omega) hv' hob'
            have hs := rowE_succ i f
            rw [HB.out] at hs
            simp only [if_true] at hs
            rw [← hs] at na2
            have hl2 : (rowE (i + 1) f).length = m + 1 := by rw [hs]; simp [HM.out]
            have u3 : Upd wr w4 (fun j => (Value.slice oa m oc).ownBlock = some j) := ((Upd.refl wr _).alloc _).grown hg4 (fun k e => .inr e)
            go_roundg (gko - 1)
            case measure => omega
            case rel => exact ⟨i + 1, ga, gc, by omega, by omega, by go_num, by rw [hl2], na2, HU2.out.then u3 (fun j hj q => by
              have := HNA.out.o j ((own_slice oa _ _ _ _).trans q)
              omega)⟩
          · have k1 : ¬ (k : Int) < (n : Int) := by omega
            go_wp2_with (at_builtin; go_loud (refine wpList_append_rw _ rfl _ _ 29 29 rfl 3 _ i0 _ 1 8 Try.underlying29 Try.underlying29 (by simp) hi hz0 hz1 hz2 rfl _ m _ rfl (HNR.out.alloc _) _ 1 [.int .i64 (i : Int)] rfl (Rw.made wr #[.int .i64 (i : Int)] 3 1 1 rfl).src rfl (by simp [Value.oneCell']) (by omega) (by omega) ?_); intro ga gc w4 hv' hg4 hob')
            have na2 := (HNA.out.upd ((Upd.refl wr (fun _ => False)).alloc (.cells #[.int .i64 (i : Int)] 3)) (fun _ _ => id)).snoc HM.out (by simp; omega) hv' hob'
            have hs := rowE_succ i f
            rw [HB.out] at hs
            simp only [if_true] at hs
            rw [← hs] at na2
            have hl2 : (rowE (i + 1) f).length = m + 1 := by rw [hs]; simp [HM.out]
            have u3 : Upd wr w4 (fun j => (Value.slice oa m oc).ownBlock = some j) := ((Upd.refl wr _).alloc _).grown hg4 (fun k e => .inr e)
            go_roundg (gko - 1)
            case measure => omega
            case rel => exact ⟨i + 1, ga, gc, by omega, by omega, by go_num, by rw [hl2], na2, HU2.out.then u3 (fun j hj q => by
              have := HNA.out.o j ((own_slice oa _ _ _ _).trans q)
              omega)⟩
        | false =>
          by_cases hkn : k < n
          · have k1 : (k : Int) < (n : Int) := by omega
            have k0 : (0 : Int) ≤ (k : Int) := by omega
            have HA2 := HHAS.out wr (k : Int) (HU1.out.then HU2.out (fun _ _ => id))
            obtain ⟨sg, so, sc, rg, ro, rc, hv, hff, sgl, rgl, s0, r1, -⟩ := (MatAt.quiet HMM.out HU2.out).at hlt hkn
            simp only [Value.slice.injEq] at hv
            obtain ⟨rfl, -, rfl⟩ := hv
            have hs2 : (a || (List.range (k + 1)).any (fun k => decide ((k : Int) ∈ fr) && C i k)) = (decide ((k : Int) ∈ fr) && C i k) := by
              rw [List.range_succ, List.any_append, ← Bool.or_assoc, hs]
              simp
            obtain ⟨h, hh⟩ : ∃ h, decide ((k : Int) ∈ fr) = h := ⟨_, rfl⟩
            obtain ⟨c, hc⟩ : ∃ c, C i k = c := ⟨_, rfl⟩
            rw [hh] at HA2 hs2
            rw [hc] at r1 hs2
            have HHA2 := hide HA2
            have HS2 := hide hs2
            clear hs HA2 hs2 hh hc hff
            cases h with
            | false =>
              go_wp2_with (go_at_call 34; go_loud (refine Calls.mono HHA2.out ?_); rintro e w9 ⟨rfl, hw9⟩; obtain rfl := hw9.symm; clear hw9)
              go_roundg (gk - 1)
              case measure => omega
              case rel => exact ⟨k + 1, false, by omega, by omega, by go_num, rfl, HS2.out, rfl⟩
            | true =>
              cases c with
              | false =>
                go_wp2_with (go_at_call 34; go_loud (refine Calls.mono HHA2.out ?_); rintro e w9 ⟨rfl, hw9⟩; obtain rfl := hw9.symm; clear hw9)
                go_roundg (gk - 1)
                case measure => omega
                case rel => exact ⟨k + 1, false, by omega, by omega, by go_num, rfl, HS2.out, rfl⟩
              | true =>
                go_wp2_with (go_at_call 34; go_loud (refine Calls.mono HHA2.out ?_); rintro e w9 ⟨rfl, hw9⟩; obtain rfl := hw9.symm; clear hw9)
                go_roundg (gk - 1)
                case measure => omega
                case rel => exact ⟨k + 1, true, by omega, by omega, by go_num, rfl, HS2.out, rfl⟩
          · have k1 : ¬ (k : Int) < (n : Int) := by omega
            have hkn2 : k = n := by omega
            have hfi : f i = false := by
              rw [HFI.out, ← hkn2]
              exact hs
            have HB := hide hfi
            clear hs hfi hkn2
            go_wp2_with fail
            have hs := rowE_succ i f
            rw [HB.out] at hs
            simp only [Bool.false_eq_true, if_false] at hs
            go_roundg (gko - 1)
            case measure => omega
            case rel => exact ⟨i + 1, oa, oc, by omega, by omega, by go_num, by rw [hs, HM.out], by rw [hs]; exact HNA.out, HU2.out⟩
    · have i1 : ¬ (i : Int) < (n : Int) := by omega
      have hin2 : i = n := by omega
      subst hin2
      have HNA := hide na
      have HU2 := hide u2
      clear na u2 hr2
      go_wp2_with fail
      go_ret
      have h1 : NatAt w.heap.size wr oa oc (rowE i f) := ⟨HNA.out.r, fun k q => Nat.le_trans HU1.out.size (HNA.out.o k q)⟩
      exact h1.res (HU1.out.then HU2.out (fun _ _ => id))
end Go.Proofs.Ytnhggncpebifhaa
