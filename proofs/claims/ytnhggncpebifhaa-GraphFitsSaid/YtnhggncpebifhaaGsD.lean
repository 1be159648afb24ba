/- The reference's Cycles, Reads, Reach. -/
import Derived.Test.YtnhggncpebifhaaGsC
set_option maxRecDepth 100000
namespace Go.Proofs.Ytnhggncpebifhaa
open Go.RowKit Go.Lat Go.Tarjan

set_option maxHeartbeats 1600000 in
theorem Rcycles_any {bs : Nat} {w : World} {rb n : Nat} {v : Value} {fr : Nat → Value} {E : Nat → Nat → Bool} (hr : RgAt bs w rb n v fr E) (hn : n ≤ 4096) :
    Calls Try.prog 16 #[.pointer (some ⟨rb, 0, none⟩)] w (NatRes w (rowE n (fun i => wrun E n i i))) := by
  have CL := Closure_any hr hn
  obtain ⟨i0, hi, hz0, hz1, hz2⟩ := info_parts infoI
  obtain ⟨C, hC⟩ : ∃ C, wrun E n = C := ⟨_, rfl⟩
  rw [hC] at CL ⊢
  obtain ⟨f, hf0⟩ : ∃ f, (fun i => C i i) = f := ⟨_, rfl⟩
  have hf1 : ∀ i, C i i = f i := fun i => by rw [← hf0]
  rw [hf0]
  have HR := hide hr
  have HF1 := hide hf1
  clear hr hC hf0 hf1
  go_enter Try.func16, Try.ntmps16
  go_wp2_with (go_at_call 30; go_loud (refine Calls.mono CL ?_); rintro e w1 ⟨ca, cc, fv, rfl, hm, u1⟩)
  have HMM := hide hm
  have HU1 := hide u1
  clear hm u1 CL
  go_loopg [4, 5] (n + 1) (fun q ov iv wr => ∃ i oa oc, i ≤ n ∧ n - i < q ∧ iv = .int .i64 (i : Nat) ∧ ov = .slice oa (rowE i f).length oc ∧ NatAt w1.heap.size wr oa oc (rowE i f) ∧ Upd w1 wr (fun _ => False))
  case atStart => exact ⟨0, none, 0, by omega, by omega, rfl, rfl, NatAt.nil _ _, Upd.refl _ _⟩
  case round =>
    obtain ⟨i, oa, oc, hin, hq, rfl, rfl, na, u2⟩ := hrel
    have hr2 := HR.out.quiet (HU1.out.then u2 (fun _ _ => id))
    obtain ⟨d0, d1⟩ := cells2 hr2.c
    have lb := lt_at hr2.c
    by_cases hlt : i < n
    · have i1 : (i : Int) < (n : Int) := by omega
      have i0' : (0 : Int) ≤ (i : Int) := by omega
      obtain ⟨sg, so, sc, rg, ro, rc, hv, hf, sgl, rgl, s0, r1, -⟩ := (MatAt.quiet HMM.out u2).at hlt hlt
      simp only [Value.slice.injEq] at hv
      obtain ⟨rfl, -, rfl⟩ := hv
      rw [HF1.out] at r1
      obtain ⟨b, hb⟩ : ∃ b, f i = b := ⟨_, rfl⟩
      rw [hb] at r1
      have HB := hide hb
      have hle := rowE_len i f
      have hsz := u2.size
      have nr := na.r
      obtain ⟨m, hm⟩ : ∃ m, (rowE i f).length = m := ⟨_, rfl⟩
      rw [hm] at hle nr ⊢
      have HNR := hide nr
      have HNA := hide na
      have HU2 := hide u2
      have HM := hide hm
      clear na u2 hm nr
      clear hr2 hf hb
      cases b with
      | true =>
        go_wp2_with (at_builtin; go_loud (refine wpList_append_rw _ rfl _ _ 29 29 rfl 3 _ i0 _ 1 8 Try.underlying29 Try.underlying29 (by simp) hi hz0 hz1 hz2 rfl _ m _ rfl (HNR.out.alloc _) _ 1 [.int .i64 (i : Int)] rfl (Rw.made wr #[.int .i64 (i : Int)] 3 1 1 rfl).src rfl (by simp [Value.oneCell']) (by omega) (by omega) ?_); intro ga gc w4 hv' hg4 hob')
        have na2 := (HNA.out.upd ((Upd.refl wr (fun _ => False)).alloc (.cells #[.int .i64 (i : Int)] 3)) (fun _ _ => id)).snoc HM.out (by simp; omega) hv' hob'
        have hs := rowE_succ i f
        rw [HB.out] at hs
        simp only [if_true] at hs
        rw [← hs] at na2
        have hl2 : (rowE (i + 1) f).length = m + 1 := by rw [hs]; simp [HM.out]
        have u3 : Upd wr w4 (fun j => (Value.slice oa m oc).ownBlock = some j) := ((Upd.refl wr _).alloc _).grown hg4 (fun k e => .inr e)
        go_roundg (gk - 1)
        case measure => omega
        case rel => exact ⟨i + 1, ga, gc, by omega, by omega, by go_num, by rw [hl2], na2, HU2.out.then u3 (fun j hj q => by
          have := HNA.out.o j ((own_slice oa _ _ _ _).trans q)
          omega)⟩
      | false =>
        go_wp2_with fail
        have hs := rowE_succ i f
        rw [HB.out] at hs
        simp only [Bool.false_eq_true, if_false] at hs
        go_roundg (gk - 1)
        case measure => omega
        case rel => exact ⟨i + 1, oa, oc, by omega, by omega, by go_num, by rw [hs, HM.out], by rw [hs]; exact HNA.out, HU2.out⟩
    · have i1 : ¬ (i : Int) < (n : Int) := by omega
      have hin2 : i = n := by omega
      subst hin2
      have HNA := hide na
      have HU2 := hide u2
      clear na u2 hr2
      go_wp2_with fail
      go_ret
      have h1 : NatAt w.heap.size wr oa oc (rowE i f) := ⟨HNA.out.r, fun k q => Nat.le_trans HU1.out.size (HNA.out.o k q)⟩
      exact h1.res (HU1.out.then HU2.out (fun _ _ => id))
set_option maxHeartbeats 1600000 in
theorem RreadsF_any {bs : Nat} {w : World} {rb n : Nat} {v : Value} {fr : Nat → Value} {E : Nat → Nat → Bool} (hr : RgAt bs w rb n v fr E) (hn : n ≤ 4096) (z : Nat) (hz : z < n) :
    Calls Try.prog 26 #[.pointer (some ⟨rb, 0, none⟩), .int .i64 (z : Int), .bool false] w (NatRes w (rowE n (fun i => E z i))) := by
  obtain ⟨i0, hi, hz0, hz1, hz2⟩ := info_parts infoI
  obtain ⟨f, hf0⟩ : ∃ f, (fun i => E z i) = f := ⟨_, rfl⟩
  have hf1 : ∀ i, E z i = f i := fun i => by rw [← hf0]
  rw [hf0]
  have HR := hide hr
  have HF1 := hide hf1
  have z0 : (0 : Int) ≤ (z : Int) := by omega
  have z1 : (z : Int) < (n : Int) := by omega
  clear hr hf0 hf1
  go_enter Try.func26, Try.ntmps26
  go_wp2_with fail
  go_loopg [7, 8] (n + 1) (fun q ov iv wr => ∃ i oa oc, i ≤ n ∧ n - i < q ∧ iv = .int .i64 (i : Nat) ∧ ov = .slice oa (rowE i f).length oc ∧ NatAt w.heap.size wr oa oc (rowE i f) ∧ Upd w wr (fun _ => False))
  case atStart => exact ⟨0, none, 0, by omega, by omega, rfl, rfl, NatAt.nil _ _, Upd.refl _ _⟩
  case round =>
    obtain ⟨i, oa, oc, hin, hq, rfl, rfl, na, u2⟩ := hrel
    have hr2 := HR.out.quiet u2
    obtain ⟨d0, d1⟩ := cells2 hr2.c
    have lb := lt_at hr2.c
    by_cases hlt : i < n
    · have i1 : (i : Int) < (n : Int) := by omega
      have i0' : (0 : Int) ≤ (i : Int) := by omega
      obtain ⟨sg, so, sc, rg, ro, rc, hv, hf, sgl, rgl, s0, r1, -⟩ := hr2.m.at hz hlt
      rw [hv] at d1
      rw [HF1.out] at r1
      obtain ⟨b, hb⟩ : ∃ b, f i = b := ⟨_, rfl⟩
      rw [hb] at r1
      have HB := hide hb
      have hle := rowE_len i f
      have hsz := u2.size
      have nr := na.r
      obtain ⟨m, hm⟩ : ∃ m, (rowE i f).length = m := ⟨_, rfl⟩
      rw [hm] at hle nr ⊢
      have HNR := hide nr
      have HNA := hide na
      have HU2 := hide u2
      have HM := hide hm
      clear na u2 hm nr
      clear hr2 hf hb hv
      cases b with
      | true =>
        go_wp2_with (at_builtin; go_loud (refine wpList_append_rw _ rfl _ _ 29 29 rfl 3 _ i0 _ 1 8 Try.underlying29 Try.underlying29 (by simp) hi hz0 hz1 hz2 rfl _ m _ rfl (HNR.out.alloc _) _ 1 [.int .i64 (i : Int)] rfl (Rw.made wr #[.int .i64 (i : Int)] 3 1 1 rfl).src rfl (by simp [Value.oneCell']) (by omega) (by omega) ?_); intro ga gc w4 hv' hg4 hob')
        have na2 := (HNA.out.upd ((Upd.refl wr (fun _ => False)).alloc (.cells #[.int .i64 (i : Int)] 3)) (fun _ _ => id)).snoc HM.out (by simp; omega) hv' hob'
        have hs := rowE_succ i f
        rw [HB.out] at hs
        simp only [if_true] at hs
        rw [← hs] at na2
        have hl2 : (rowE (i + 1) f).length = m + 1 := by rw [hs]; simp [HM.out]
        have u3 : Upd wr w4 (fun j => (Value.slice oa m oc).ownBlock = some j) := ((Upd.refl wr _).alloc _).grown hg4 (fun k e => .inr e)
        go_roundg (gk - 1)
        case measure => omega
        case rel => exact ⟨i + 1, ga, gc, by omega, by omega, by go_num, by rw [hl2], na2, HU2.out.then u3 (fun j hj q => by
          have := HNA.out.o j ((own_slice oa _ _ _ _).trans q)
          omega)⟩
      | false =>
        go_wp2_with fail
        have hs := rowE_succ i f
        rw [HB.out] at hs
        simp only [Bool.false_eq_true, if_false] at hs
        go_roundg (gk - 1)
        case measure => omega
        case rel => exact ⟨i + 1, oa, oc, by omega, by omega, by go_num, by rw [hs, HM.out], by rw [hs]; exact HNA.out, HU2.out⟩
    · have i1 : ¬ (i : Int) < (n : Int) := by omega
      have hin2 : i = n := by omega
      subst hin2
      have HNA := hide na
      have HU2 := hide u2
      clear na u2 hr2
      go_wp2_with fail
      go_ret
      exact HNA.out.res HU2.out
set_option maxHeartbeats 1600000 in
theorem RreadsB_any {bs : Nat} {w : World} {rb n : Nat} {v : Value} {fr : Nat → Value} {E : Nat → Nat → Bool} (hr : RgAt bs w rb n v fr E) (hn : n ≤ 4096) (z : Nat) (hz : z < n) :
    Calls Try.prog 26 #[.pointer (some ⟨rb, 0, none⟩), .int .i64 (z : Int), .bool true] w (NatRes w (rowE n (fun i => E i z))) := by
  obtain ⟨i0, hi, hz0, hz1, hz2⟩ := info_parts infoI
  obtain ⟨f, hf0⟩ : ∃ f, (fun i => E i z) = f := ⟨_, rfl⟩
  have hf1 : ∀ i, E i z = f i := fun i => by rw [← hf0]
  rw [hf0]
  have HR := hide hr
  have HF1 := hide hf1
  have z0 : (0 : Int) ≤ (z : Int) := by omega
  have z1 : (z : Int) < (n : Int) := by omega
  clear hr hf0 hf1
  go_enter Try.func26, Try.ntmps26
  go_wp2_with fail
  go_loopg [7, 8] (n + 1) (fun q ov iv wr => ∃ i oa oc, i ≤ n ∧ n - i < q ∧ iv = .int .i64 (i : Nat) ∧ ov = .slice oa (rowE i f).length oc ∧ NatAt w.heap.size wr oa oc (rowE i f) ∧ Upd w wr (fun _ => False))
  case atStart => exact ⟨0, none, 0, by omega, by omega, rfl, rfl, NatAt.nil _ _, Upd.refl _ _⟩
  case round =>
    obtain ⟨i, oa, oc, hin, hq, rfl, rfl, na, u2⟩ := hrel
    have hr2 := HR.out.quiet u2
    obtain ⟨d0, d1⟩ := cells2 hr2.c
    have lb := lt_at hr2.c
    by_cases hlt : i < n
    · have i1 : (i : Int) < (n : Int) := by omega
      have i0' : (0 : Int) ≤ (i : Int) := by omega
      obtain ⟨sg, so, sc, rg, ro, rc, hv, hf, sgl, rgl, s0, r1, -⟩ := hr2.m.at hlt hz
      rw [hv] at d1
      rw [HF1.out] at r1
      obtain ⟨b, hb⟩ : ∃ b, f i = b := ⟨_, rfl⟩
      rw [hb] at r1
      have HB := hide hb
      have hle := rowE_len i f
      have hsz := u2.size
      have nr := na.r
      obtain ⟨m, hm⟩ : ∃ m, (rowE i f).length = m := ⟨_, rfl⟩
      rw [hm] at hle nr ⊢
      have HNR := hide nr
      have HNA := hide na
      have HU2 := hide u2
      have HM := hide hm
      clear na u2 hm nr
      clear hr2 hf hb hv
      cases b with
      | true =>
        go_wp2_with (at_builtin; go_loud (refine wpList_append_rw _ rfl _ _ 29 29 rfl 3 _ i0 _ 1 8 Try.underlying29 Try.underlying29 (by simp) hi hz0 hz1 hz2 rfl _ m _ rfl (HNR.out.alloc _) _ 1 [.int .i64 (i : Int)] rfl (Rw.made wr #[.int .i64 (i : Int)] 3 1 1 rfl).src rfl (by simp [Value.oneCell']) (by omega) (by omega) ?_); intro ga gc w4 hv' hg4 hob')
        have na2 := (HNA.out.upd ((Upd.refl wr (fun _ => False)).alloc (.cells #[.int .i64 (i : Int)] 3)) (fun _ _ => id)).snoc HM.out (by simp; omega) hv' hob'
        have hs := rowE_succ i f
        rw [HB.out] at hs
        simp only [if_true] at hs
        rw [← hs] at na2
        have hl2 : (rowE (i + 1) f).length = m + 1 := by rw [hs]; simp [HM.out]
        have u3 : Upd wr w4 (fun j => (Value.slice oa m oc).ownBlock = some j) := ((Upd.refl wr _).alloc _).grown hg4 (fun k e => .inr e)
        go_roundg (gk - 1)
        case measure => omega
        case rel => exact ⟨i + 1, ga, gc, by omega, by omega, by go_num, by rw [hl2], na2, HU2.out.then u3 (fun j hj q => by
          have := HNA.out.o j ((own_slice oa _ _ _ _).trans q)
          omega)⟩
      | false =>
        go_wp2_with fail
        have hs := rowE_succ i f
        rw [HB.out] at hs
        simp only [Bool.false_eq_true, if_false] at hs
        go_roundg (gk - 1)
        case measure => omega
        case rel => exact ⟨i + 1, oa, oc, by omega, by omega, by go_num, by rw [hs, HM.out], by rw [hs]; exact HNA.out, HU2.out⟩
    · have i1 : ¬ (i : Int) < (n : Int) := by omega
      have hin2 : i = n := by omega
      subst hin2
      have HNA := hide na
      have HU2 := hide u2
      clear na u2 hr2
      go_wp2_with fail
      go_ret
      exact HNA.out.res HU2.out
theorem Rreads_no {bs : Nat} {w : World} {rb n : Nat} {v : Value} {fr : Nat → Value} {E : Nat → Nat → Bool} (hr : RgAt bs w rb n v fr E) (hn : n ≤ 4096) (z : Int) (hz : ¬ (0 ≤ z ∧ z < n)) (b : Bool) :
    Calls Try.prog 26 #[.pointer (some ⟨rb, 0, none⟩), .int .i64 z, .bool b] w fun e w' => e = .returned (.slice none 0 0) ∧ w' = w := by
  obtain ⟨d0, d1⟩ := cells2 hr.c
  have lb := lt_at hr.c
  clear hr
  go_enter Try.func26, Try.ntmps26
  go_wp2_with fail
  go_loopg [7, 8] 1 (fun q ov iv wx => 0 < q ∧ iv = .int .i64 0 ∧ ov = .slice none 0 0 ∧ wx = w)
  case atStart => exact ⟨by omega, rfl, rfl, rfl⟩
  case round =>
    obtain ⟨hq, rfl, rfl, rfl⟩ := hrel
    by_cases h0 : 0 < n
    · have h1 : (0 : Int) < (n : Int) := by omega
      by_cases h2 : 0 ≤ z
      · have h3 : ¬ z < (n : Int) := by omega
        go_wp2_with fail
        go_ret
        exact ⟨rfl, rfl⟩
      · go_wp2_with fail
        go_ret
        exact ⟨rfl, rfl⟩
    · have h1 : ¬ (0 : Int) < (n : Int) := by omega
      go_wp2_with fail
      go_ret
      exact ⟨rfl, rfl⟩
end Go.Proofs.Ytnhggncpebifhaa
