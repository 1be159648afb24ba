/- The reference's Parts, Cycles, Reads. -/
import Derived.Test.YtnhggncpebifhaaGsB
set_option maxRecDepth 100000
namespace Go.Proofs.Ytnhggncpebifhaa
open Go.RowKit Go.Lat Go.Tarjan

theorem find_succ (p : Nat → Bool) (k : Nat) : (List.range (k + 1)).find? p = ((List.range k).find? p).or (if p k then some k else none) := by
  rw [List.range_succ, List.find?_append]
  congr 1
  simp only [List.find?_cons, List.find?_nil]
  cases p k <;> rfl
theorem NatAt.res0 {w0 w : World} {a : Option Addr} {c : Nat} {l l2 : List Nat} (h : NatAt w0.heap.size w a c l) (u : Upd w0 w (fun _ => False)) (e : l = l2) : NatRes w0 l2 (.returned (.slice a l.length c)) w := by
  subst e
  exact h.res u
theorem map_succ (i : Nat) (f : Nat → Nat) : (List.range (i + 1)).map f = (List.range i).map f ++ [f i] := by
  rw [List.range_succ, List.map_append]
  rfl
set_option maxHeartbeats 3200000 in
theorem Rparts_any {bs : Nat} {w : World} {rb n : Nat} {v : Value} {fr : Nat → Value} {E : Nat → Nat → Bool} (hr : RgAt bs w rb n v fr E) (hn : n ≤ 4096) :
    Calls Try.prog 14 #[.pointer (some ⟨rb, 0, none⟩)] w (NatRes w ((List.range n).map (partF (wrun E n)))) := by
  have CL := Closure_any hr hn
  obtain ⟨i0, hi, hz0, hz1, hz2⟩ := info_parts infoI
  obtain ⟨C, hC⟩ : ∃ C, wrun E n = C := ⟨_, rfl⟩
  rw [hC] at CL ⊢
  have HR := hide hr
  clear hr hC
  go_enter Try.func14, Try.ntmps14
  go_wp2_with (go_at_call 30; go_loud (refine Calls.mono CL ?_); rintro e w1 ⟨ca, cc, f, rfl, hm, u1⟩)
  have HM := hide hm
  have HU1 := hide u1
  clear hm u1 CL
  go_loopg [4, 5] (n + 1) (fun q ov iv wr => ∃ i oa oc, i ≤ n ∧ n - i < q ∧ iv = .int .i64 (i : Nat) ∧ ov = .slice oa i oc ∧ NatAt w1.heap.size wr oa oc ((List.range i).map (partF C)) ∧ Upd w1 wr (fun _ => False))
  case atStart => exact ⟨0, none, 0, by omega, by omega, rfl, rfl, NatAt.nil _ _, Upd.refl _ _⟩
  case round =>
    obtain ⟨i, oa, oc, hin, hq, rfl, rfl, na, u2⟩ := hrel
    have hr2 := HR.out.quiet (HU1.out.then u2 (fun _ _ => id))
    obtain ⟨d0, d1⟩ := cells2 hr2.c
    have lb := lt_at hr2.c
    by_cases hlt : i < n
    · have i1 : (i : Int) < (n : Int) := by omega
      have i0' : (0 : Int) ≤ (i : Int) := by omega
      have HNA := hide na
      have HU2 := hide u2
      clear na u2 hr2
      go_wp2_with fail
      clear d0 d1 lb
      obtain ⟨gko, hgko⟩ : ∃ x, x = gk := ⟨_, rfl⟩
      rw [← hgko] at hq
      go_loopg [6, 7] (i + 1) (fun q lv kv wx => ∃ k, k ≤ i ∧ i - k < q ∧ kv = .int .i64 (k : Nat) ∧ lv = .int .i64 ((((List.range k).find? (fun k => C i k && C k i)).getD i : Nat) : Int) ∧ wx = wr)
      case atStart => exact ⟨0, by omega, by omega, rfl, rfl, rfl⟩
      case round =>
        obtain ⟨k, hk, hq2, rfl, rfl, rfl⟩ := hrel
        by_cases hki : k < i
        · have k1 : (k : Int) < (i : Int) := by omega
          have k0 : (0 : Int) ≤ (k : Int) := by omega
          have k1' : (k : Int) < (n : Int) := by omega
          have hm3 := MatAt.quiet HM.out HU2.out
          obtain ⟨sg, so, sc, rg, ro, rc, hv, hf, sgl, rgl, s0, r1, -⟩ := hm3.at hlt (by omega : k < n)
          obtain ⟨sg2, so2, sc2, rg2, ro2, rc2, hv2, hf2, sgl2, rgl2, s02, r12, -⟩ := hm3.at (by omega : k < n) hlt
          simp only [Value.slice.injEq] at hv
          obtain ⟨rfl, -, rfl⟩ := hv
          simp only [Value.slice.injEq, Option.some.injEq, Addr.mk.injEq] at hv2
          obtain ⟨⟨rfl, rfl, -⟩, -, rfl⟩ := hv2
          have fs := find_succ (fun k => C i k && C k i) k
          obtain ⟨a, ha⟩ : ∃ a, C i k = a := ⟨_, rfl⟩
          obtain ⟨b, hb⟩ : ∃ b, C k i = b := ⟨_, rfl⟩
          simp only [ha, hb] at fs
          rw [ha] at r1
          rw [hb] at r12
          have hfd : ∀ x, (List.range k).find? (fun k => C i k && C k i) = some x → x < k := fun x hx => (find_min hx).1
          have HFS := hide fs
          clear hm3 hf hf2 ha hb fs
          cases hfo : (List.range k).find? (fun k => C i k && C k i) with
          | some x =>
            have hxk := hfd x hfo
            have hb2 : ((x : Int) == (i : Int)) = false := by simp; omega
            have HFO := hide hfo
            simp only [Option.getD_some]
            clear hfo hfd
            have fin : (List.range (k + 1)).find? (fun k => C i k && C k i) = some x := by rw [HFS.out, HFO.out]; rfl
            have FIN := hide fin
            clear fin
            cases a with
            | false =>
              go_wp2_with fail
              go_roundg (gk - 1)
              case measure => omega
              case rel => exact ⟨k + 1, by omega, by omega, by go_num, by rw [FIN.out]; rfl, rfl⟩
            | true =>
              cases b with
              | false =>
                go_wp2_with fail
                go_roundg (gk - 1)
                case measure => omega
                case rel => exact ⟨k + 1, by omega, by omega, by go_num, by rw [FIN.out]; rfl, rfl⟩
              | true =>
                go_wp2_with fail
                go_roundg (gk - 1)
                case measure => omega
                case rel => exact ⟨k + 1, by omega, by omega, by go_num, by rw [FIN.out]; rfl, rfl⟩
          | none =>
            have HFO := hide hfo
            simp only [Option.getD_none]
            have fin : (List.range (k + 1)).find? (fun k => C i k && C k i) = if (a && b) = true then some k else none := by rw [HFS.out, HFO.out]; rfl
            have FIN := hide fin
            clear hfo hfd fin
            cases a with
            | false =>
              go_wp2_with fail
              go_roundg (gk - 1)
              case measure => omega
              case rel => exact ⟨k + 1, by omega, by omega, by go_num, by rw [FIN.out]; rfl, rfl⟩
            | true =>
              cases b with
              | false =>
                go_wp2_with fail
                go_roundg (gk - 1)
                case measure => omega
                case rel => exact ⟨k + 1, by omega, by omega, by go_num, by rw [FIN.out]; rfl, rfl⟩
              | true =>
                go_wp2_with fail
                go_roundg (gk - 1)
                case measure => omega
                case rel => exact ⟨k + 1, by omega, by omega, by go_num, by rw [FIN.out]; rfl, rfl⟩
        · have k1 : ¬ (k : Int) < (i : Int) := by omega
          have hki2 : k = i := by omega
          subst hki2
          obtain ⟨pi, hpi⟩ : ∃ p, partF C k = p := ⟨_, rfl⟩
          have hpi2 : ((List.range k).find? (fun x => C k x && C x k)).getD k = pi := hpi
          rw [hpi2]
          have hlen : ((List.range k).map (partF C)).length = k := by simp
          have hnr := HNA.out.r
          rw [hlen] at hnr
          have hk6 : k ≤ 4096 := by omega
          have hbw : w1.heap.size ≤ wr.heap.size := HU2.out.size
          have HNR := hide hnr
          have HPI := hide hpi
          have HLEN := hide hlen
          clear hnr hpi hpi2 hlen
          go_wp2_with (at_builtin; go_loud (refine wpList_append_rw _ rfl _ _ 29 29 rfl 3 _ i0 _ 1 8 Try.underlying29 Try.underlying29 (by simp) hi hz0 hz1 hz2 rfl _ k _ rfl (HNR.out.alloc _) _ 1 [.int .i64 (pi : Int)] rfl (Rw.made wr #[.int .i64 (pi : Int)] 3 1 1 rfl).src rfl (by simp [Value.oneCell']) (by omega) (by omega) ?_); intro ga gc w4 hv' hg4 hob')
          have na2 := (HNA.out.upd ((Upd.refl wr (fun _ => False)).alloc (.cells #[.int .i64 (pi : Int)] 3)) (fun _ _ => id)).snoc HLEN.out (by simp; omega) hv' hob'
          rw [← HPI.out, ← map_succ] at na2
          have u3 : Upd wr w4 (fun j => (Value.slice oa k oc).ownBlock = some j) := ((Upd.refl wr _).alloc _).grown hg4 (fun k e => .inr e)
          go_roundg (gko - 1)
          case measure => omega
          case rel => exact ⟨k + 1, ga, gc, by omega, by omega, by go_num, rfl, na2, HU2.out.then u3 (fun j hj q => by
            have := HNA.out.o j ((own_slice oa _ _ _ _).trans q)
            omega)⟩
    · have i1 : ¬ (i : Int) < (n : Int) := by omega
      have hin2 : i = n := by omega
      have hlen : ((List.range i).map (partF C)).length = i := by simp
      have HNA := hide na
      have HU2 := hide u2
      have HLEN := hide hlen
      clear na u2 hr2 hlen
      go_wp2_with fail
      go_ret
      subst hin2
      have h1 : NatAt w.heap.size wr oa oc ((List.range i).map (partF C)) := ⟨HNA.out.r, fun k q => Nat.le_trans HU1.out.size (HNA.out.o k q)⟩
      have q := h1.res (HU1.out.then HU2.out (fun _ _ => id))
      rw [HLEN.out] at q
      exact q
end Go.Proofs.Ytnhggncpebifhaa
