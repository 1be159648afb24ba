/- The walk of GraphLong. -/
import Derived.Test.YtnhggncpebifhaaGtE
set_option maxRecDepth 100000
namespace Go.Proofs.Ytnhggncpebifhaa
open Go.RowKit Go.Lat Go.Tarjan

theorem bounds_u16 {n : Int} (h : (Lit.int .u16 n).wf = true) : 0 ≤ n ∧ n ≤ 65535 := by
  simp [Lit.wf, IntKind.min, IntKind.max, IntKind.signed, IntKind.bits] at h
  omega
set_option maxHeartbeats 6400000 in
theorem GraphLong_walk (w : World) (x : Int) (hx : 0 ≤ x ∧ x ≤ 65535) (b : Bool) :
    Calls Try.prog 7 #[.int .u16 x, .bool b] w fun e w' => e = .returned (.bool true) ∧ Upd w w' (fun _ => False) := by
  obtain ⟨xn, rfl⟩ : ∃ m : Nat, x = m := ⟨x.toNat, by omega⟩
  obtain ⟨r, hr⟩ : ∃ r, xn % 4096 = r := ⟨_, rfl⟩
  have hr4 : r < 4096 := by omega
  have hwx : IntKind.i64.wrap (xn : Int) = (xn : Int) := IntWalk.i64_in _ (by omega)
  have hwx2 : wrap64 (xn : Int) = (xn : Int) := IntWalk.wrap64_in _ (by omega)
  have htm : Int.tmod (xn : Int) 4096 = (r : Int) := by
    rw [Int.tmod_eq_emod_of_nonneg (by omega)]
    omega
  obtain ⟨k, hk⟩ : ∃ k, r + 1 = k := ⟨_, rfl⟩
  have hwk : IntKind.i64.wrap (1 + (r : Int)) = (k : Int) := by rw [IntWalk.i64_in _ (by omega)]; omega
  have hwk1 : IntKind.i64.wrap ((k : Int) - 1) = (r : Int) := by rw [IntWalk.i64_in _ (by omega)]; omega
  have hwr : IntKind.i64.wrap (r : Int) = (r : Int) := IntWalk.i64_in _ (by omega)
  have NW := New_ok w k (by omega)
  have hk4 : k ≤ 4096 := by omega
  have HK := hide hk
  clear hr hx hk
  go_enter Try.func7, Try.ntmps7
  go_wp2_with (go_at_call 22; go_loud (refine Calls.mono NW ?_); rintro e w1 ⟨gb, mg, rfl, g1, o1, u1⟩; have HG1 := hide g1; have HO1 := hide o1; have HU1 := hide u1; clear g1 o1 u1)
  clear NW
  go_loopg [22] (r + 1) (fun q iv wr => ∃ i mg, i ≤ r ∧ r - i < q ∧ iv = .int .i64 (i : Nat) ∧ GrAt wr gb k mg (pathE i) (fun a b => pathE i b a) ∧ (∀ j, mg.own gb k j → w.heap.size ≤ j) ∧ Upd w wr (fun _ => False))
  case atStart => exact ⟨0, mg, by omega, by omega, rfl, by rw [pathE_zero]; exact HG1.out, HO1.out, HU1.out⟩
  case round =>
    obtain ⟨i, mg2, hi, hq, rfl, gr, ho, u⟩ := hrel
    by_cases hir : i < r
    · have i1 : (i : Int) < (r : Int) := by omega
      have i0 : (0 : Int) ≤ (i : Int) := by omega
      have hwi : IntKind.i64.wrap ((i : Int) + 1) = (i : Int) + 1 := IntWalk.i64_in _ (by omega)
      have EE := Edge_any gr i (i + 1) (by have := HK.out; omega) (by have := HK.out; omega)
      rw [show (((i + 1 : Nat) : Nat) : Int) = (i : Int) + 1 by omega] at EE
      have e1 : addE (fun a b => pathE i b a) (i + 1) i = fun x y => addE (pathE i) i (i + 1) y x := addE_flip2 (pathE i) i (i + 1)
      rw [e1, pathE_succ] at EE
      have HEE := hide EE
      have HO := hide ho
      have HU := hide u
      clear gr ho u EE e1
      go_wp2_with (go_at_call 23; go_loud (refine Calls.mono HEE.out ?_); rintro e w5 ⟨rfl, mg5, g5, o5, u5⟩)
      go_roundg (gk - 1)
      case measure => omega
      case rel => exact ⟨i + 1, mg5, by omega, by omega, by go_num, g5, fun j q => by
        rcases o5 j q with z | z
        · exact HO.out j z
        · exact Nat.le_trans HU.out.size z, HU.out.then u5 (fun j hj q => by have := HO.out j q; omega)⟩
    · have i1 : ¬ (i : Int) < (r : Int) := by omega
      have hir2 : i = k - 1 := by have := HK.out; omega
      rw [hir2] at gr
      have hkr := HK.out
      cases b with
      | false =>
        by_cases hr0 : r = 0
        · have hk1 : ((k : Int) == 1) = true := by simp; omega
          have hrb : ((r : Int) == 0) = true := by simp; omega
          have r0 : (0 : Int) ≤ (r : Int) := by omega
          have r1 : (r : Int) < (k : Int) := by omega
          have PA : Calls Try.prog 13 #[.pointer (some ⟨gb, 0, none⟩)] wr fun e w' => ∃ a c, e = .returned (.slice a k c) ∧ RdI w' a (((List.range k).map (partF (wrun (pathE (k - 1)) k))).map (fun (k : Nat) => (k : Int))) ∧ Upd wr w' (fun _ => False) := (Parts_any gr).mono fun e w' q => by
            obtain ⟨a, c, he, h1, h2⟩ := q.rd rfl
            rw [List.length_map, List.length_range] at he
            exact ⟨a, c, he, h1, h2⟩
          have hpv : (((List.range k).map (partF (wrun (pathE (k - 1)) k))).map (fun (k : Nat) => (k : Int)))[r]? = some (r : Int) := by
            rw [List.getElem?_map, List.getElem?_map, List.getElem?_range (by omega)]
            have e : ∀ j, j = k - 1 → partF (wrun (pathE (k - 1)) k) j = k - 1 := fun j hj => by
              rw [hj]
              exact path_part (k := k) (by omega)
            have this := (e r (by omega)).trans (by omega : k - 1 = r)
            show some ((partF (wrun (pathE (k - 1)) k) r : Nat) : Int) = _
            rw [this]
          have CY : ∀ {W : World} {mg : Gm} {D : Nat → Nat → Bool} (_ : GrAt W gb k mg (pathE (k - 1)) D), Calls Try.prog 15 #[.pointer (some ⟨gb, 0, none⟩)] W fun e w' => ∃ a c, e = .returned (.slice a 0 c) ∧ Upd W w' (fun _ => False) := fun h => (Cycles_any h).mono fun e w' q => by
            obtain ⟨a, c, he, _, h2⟩ := q.rd rfl
            rw [path_cycles] at he
            exact ⟨a, c, he, h2⟩
          have RE : ∀ {W : World} {mg : Gm} {D : Nat → Nat → Bool} (a : Option Addr) (_ : GrAt W gb k mg (pathE (k - 1)) D) (_ : RdI W a [0]), Calls Try.prog 17 #[.pointer (some ⟨gb, 0, none⟩), .slice a 1 1] W fun e w' => ∃ a c, e = .returned (.slice a k c) ∧ Upd W w' (fun _ => False) := fun a h hf => (Reach_any h a 1 [0] hf (by simp)).mono fun e w' q => by
            obtain ⟨a, c, he, _, h2⟩ := q.rd rfl
            rw [reach_zero (by omega) (fun i h => path_edge h)] at he
            exact ⟨a, c, he, h2⟩
          have DI : ∀ {W : World} {mg : Gm} (a : Option Addr) (_ : GrAt W gb k mg (pathE (k - 1)) (fun a b => (pathE (k - 1)) b a)) (_ : RdI W a [(r : Int)]), Calls Try.prog 19 #[.pointer (some ⟨gb, 0, none⟩), .slice a 1 1] W fun e w' => ∃ a c, e = .returned (.slice a k c) ∧ Upd W w' (fun _ => False) := fun a h hf => (Dirty_any h a 1 [(r : Int)] hf (by simp)).mono fun e w' q => by
            obtain ⟨a, c, he, _, h2⟩ := q.rd rfl
            rw [dirty_end (by omega) (fun i h => path_edge h) (by omega)] at he
            exact ⟨a, c, he, h2⟩
          have HG := hide gr
          have HU := hide u
          have HPV := hide hpv
          clear gr ho u hpv hir2 hkr hr0
          go_wp2_with (first
            | (go_at_call 13; go_loud (refine Calls.mono PA ?_); rintro e w2 ⟨a2, c2, rfl, r2, u2⟩; obtain ⟨pg, po, rfl, pgl, pc⟩ := r2 r _ HPV.out; have HU2 := hide u2; clear r2 u2)
            | (go_at_call 11; go_loud (refine Calls.mono (wakes_any _) ?_); rintro e w3 ⟨rfl, u⟩; have HU3 := hide (HU2.out.then u (fun _ _ => id)); have pc3 := (u.cell pg _ pgl id).trans pc; have pgl3 := Nat.lt_of_lt_of_le pgl u.size; clear u)
            | (go_at_call 15; go_loud (refine Calls.mono (CY (HG.out.upd HU3.out (fun _ _ => id))) ?_); rintro e w4 ⟨a4, c4, rfl, u⟩; have HU4 := hide (HU3.out.then u (fun _ _ => id)); have pc4 := (u.cell pg _ pgl3 id).trans pc3; have pgl4 := Nat.lt_of_lt_of_le pgl3 u.size; clear u)
            | (go_at_call 17; go_loud (refine Calls.mono (RE _ (HG.out.upd (HU4.out.alloc _) (fun _ _ => id)) (RdI_new1 w4 0 3)) ?_); rintro e w5 ⟨a5, c5, rfl, u⟩; have ux := ((Upd.refl w4 (fun _ => False)).alloc (.cells #[.int .i64 0] 3)).then u (fun _ _ => id); have HU5 := hide (HU4.out.then ux (fun _ _ => id)); have pc5 := (ux.cell pg _ pgl4 id).trans pc4; have pgl5 := Nat.lt_of_lt_of_le pgl4 ux.size; clear u ux)
            | (go_at_call 19; go_loud (refine Calls.mono (DI _ (HG.out.upd (HU5.out.alloc _) (fun _ _ => id)) (RdI_new1 w5 (r : Int) 3)) ?_); rintro e w6 ⟨a6, c6, rfl, u⟩; have ux := ((Upd.refl w5 (fun _ => False)).alloc (.cells #[.int .i64 (r : Int)] 3)).then u (fun _ _ => id); have HU6 := hide (HU5.out.then ux (fun _ _ => id)); have pc6 := (ux.cell pg _ pgl5 id).trans pc5; have pgl6 := Nat.lt_of_lt_of_le pgl5 ux.size; clear u ux))
          go_ret
          exact ⟨rfl, HU.out.then HU6.out (fun _ _ => id)⟩
        · have hk1 : ((k : Int) == 1) = false := by simp; omega
          have hrb : ((r : Int) == 0) = false := by simp; omega
          have r0 : (0 : Int) ≤ (r : Int) := by omega
          have r1 : (r : Int) < (k : Int) := by omega
          have PA : Calls Try.prog 13 #[.pointer (some ⟨gb, 0, none⟩)] wr fun e w' => ∃ a c, e = .returned (.slice a k c) ∧ RdI w' a (((List.range k).map (partF (wrun (pathE (k - 1)) k))).map (fun (k : Nat) => (k : Int))) ∧ Upd wr w' (fun _ => False) := (Parts_any gr).mono fun e w' q => by
            obtain ⟨a, c, he, h1, h2⟩ := q.rd rfl
            rw [List.length_map, List.length_range] at he
            exact ⟨a, c, he, h1, h2⟩
          have hpv : (((List.range k).map (partF (wrun (pathE (k - 1)) k))).map (fun (k : Nat) => (k : Int)))[r]? = some (r : Int) := by
            rw [List.getElem?_map, List.getElem?_map, List.getElem?_range (by omega)]
            have e : ∀ j, j = k - 1 → partF (wrun (pathE (k - 1)) k) j = k - 1 := fun j hj => by
              rw [hj]
              exact path_part (k := k) (by omega)
            have this := (e r (by omega)).trans (by omega : k - 1 = r)
            show some ((partF (wrun (pathE (k - 1)) k) r : Nat) : Int) = _
            rw [this]
          have CY : ∀ {W : World} {mg : Gm} {D : Nat → Nat → Bool} (_ : GrAt W gb k mg (pathE (k - 1)) D), Calls Try.prog 15 #[.pointer (some ⟨gb, 0, none⟩)] W fun e w' => ∃ a c, e = .returned (.slice a 0 c) ∧ Upd W w' (fun _ => False) := fun h => (Cycles_any h).mono fun e w' q => by
            obtain ⟨a, c, he, _, h2⟩ := q.rd rfl
            rw [path_cycles] at he
            exact ⟨a, c, he, h2⟩
          have RE : ∀ {W : World} {mg : Gm} {D : Nat → Nat → Bool} (a : Option Addr) (_ : GrAt W gb k mg (pathE (k - 1)) D) (_ : RdI W a [0]), Calls Try.prog 17 #[.pointer (some ⟨gb, 0, none⟩), .slice a 1 1] W fun e w' => ∃ a c, e = .returned (.slice a k c) ∧ Upd W w' (fun _ => False) := fun a h hf => (Reach_any h a 1 [0] hf (by simp)).mono fun e w' q => by
            obtain ⟨a, c, he, _, h2⟩ := q.rd rfl
            rw [reach_zero (by omega) (fun i h => path_edge h)] at he
            exact ⟨a, c, he, h2⟩
          have DI : ∀ {W : World} {mg : Gm} (a : Option Addr) (_ : GrAt W gb k mg (pathE (k - 1)) (fun a b => (pathE (k - 1)) b a)) (_ : RdI W a [(r : Int)]), Calls Try.prog 19 #[.pointer (some ⟨gb, 0, none⟩), .slice a 1 1] W fun e w' => ∃ a c, e = .returned (.slice a k c) ∧ Upd W w' (fun _ => False) := fun a h hf => (Dirty_any h a 1 [(r : Int)] hf (by simp)).mono fun e w' q => by
            obtain ⟨a, c, he, _, h2⟩ := q.rd rfl
            rw [dirty_end (by omega) (fun i h => path_edge h) (by omega)] at he
            exact ⟨a, c, he, h2⟩
          have HG := hide gr
          have HU := hide u
          have HPV := hide hpv
          clear gr ho u hpv hir2 hkr hr0
          go_wp2_with (first
            | (go_at_call 13; go_loud (refine Calls.mono PA ?_); rintro e w2 ⟨a2, c2, rfl, r2, u2⟩; obtain ⟨pg, po, rfl, pgl, pc⟩ := r2 r _ HPV.out; have HU2 := hide u2; clear r2 u2)
            | (go_at_call 11; go_loud (refine Calls.mono (wakes_any _) ?_); rintro e w3 ⟨rfl, u⟩; have HU3 := hide (HU2.out.then u (fun _ _ => id)); have pc3 := (u.cell pg _ pgl id).trans pc; have pgl3 := Nat.lt_of_lt_of_le pgl u.size; clear u)
            | (go_at_call 15; go_loud (refine Calls.mono (CY (HG.out.upd HU3.out (fun _ _ => id))) ?_); rintro e w4 ⟨a4, c4, rfl, u⟩; have HU4 := hide (HU3.out.then u (fun _ _ => id)); have pc4 := (u.cell pg _ pgl3 id).trans pc3; have pgl4 := Nat.lt_of_lt_of_le pgl3 u.size; clear u)
            | (go_at_call 17; go_loud (refine Calls.mono (RE _ (HG.out.upd (HU4.out.alloc _) (fun _ _ => id)) (RdI_new1 w4 0 3)) ?_); rintro e w5 ⟨a5, c5, rfl, u⟩; have ux := ((Upd.refl w4 (fun _ => False)).alloc (.cells #[.int .i64 0] 3)).then u (fun _ _ => id); have HU5 := hide (HU4.out.then ux (fun _ _ => id)); have pc5 := (ux.cell pg _ pgl4 id).trans pc4; have pgl5 := Nat.lt_of_lt_of_le pgl4 ux.size; clear u ux)
            | (go_at_call 19; go_loud (refine Calls.mono (DI _ (HG.out.upd (HU5.out.alloc _) (fun _ _ => id)) (RdI_new1 w5 (r : Int) 3)) ?_); rintro e w6 ⟨a6, c6, rfl, u⟩; have ux := ((Upd.refl w5 (fun _ => False)).alloc (.cells #[.int .i64 (r : Int)] 3)).then u (fun _ _ => id); have HU6 := hide (HU5.out.then ux (fun _ _ => id)); have pc6 := (ux.cell pg _ pgl5 id).trans pc5; have pgl6 := Nat.lt_of_lt_of_le pgl5 ux.size; clear u ux))
          go_ret
          exact ⟨rfl, HU.out.then HU6.out (fun _ _ => id)⟩
      | true =>
        have EE := Edge_any gr r 0 (by omega) (by omega)
        have hkr1 : k - 1 = r := by omega
        have e1 : addE (fun a b => pathE (k - 1) b a) 0 r = fun x y => addE (pathE (k - 1)) r 0 y x := addE_flip2 (pathE (k - 1)) r 0
        have e2 : addE (pathE (k - 1)) r 0 = roundE k := by unfold roundE; rw [hkr1]
        rw [e1, e2] at EE
        have HEE := hide EE
        have HO := hide ho
        have HU0 := hide u
        have r0 : (0 : Int) ≤ (r : Int) := by omega
        have r1 : (r : Int) < (k : Int) := by omega
        clear gr ho u EE e1 e2 hir2
        go_upto_region 14 with (go_at_call 23; go_loud (refine Calls.mono HEE.out ?_); rintro e w5 ⟨rfl, mg5, g5, o5, u5⟩)
        have u6 := HU0.out.then u5 (fun j hj q => by have := HO.out j q; omega)
        have PA : Calls Try.prog 13 #[.pointer (some ⟨gb, 0, none⟩)] w5 fun e w' => ∃ a c, e = .returned (.slice a k c) ∧ RdI w' a (((List.range k).map (partF (wrun (roundE k) k))).map (fun (k : Nat) => (k : Int))) ∧ Upd w5 w' (fun _ => False) := (Parts_any g5).mono fun e w' q => by
          obtain ⟨a, c, he, h1, h2⟩ := q.rd rfl
          rw [List.length_map, List.length_range] at he
          exact ⟨a, c, he, h1, h2⟩
        have hpv : (((List.range k).map (partF (wrun (roundE k) k))).map (fun (k : Nat) => (k : Int)))[r]? = some ((0 : Nat) : Int) := by
          rw [List.getElem?_map, List.getElem?_map, List.getElem?_range (by omega)]
          have e : ∀ j, j = k - 1 → partF (wrun (roundE k) k) j = 0 := fun j hj => by
            rw [hj]
            exact round_part (k := k) (by omega)
          have this := (e r (by omega)).trans (by omega : 0 = 0)
          show some ((partF (wrun (roundE k) k) r : Nat) : Int) = _
          rw [this]
        have CY : ∀ {W : World} {mg : Gm} {D : Nat → Nat → Bool} (_ : GrAt W gb k mg (roundE k) D), Calls Try.prog 15 #[.pointer (some ⟨gb, 0, none⟩)] W fun e w' => ∃ a c, e = .returned (.slice a k c) ∧ Upd W w' (fun _ => False) := fun h => (Cycles_any h).mono fun e w' q => by
          obtain ⟨a, c, he, _, h2⟩ := q.rd rfl
          rw [round_cycles] at he
          exact ⟨a, c, he, h2⟩
        have RE : ∀ {W : World} {mg : Gm} {D : Nat → Nat → Bool} (a : Option Addr) (_ : GrAt W gb k mg (roundE k) D) (_ : RdI W a [0]), Calls Try.prog 17 #[.pointer (some ⟨gb, 0, none⟩), .slice a 1 1] W fun e w' => ∃ a c, e = .returned (.slice a k c) ∧ Upd W w' (fun _ => False) := fun a h hf => (Reach_any h a 1 [0] hf (by simp)).mono fun e w' q => by
          obtain ⟨a, c, he, _, h2⟩ := q.rd rfl
          rw [reach_zero (by omega) (fun i h => round_edge h)] at he
          exact ⟨a, c, he, h2⟩
        have DI : ∀ {W : World} {mg : Gm} (a : Option Addr) (_ : GrAt W gb k mg (roundE k) (fun a b => (roundE k) b a)) (_ : RdI W a [(r : Int)]), Calls Try.prog 19 #[.pointer (some ⟨gb, 0, none⟩), .slice a 1 1] W fun e w' => ∃ a c, e = .returned (.slice a k c) ∧ Upd W w' (fun _ => False) := fun a h hf => (Dirty_any h a 1 [(r : Int)] hf (by simp)).mono fun e w' q => by
          obtain ⟨a, c, he, _, h2⟩ := q.rd rfl
          rw [dirty_end (by omega) (fun i h => round_edge h) (by omega)] at he
          exact ⟨a, c, he, h2⟩
        have HG := hide g5
        have HU := hide u6
        have HPV := hide hpv
        clear g5 o5 u5 u6 hpv hkr hkr1
        go_wp2_with (first
          | (go_at_call 13; go_loud (refine Calls.mono PA ?_); rintro e w2 ⟨a2, c2, rfl, r2, u2⟩; obtain ⟨pg, po, rfl, pgl, pc⟩ := r2 r _ HPV.out; have HU2 := hide u2; clear r2 u2)
          | (go_at_call 11; go_loud (refine Calls.mono (wakes_any _) ?_); rintro e w3 ⟨rfl, u⟩; have HU3 := hide (HU2.out.then u (fun _ _ => id)); have pc3 := (u.cell pg _ pgl id).trans pc; have pgl3 := Nat.lt_of_lt_of_le pgl u.size; clear u)
          | (go_at_call 15; go_loud (refine Calls.mono (CY (HG.out.upd HU3.out (fun _ _ => id))) ?_); rintro e w4 ⟨a4, c4, rfl, u⟩; have HU4 := hide (HU3.out.then u (fun _ _ => id)); have pc4 := (u.cell pg _ pgl3 id).trans pc3; have pgl4 := Nat.lt_of_lt_of_le pgl3 u.size; clear u)
          | (go_at_call 17; go_loud (refine Calls.mono (RE _ (HG.out.upd (HU4.out.alloc _) (fun _ _ => id)) (RdI_new1 w4 0 3)) ?_); rintro e w5 ⟨a5, c5, rfl, u⟩; have ux := ((Upd.refl w4 (fun _ => False)).alloc (.cells #[.int .i64 0] 3)).then u (fun _ _ => id); have HU5 := hide (HU4.out.then ux (fun _ _ => id)); have pc5 := (ux.cell pg _ pgl4 id).trans pc4; have pgl5 := Nat.lt_of_lt_of_le pgl4 ux.size; clear u ux)
          | (go_at_call 19; go_loud (refine Calls.mono (DI _ (HG.out.upd (HU5.out.alloc _) (fun _ _ => id)) (RdI_new1 w5 (r : Int) 3)) ?_); rintro e w6 ⟨a6, c6, rfl, u⟩; have ux := ((Upd.refl w5 (fun _ => False)).alloc (.cells #[.int .i64 (r : Int)] 3)).then u (fun _ _ => id); have HU6 := hide (HU5.out.then ux (fun _ _ => id)); have pc6 := (ux.cell pg _ pgl5 id).trans pc5; have pgl6 := Nat.lt_of_lt_of_le pgl5 ux.size; clear u ux))
        go_ret
        exact ⟨rfl, HU.out.then HU6.out (fun _ _ => id)⟩
end Go.Proofs.Ytnhggncpebifhaa
