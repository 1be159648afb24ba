/- The walk of GraphEdges. -/
import Derived.Test.YtnhggncpebifhaaGtD
import Derived.Test.YtnhggncpebifhaaGtG
set_option maxRecDepth 100000
namespace Go.Proofs.Ytnhggncpebifhaa
open Go.RowKit Go.Lat Go.Tarjan

def rdsI (N : Nat) (E : Nat → Nat → Bool) (z : Int) : List Int := if 0 ≤ z ∧ z < N then (rowE N (E z.toNat)).map (fun (k : Nat) => (k : Int)) else []
theorem rdsI_len (N : Nat) (E : Nat → Nat → Bool) (z : Int) : (rdsI N E z).length ≤ N := by
  unfold rdsI
  split
  · rw [List.length_map]
    exact rowE_len N _
  · simp
abbrev RdR (W : World) (l : List Int) (e : Ending) (w' : World) : Prop := ∃ a c, e = .returned (.slice a l.length c) ∧ RdI w' a l ∧ Upd W w' (fun _ => False)
theorem RdR.of_nat {W : World} {l : List Nat} {l2 : List Int} {e : Ending} {w' : World} (h : NatRes W l e w') (el : l.map (fun (k : Nat) => (k : Int)) = l2) : RdR W l2 e w' := by
  subst el
  obtain ⟨a, c, he, h1, h2⟩ := h.rd rfl
  exact ⟨a, c, by rw [he, List.length_map], h1, h2⟩
theorem RdR.of_nil {W : World} {l : List Int} {e : Ending} {w' : World} (h : e = .returned (.slice none 0 0) ∧ w' = W) (el : l = []) : RdR W l e w' := by
  subst el
  obtain ⟨rfl, rfl⟩ := h
  exact ⟨none, 0, rfl, RdI.nil _ _, Upd.refl _ _⟩
theorem rdsI_in {N : Nat} {E : Nat → Nat → Bool} (z : Nat) (hz : z < N) : (rowE N (E z)).map (fun (k : Nat) => (k : Int)) = rdsI N E z := by
  unfold rdsI
  rw [if_pos ⟨by omega, by omega⟩, Int.toNat_natCast]
theorem rdsI_out {N : Nat} {E : Nat → Nat → Bool} {z : Int} (hz : ¬ (0 ≤ z ∧ z < N)) : rdsI N E z = [] := by
  unfold rdsI
  rw [if_neg hz]
theorem Reads_all {w : World} {gb n : Nat} {m : Gm} {E D : Nat → Nat → Bool} (h : GrAt w gb n m E D) (z : Int) : Calls Try.prog 25 #[.pointer (some ⟨gb, 0, none⟩), .int .i64 z] w (RdR w (rdsI n E z)) := by
  by_cases hz : 0 ≤ z ∧ z < n
  · obtain ⟨k, rfl⟩ : ∃ m : Nat, z = m := ⟨z.toNat, by omega⟩
    exact (Reads_any h k (by omega)).mono fun e w' q => RdR.of_nat q (rdsI_in (N := n) (E := E) k (by omega))
  · exact (Reads_no h z (by unfold inN; simpa using hz)).mono fun e w' q => RdR.of_nil q (rdsI_out hz)
theorem Readers_all {w : World} {gb n : Nat} {m : Gm} {E D : Nat → Nat → Bool} (h : GrAt w gb n m E D) (z : Int) : Calls Try.prog 27 #[.pointer (some ⟨gb, 0, none⟩), .int .i64 z] w (RdR w (rdsI n D z)) := by
  by_cases hz : 0 ≤ z ∧ z < n
  · obtain ⟨k, rfl⟩ : ∃ m : Nat, z = m := ⟨z.toNat, by omega⟩
    exact (Readers_any h k (by omega)).mono fun e w' q => RdR.of_nat q (rdsI_in (N := n) (E := D) k (by omega))
  · exact (Readers_no h z (by unfold inN; simpa using hz)).mono fun e w' q => RdR.of_nil q (rdsI_out hz)
theorem RreadsF_all {bs : Nat} {w : World} {rb n : Nat} {v : Value} {fr : Nat → Value} {E : Nat → Nat → Bool} (hr : RgAt bs w rb n v fr E) (hn : n ≤ 4096) (z : Int) :
    Calls Try.prog 26 #[.pointer (some ⟨rb, 0, none⟩), .int .i64 z, .bool false] w (RdR w (rdsI n E z)) := by
  by_cases hz : 0 ≤ z ∧ z < n
  · obtain ⟨k, rfl⟩ : ∃ m : Nat, z = m := ⟨z.toNat, by omega⟩
    exact (RreadsF_any hr hn k (by omega)).mono fun e w' q => RdR.of_nat q (rdsI_in (N := n) (E := E) k (by omega))
  · exact (Rreads_no hr hn z hz false).mono fun e w' q => RdR.of_nil q (rdsI_out hz)
theorem RreadsB_all {bs : Nat} {w : World} {rb n : Nat} {v : Value} {fr : Nat → Value} {E : Nat → Nat → Bool} (hr : RgAt bs w rb n v fr E) (hn : n ≤ 4096) (z : Int) :
    Calls Try.prog 26 #[.pointer (some ⟨rb, 0, none⟩), .int .i64 z, .bool true] w (RdR w (rdsI n (fun a b => E b a) z)) := by
  by_cases hz : 0 ≤ z ∧ z < n
  · obtain ⟨k, rfl⟩ : ∃ m : Nat, z = m := ⟨z.toNat, by omega⟩
    exact (RreadsB_any hr hn k (by omega)).mono fun e w' q => RdR.of_nat q (rdsI_in (N := n) (E := fun a b => E b a) k (by omega))
  · exact (Rreads_no hr hn z hz true).mono fun e w' q => RdR.of_nil q (rdsI_out hz)
set_option maxHeartbeats 6400000 in
theorem GraphEdges_walk (w : World) (n : Int) (va : Option Addr) (cap L : Nat) (l : List (Int × Int)) (hL : l.length = L) (hcap : L ≤ cap) (hr : EdRd w va l) (_ : -9223372036854775808 ≤ n ∧ n ≤ 9223372036854775807) (k : Int) (_ : -9223372036854775808 ≤ k ∧ k ≤ 9223372036854775807) :
    Calls Try.prog 9 #[.int .i64 n, .slice va L cap, .int .i64 k] w fun e w' => e = .returned (.bool true) ∧ Upd w w' (fun _ => False) := by
  have GS := graphs_any w n va cap L l hL hcap hr
  have hn1 := nOf_lt n
  obtain ⟨N, hN⟩ : ∃ N, nOf n = N := ⟨_, rfl⟩
  rw [hN] at GS hn1
  obtain ⟨E, hE⟩ : ∃ E, edgN N (l.take 80) = E := ⟨_, rfl⟩
  rw [hE] at GS
  have HN1 := hide hn1
  have EQ : ∀ (W : World) (a b : Option Addr) (ca cb : Nat) (E : Nat → Nat → Bool) (z : Int), RdI W a (rdsI N E z) → RdI W b (rdsI N E z) → Calls Try.prog 12 #[.slice a (rdsI N E z).length ca, .slice b (rdsI N E z).length cb] W fun e w' => e = .returned (.bool true) ∧ Upd W w' (fun _ => False) := fun W a b ca cb E z h1 h2 =>
    equal_true W a b ca cb _ h1 h2 (by have := rdsI_len N E z; omega)
  clear hr hL hcap hE hN hn1
  go_enter Try.func9, Try.ntmps9
  go_wp2_with (first
    | (go_at_call 10; go_loud (refine Calls.mono GS ?_); rintro e w1 ⟨gb, mg, rb, rv, rf, rfl, g1, r1, u1⟩; have HG1 := hide g1; have HR1 := hide r1; have HU1 := hide u1; clear g1 r1 u1)
    | (go_at_call 11; go_loud (refine Calls.mono (wakes_any _) ?_); rintro e w2 ⟨rfl, u⟩; have HU2 := hide u; clear u))
  clear GS
  obtain ⟨k2, hk2⟩ : ∃ k2, bits .and .i64 k 15 = k2 := ⟨_, rfl⟩
  rw [hk2]
  clear hk2
  have o3 := heap_alloc_new w2 (.cells #[.int .i64 k, .int .i64 k2] 3)
  have c30 := cell_at o3 0 _ rfl
  have c31 := cell_at o3 1 _ rfl
  have l3 := lt_at o3
  have u3 : Upd w2 (w2.alloc (.cells #[.int .i64 k, .int .i64 k2] 3)) (fun _ => False) := (Upd.refl _ _).alloc _
  obtain ⟨W3, hW3⟩ : ∃ W, w2.alloc (.cells #[.int .i64 k, .int .i64 k2] 3) = W := ⟨_, rfl⟩
  obtain ⟨b3, hb3⟩ : ∃ b, w2.heap.size = b := ⟨_, rfl⟩
  rw [hW3, hb3] at c30 c31 l3
  rw [hW3] at u3
  have HC0 := hide c30
  have HC1 := hide c31
  have HL3 := hide l3
  have HG3 := hide (HG1.out.upd (HU2.out.then u3 (fun _ _ => id)) (fun _ _ => id))
  have HR3 := hide (HR1.out.quiet (HU2.out.then u3 (fun _ _ => id)))
  have HU3 := hide ((HU1.out.then HU2.out (fun _ _ => id)).then u3 (fun _ _ => id))
  clear o3 c30 c31 l3 u3
  rw [hW3, hb3]
  clear hW3 hb3 HG1 HR1 HU1 HU2
  go_loopg [34] 3 (fun q iv wx => ∃ j : Nat, j ≤ 2 ∧ 2 - j < q ∧ iv = .int .i64 (j : Nat) ∧ Upd W3 wx (fun _ => False))
  case atStart => exact ⟨0, by omega, by omega, rfl, Upd.refl _ _⟩
  case round =>
    obtain ⟨j, hj, hq, rfl, u⟩ := hrel
    by_cases hj2 : j < 2
    · obtain ⟨z, hz⟩ : ∃ z, W3.cell? ⟨b3, j, none⟩ = some (.int .i64 z) := by
        rcases (by omega : j = 0 ∨ j = 1) with rfl | rfl
        · exact ⟨_, HC0.out⟩
        · exact ⟨_, HC1.out⟩
      have d0 := (u.cell b3 _ HL3.out id).trans hz
      have l0 := Nat.lt_of_lt_of_le HL3.out u.size
      have j0 : (0 : Int) ≤ (j : Int) := by omega
      have j1 : (j : Int) < 2 := by omega
      have HU := hide u
      have HW := hide (Upd.refl wr (fun _ => False))
      clear u hz
      go_wp2_with (first
        | (go_at_call 25; with_reducible refine Calls.mono (Reads_all (HG3.out.upd HU.out (fun _ _ => id)) z) ?_; rintro e w4 ⟨a4, c4, rfl, r, u⟩; have HX4 := hide r; have HW4 := hide u; clear r u)
        | (go_at_call 26; with_reducible refine Calls.mono (RreadsF_all (HR3.out.quiet (HU.out.then HW4.out (fun _ _ => id))) (by have := HN1.out; omega) z) ?_; rintro e w5 ⟨a5, c5, rfl, r, u⟩; have HX5 := hide r; have HV5 := hide u; have HW5 := hide (HW4.out.then u (fun _ _ => id)); clear r u)
        | (go_at_call 12; with_reducible refine Calls.mono (EQ _ a4 a5 c4 c5 E z (HX4.out.upd HV5.out) HX5.out) ?_; rintro e w6 ⟨rfl, u⟩; have HW6 := hide (HW5.out.then u (fun _ _ => id)); clear u)
        | (go_at_call 27; with_reducible refine Calls.mono (Readers_all (HG3.out.upd (HU.out.then HW6.out (fun _ _ => id)) (fun _ _ => id)) z) ?_; rintro e w7 ⟨a7, c7, rfl, r, u⟩; have HX7 := hide r; have HW7 := hide (HW6.out.then u (fun _ _ => id)); clear r u)
        | (go_at_call 26; with_reducible refine Calls.mono (RreadsB_all (HR3.out.quiet (HU.out.then HW7.out (fun _ _ => id))) (by have := HN1.out; omega) z) ?_; rintro e w8 ⟨a8, c8, rfl, r, u⟩; have HX8 := hide r; have HV8 := hide u; have HW8 := hide (HW7.out.then u (fun _ _ => id)); clear r u)
        | (go_at_call 12; with_reducible refine Calls.mono (EQ _ a7 a8 c7 c8 (fun a b => E b a) z (HX7.out.upd HV8.out) HX8.out) ?_; rintro e w9 ⟨rfl, u⟩; have HW9 := hide (HW8.out.then u (fun _ _ => id)); clear u))
      go_roundg (gk - 1)
      case measure => omega
      case rel => exact ⟨j + 1, by omega, by omega, by go_num, HU.out.then HW9.out (fun _ _ => id)⟩
    · have j1 : ¬ (j : Int) < 2 := by omega
      have HU := hide (HU3.out.then u (fun _ _ => id))
      clear u EQ HC0 HC1 HL3 HG3 HR3 HU3
      by_cases h0 : n < 0
      · have NW := New_no wr n (.inl h0)
        have h1 : ¬ 0 ≤ n := by omega
        go_wp2_with (first
          | (go_at_call 22; go_loud (refine Calls.mono NW ?_); rintro e w4 ⟨rfl, hw4⟩; obtain rfl := hw4.symm; clear hw4; have HU4 := hide (Upd.refl wr (fun _ => False)))
          | (go_at_call 23; refine Calls.mono (Edge_nil _ _ _) ?_; rintro e w5 ⟨rfl, hw5⟩; obtain rfl := hw5.symm; clear hw5)
          | (go_at_call 24; refine Calls.mono (Nodes_nil _) ?_; rintro e w5 ⟨rfl, hw5⟩; obtain rfl := hw5.symm; clear hw5)
          | (go_at_call 13; go_loud (refine Calls.mono (Parts_nil _) ?_); rintro e w6 ⟨a6, rfl, u⟩; have HU6 := hide (HU4.out.then u (fun _ _ => id)); clear u)
          | (go_at_call 20; go_loud (refine Calls.mono (Order_nil _ _ _ (by simp) (cell_at (heap_alloc_new w6 _) 0 _ rfl)) ?_); rintro e w7 ⟨a7, c7, rfl, u⟩; have HU7 := hide ((HU6.out.alloc _).then u (fun _ _ => id)); clear u)
          | (go_at_call 25; refine Calls.mono (Reads_nil _ _) ?_; rintro e w8 ⟨rfl, hw8⟩; obtain rfl := hw8.symm; clear hw8))
        go_ret
        exact ⟨rfl, HU.out.then HU7.out (fun _ _ => id)⟩
      · by_cases h1 : 4096 < n
        · have NW := New_no wr n (.inr h1)
          have h2 : 0 ≤ n := by omega
          have h3 : ¬ n ≤ 4096 := by omega
          go_wp2_with (first
            | (go_at_call 22; go_loud (refine Calls.mono NW ?_); rintro e w4 ⟨rfl, hw4⟩; obtain rfl := hw4.symm; clear hw4; have HU4 := hide (Upd.refl wr (fun _ => False)))
            | (go_at_call 23; refine Calls.mono (Edge_nil _ _ _) ?_; rintro e w5 ⟨rfl, hw5⟩; obtain rfl := hw5.symm; clear hw5)
            | (go_at_call 24; refine Calls.mono (Nodes_nil _) ?_; rintro e w5 ⟨rfl, hw5⟩; obtain rfl := hw5.symm; clear hw5)
            | (go_at_call 13; go_loud (refine Calls.mono (Parts_nil _) ?_); rintro e w6 ⟨a6, rfl, u⟩; have HU6 := hide (HU4.out.then u (fun _ _ => id)); clear u)
            | (go_at_call 20; go_loud (refine Calls.mono (Order_nil _ _ _ (by simp) (cell_at (heap_alloc_new w6 _) 0 _ rfl)) ?_); rintro e w7 ⟨a7, c7, rfl, u⟩; have HU7 := hide ((HU6.out.alloc _).then u (fun _ _ => id)); clear u)
            | (go_at_call 25; refine Calls.mono (Reads_nil _ _) ?_; rintro e w8 ⟨rfl, hw8⟩; obtain rfl := hw8.symm; clear hw8))
          go_ret
          exact ⟨by rw [decide_eq_false (p := n ≤ 4096) (by omega)]; rfl, HU.out.then HU7.out (fun _ _ => id)⟩
        · obtain ⟨nn, rfl⟩ : ∃ m : Nat, n = m := ⟨n.toNat, by omega⟩
          have NW := New_ok wr nn (by omega)
          have h2 : (0 : Int) ≤ (nn : Int) := by omega
          have h3 : (nn : Int) ≤ 4096 := by omega
          go_wp2_with (first
            | (go_at_call 22; go_loud (refine Calls.mono NW ?_); rintro e w4 ⟨gb4, mg4, rfl, _, _, u⟩; have HU4 := hide u; clear u)
            | (go_at_call 23; refine Calls.mono (Edge_nil _ _ _) ?_; rintro e w5 ⟨rfl, hw5⟩; obtain rfl := hw5.symm; clear hw5)
            | (go_at_call 24; refine Calls.mono (Nodes_nil _) ?_; rintro e w5 ⟨rfl, hw5⟩; obtain rfl := hw5.symm; clear hw5)
            | (go_at_call 13; go_loud (refine Calls.mono (Parts_nil _) ?_); rintro e w6 ⟨a6, rfl, u⟩; have HU6 := hide (HU4.out.then u (fun _ _ => id)); clear u)
            | (go_at_call 20; go_loud (refine Calls.mono (Order_nil _ _ _ (by simp) (cell_at (heap_alloc_new w6 _) 0 _ rfl)) ?_); rintro e w7 ⟨a7, c7, rfl, u⟩; have HU7 := hide ((HU6.out.alloc _).then u (fun _ _ => id)); clear u)
            | (go_at_call 25; refine Calls.mono (Reads_nil _ _) ?_; rintro e w8 ⟨rfl, hw8⟩; obtain rfl := hw8.symm; clear hw8))
          go_ret
          exact ⟨rfl, HU.out.then HU7.out (fun _ _ => id)⟩
end Go.Proofs.Ytnhggncpebifhaa
