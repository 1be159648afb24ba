/- The walk of GraphFits. -/
import Derived.Test.YtnhggncpebifhaaGtI
set_option maxRecDepth 100000
namespace Go.Proofs.Ytnhggncpebifhaa
open Go.RowKit Go.Lat Go.Tarjan

theorem inCells_allI (n : Nat) : inCells (allI n) = natCells (List.range n) := rfl
set_option maxHeartbeats 12800000 in
theorem GraphFits_walk (w : World) (n : Int) (va : Option Addr) (cap L : Nat) (l : List (Int × Int)) (hL : l.length = L) (hcap : L ≤ cap) (hr : EdRd w va l) :
    Calls Try.prog 8 #[.int .i64 n, .slice va L cap] w fun e w' => e = .returned (.bool true) ∧ Upd w w' (fun _ => False) := by
  have GS := graphs_any w n va cap L l hL hcap hr
  have hn1 := nOf_lt n
  obtain ⟨N, hN⟩ : ∃ N, nOf n = N := ⟨_, rfl⟩
  rw [hN] at GS hn1
  obtain ⟨E, hE⟩ : ∃ E, edgN N (l.take 80) = E := ⟨_, rfl⟩
  rw [hE] at GS
  obtain ⟨i0, hi, hz0, hz1, hz2⟩ := info_parts infoI
  obtain ⟨R, hR⟩ : ∃ R, ordA N E = R := ⟨_, rfl⟩
  obtain ⟨cl, hcl⟩ : ∃ p, rowE N (fun i => wrun E N i i) = p := ⟨_, rfl⟩
  have hlen := ordA_len N E
  have hdep : ∀ {i j k t : Nat}, R[i]? = some k → R[j]? = some t → E k t = true → j < i := by rw [← hR]; exact ordA_dep
  have honce : ∀ {i j k : Nat}, R[i]? = some k → R[j]? = some k → j = i := by rw [← hR]; exact ordA_once
  have hRlt : ∀ {i k : Nat}, R[i]? = some k → k < N := fun {i k} h => ((ordA_mem (E := E) k).1 (by rw [hR]; exact List.mem_of_getElem? h)).1
  rw [hR, hcl] at hlen
  have OA : ∀ {W : World} {gb : Nat} {mg : Gm} {D : Nat → Nat → Bool} (a : Option Addr) (c : Nat) (_ : GrAt W gb N mg E D) (_ : RdI W a (allI N)), Calls Try.prog 20 #[.pointer (some ⟨gb, 0, none⟩), .slice a N c] W fun e w' => ∃ a c, e = .returned (.slice a R.length c) ∧ Rw w' 3 1 (.slice a R.length c) R.length (natCells R) ∧ (∀ k, (Value.slice a R.length c).ownBlock = some k → W.heap.size ≤ k) ∧ Upd W w' (fun _ => False) := fun {W gb mg D} a c h hf => by
    have q := Order_any h a c (allI N) hf (by simp [allI]; omega)
    have e : (allI N).length = N := by simp [allI]
    rw [e] at q
    have hR' : ordF N (fun k => decide ((k : Int) ∈ allI N) && !wrun E N k k) (wrun E N) (N + 1) [] = R := hR
    rw [hR'] at q
    exact q
  have CA : ∀ {W : World} {gb : Nat} {mg : Gm} {D : Nat → Nat → Bool} (_ : GrAt W gb N mg E D), Calls Try.prog 15 #[.pointer (some ⟨gb, 0, none⟩)] W fun e w' => ∃ a c, e = .returned (.slice a cl.length c) ∧ RdI w' a (cl.map (fun (k : Nat) => (k : Int))) ∧ Upd W w' (fun _ => False) := fun h => (Cycles_any h).mono fun e w' q => q.rd hcl
  obtain ⟨M, hM⟩ : ∃ M, R.length = M := ⟨_, rfl⟩
  obtain ⟨C, hC⟩ : ∃ C, cl.length = C := ⟨_, rfl⟩
  rw [hM] at OA
  rw [hC] at CA
  rw [hM, hC] at hlen
  have hMC : (M : Int) + (C : Int) = (N : Int) := by omega
  have hM20 : M < 20 := by omega
  have hbMC : -9223372036854775808 ≤ (M : Int) + (C : Int) ∧ (M : Int) + (C : Int) ≤ 9223372036854775807 := by omega
  have HW1 := hide ((IntWalk.wrap64_in _ hbMC).trans hMC)
  have HW2 := hide ((IntWalk.i64_in _ hbMC).trans hMC)
  clear hbMC hMC
  have HM := hide hM
  have hmm := @run_makeMap Try.prog
  clear hr hL hcap hE hN hR hcl hC hM hlen
  go_enter Try.func8, Try.ntmps8
  go_wp2_with (first
    | (go_at_call 10; go_loud (refine Calls.mono GS ?_); rintro e w1 ⟨gb, mg, rb, rv, rf, rfl, g1, r1, u1⟩; have HG1 := hide g1; have HU1 := hide u1; clear g1 r1 u1)
    | (go_at_call 11; go_loud (refine Calls.mono (wakes_any _) ?_); rintro e w2 ⟨rfl, u⟩; have HU2 := hide u; clear u)
    | (go_at_call 24; with_reducible refine Calls.mono (Nodes_any (HG1.out.upd HU2.out (fun _ _ => id))) ?_; rintro e w3 ⟨rfl, hw⟩; obtain rfl := hw.symm; clear hw))
  clear GS
  go_loopg [8, 37] (N + 1) (fun q ov iv wr => ∃ i a c, i ≤ N ∧ N - i < q ∧ iv = .int .i64 (i : Nat) ∧ ov = .slice a (List.range i).length c ∧ NatAt w2.heap.size wr a c (List.range i) ∧ Upd w2 wr (fun _ => False))
  case atStart => exact ⟨0, none, 0, by omega, by omega, rfl, rfl, NatAt.nil _ _, Upd.refl _ _⟩
  case round =>
    obtain ⟨i, a, c, hin, hq, rfl, rfl, na, u1⟩ := hrel
    rw [List.length_range]
    by_cases hlt : i < N
    · have hlt' : (i : Int) < (N : Int) := by omega
      have j0 : (0 : Int) ≤ (i : Int) := by omega
      have hsz := u1.size
      have nr := na.r
      rw [List.length_range] at nr
      have HNR := hide nr
      have HNA := hide na
      have HU1 := hide u1
      clear na u1 nr
      go_wp2_with (at_builtin; go_loud (refine wpList_append_rw _ rfl _ _ 29 29 rfl 3 _ i0 _ 1 8 Try.underlying29 Try.underlying29 (by simp) hi hz0 hz1 hz2 rfl _ i _ rfl (HNR.out.alloc _) _ 1 [.int .i64 (i : Int)] rfl (Rw.made wr #[.int .i64 (i : Int)] 3 1 1 rfl).src rfl (by simp [Value.oneCell']) (by omega) (by omega) ?_); intro ga gc w4 hv' hg4 hob')
      have na2 := (HNA.out.upd ((Upd.refl wr (fun _ => False)).alloc (.cells #[.int .i64 (i : Int)] 3)) (fun _ _ => id)).snoc (List.length_range) (by simp; omega) hv' hob'
      have u2 : Upd w2 w4 (fun _ => False) := (HU1.out.then ((Upd.refl wr (fun k => (Value.slice a i c).ownBlock = some k)).alloc _) (fun k hk q => by have := HNA.out.o k ((own_slice a _ _ _ _).trans q); omega)).then ((Upd.refl _ (fun k => (Value.slice a i c).ownBlock = some k)).grown hg4 (fun k e => .inr e)) (fun k hk q => by have := HNA.out.o k ((own_slice a _ _ _ _).trans q); omega)
      rw [← List.range_succ] at na2
      go_roundg (gk - 1)
      case measure => omega
      case rel => exact ⟨i + 1, ga, gc, by omega, by omega, by go_num, by rw [List.length_range], na2, u2⟩
    · have hge : ¬ (i : Int) < (N : Int) := by omega
      have hin2 : i = N := by omega
      subst hin2
      have rd : RdI wr a (allI i) := by
        have := na.r
        rw [List.length_range] at this
        exact RdI.of_rw (l := allI i) this
      have g3 := (HG1.out.upd (HU2.out.then u1 (fun _ _ => id)) (fun _ _ => id))
      have HG3 := hide g3
      have HRD := hide rd
      have HU3 := hide ((HU1.out.then HU2.out (fun _ _ => id)).then u1 (fun _ _ => id))
      clear na u1 rd g3 HG1 HU1 HU2
      go_upto_region 12 with (go_at_call 20; go_loud (refine Calls.mono (OA a c (HG3.out.upd ((Upd.refl wr (fun _ => False)).alloc (.map #[] 0)) (fun _ _ => id)) (HRD.out.upd ((Upd.refl wr (fun _ => False)).alloc (.map #[] 0)))) ?_); rintro e w5 ⟨a5, c5, rfl, r5, o5, u5⟩)
      have m5 : AtR w5 wr.heap.size 0 (.map []) R 0 := (AtR.made wr R).upd u5 id
      have g5 := HG3.out.upd (((Upd.refl wr (fun _ => False)).alloc (.map #[] 0)).then u5 (fun _ _ => id)) (fun _ _ => id)
      have v5 := HU3.out.then (((Upd.refl wr (fun _ => False)).alloc (.map #[] 0)).then u5 (fun _ _ => id)) (fun _ _ => id)
      have hB5 : ∀ k, (Value.slice a5 M c5).ownBlock = some k → ¬ (k = wr.heap.size) := fun k hk e => by
        have := o5 k hk
        rw [World.size_alloc] at this
        omega
      have hBw : w.heap.size ≤ wr.heap.size := HU3.out.size
      have hgB : ∀ k, mg.own gb i k → k < wr.heap.size := fun k hk => HG3.out.lt hk
      obtain ⟨B, hB⟩ : ∃ B, wr.heap.size = B := ⟨_, rfl⟩
      rw [hB] at m5 hB5 hBw hgB
      have HR5 := hide r5
      have HO5 := hide hB5
      have HM5 := hide m5
      have HG5 := hide g5
      have HV5 := hide v5
      clear r5 o5 u5 m5 g5 v5 hB5 HG3 HRD HU3 OA
      rw [hB]
      clear hB
      go_wp2_with fail
      go_loopg [51] (M + 1) (fun q iv wx => ∃ (j nn : Nat) (D : DataW Value), j ≤ M ∧ M - j < q ∧ iv = .int .i64 (j : Nat) ∧ nn ≤ j ∧ AtR wx B nn D R j ∧ Upd w5 wx (fun k => k = B))
      case atStart => exact ⟨0, 0, _, by omega, by omega, rfl, by omega, HM5.out, Upd.refl _ _⟩
      case round =>
        obtain ⟨j, nn, D, hj, hq, rfl, hnn, m6, u6⟩ := hrel
        have rd6 : RdI wr a5 (R.map (fun (k : Nat) => (k : Int))) := RdI.of_rw (l := R.map (fun (k : Nat) => (k : Int))) (u6.rw HR5.out HO5.out)
        by_cases hjM : j < M
        · obtain ⟨k, hk⟩ : ∃ k, R[j]? = some k := ⟨_, List.getElem?_eq_getElem (by rw [HM.out]; exact hjM)⟩
          have hkN := hRlt hk
          obtain ⟨g, off, rfl, hgl, d0⟩ := rd6 j (k : Int) (by rw [List.getElem?_map, hk]; rfl)
          obtain ⟨z, q6, hz6, hq6, hp6⟩ := m6.look (k : Int)
          have hq60 : q6 = false := by
            cases q6 with
            | false => rfl
            | true =>
              obtain ⟨j2, -, l2, k2, e2, e3⟩ := hp6 rfl
              have : k2 = k := by omega
              subst this
              have := honce hk e2
              omega
          subst hq60
          have L1 := look_ok_held m6.m intK Try.underlying45 (zeroI _) (int_key (x := (k : Int)) (by omega)) hz6 hq6
          have L2 := look_ok_held m6.m.drew intK Try.underlying45 (zeroI _) (int_key (x := (k : Int)) (by omega)) hz6 hq6
          have HM6 := hide m6
          have HU6 := hide u6
          have HK := hide hk
          have j0 : (0 : Int) ≤ (j : Int) := by omega
          have j1 : (j : Int) < (M : Int) := by omega
          clear m6 u6 hk hp6 rd6 hz6 hq6
          go_wp2_with (at_mapUpdate; go_loud (refine wpList_mapUpdate_own _ rfl _ _ _ 45 rfl 3 3 intK Try.underlying45 heldElem B nn D rfl HM6.out.m (by unfold maxLen; omega) _ _ _ rfl rfl (int_key (x := (k : Int)) (by omega)) (.held _) [] rfl ?_); intro w7 hown2 hg2)
          go_roundg (gk - 1)
          case measure => omega
          case rel => exact ⟨j + 1, nn + 1, _, by omega, by omega, by go_num, by omega, HM6.out.put HK.out hown2, HU6.out.grown hg2 (fun k e => .inr (Option.some.inj e).symm)⟩
        · have j1 : ¬ (j : Int) < (M : Int) := by omega
          have hjM2 : j = M := by omega
          subst hjM2
          have g6 := HG5.out.upd u6 (fun k hk e => by
            have := hgB k hk
            omega)
          have v6 := HV5.out.then u6 (fun k hk e => by subst e; omega)
          have HRD := hide rd6
          have HG6 := hide g6
          have HU6 := hide v6
          have HM6 := hide m6
          clear g6 v6 rd6 m6 u6 HR5 HO5 HM5 HG5 HV5
          go_wp2_with fail
          obtain ⟨W6, hW6⟩ : ∃ W, W = wr := ⟨_, rfl⟩
          subst hW6
          go_loopg [69] (j + 1) (fun q iv wx => ∃ i3 : Nat, i3 ≤ j ∧ j - i3 < q ∧ iv = .int .i64 (i3 : Nat) ∧ Upd W6 wx (fun _ => False))
          case atStart => exact ⟨0, by omega, by omega, rfl, Upd.refl _ _⟩
          case round =>
            obtain ⟨i3, hi3, hq3, rfl, u⟩ := hrel
            by_cases hij : i3 < j
            · obtain ⟨k, hk⟩ : ∃ k, R[i3]? = some k := ⟨_, List.getElem?_eq_getElem (by rw [HM.out]; exact hij)⟩
              have hkN := hRlt hk
              have rdx := HRD.out.upd u
              obtain ⟨g, off, rfl, hgl, d0⟩ := rdx i3 (k : Int) (by rw [List.getElem?_map, hk]; rfl)
              obtain ⟨lr, hlr⟩ : ∃ lr, rowE i (E k) = lr := ⟨_, rfl⟩
              have hle := rowE_len i (E k)
              have hme : ∀ x, x ∈ lr → E k x = true := fun x hx => by
                rw [← hlr] at hx
                exact (rowE_mem.1 hx).2
              have hml : ∀ x, x ∈ lr → x < i := fun x hx => by
                rw [← hlr] at hx
                exact (rowE_mem.1 hx).1
              have RD := (Reads_any (HG6.out.upd u (fun _ _ => id)) k hkN).mono (fun e w' q => q.rd hlr)
              rw [hlr] at hle
              obtain ⟨K, hKK⟩ : ∃ K, lr.length = K := ⟨_, rfl⟩
              rw [hKK] at RD hle
              have HK := hide hk
              have HU := hide u
              have i30 : (0 : Int) ≤ (i3 : Int) := by omega
              have i31 : (i3 : Int) < (j : Int) := by omega
              clear hk u rdx hlr
              go_wp2_with (go_at_call 25; go_loud (refine Calls.mono RD ?_); rintro e w7 ⟨a7, c7, rfl, r7, u7⟩; have HR7 := hide r7; have HU7 := hide u7; clear r7 u7)
              clear RD d0
              obtain ⟨gko, hgko⟩ : ∃ q, q = gk := ⟨_, rfl⟩
              subst hgko
              go_loopg [78] (K + 1) (fun q iv wx => ∃ t : Nat, t ≤ K ∧ K - t < q ∧ iv = .int .i64 (t : Nat) ∧ Upd w7 wx (fun _ => False))
              case atStart => exact ⟨0, by omega, by omega, rfl, Upd.refl _ _⟩
              case round =>
                obtain ⟨t, ht, hqt, rfl, u⟩ := hrel
                by_cases htK : t < K
                · obtain ⟨x, hx⟩ : ∃ x, lr[t]? = some x := ⟨_, List.getElem?_eq_getElem (by rw [hKK]; exact htK)⟩
                  have hxm := List.mem_of_getElem? hx
                  have hxe := hme x hxm
                  have hxl := hml x hxm
                  obtain ⟨g7, off7, rfl, hgl7, d7⟩ := (HR7.out.upd u) t (x : Int) (by rw [List.getElem?_map, hx]; rfl)
                  have m7 := HM6.out.upd ((HU.out.then HU7.out (fun _ _ => id)).then u (fun _ _ => id)) id
                  obtain ⟨z, q7, hz7, hq7, hp7⟩ := m7.look (x : Int)
                  have L1 := look_ok_held m7.m intK Try.underlying45 (zeroI _) (int_key (x := (x : Int)) (by omega)) hz7 hq7
                  have L2 := look_ok_held m7.m.drew intK Try.underlying45 (zeroI _) (int_key (x := (x : Int)) (by omega)) hz7 hq7
                  have hzi : q7 = true → z < (i3 : Int) := fun h => by
                    obtain ⟨j2, e1, l2, k2, e2, e3⟩ := hp7 h
                    have e4 : k2 = x := by omega
                    subst e4
                    have := hdep HK.out e2 hxe
                    omega
                  have t0 : (0 : Int) ≤ (t : Int) := by omega
                  have t1 : (t : Int) < (K : Int) := by omega
                  have HUt := hide u
                  clear m7 u hz7 hq7 hp7 hx hxm hxe
                  cases q7 with
                  | true =>
                    have hzi := hzi rfl
                    go_wp2_with fail
                    go_roundg (gk - 1)
                    case measure => omega
                    case rel => exact ⟨t + 1, by omega, by omega, by go_num, HUt.out⟩
                  | false =>
                    clear hzi
                    go_wp2_with fail
                    go_roundg (gk - 1)
                    case measure => omega
                    case rel => exact ⟨t + 1, by omega, by omega, by go_num, HUt.out⟩
                · have t1 : ¬ (t : Int) < (K : Int) := by omega
                  have HUt := hide u
                  clear u
                  go_wp2_with fail
                  go_roundg (gko - 1)
                  case measure => omega
                  case rel => exact ⟨i3 + 1, by omega, by omega, by go_num, (HU.out.then HU7.out (fun _ _ => id)).then HUt.out (fun _ _ => id)⟩
            · have hij1 : ¬ (i3 : Int) < (j : Int) := by omega
              have g8 := HG6.out.upd u (fun _ _ => id)
              have HG8 := hide g8
              have HU := hide (HU6.out.then u (fun _ _ => id))
              have hw1 := HW1.out
              have hw2 := HW2.out
              clear g8 u hlt hge hij hi3
              go_wp2_with (first
                | (go_at_call 15; go_loud (refine Calls.mono (CA HG8.out) ?_); rintro e w9 ⟨a9, c9, rfl, r, u⟩; have HU9 := hide u; clear r u)
                | (go_at_call 24; with_reducible refine Calls.mono (Nodes_any (HG8.out.upd HU9.out (fun _ _ => id))) ?_; rintro e w10 ⟨rfl, hw⟩; obtain rfl := hw.symm; clear hw))
              go_ret
              exact ⟨rfl, HU.out.then HU9.out (fun _ _ => id)⟩
end Go.Proofs.Ytnhggncpebifhaa
