/- The walk of Parts. -/
import Derived.Test.YtnhggncpebifhaaGrL
set_option maxRecDepth 100000
namespace Go.Proofs.Ytnhggncpebifhaa
open Go.RowKit Go.Lat Go.Tarjan

theorem four_new (w : World) (a b c d : Obj) : ((((w.alloc a).alloc b).alloc c).alloc d).heap[w.heap.size]? = some a ∧ ((((w.alloc a).alloc b).alloc c).alloc d).heap[w.heap.size + 1]? = some b ∧ ((((w.alloc a).alloc b).alloc c).alloc d).heap[w.heap.size + 1 + 1]? = some c ∧ ((((w.alloc a).alloc b).alloc c).alloc d).heap[w.heap.size + 1 + 1 + 1]? = some d := by
  have s1 : (w.alloc a).heap.size = w.heap.size + 1 := by simp
  have s2 : ((w.alloc a).alloc b).heap.size = w.heap.size + 1 + 1 := by simp
  have s3 : (((w.alloc a).alloc b).alloc c).heap.size = w.heap.size + 1 + 1 + 1 := by simp
  refine ⟨block_alloc (block_alloc (block_alloc (heap_alloc_new w a) _) _) _, ?_, ?_, ?_⟩
  · rw [← s1]; exact block_alloc (block_alloc (heap_alloc_new _ b) _) _
  · rw [← s2]; exact block_alloc (heap_alloc_new _ c) _
  · rw [← s3]; exact heap_alloc_new _ d
theorem Rw.of_made {w : World} {e g n : Nat} {z : Value} (h : w.heap[g]? = some (.cells (madeCells #[z] n) e (0, 0))) : Rw w e 1 (.slice (some ⟨g, 0, none⟩) n n) n (fRow n (fun _ => z)) := by
  have hs : (madeCells #[z] n).size = n * 1 := by rw [← Array.length_toList, toList_madeCells_one]; simp
  refine ⟨by simp [fRow], .inr ⟨g, 0, n, _, rfl, h, Nat.le_refl _, by omega, ?_⟩⟩
  rw [toList_madeCells_one, ← fRow_const, List.drop_zero]
  exact List.take_of_length_le (by simp [fRow])
theorem walk_made (W : World) (gb n A B C D G : Nat) (hG : W.heap.size = G) (hA : W.heap[A]? = some (.cells (madeCells #[.int .i64 0] n) 3 (0, 0))) (hB : W.heap[B]? = some (.cells (madeCells #[.int .i64 0] n) 3 (0, 0))) (hC : W.heap[C]? = some (.cells (madeCells #[.bool false] n) 4 (0, 0))) (hD : W.heap[D]? = some (.cells (madeCells #[.int .i64 0] n) 3 (0, 0))) (hAB : A ≠ B) (hAD : A ≠ D) (hBD : B ≠ D) :
    WkG (W.alloc (.cells #[.pointer (some ⟨gb, 0, none⟩), .int .i64 0, .slice (some ⟨A, 0, none⟩) n n, .slice (some ⟨B, 0, none⟩) n n, .slice (some ⟨C, 0, none⟩) n n, .slice none 0 0, .slice (some ⟨D, 0, none⟩) n n] 57)) gb n ⟨G, A, B, C, D⟩ none 0 0 (fun _ => 0) (fun _ => 0) (fun _ => false) [] (fun _ => 0) := by
  subst hG
  have hx : ∀ {j : Nat} {cs : Array Value} {cs' : Array Value} {t t' : TypeId} {k : Nat}, W.heap[j]? = some (.cells cs t (0, 0)) → W.heap[k]? = some (.cells cs' t' (0, 0)) → t ≠ t' → j ≠ k := fun h1 h2 ht e => by
    subst e
    rw [h1] at h2
    exact ht (by injection h2 with h3; injection h3)
  exact ⟨heap_alloc_new W _, (Rw.of_made hA).alloc _, (Rw.of_made hB).alloc _, (Rw.of_made hC).alloc _, (Rw.of_made hD).alloc _, Rw.nil _ _ _, fun k q => by simp [Value.ownBlock] at q, ⟨fun e => by have := lt_at hA; simp at e; omega, fun e => by have := lt_at hB; simp at e; omega, fun e => by have := lt_at hC; simp at e; omega, fun e => by have := lt_at hD; simp at e; omega, hAB, hx hA hC (by decide), hAD, hx hB hC (by decide), hBD, hx hC hD (by decide)⟩⟩
theorem infoI : (Try.prog.info? 3).map (fun i => (i.zero, i.size, i.bytes)) = some (some (.int .i64 0), 1, 8) := by kernel_rfl
theorem infoB : (Try.prog.info? 4).map (fun i => (i.zero, i.size, i.bytes)) = some (some (.bool false), 1, 1) := by kernel_rfl
theorem mkI (n : Nat) (hn : n ≤ 4096) (w : World) : (Instr.makeSlice 29 (.int .i64 (n : Int)) (.int .i64 (n : Int))).run Try.prog w = .ok (.slice (some ⟨w.heap.size, 0, none⟩) n n) (w.alloc (.cells (madeCells #[.int .i64 0] n) 3)) := by
  obtain ⟨i0, hi, hz0, hz1, hz2⟩ := info_parts infoI
  have h := run_make (P := Try.prog) w 29 3 i0 _ Try.underlying29 hi hz0 .i64 .i64 (n : Int) (n : Int) (by omega) (by omega) (by rw [hz2]; omega) (by omega)
  simp only [Int.toNat_natCast, hz1, Nat.mul_one] at h
  exact h
theorem mkB (n : Nat) (hn : n ≤ 4096) (w : World) : (Instr.makeSlice 51 (.int .i64 (n : Int)) (.int .i64 (n : Int))).run Try.prog w = .ok (.slice (some ⟨w.heap.size, 0, none⟩) n n) (w.alloc (.cells (madeCells #[.bool false] n) 4)) := by
  obtain ⟨i0, hi, hz0, hz1, hz2⟩ := info_parts infoB
  have h := run_make (P := Try.prog) w 51 4 i0 _ Try.underlying51 hi hz0 .i64 .i64 (n : Int) (n : Int) (by omega) (by omega) (by rw [hz2]; omega) (by omega)
  simp only [Int.toNat_natCast, hz1, Nat.mul_one] at h
  exact h
theorem FrAt.then {w W W' : World} {gb n : Nat} {E : Nat → Nat → Bool} {m : Wm} {sa0 : Option Addr} {T : Nat → Prop} {sa : Option Addr} {sc : Nat} {s : St} (h : FrAt w W gb n E m sa0 T sa sc s) {T2 : Nat → Prop} {sa2 : Option Addr} {sc2 : Nat} {s2 : St} (h2 : FrAt W W' gb n E m sa T2 sa2 sc2 s2) {T3 : Nat → Prop} (hT : ∀ u, T3 u → T2 u) : FrAt w W' gb n E m sa0 T3 sa2 sc2 s2 :=
  ⟨h2.wk, h2.iv, h2.cn, fun u q => h2.mo u (hT u q), fun k q => (h2.ow k q).elim (fun q => h.ow k q) (fun q => .inr (Nat.le_trans h.up.size q)), h.up.then h2.up (fun k hk q => (h.ow k q).resolve_right (by omega))⟩
set_option maxHeartbeats 1600000 in
theorem Parts_any {w : World} {gb n : Nat} {mg : Gm} {E D : Nat → Nat → Bool} (hg : GrAt w gb n mg E D) : Calls Try.prog 13 #[.pointer (some ⟨gb, 0, none⟩)] w (NatRes w ((List.range n).map (partF (wrun E n)))) := by
  have NO := Nodes_any hg
  have MI := fun w => mkI n hg.n4 w
  have MB := fun w => mkB n hg.n4 w
  have h4 := hg.n4
  have HG := hide hg
  clear hg
  go_enter Try.func13, Try.ntmps13
  go_wp2_with (go_at_call 24; refine Calls.mono NO ?_; rintro e w1 ⟨rfl, hw⟩; obtain rfl := hw.symm; clear hw)
  clear NO
  go_cut [4] (fun pv wx => ∃ m : Wm, pv = .pointer (some ⟨m.b, 0, none⟩) ∧ WkG wx gb n m none 0 0 (fun _ => 0) (fun _ => 0) (fun _ => false) [] (fun _ => 0) ∧ (∀ k ∈ m.bs, w.heap.size ≤ k) ∧ Upd w wx (fun _ => False))
  case first =>
    go_region
    all_goals go_wp2_with fail
    all_goals go_meet
    all_goals refine ⟨⟨_, _, _, _, _⟩, rfl, WkG.drew (walk_made _ gb n _ _ _ _ _ ?_ ?_ ?_ ?_ ?_ ?_ ?_ ?_), ?_, ?_⟩
    all_goals first
      | exact (four_new w _ _ _ _).1
      | exact (four_new w _ _ _ _).2.1
      | exact (four_new w _ _ _ _).2.2.1
      | exact (four_new w _ _ _ _).2.2.2
      | omega
      | (simp; done)
      | exact ((((((Upd.refl w (fun _ => False)).alloc _).alloc _).alloc _).alloc _).alloc _).drew
      | (simp [Wm.bs]; omega)
  case rest =>
    obtain ⟨m, rfl, k0, hm, u0⟩ := hcut
    have K0 := hide k0
    have HM := hide hm
    have U0 := hide u0
    have f0 : FrAt wc wc gb n E m none (fun u => u < 0) none 0 ⟨0, fun _ => 0, fun _ => 0, [], fun _ => 0, []⟩ := ⟨k0, start_inv _ n, by
      show 0 = Tarjan.seen n (fun _ => 0)
      exact (rsum_zero (fun _ _ => rfl)).symm, fun u q => by omega, fun k q => .inl q, Upd.refl _ _⟩
    have F0 := hide f0
    have hg1 : GrAt wc gb n mg E D := HG.out.upd u0 (fun _ _ => id)
    have hd : ∀ k, mg.own gb n k → ¬ m.own none k := fun k q q2 => by
      rcases q2 with q2 | q2
      · have := hm k q2
        have := HG.out.lt q
        omega
      · simp [Value.ownBlock] at q2
    have HG1 := hide hg1
    have HD := hide hd
    clear k0 hm u0 f0 hg1 hd MI MB
    go_wp2_with fail
    go_loopg [20] (n + 1) (fun q iv wr => ∃ i sa sc s, i ≤ n ∧ n - i < q ∧ iv = .int .i64 (i : Nat) ∧ FrAt wc wr gb n E m none (fun u => u < i) sa sc s ∧ s.way = [])
    case atStart => exact ⟨0, none, 0, _, by omega, by omega, rfl, F0.out, rfl⟩
    case round =>
      obtain ⟨i, sa, sc, s, hi, hq, rfl, fr, hw⟩ := hrel
      obtain ⟨d0, d1, d2, d3, d4, d5, d6⟩ := cells7 fr.wk.c
      have hb2 := lt_at fr.wk.c
      by_cases hin : i < n
      · obtain ⟨bi, i1, i2⟩ := num_at fr.wk.i hin
        have hin' : (i : Int) < (n : Int) := by omega
        have i0 : (0 : Int) ≤ (i : Int) := by omega
        by_cases hix : s.idx i = 0
        · rw [hix] at i1
          have hG2 : GrAt wr gb n mg E D := HG1.out.upd fr.up (fun k q => HD.out k q)
          have FM := from_any hG2 fr.wk fr.iv hw fr.cn (fun k q q2 => (fr.ow k q2).elim (fun z => HD.out k q z) (fun z => by have := HG1.out.lt q; omega)) i hin hix
          have HFM := hide FM
          have HFR := hide fr
          clear FM fr hw hG2 hix
          go_wp2_with (go_at_call 29; refine Calls.mono HFM.out ?_; rintro e w5 ⟨sa', sc', s', rfl, f5, hw5⟩)
          go_roundg (gk - 1)
          case measure => omega
          case rel => exact ⟨i + 1, sa', sc', s', by omega, by omega, by go_num, HFR.out.then f5 (fun u q => by
              by_cases e : u = i
              · exact .inr e
              · exact .inl (HFR.out.mo u (by omega))), hw5⟩
        · have hixb : ((s.idx i : Int) == 0) = false := by simpa using hix
          have HIX := hide hix
          have HFR := hide fr
          have HW := hide hw
          clear fr hw hix
          go_wp2_with fail
          go_roundg (gk - 1)
          case measure => omega
          case rel => exact ⟨i + 1, sa, sc, s, by omega, by omega, by go_num, ⟨HFR.out.wk, HFR.out.iv, HFR.out.cn, fun u q => by
              by_cases e : u = i
              · rw [e]; have := HIX.out; omega
              · exact HFR.out.mo u (by omega), HFR.out.ow, HFR.out.up⟩, HW.out⟩
      · have hge : ¬ (i : Int) < (n : Int) := by omega
        have hpt : ∀ u, u < n → s.part u = partF (wrun E n) u := fun u hu => by
          have h0 := fr.mo u (by omega : u < i)
          exact (fr.iv.pt u h0 (by rw [end_stk fr.iv hw]; simp)).uniq (part_ref hu)
        have HFR := hide fr
        have HPT := hide hpt
        clear fr hw hpt
        go_wp2_with fail
        go_ret
        have hp := HFR.out.wk.p
        have e1 : fRow n (numR s.part) = natCells ((List.range n).map (partF (wrun E n))) := by
          rw [fRow_congr (g := numR (partF (wrun E n))) (fun u hu => by simp [numR, HPT.out u hu])]
          simp [fRow, natCells, inCells, numR, Function.comp_def]
        rw [e1] at hp
        have hl : ((List.range n).map (partF (wrun E n))).length = n := by simp
        refine ⟨some ⟨m.p, 0, none⟩, n, by simp, by rw [hl]; exact hp, fun k q => ?_, U0.out.then HFR.out.up (fun k hk q => ?_)⟩
        · obtain rfl := Option.some.inj q
          exact HM.out _ (by simp [Wm.bs])
        · rcases q with q | q
          · have := HM.out k q
            omega
          · simp [Value.ownBlock] at q
end Go.Proofs.Ytnhggncpebifhaa
