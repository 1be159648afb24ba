/- The walk of waits. -/
import Derived.Test.YtnhggncpebifhaaGrY0
set_option maxRecDepth 100000
namespace Go.Proofs.Ytnhggncpebifhaa
open Go.RowKit Go.Lat Go.Tarjan

theorem reach_row {n i k : Nat} {E : Nat → Nat → Bool} (hi : i < n) (hk : k < n) : reachB n (wrun E n) (fun t => decide ((t : Int) ∈ (rowE n (E i)).map (fun (k : Nat) => (k : Int)))) k = wrun E n i k := by
  rw [Bool.eq_iff_iff, reachB_iff hk, wrun_iff hi hk]
  constructor
  · rintro ⟨t, ht, hm, hr⟩
    have : t ∈ rowE n (E i) := by
      have := of_decide_eq_true hm
      simp only [List.mem_map] at this
      obtain ⟨x, hx, e⟩ := this
      have : x = t := by omega
      rw [← this]
      exact hx
    exact pl_of_rch hi this hr
  · intro h
    obtain ⟨t, ht, hr⟩ := rch_of_pl h
    exact ⟨t, (adjE_mem.1 ht).1, decide_eq_true (List.mem_map.2 ⟨t, ht, rfl⟩), hr⟩
theorem rowE_congr {n : Nat} {p q : Nat → Bool} (h : ∀ x, x < n → p x = q x) : rowE n p = rowE n q := by
  unfold rowE
  exact List.filter_congr (fun x hx => h x (List.mem_range.1 hx))
def behP (inn : Nat → Bool) (C : Nat → Nat → Bool) (k : Nat) : Nat → Bool := fun i => inn i && (inn k && C i k)
theorem info62b : (Try.prog.info? 29).map (fun i => (i.zero, i.size, i.bytes)) = some (some (.slice none 0 0), 1, 24) := by kernel_rfl
def BehAt (base : Nat) (w : World) (v : Value) (n : Nat) (f : Nat → Value) (L : Nat → List Nat) : Prop := RwsAt base w 29 3 v n f (fun k => natCells (L k))
theorem BehAt.congr {base : Nat} {w : World} {v : Value} {n : Nat} {f : Nat → Value} {L L2 : Nat → List Nat} (h : BehAt base w v n f L) (e : ∀ i, i < n → L i = L2 i) : BehAt base w v n f L2 :=
  RwsAt.congr h (fun i hi => by rw [e i hi])
theorem BehAt.quiet {base : Nat} {w w' : World} {v : Value} {n : Nat} {f : Nat → Value} {L : Nat → List Nat} (h : BehAt base w v n f L) (u : Upd w w' (fun _ => False)) : BehAt base w' v n f L := RwsAt.quiet h u
theorem snocL (L : Nat → List Nat) (k i : Nat) : updF (fun k => natCells (L k)) k (natCells (L k ++ [i])) = fun x => natCells (updF L k (L k ++ [i]) x) := by
  funext x
  by_cases e : x = k
  · subst e; rw [updF_same, updF_same]
  · rw [updF_other _ _ _ e, updF_other _ _ _ e]
/-- What is behind after j of those that a node reads. -/
def behJ (inn : Nat → Bool) (C : Nat → Nat → Bool) (i : Nat) (rl : List Nat) (j k : Nat) : List Nat := if inn k = true ∧ k ∈ rl.take j then rowE i (behP inn C k) ++ [i] else rowE i (behP inn C k)
theorem behJ_no {inn : Nat → Bool} {C : Nat → Nat → Bool} {i j x : Nat} {rl : List Nat} (hx : rl[j]? = some x) (hi : inn x = false) : behJ inn C i rl (j + 1) = behJ inn C i rl j := by
  funext k
  unfold behJ
  have : (inn k = true ∧ k ∈ rl.take (j + 1)) ↔ (inn k = true ∧ k ∈ rl.take j) := by
    rw [takeN_mem hx]
    constructor
    · rintro ⟨a, b | b⟩
      · exact ⟨a, b⟩
      · rw [b, hi] at a; cases a
    · rintro ⟨a, b⟩; exact ⟨a, .inl b⟩
  simp only [this]
theorem behJ_yes {inn : Nat → Bool} {C : Nat → Nat → Bool} {i j x : Nat} {rl : List Nat} (hx : rl[j]? = some x) (hi : inn x = true) (hn : x ∉ rl.take j) : behJ inn C i rl (j + 1) = updF (behJ inn C i rl j) x (behJ inn C i rl j x ++ [i]) := by
  have e0 : behJ inn C i rl j x = rowE i (behP inn C x) := if_neg (fun q => hn q.2)
  funext k
  by_cases e : k = x
  · subst e
    rw [updF_same, e0]
    exact if_pos ⟨hi, (takeN_mem hx k).2 (.inr rfl)⟩
  · rw [updF_other _ _ _ e]
    unfold behJ
    have : (inn k = true ∧ k ∈ rl.take (j + 1)) ↔ (inn k = true ∧ k ∈ rl.take j) := by
      rw [takeN_mem hx]
      simp [e]
    simp only [this]
theorem behJ_end {inn : Nat → Bool} {C : Nat → Nat → Bool} {i k n : Nat} (hi : inn i = true) (hk : k < n) : behJ inn C i (rowE n (C i)) (rowE n (C i)).length k = rowE (i + 1) (behP inn C k) := by
  unfold behJ
  rw [List.take_length, rowE_succ]
  have : (inn k = true ∧ k ∈ rowE n (C i)) ↔ behP inn C k i = true := by
    rw [rowE_mem]
    unfold behP
    rw [hi]
    simp [hk]
  simp only [this]
theorem rising_notin {l : List Nat} (h : Rising l) {j x : Nat} (hx : l[j]? = some x) : x ∉ l.take j := by
  intro q
  obtain ⟨i, hi⟩ := List.mem_iff_getElem?.1 q
  have hij : i < j := by
    have := (List.getElem?_eq_some_iff.1 hi).1
    rw [List.length_take] at this
    omega
  rw [List.getElem?_take_of_lt hij] at hi
  obtain ⟨h1, e1⟩ := List.getElem?_eq_some_iff.1 hi
  obtain ⟨h2, e2⟩ := List.getElem?_eq_some_iff.1 hx
  have := List.pairwise_iff_getElem.1 h i j h1 h2 hij
  omega
set_option maxHeartbeats 3200000 in
theorem waits_any {w : World} {gb n : Nat} {mg : Gm} {E D : Nat → Nat → Bool} (hg : GrAt w gb n mg E D) (ia : Option Addr) (ic : Nat) (inn : Nat → Bool) (hi : Rw w 4 1 (.slice ia n ic) n (fRow n (boolR inn))) :
    Calls Try.prog 37 #[.pointer (some ⟨gb, 0, none⟩), .slice ia n ic] w fun e w' => ∃ a c f, e = .returned (.slice a n c) ∧ BehAt w.heap.size w' (.slice a n c) n f (fun k => rowE n (behP inn (wrun E n) k)) ∧ Upd w w' (fun _ => False) := by
  have h4 := hg.n4
  have MK := fun w => mk62 n hg.n4 w
  obtain ⟨i0, hi0, hz0, hz1, hz2⟩ := info_parts infoI
  obtain ⟨C, hC⟩ : ∃ C, wrun E n = C := ⟨_, rfl⟩
  have r0 := RwsAt.made (base := w.heap.size) w 29 3 n (Nat.le_refl _)
  have u0 : Upd w (w.alloc (.cells (madeCells #[.slice none 0 0] n) 29)) (fun _ => False) := (Upd.refl w _).alloc _
  obtain ⟨bb, hbb⟩ : ∃ b, w.heap.size = b := ⟨_, rfl⟩
  obtain ⟨W1, hW1⟩ : ∃ W, w.alloc (.cells (madeCells #[.slice none 0 0] n) 29) = W := ⟨_, rfl⟩
  rw [hW1] at r0 u0
  have e0 : (fun k => natCells (rowE 0 (behP inn C k))) = fun _ => ([] : List Value) := by funext k; simp [rowE, natCells, inCells]
  have r1 : BehAt w.heap.size W1 (.slice (some ⟨bb, 0, none⟩) n n) n (fun _ => .slice none 0 0) (fun k => rowE 0 (behP inn C k)) := by unfold BehAt; rw [e0, ← hbb]; exact r0
  have HG := hide hg
  have HI := hide hi
  have HC := hide hC
  have HR1 := hide r1
  have HU0 := hide u0
  have HBB := hide hbb
  have HW1 := hide hW1
  clear hg hi hC r0 r1 u0 e0 hbb hW1
  go_enter Try.func37, Try.ntmps37
  go_wp2_with fail
  rw [HW1.out, HBB.out]
  clear MK
  go_loopg [15] (n + 1) (fun q iv wr => ∃ i f, i ≤ n ∧ n - i < q ∧ iv = .int .i64 (i : Nat) ∧ BehAt w.heap.size wr (.slice (some ⟨bb, 0, none⟩) n n) n f (fun k => rowE i (behP inn C k)) ∧ Upd w wr (fun _ => False))
  case atStart => exact ⟨0, _, by omega, by omega, rfl, HR1.out, HU0.out⟩
  case round =>
    obtain ⟨i, f, hin, hq, rfl, hb, u1⟩ := hrel
    by_cases hlt : i < n
    · have hlt' : (i : Int) < (n : Int) := by omega
      have j0 : (0 : Int) ≤ (i : Int) := by omega
      obtain ⟨g, off, rfl, hgl, e0⟩ := boolc_at (u1.rw HI.out (fun _ _ => id)) hlt
      obtain ⟨b, hb2⟩ : ∃ b, inn i = b := ⟨_, rfl⟩
      rw [hb2] at e0
      have HB := hide hb
      have HU1 := hide u1
      have HII := hide hb2
      cases b with
      | false =>
        clear hb u1 hb2
        go_wp2_with fail
        go_roundg (gk - 1)
        case measure => omega
        case rel => exact ⟨i + 1, f, by omega, by omega, by go_num, HB.out.congr (fun k _ => by
          show rowE i (behP inn C k) = rowE (i + 1) (behP inn C k)
          rw [rowE_succ]
          have : behP inn C k i = false := by unfold behP; rw [HII.out]; rfl
          rw [this]
          simp), HU1.out⟩
      | true =>
        have hg2 : GrAt wr gb n mg E D := HG.out.upd u1 (fun _ _ => id)
        obtain ⟨rg, ro, rsc, ra, rc, g0, gbl, rgl, g1, rr, rn⟩ := rowR_at hg2 i hlt
        have RE := Reach_any hg2 ra rc ((rowE n (E i)).map (fun (k : Nat) => (k : Int))) (RdI.of_rw rr) (by rw [List.length_map]; have := rowE_len n (E i); omega)
        rw [List.length_map, rowE_congr (fun k hk => reach_row hlt hk), HC.out] at RE
        obtain ⟨rl, hrl⟩ : ∃ l, (rowE n (E i)).length = l := ⟨_, rfl⟩
        rw [hrl] at RE g1
        have HRE := hide RE
        clear hb u1 hb2 hg2 rr rn RE hrl
        go_wp2_with (go_at_call 17; go_loud (refine Calls.mono HRE.out ?_); rintro e w2 ⟨sa, sc, rfl, r2, o2, u2⟩)
        obtain ⟨sl, hsl⟩ : ∃ l, rowE n (C i) = l := ⟨_, rfl⟩
        have hrise : Rising sl := by rw [← hsl]; exact rowE_rising _ _
        have hmem : ∀ x ∈ sl, x < n := fun x hx => by rw [← hsl] at hx; exact (rowE_mem.1 hx).1
        rw [hsl] at r2 o2 ⊢
        obtain ⟨M, hM⟩ : ∃ M, sl.length = M := ⟨_, rfl⟩
        rw [hM] at r2 o2 ⊢
        have hM4 : M ≤ 4096 := by rw [← hM, ← hsl]; have := rowE_len n (C i); omega
        have b2 : BehAt w.heap.size w2 (.slice (some ⟨bb, 0, none⟩) n n) n f (behJ inn C i sl 0) := (HB.out.quiet u2).congr (fun k _ => by simp [behJ])
        have hown : ∀ k, (Value.slice sa M sc).ownBlock = some k → ¬ rowsOwn (.slice (some ⟨bb, 0, none⟩) n n) n f k := fun k q q2 => by
          have := RwsAt.lt HB.out q2
          have := o2 k q
          omega
        have HSL := hide hsl
        have HRS := hide hrise
        have HM := hide hM
        have HMEM := hide hmem
        have HR2 := hide r2
        have HB2 := hide b2
        have HU2 := hide (HU1.out.then u2 (fun _ _ => id))
        have HOWN := hide hown
        have HO2 := hide o2
        clear g0 gbl rgl g1 e0 hgl hsl hrise hM hmem r2 b2 hown u2 o2
        obtain ⟨gko, hgko⟩ : ∃ x, x = gk := ⟨_, rfl⟩
        rw [← hgko] at hq
        go_loopg [32] (M + 1) (fun q jv wr => ∃ j f, j ≤ M ∧ M - j < q ∧ jv = .int .i64 (j : Nat) ∧ BehAt w.heap.size wr (.slice (some ⟨bb, 0, none⟩) n n) n f (behJ inn C i sl j) ∧ Upd w wr (fun _ => False) ∧ Upd w2 wr (fun k => (Value.slice sa M sc).ownBlock ≠ some k) ∧ (∀ k, (Value.slice sa M sc).ownBlock = some k → ¬ rowsOwn (.slice (some ⟨bb, 0, none⟩) n n) n f k))
        case atStart => exact ⟨0, f, by omega, by omega, rfl, HB2.out, HU2.out, Upd.refl _ _, HOWN.out⟩
        case round =>
          obtain ⟨j, f3, hj, hq3, rfl, b3, u3, v3, n3⟩ := hrel
          by_cases hjM : j < M
          · obtain ⟨x, hx⟩ : ∃ x, sl[j]? = some x := ⟨_, List.getElem?_eq_getElem (by rw [HM.out]; exact hjM)⟩
            have hxn := HMEM.out x (List.mem_of_getElem? hx)
            have r3 := v3.rw HR2.out (fun k q q2 => q2 q)
            obtain ⟨sg, soff, scap, hsv, hsgl, hscell⟩ := Rw.pos r3 (by omega : 0 < M)
            simp only [Value.slice.injEq] at hsv
            obtain ⟨rfl, -, rfl⟩ := hsv
            have e0 := hscell j _ (natCells_get hx)
            have j0' : (0 : Int) ≤ (j : Int) := by omega
            have j1 : (j : Int) < (M : Int) := by omega
            have x0 : (0 : Int) ≤ (x : Int) := by omega
            have x1 : (x : Int) < (n : Int) := by omega
            obtain ⟨g2, off2, hi2, hgl2, e2⟩ := boolc_at (u3.rw HI.out (fun _ _ => id)) hxn
            obtain ⟨rfl, rfl⟩ : g = g2 ∧ off = off2 := by simpa using hi2
            obtain ⟨b, hb3⟩ : ∃ b, inn x = b := ⟨_, rfl⟩
            rw [hb3] at e2
            have HX := hide hx
            have HB3 := hide b3
            have HU3 := hide u3
            have HV3 := hide v3
            have HN3 := hide n3
            have HI3 := hide hb3
            cases b with
            | false =>
              clear hx b3 u3 v3 n3 hb3 r3 hscell hi2
              go_wp2_with fail
              go_roundg (gk - 1)
              case measure => omega
              case rel => exact ⟨j + 1, f3, by omega, by omega, by go_num, by rw [behJ_no HX.out HI3.out]; exact HB3.out, HU3.out, HV3.out, HN3.out⟩
            | true =>
              have hrow := RwsAt.row b3 x hxn
              obtain ⟨Lx, hLx⟩ : ∃ l, behJ inn C i sl j x = l := ⟨_, rfl⟩
              have hLlen : Lx.length ≤ i + 1 := by
                rw [← hLx]
                unfold behJ
                have := rowE_len i (behP inn C x)
                split
                · rw [List.length_append]; simp; omega
                · omega
              simp only [hLx] at hrow
              obtain ⟨m, hm⟩ : ∃ m, Lx.length = m := ⟨_, rfl⟩
              rw [natCells_len, hm] at hrow
              obtain ⟨ba, bc, hfx⟩ := slice_form hrow
              rw [hfx] at hrow
              obtain ⟨-, d0, z0⟩ : bb < wr.heap.size ∧ wr.cell? ⟨bb, x, none⟩ = some (f3 x) ∧ wr.frozen? ⟨bb, x, none⟩ = false := by
                obtain ⟨g9, off9, e9, l9, c9, z9⟩ := Rw.cell1 b3.spine hxn
                cases e9
                rw [Nat.zero_add] at c9 z9
                exact ⟨l9, c9, z9⟩
              rw [hfx] at d0
              have lbb : bb < wr.heap.size := b3.spine.lt bb rfl
              have nbb : (Value.slice ba m bc).ownBlock ≠ some bb := fun q => b3.off x bb hxn (by rw [hfx]; exact q) rfl
              have hbs : w.heap.size ≤ wr.heap.size := u3.size
              have HFX := hide hfx
              have HRW := hide hrow
              have HNB := hide nbb
              have HLX := hide hLx
              have HMM := hide hm
              have hm6 : m ≤ 4097 := by omega
              clear hx b3 u3 v3 n3 hb3 r3 hscell hi2 hrow hLx hm hfx hLlen nbb
              go_wp2_with (at_builtin; go_loud (refine wpList_append_rw _ rfl _ _ 29 29 rfl 3 _ i0 _ 1 8 Try.underlying29 Try.underlying29 (by simp) hi0 hz0 hz1 hz2 rfl _ m _ rfl (HRW.out.alloc _) _ 1 [.int .i64 (i : Int)] rfl (Rw.made wr #[.int .i64 (i : Int)] 3 1 1 rfl).src rfl (by simp [Value.oneCell']) (by omega) (by omega) ?_); intro ga gc w4 hv' hg4 hob'; have u4 : Upd wr w4 (fun k => (Value.slice ba m bc).ownBlock = some k) := ((Upd.refl wr _).alloc _).grown hg4 (fun k e => .inr e); have d4 := (u4.cell bb x lbb HNB.out).trans d0; have z4 : w4.frozen? ⟨bb, x, none⟩ = false := (frozen_of u4 lbb HNB.out).trans z0; have l4 := Nat.lt_of_lt_of_le lbb u4.size; have HU4 := hide u4; clear u4)
              have hgo : ∀ k, (Value.slice ga (m + 1) gc).ownBlock = some k → (f3 x).ownBlock = some k ∨ wr.heap.size ≤ k := fun k q => by
                rcases hob' with e | e
                · exact .inl (by rw [HFX.out]; exact e.symm.trans q)
                · have := Option.some.inj (e.symm.trans q)
                  simp at this
                  exact .inr (by omega)
              have hlm : (natCells (Lx ++ [i])).length = m + 1 := by rw [natCells_len]; simp [HMM.out]
              rw [natCells_snoc] at hv'
              have u4' : Upd wr w4 (fun k => (f3 x).ownBlock = some k) := HU4.out.weaken (fun k _ q => by rw [HFX.out]; exact q)
              have t4 := RwsAt.turn HB3.out hxn u4' (x := .slice ga (m + 1) gc) (M := natCells (Lx ++ [i])) (by rw [hlm]; exact hv') hgo hbs
              rw [Nat.zero_add] at t4
              have eL : updF (fun k => natCells (behJ inn C i sl j k)) x (natCells (Lx ++ [i])) = fun k => natCells (behJ inn C i sl (j + 1) k) := by
                rw [← HLX.out, snocL, ← behJ_yes HX.out HI3.out (rising_notin HRS.out HX.out)]
              rw [eL] at t4
              have hownx : rowsOwn (.slice (some ⟨bb, 0, none⟩) n n) n f3 bb := .inl rfl
              have hownf : ∀ k, (f3 x).ownBlock = some k → rowsOwn (.slice (some ⟨bb, 0, none⟩) n n) n f3 k := fun k q => .inr ⟨x, hxn, q⟩
              have hub : ∀ k, rowsOwn (.slice (some ⟨bb, 0, none⟩) n n) n f3 k → w.heap.size ≤ k := fun k q => RwsAt.base HB3.out k q
              go_roundg (gk - 1)
              case measure => omega
              case rel =>
                refine ⟨j + 1, updF f3 x (.slice ga (m + 1) gc), by omega, by omega, by go_num, t4, (HU3.out.then u4' (fun k hk q => by have := hub k (hownf k q); omega)).setCell _ _ (.inl (hub bb hownx)), ?_, fun k q q2 => ?_⟩
                · exact (HV3.out.then u4' (fun k _ q z => HN3.out k z (hownf k q))).setCell _ _ (.inr (fun z => HN3.out bb z hownx))
                · rcases rowsOwn_turn hxn hgo q2 with z | z
                  · exact HN3.out k q z
                  · have := (HV3.out.rw HR2.out (fun k q q2 => q2 q)).lt k q
                    omega
          · have j1 : ¬ (j : Int) < (M : Int) := by omega
            have hjM2 : j = M := by omega
            have HB3 := hide b3
            have HU3 := hide u3
            clear b3 u3 v3 n3
            go_wp2_with fail
            go_roundg (gko - 1)
            case measure => omega
            case rel => exact ⟨i + 1, f3, by omega, by omega, by go_num, HB3.out.congr (fun k hk => by
              show behJ inn C i sl j k = rowE (i + 1) (behP inn C k)
              rw [hjM2, ← HM.out, ← HSL.out, behJ_end HII.out hk]), HU3.out⟩
    · have hge : ¬ (i : Int) < (n : Int) := by omega
      have hin2 : i = n := by omega
      have HB := hide hb
      have HU1 := hide u1
      clear hb u1
      go_wp2_with fail
      go_ret
      rw [hin2] at HB
      exact ⟨_, _, rfl, ⟨f, by rw [HC.out]; exact HB.out⟩, HU1.out⟩
end Go.Proofs.Ytnhggncpebifhaa
