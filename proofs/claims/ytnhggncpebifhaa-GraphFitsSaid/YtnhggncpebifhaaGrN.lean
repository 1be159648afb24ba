/- The walks of cyclic and Cycles. -/
import Derived.Test.YtnhggncpebifhaaGrM
set_option maxRecDepth 100000
namespace Go.Proofs.Ytnhggncpebifhaa
open Go.RowKit Go.Lat Go.Tarjan

theorem fRow_nat (n : Nat) (f : Nat → Nat) : fRow n (numR f) = natCells ((List.range n).map f) := by
  simp [fRow, natCells, inCells, numR, Function.comp_def]
theorem Parts_row {w : World} {gb n : Nat} {mg : Gm} {E D : Nat → Nat → Bool} (hg : GrAt w gb n mg E D) : Calls Try.prog 13 #[.pointer (some ⟨gb, 0, none⟩)] w fun e w' => ∃ a c, e = .returned (.slice a n c) ∧ Rw w' 3 1 (.slice a n c) n (fRow n (numR (partF (wrun E n)))) ∧ (∀ k, (Value.slice a n c).ownBlock = some k → w.heap.size ≤ k) ∧ Upd w w' (fun _ => False) := by
  refine Calls.mono (Parts_any hg) ?_
  rintro e w' ⟨a, c, rfl, h1, h2, h3⟩
  have hl : ((List.range n).map (partF (wrun E n))).length = n := by simp
  rw [hl] at h1 h2
  rw [hl, fRow_nat]
  exact ⟨a, c, rfl, h1, h2, h3⟩
def BoolRes (w : World) (n : Nat) (f : Nat → Bool) (e : Ending) (w' : World) : Prop :=
  ∃ a c, e = .returned (.slice a n c) ∧ Rw w' 4 1 (.slice a n c) n (fRow n (boolR f)) ∧ (∀ k, (Value.slice a n c).ownBlock = some k → w.heap.size ≤ k) ∧ Upd w w' (fun _ => False)
theorem partF_lt {E : Nat → Nat → Bool} {n i : Nat} (hi : i < n) : partF (wrun E n) i < n := by
  unfold partF
  cases hf : (List.range i).find? (fun k => wrun E n i k && wrun E n k i) with
  | none => exact hi
  | some k => have := (find_min hf).1; show k < n; omega
theorem numc_at {w : World} {e n : Nat} {a : Option Addr} {c : Nat} {f : Nat → Nat} (h : Rw w e 1 (.slice a n c) n (fRow n (numR f))) {t : Nat} (ht : t < n) : ∃ g off, a = some ⟨g, off, none⟩ ∧ g < w.heap.size ∧ w.cell? ⟨g, off + t, none⟩ = some (.int .i64 (f t : Int)) := by
  obtain ⟨g, off, h1, h2, h3, _⟩ := Rw.cell1 h ht
  exact ⟨g, off, h1, h2, h3⟩
theorem cyc_row {i : Nat} {f : Nat → Bool} {b : Bool} (h : f i = b) : (fun k => decide (k < i + 1) && f k) = updF (fun k => decide (k < i) && f k) i b := by
  funext k
  unfold updF
  by_cases e : k = i
  · subst e; simp [h]
  · rw [if_neg e]
    have : decide (k < i + 1) = decide (k < i) := by
      have : (k < i + 1) ↔ (k < i) := by omega
      simp [this]
    rw [this]
theorem sizeP_succ (j : Nat) (pt : Nat → Nat) (p : Nat) : sizeP (j + 1) pt p = sizeP j pt p + (if pt j = p then 1 else 0) := rsum_succ _ _
set_option maxHeartbeats 3200000 in
theorem cyclic_any {w : World} {gb n : Nat} {mg : Gm} {E D : Nat → Nat → Bool} (hg : GrAt w gb n mg E D) : Calls Try.prog 31 #[.pointer (some ⟨gb, 0, none⟩)] w (BoolRes w n (fun i => wrun E n i i)) := by
  have PA := Parts_row hg
  have MI := fun w => mkI n hg.n4 w
  have MB := fun w => mkB n hg.n4 w
  have h4 := hg.n4
  have HG := hide hg
  clear hg
  obtain ⟨pt, hpt⟩ : ∃ p, partF (wrun E n) = p := ⟨_, rfl⟩
  have hpl : ∀ i, i < n → pt i < n := fun i hi => by rw [← hpt]; exact partF_lt hi
  have hcy : ∀ i, i < n → ((1 < sizeP n pt (pt i) ∨ E i i = true) ↔ wrun E n i i = true) := fun i hi => cyc_iff (fun u hu => by rw [← hpt]; exact part_ref hu) hi
  rw [hpt] at PA
  have HPL := hide hpl
  have HCY := hide hcy
  clear hpt hpl hcy
  go_enter Try.func31, Try.ntmps31
  go_wp2_with (go_at_call 13; go_loud (refine Calls.mono PA ?_); rintro e w1 ⟨pa, pc, rfl, rp, op, up⟩)
  have r0 := Rw.made1 w1 3 n (.int .i64 0)
  obtain ⟨sb, hsb⟩ : ∃ b, w1.heap.size = b := ⟨_, rfl⟩
  have u0 : Upd w1 (w1.alloc (.cells (madeCells #[.int .i64 0] n) 3)) (fun _ => False) := (Upd.refl _ _).alloc _
  have rp0 := rp.alloc (.cells (madeCells #[.int .i64 0] n) 3)
  have hps : ∀ k, (Value.slice pa n pc).ownBlock = some k → k ≠ sb := fun k q e => by have := rp.lt k q; omega
  obtain ⟨W2, hW2⟩ : ∃ W, w1.alloc (.cells (madeCells #[.int .i64 0] n) 3) = W := ⟨_, rfl⟩
  rw [hW2, hsb]
  rw [hW2] at r0 u0 rp0
  rw [hsb] at r0
  have hwb : w.heap.size ≤ sb := by have := up.size; omega
  have HR0 := hide r0
  have HP0 := hide rp0
  have HPS := hide hps
  have U2 := hide (up.then u0 (fun _ _ => id))
  have HOP := hide op
  clear r0 u0 rp0 hps PA rp op up hW2 hsb
  go_loopg [17] (n + 1) (fun q iv wr => ∃ j, j ≤ n ∧ n - j < q ∧ iv = .int .i64 (j : Nat) ∧ Rw wr 3 1 (.slice (some ⟨sb, 0, none⟩) n n) n (fRow n (numR (fun p => sizeP j pt p))) ∧ Upd W2 wr (fun k => k = sb))
  case atStart => exact ⟨0, by omega, by omega, rfl, HR0.out, Upd.refl _ _⟩
  case round =>
    obtain ⟨j, hj, hq, rfl, rs, u1⟩ := hrel
    have rp1 := u1.rw HP0.out (fun k q => HPS.out k q)
    by_cases hjn : j < n
    · have hjn' : (j : Int) < (n : Int) := by omega
      have j0 : (0 : Int) ≤ (j : Int) := by omega
      obtain ⟨g, off, rfl, hgl, e0⟩ := numc_at rp1 hjn
      obtain ⟨x, hx⟩ : ∃ x, pt j = x := ⟨_, rfl⟩
      have hxn : x < n := by rw [← hx]; exact HPL.out j hjn
      rw [hx] at e0
      obtain ⟨bs, s1, s2⟩ := num_at rs hxn
      have x0 : (0 : Int) ≤ (x : Int) := by omega
      have x1 : (x : Int) < (n : Int) := by omega
      obtain ⟨z, hz⟩ : ∃ z, sizeP j pt x = z := ⟨_, rfl⟩
      rw [hz] at s1
      have hzn : z ≤ n := by
        rw [← hz]
        have := rsum_le (n := j) (f := fun u => if pt u = x then 1 else 0) (c := 1) (fun u => by split <;> omega)
        unfold sizeP
        omega
      have wz : IntKind.i64.wrap ((z : Int) + 1) = (z : Int) + 1 := IntWalk.i64_in _ (by omega)
      have HX := hide hx
      have HZ := hide hz
      have HRS := hide rs
      have HU1 := hide u1
      clear hx hz rs u1 rp1
      go_wp2_with fail
      go_roundg (gk - 1)
      case measure => omega
      case rel =>
        refine ⟨j + 1, by omega, by omega, by go_num, ?_, HU1.out.setCell _ _ (.inr rfl)⟩
        have q := Rw.set1 HRS.out x hxn (.int .i64 ((z : Int) + 1))
        have e : updF (numR (fun p => sizeP j pt p)) x (.int .i64 ((z : Int) + 1)) = numR (fun p => sizeP (j + 1) pt p) := by
          funext p
          show (if p = x then Value.int .i64 ((z : Int) + 1) else Value.int .i64 ((sizeP j pt p : Nat) : Int)) = Value.int .i64 ((sizeP (j + 1) pt p : Nat) : Int)
          rw [sizeP_succ, HX.out]
          by_cases e : p = x
          · subst e
            rw [if_pos rfl, if_pos rfl, HZ.out]
            rfl
          · rw [if_neg e, if_neg (fun z => e z.symm)]
            rfl
        rw [e, Nat.zero_add] at q
        exact q
    · have hge : ¬ (j : Int) < (n : Int) := by omega
      have hjn2 : j = n := by omega
      subst hjn2
      have r0 := Rw.made1 wr 4 j (.bool false)
      have u0 : Upd wr (wr.alloc (.cells (madeCells #[.bool false] j) 4)) (fun _ => False) := (Upd.refl _ _).alloc _
      have HRS := hide rs
      have HU1 := hide u1
      have HRP := hide rp1
      clear rs u1 rp1
      obtain ⟨ob, hob⟩ : ∃ b, wr.heap.size = b := ⟨_, rfl⟩
      obtain ⟨W3, hW3⟩ : ∃ W, wr.alloc (.cells (madeCells #[.bool false] j) 4) = W := ⟨_, rfl⟩
      rw [hW3] at r0 u0
      rw [hob] at r0
      have HR0 := hide r0
      have HU0 := hide u0
      have HOB := hide hob
      have HW3 := hide hW3
      clear r0 u0 hob hW3
      go_wp2_with fail
      rw [HW3.out, HOB.out]
      obtain ⟨wq, hwq⟩ : ∃ W, W = wr := ⟨_, rfl⟩
      rw [← hwq] at HRS HU1 HRP HU0 HOB HW3
      clear hwq
      have b0 : fRow j (boolR (fun k => decide (k < 0) && wrun E j k k)) = fRow j (fun _ => .bool false) := fRow_congr (fun i hi => by simp [boolR])
      have HB0 := hide b0
      have HUW := hide (((U2.out.then HU1.out (fun k hk e => by omega)).then HU0.out (fun _ _ => id)))
      have hsob : sb ≠ ob := fun e => by
        have := HRS.out.lt sb rfl
        have := HOB.out
        omega
      have hpob : ∀ k, (Value.slice pa j pc).ownBlock = some k → k ≠ ob := fun k q e => by
        have := HRP.out.lt k q
        have := HOB.out
        omega
      have hwob : w.heap.size ≤ ob := by have := (U2.out.then HU1.out (fun k hk e => by omega)).size; have := HOB.out; omega
      have HPOB := hide hpob
      have HR3 := hide (HU0.out.rw HRS.out (fun _ _ => id))
      have HP3 := hide (HU0.out.rw HRP.out (fun _ _ => id))
      clear b0 hpob
      go_loopg [33] (j + 1) (fun q iv wr => ∃ i, i ≤ j ∧ j - i < q ∧ iv = .int .i64 (i : Nat) ∧ Rw wr 4 1 (.slice (some ⟨ob, 0, none⟩) j j) j (fRow j (boolR (fun k => decide (k < i) && wrun E j k k))) ∧ Upd W3 wr (fun k => k = ob))
      case atStart => exact ⟨0, by omega, by omega, rfl, by rw [HB0.out]; exact HR0.out, Upd.refl _ _⟩
      case round =>
        obtain ⟨i, hi, hq2, rfl, ro, u4⟩ := hrel
        by_cases hij : i < j
        · have hij' : (i : Int) < (j : Int) := by omega
          have i0 : (0 : Int) ≤ (i : Int) := by omega
          obtain ⟨g, off, rfl, hgl, e0⟩ := numc_at (u4.rw HP3.out (fun k q => HPOB.out k q)) hij
          obtain ⟨x, hx⟩ : ∃ x, pt i = x := ⟨_, rfl⟩
          have hxn : x < j := by rw [← hx]; exact HPL.out i hij
          rw [hx] at e0
          obtain ⟨bs, s1, -⟩ := num_at (u4.rw HR3.out (fun k q e => hsob (by rw [← e]; exact Option.some.inj q))) hxn
          have x0 : (0 : Int) ≤ (x : Int) := by omega
          have x1 : (x : Int) < (j : Int) := by omega
          obtain ⟨z, hz⟩ : ∃ z, sizeP j pt x = z := ⟨_, rfl⟩
          rw [hz] at s1
          obtain ⟨bo, o1, o2⟩ := bool_at ro hij
          have hc := HCY.out i hij
          rw [hx, hz] at hc
          have HC := hide hc
          have HRO := hide ro
          have HU4 := hide u4
          have hug := (HUW.out.then u4 (fun k hk e => by omega))
          have hg2 : GrAt wr gb j mg E D := HG.out.upd hug (fun _ _ => id)
          obtain ⟨rg, ro2, rsc, ra, rc, g0, gbl, rgl, g1, rr⟩ := row_at hg2 i hij
          have CO := Contains_any wr ra rc _ rr (by have := rowE_len j (E i); omega) i
          have hcd : decide (i ∈ rowE j (E i)) = E i i := by
            cases q : E i i with
            | true => rw [decide_eq_true_eq, rowE_mem]; exact ⟨hij, q⟩
            | false => rw [decide_eq_false_iff_not, rowE_mem]; rintro ⟨-, z⟩; rw [q] at z; cases z
          rw [hcd] at CO
          obtain ⟨rl, hrl⟩ : ∃ l, (rowE j (E i)).length = l := ⟨_, rfl⟩
          rw [hrl] at CO g1
          have HCO := hide CO
          clear hx hz hc ro u4 hug hg2 rr CO hcd hrl
          by_cases h1 : 1 < z
          · have h1' : (1 : Int) < (z : Int) := by omega
            have hw : wrun E j i i = true := HC.out.1 (.inl h1)
            have HW := hide hw
            clear hw
            go_wp2_with fail
            go_roundg (gk - 1)
            case measure => omega
            case rel => exact ⟨i + 1, by omega, by omega, by go_num, by
              have q := Rw.set1 HRO.out i hij (.bool true)
              have e : (fun k => decide (k < i + 1) && wrun E j k k) = updF (fun k => decide (k < i) && wrun E j k k) i true := cyc_row (f := fun k => wrun E j k k) HW.out
              rw [Nat.zero_add, boolR_upd, ← e] at q
              exact q, HU4.out.setCell _ _ (.inr rfl)⟩
          · have h1' : ¬ (1 : Int) < (z : Int) := by omega
            have hw : wrun E j i i = E i i := by
              cases q : E i i with
              | true => exact HC.out.1 (.inr q)
              | false =>
                cases q2 : wrun E j i i with
                | false => rfl
                | true =>
                  rcases HC.out.2 q2 with z | z
                  · omega
                  · rw [q] at z; cases z
            have HW := hide hw
            clear hw
            go_wp2_with (go_at_call 45; go_loud (refine Calls.mono (HCO.out) ?_); rintro e w9 ⟨rfl, hw9⟩; obtain rfl := hw9.symm; clear hw9)
            go_roundg (gk - 1)
            case measure => omega
            case rel => exact ⟨i + 1, by omega, by omega, by go_num, by
              have q := Rw.set1 HRO.out i hij (.bool (E i i))
              have e : (fun k => decide (k < i + 1) && wrun E j k k) = updF (fun k => decide (k < i) && wrun E j k k) i (E i i) := cyc_row (f := fun k => wrun E j k k) HW.out
              rw [Nat.zero_add, boolR_upd, ← e] at q
              exact q, HU4.out.setCell _ _ (.inr rfl)⟩
        · have hge : ¬ (i : Int) < (j : Int) := by omega
          have hij2 : i = j := by omega
          have HRO := hide ro
          have HU4 := hide u4
          clear ro u4
          go_wp2_with fail
          go_ret
          refine ⟨some ⟨ob, 0, none⟩, j, rfl, ?_, fun k q => ?_, HUW.out.then HU4.out (fun k hk e => by omega)⟩
          · have q := HRO.out
            rw [fRow_congr (g := boolR (fun i => wrun E j i i)) (fun k hk => by rw [hij2]; simp [boolR, hk])] at q
            exact q
          · obtain rfl := Option.some.inj q
            exact hwob
end Go.Proofs.Ytnhggncpebifhaa
