/- The walk of the reference's sum of digits. -/
import Derived.Test.YtmfngdjhkpddoaaGreatDoorJ06
set_option maxRecDepth 100000
namespace Go.Proofs.YtmfngdjhkpddoaaGreatDoor
open Go.RowKit Go.Lat

theorem val_take_congr (o o' : List Nat) (i : Nat) (h : ∀ j, j < i → o'.getD j 0 = o.getD j 0) : val (o'.take i) = val (o.take i) := by
  induction i with
  | zero => simp [val]
  | succ i ih => rw [val_take_succ', val_take_succ', ih (fun j hj => h j (by omega)), h i (by omega)]

/-- What stands in the array of a sum behind i places. -/
structure Ad (a b o : List Nat) (n i c : Nat) : Prop where
  len : o.length = n + 1
  ten : ∀ j, j < i → o.getD j 0 < 10
  cur : o.getD i 0 = c
  c1 : c ≤ 1
  rest : ∀ j, i < j → o.getD j 0 = 0
  v : val (o.take i) + c * 10 ^ i = val (a.take i) + val (b.take i)

theorem Ad.step {a b o : List Nat} {n i c : Nat} (h : Ad a b o n i c) (na : Norm a) (nb : Norm b) (o' : List Nat) (q r : Nat) (hl : o'.length = n + 1) (hq : o'.getD (i + 1) 0 = q) (hr : o'.getD i 0 = r)
    (ho : ∀ j, j ≠ i → j ≠ i + 1 → o'.getD j 0 = o.getD j 0) (hs : c + a.getD i 0 + b.getD i 0 = r + 10 * q) (hr10 : r < 10) : Ad a b o' n (i + 1) q := by
  have h1 := dgs_le a na i
  have h2 := dgs_le b nb i
  have h3 := h.c1
  refine ⟨hl, ?_, hq, by omega, ?_, ?_⟩
  · intro j hj
    by_cases e : j = i
    · rw [e, hr]; exact hr10
    · rw [ho j e (by omega)]; exact h.ten j (by omega)
  · intro j hj
    rw [ho j (by omega) (by omega)]; exact h.rest j (by omega)
  · rw [val_take_succ' o' i, val_take_succ' a i, val_take_succ' b i, hr, val_take_congr o o' i (fun j hj => ho j (by omega) (by omega)), Nat.pow_succ]
    have hv := h.v
    have e2 : (c + a.getD i 0 + b.getD i 0) * 10 ^ i = (r + 10 * q) * 10 ^ i := by rw [hs]
    rw [Nat.add_mul, Nat.add_mul, Nat.add_mul, Nat.mul_assoc] at e2
    rw [Nat.mul_comm (10 ^ i) 10, Nat.mul_left_comm]
    omega

theorem Ad.start (a b : List Nat) (n : Nat) : Ad a b (List.replicate (n + 1) 0) n 0 0 := by
  have g : ∀ j, (List.replicate (n + 1) 0).getD j 0 = 0 := by
    intro j
    rw [List.getD_eq_getElem?_getD]
    by_cases h : j < n + 1
    · rw [List.getElem?_replicate, if_pos h]; rfl
    · rw [List.getElem?_replicate, if_neg h]; rfl
  exact ⟨by simp, by omega, g 0, by omega, fun j _ => g j, by simp [val]⟩

theorem Ad.whole {a b o : List Nat} {n c : Nat} (h : Ad a b o n n c) (hA : a.length ≤ n) (hB : b.length ≤ n) : val o = val a + val b ∧ ∀ d ∈ o, d < 10 := by
  have hv := h.v
  rw [List.take_of_length_le hA, List.take_of_length_le hB] at hv
  refine ⟨?_, ?_⟩
  · have e1 := val_take_succ' o n
    rw [h.cur, List.take_of_length_le (by rw [h.len]; exact Nat.le_refl _)] at e1
    omega
  · intro d hd
    obtain ⟨j, hj, e⟩ := List.mem_iff_getElem.1 hd
    have hg : o.getD j 0 = d := by
      rw [List.getD_eq_getElem?_getD, List.getElem?_eq_getElem hj, e]; rfl
    rw [← hg]
    by_cases hjn : j < n
    · exact h.ten j hjn
    · have hjn : j = n := by have := h.len; omega
      rw [hjn, h.cur]
      have := h.c1
      omega

set_option maxHeartbeats 6400000 in
theorem plus1_any (w : World) (v1 v2 : Value) (a b : List Nat) (h1 : DgAt w v1 a) (h2 : DgAt w v2 b) (na : Norm a) (nb : Norm b) (hl1 : a.length ≤ 1000) (hl2 : b.length ≤ 1000) :
    Calls Tryz.prog 97 #[v1, v2] w fun e w' => ∃ v, e = .returned v ∧ DgAt w' v (dg (val a + val b)) ∧ Upd w w' (fun _ => False) := by
  have q1 := h1.lt
  have q2 := h2.lt
  obtain ⟨a1, p1, rfl, -⟩ := Rw.form h1
  obtain ⟨a2, p2, rfl, -⟩ := Rw.form h2
  have r1 := fun j (hj : j < a.length) => dg_cell h1 j hj
  have r2 := fun j (hj : j < b.length) => dg_cell h2 j hj
  obtain ⟨A, hA⟩ : ∃ A, a.length = A := ⟨_, rfl⟩
  obtain ⟨B, hB⟩ : ∃ B, b.length = B := ⟨_, rfl⟩
  rw [hA] at hl1 ⊢
  rw [hB] at hl2 ⊢
  obtain ⟨n, hn⟩ : ∃ n, max A B = n := ⟨_, rfl⟩
  obtain ⟨N, hN⟩ : ∃ N, n + 1 = N := ⟨_, rfl⟩
  have eN : (n : Int) + 1 = (N : Int) := by omega
  have hmk := run_make_row' (P := Tryz.prog) 49 3 (.int .i64 0) 8 Tryz.underlying49 Tryz.info3 rfl .i64 .i64 N (by omega) (by omega)
  have hAn : A ≤ n ∧ B ≤ n ∧ n ≤ 1000 ∧ (A = n ∨ B = n) := by omega
  have HA := hide hA
  have HB := hide hB
  have HN := hide hN
  have hS := Ad.start a b n
  rw [hN] at hS
  clear h1 h2 hA hB hN
  by_cases hAB : A < B
  · have d0 : decide (A < B) = true := by simpa using hAB
    have hBn : B = n := by omega
    subst hBn
    clear hn hAB
    go_enter Tryz.func97, Tryz.ntmps97
    go_wp2_with fail
    have hM := ArrAt.made w N
    have uM : Upd w (w.alloc (.cells (madeCells #[.int .i64 0] N) 3)) (fun _ => False) := (Upd.refl w _).alloc _
    generalize (w.alloc (.cells (madeCells #[.int .i64 0] N) 3)) = wm at hM uM ⊢
    obtain ⟨G, hG⟩ : ∃ G, w.heap.size = G := ⟨_, rfl⟩
    rw [hG] at hM ⊢
    have HG := hide hG
    clear hG hmk eN d0
    go_loopg [7] B (fun q v wr => ∃ (i c : Nat) (o : List Nat), i + q = B ∧ v = .int .i64 i ∧ ArrAt wr G o ∧ Ad a b o B i c ∧ Upd w wr (fun _ => False))
    case atStart => exact ⟨0, 0, _, by omega, rfl, hM, hS, uM⟩
    case round =>
      clear hM hS uM
      obtain ⟨i, c, o, hi, rfl, hO, hC, hu⟩ := hrel
      have hlen := hC.len
      have hc1 := hC.c1
      by_cases hin : i < B
      · have d1 : decide (i < B) = true := by simpa using hin
        have hx9 := dgs_le a na i
        have hy9 := dgs_le b nb i
        have hf := hO.free i
        have hf1 := hO.free (i + 1)
        have kc := hO.cell i (by omega)
        have kc1 := hO.cell (i + 1) (by omega)
        rw [hC.cur] at kc
        have hstep := fun o' q r hl hq hr ho hs h10 => hC.step na nb o' q r hl hq hr ho hs h10
        obtain ⟨x, hx⟩ : ∃ x, a.getD i 0 = x := ⟨_, rfl⟩
        obtain ⟨y, hy⟩ : ∃ y, b.getD i 0 = y := ⟨_, rfl⟩
        obtain ⟨i1, hi1⟩ : ∃ i1, i + 1 = i1 := ⟨_, rfl⟩
        rw [hi1] at hf1 kc1
        rw [hx, hy, hi1] at hstep
        have HST := hide hstep
        have HX := hide hx
        have HY := hide hy
        have HI := hide hi1
        have ei : (i : Int) + 1 = (i1 : Int) := by omega
        have hi0 : (0 : Int) ≤ (i : Int) := Int.natCast_nonneg _
        have hiN : (i : Int) < (N : Int) := by have := HN.out; omega
        have hi10 : (0 : Int) ≤ (i1 : Int) := Int.natCast_nonneg _
        have hi1N : (i1 : Int) < (N : Int) := by have := HN.out; omega
        have hi1b : i1 ≤ 1001 := by omega
        have hlN : o.length = N := by have := HN.out; omega
        have hiN2 : i < N ∧ i1 < N := by omega
        have hne : i ≠ i1 := by omega
        have hxb : x ≤ 9 := by omega
        have hyb : y ≤ 9 := by omega
        obtain ⟨s, hs⟩ : ∃ s, c + x + y = s := ⟨_, rfl⟩
        have hsb : s ≤ 19 := by omega
        have ws : IntKind.i64.wrap (s : Int) = (s : Int) := IntWalk.i64_in _ (by omega)
        have HC := hide hC
        have HS := hide hs
        have HO := hide hO
        clear hC hx hy hi1 hstep hO hs
        by_cases hiA : i < A
        · have d2 : decide (i < A) = true := by simpa using hiA
          obtain ⟨g1, o1, rfl, k1⟩ := r1 i (by rw [HA.out]; exact hiA)
          have hg1 : g1 < w.heap.size := q1 g1 rfl
          have k1' := (hu.cell g1 _ hg1 id).trans k1
          rw [HX.out] at k1'
          have hiA2 : (i : Int) < (A : Int) := by omega
          by_cases hiB : i < B
          · have d3 : decide (i < B) = true := by simpa using hiB
            obtain ⟨u1, hu1⟩ : ∃ u1, c + x = u1 := ⟨_, rfl⟩
            have e1 : (c : Int) + (x : Int) = (u1 : Int) := by omega
            have w1 : IntKind.i64.wrap (u1 : Int) = (u1 : Int) := IntWalk.i64_in _ (by omega)
            obtain ⟨g2, o2, rfl, k2⟩ := r2 i (by rw [HB.out]; exact hiB)
            have hg2 : g2 < w.heap.size := q2 g2 rfl
            have hiB2 : (i : Int) < (B : Int) := by omega
            have e2 : (u1 : Int) + (y : Int) = (s : Int) := by have := HS.out; omega
            have hO1 := HO.out.set i u1
            have uu := hu.setCell ⟨G, i, none⟩ (.int .i64 (u1 : Nat)) (.inl (by rw [HG.out]; exact Nat.le_refl _))
            have HO1 := hide hO1
            have HU1 := hide hu1
            have K2 := hide k2
            clear hO1 hu1 k1 k2 r1 r2
            go_wp2_with fail
            go_still_tail 12, (by kernel_rfl)
            change wpList _ _ _ _ _ wr.drew
            go_wp2_with fail
            clear k1' kc kc1 hf hf1
            have hO2 := HO1.out.upd ((Upd.refl _ (fun _ => False)).drew) id
            have hu2 := uu.drew
            generalize (wr.setCell ⟨G, i, none⟩ (.int .i64 (u1 : Nat))).drew = w2 at hO2 hu2 ⊢
            have k2' := (hu2.cell g2 _ hg2 id).trans K2.out
            rw [HY.out] at k2'
            have kc := hO2.cell i (by simp; omega)
            rw [getD_set _ i i _ (by omega), if_pos rfl] at kc
            have hf := hO2.free i
            have HO2 := hide hO2
            clear hO2 w1
            have GP : ∀ j, j ≠ i → (o.set i u1).getD j 0 = o.getD j 0 := fun j e => by rw [getD_set _ i j _ (by omega), if_neg e]
            have hlP : (o.set i u1).length = N := by simp; omega
            generalize (o.set i u1) = P0 at HO2 GP hlP
            have HP := HO2
            have UP := hu2
            have hW := HP.out.set i s
            have kz := hW.cell i (by simp; omega)
            rw [getD_set _ i i _ (by omega), if_pos rfl] at kz
            have kf := hW.free i
            have HW := hide hW
            clear hW
            have g3 : ∀ j, (P0.set i s).getD j 0 = if j = i then s else o.getD j 0 := fun j => by
              rw [getD_set _ i j _ (by omega)]
              by_cases e : j = i
              · rw [if_pos e, if_pos e]
              · rw [if_neg e, if_neg e, GP j e]
            by_cases h10 : 10 ≤ s
            · have d9 : decide (10 ≤ s) = true := by simpa using h10
              have d9' : decide ((10 : Int) ≤ (s : Int)) = true := by simp; omega
              obtain ⟨r, hr⟩ : ∃ r, s - 10 = r := ⟨_, rfl⟩
              have er : (s : Int) - 10 = (r : Int) := by omega
              have wr1 : IntKind.i64.wrap (r : Int) = (r : Int) := IntWalk.i64_in _ (by omega)
              have hW1 := HW.out.set i r
              have kd := hW1.cell i1 (by simp; omega)
              rw [getD_set _ i i1 _ (by simp; omega), if_neg (by omega), g3, if_neg (by omega), HC.out.rest i1 (by have := HI.out; omega)] at kd
              have kf1 := hW1.free i1
              have hW2 := hW1.set i1 1
              have g5 := fun j => (by rw [getD_set _ i1 j _ (by simp; omega), getD_set _ i j _ (by simp; omega)] : (((P0.set i s).set i r).set i1 1).getD j 0 = if j = i1 then 1 else if j = i then r else (P0.set i s).getD j 0)
              have hA2 := HST.out (((P0.set i s).set i r).set i1 1) 1 r (by simp; have := HN.out; omega) (by rw [g5, if_pos rfl]) (by rw [g5, if_neg (by omega), if_pos rfl]) (fun j h1 h2 => by rw [g5, if_neg h2, if_neg h1, g3, if_neg h1]) (by have := HS.out; omega) (by omega)
              have uW2 := ((UP.setCell ⟨G, i, none⟩ (.int .i64 (s : Nat)) (.inl (by rw [HG.out]; exact Nat.le_refl _))).setCell ⟨G, i, none⟩ (.int .i64 (r : Nat)) (.inl (by rw [HG.out]; exact Nat.le_refl _))).setCell ⟨G, i1, none⟩ (.int .i64 ((1 : Nat) : Int)) (.inl (by rw [HG.out]; exact Nat.le_refl _))
              have HA2 := hide hA2
              have HW2 := hide hW2
              have HU2 := hide uW2
              clear hA2 hW1 hW2 g3 g5 hr h10 uW2
              go_still_tail 12, (by kernel_rfl)
              change wpList _ _ _ _ _ w2.drew
              clear ws
              go_wp2_with fail
              go_roundg (gk - 1)
              case measure => omega
              case rel => exact ⟨i1, 1, _, by have := HI.out; omega, by first | rfl | go_num, HW2.out.upd ((Upd.refl _ (fun _ => False)).drew) id, HA2.out, HU2.out.drew⟩
            · have d9 : decide (10 ≤ s) = false := by simpa using h10
              have d9' : decide ((10 : Int) ≤ (s : Int)) = false := by simp; omega
              have hA2 := HST.out (P0.set i s) 0 s (by simp; have := HN.out; omega) (by rw [g3, if_neg (by omega), HC.out.rest i1 (by have := HI.out; omega)]) (by rw [g3, if_pos rfl]) (fun j h1 h2 => by rw [g3, if_neg h1]) (by have := HS.out; omega) (by omega)
              have HA2 := hide hA2
              have HU2 := hide (UP.setCell ⟨G, i, none⟩ (.int .i64 (s : Nat)) (.inl (by rw [HG.out]; exact Nat.le_refl _)))
              clear hA2 g3 h10
              go_still_tail 12, (by kernel_rfl)
              change wpList _ _ _ _ _ w2.drew
              clear ws
              go_wp2_with fail
              go_roundg (gk - 1)
              case measure => omega
              case rel => exact ⟨i1, 0, _, by have := HI.out; omega, by first | rfl | go_num, HW.out.upd ((Upd.refl _ (fun _ => False)).drew) id, HA2.out, HU2.out.drew⟩
          · exact absurd hin hiB
        · have d2 : decide (i < A) = false := by simpa using hiA
          have hx0 : x = 0 := by rw [← HX.out, List.getD_eq_getElem?_getD, List.getElem?_eq_none (by rw [HA.out]; omega)]; rfl
          have hiB : i < B := by omega
          have d3 : decide (i < B) = true := by simpa using hiB
          obtain ⟨g2, o2, rfl, k2⟩ := r2 i (by rw [HB.out]; exact hiB)
          have hg2 : g2 < w.heap.size := q2 g2 rfl
          have k2' := (hu.cell g2 _ hg2 id).trans k2
          rw [HY.out] at k2'
          have hiB2 : (i : Int) < (B : Int) := by omega
          have e2 : (c : Int) + (y : Int) = (s : Int) := by have := HS.out; omega
          clear k2 r1 r2 hiA
          go_wp2_with fail
          have GP : ∀ j, j ≠ i → o.getD j 0 = o.getD j 0 := fun j e => rfl
          have hlP := hlN
          obtain ⟨P0, hP0⟩ : ∃ P0, o = P0 := ⟨_, rfl⟩
          have HP : Hid (ArrAt wr G P0) := hide (by rw [← hP0]; exact HO.out)
          rw [show o.length = P0.length from by rw [hP0]] at hlP
          replace GP : ∀ j, j ≠ i → P0.getD j 0 = o.getD j 0 := fun j e => by rw [hP0]
          clear hP0
          have UP := hu
          have hW := HP.out.set i s
          have kz := hW.cell i (by simp; omega)
          rw [getD_set _ i i _ (by omega), if_pos rfl] at kz
          have kf := hW.free i
          have HW := hide hW
          clear hW
          have g3 : ∀ j, (P0.set i s).getD j 0 = if j = i then s else o.getD j 0 := fun j => by
            rw [getD_set _ i j _ (by omega)]
            by_cases e : j = i
            · rw [if_pos e, if_pos e]
            · rw [if_neg e, if_neg e, GP j e]
          by_cases h10 : 10 ≤ s
          · have d9 : decide (10 ≤ s) = true := by simpa using h10
            have d9' : decide ((10 : Int) ≤ (s : Int)) = true := by simp; omega
            obtain ⟨r, hr⟩ : ∃ r, s - 10 = r := ⟨_, rfl⟩
            have er : (s : Int) - 10 = (r : Int) := by omega
            have wr1 : IntKind.i64.wrap (r : Int) = (r : Int) := IntWalk.i64_in _ (by omega)
            have hW1 := HW.out.set i r
            have kd := hW1.cell i1 (by simp; omega)
            rw [getD_set _ i i1 _ (by simp; omega), if_neg (by omega), g3, if_neg (by omega), HC.out.rest i1 (by have := HI.out; omega)] at kd
            have kf1 := hW1.free i1
            have hW2 := hW1.set i1 1
            have g5 := fun j => (by rw [getD_set _ i1 j _ (by simp; omega), getD_set _ i j _ (by simp; omega)] : (((P0.set i s).set i r).set i1 1).getD j 0 = if j = i1 then 1 else if j = i then r else (P0.set i s).getD j 0)
            have hA2 := HST.out (((P0.set i s).set i r).set i1 1) 1 r (by simp; have := HN.out; omega) (by rw [g5, if_pos rfl]) (by rw [g5, if_neg (by omega), if_pos rfl]) (fun j h1 h2 => by rw [g5, if_neg h2, if_neg h1, g3, if_neg h1]) (by have := HS.out; omega) (by omega)
            have uW2 := ((UP.setCell ⟨G, i, none⟩ (.int .i64 (s : Nat)) (.inl (by rw [HG.out]; exact Nat.le_refl _))).setCell ⟨G, i, none⟩ (.int .i64 (r : Nat)) (.inl (by rw [HG.out]; exact Nat.le_refl _))).setCell ⟨G, i1, none⟩ (.int .i64 ((1 : Nat) : Int)) (.inl (by rw [HG.out]; exact Nat.le_refl _))
            have HA2 := hide hA2
            have HW2 := hide hW2
            have HU2 := hide uW2
            clear hA2 hW1 hW2 g3 g5 hr h10 uW2
            go_still_tail 12, (by kernel_rfl)
            change wpList _ _ _ _ _ wr.drew
            clear ws
            go_wp2_with fail
            go_roundg (gk - 1)
            case measure => omega
            case rel => exact ⟨i1, 1, _, by have := HI.out; omega, by first | rfl | go_num, HW2.out.upd ((Upd.refl _ (fun _ => False)).drew) id, HA2.out, HU2.out.drew⟩
          · have d9 : decide (10 ≤ s) = false := by simpa using h10
            have d9' : decide ((10 : Int) ≤ (s : Int)) = false := by simp; omega
            have hA2 := HST.out (P0.set i s) 0 s (by simp; have := HN.out; omega) (by rw [g3, if_neg (by omega), HC.out.rest i1 (by have := HI.out; omega)]) (by rw [g3, if_pos rfl]) (fun j h1 h2 => by rw [g3, if_neg h1]) (by have := HS.out; omega) (by omega)
            have HA2 := hide hA2
            have HU2 := hide (UP.setCell ⟨G, i, none⟩ (.int .i64 (s : Nat)) (.inl (by rw [HG.out]; exact Nat.le_refl _)))
            clear hA2 g3 h10
            go_still_tail 12, (by kernel_rfl)
            change wpList _ _ _ _ _ wr.drew
            clear ws
            go_wp2_with fail
            go_roundg (gk - 1)
            case measure => omega
            case rel => exact ⟨i1, 0, _, by have := HI.out; omega, by first | rfl | go_num, HW.out.upd ((Upd.refl _ (fun _ => False)).drew) id, HA2.out, HU2.out.drew⟩
      · have hie : i = B := by omega
        subst hie
        have d1 : decide (i < i) = false := by simp
        have hlN : o.length = N := by have := HN.out; omega
        have hdg := hO.dg
        obtain ⟨e1, e2⟩ := hC.whole (by rw [HA.out]; omega) (by rw [HB.out]; omega)
        have hT := fun w' hv => trim1_any w' (.slice (some ⟨G, 0, none⟩) o.length o.length) o hv e2 (by omega)
        rw [e1, hlN] at hT
        rw [hlN] at hdg
        have HD := hide hdg
        clear hC hdg hO hlen hin hi r1 r2 e1 e2
        go_wp2_with fail
        refine Calls.mono (hT _ HD.out) ?_
        rintro e w9 ⟨v, rfl, z1, ⟨m, rfl⟩, z2⟩
        go_wp2_with fail
        go_ret
        exact ⟨_, rfl, z1, hu.drewN m⟩
  · have d0 : decide (A < B) = false := by simpa using hAB
    have hBn : A = n := by omega
    subst hBn
    clear hn hAB
    go_enter Tryz.func97, Tryz.ntmps97
    go_wp2_with fail
    have hM := ArrAt.made w N
    have uM : Upd w (w.alloc (.cells (madeCells #[.int .i64 0] N) 3)) (fun _ => False) := (Upd.refl w _).alloc _
    generalize (w.alloc (.cells (madeCells #[.int .i64 0] N) 3)) = wm at hM uM ⊢
    obtain ⟨G, hG⟩ : ∃ G, w.heap.size = G := ⟨_, rfl⟩
    rw [hG] at hM ⊢
    have HG := hide hG
    clear hG hmk eN d0
    go_loopg [7] A (fun q v wr => ∃ (i c : Nat) (o : List Nat), i + q = A ∧ v = .int .i64 i ∧ ArrAt wr G o ∧ Ad a b o A i c ∧ Upd w wr (fun _ => False))
    case atStart => exact ⟨0, 0, _, by omega, rfl, hM, hS, uM⟩
    case round =>
      clear hM hS uM
      obtain ⟨i, c, o, hi, rfl, hO, hC, hu⟩ := hrel
      have hlen := hC.len
      have hc1 := hC.c1
      by_cases hin : i < A
      · have d1 : decide (i < A) = true := by simpa using hin
        have hx9 := dgs_le a na i
        have hy9 := dgs_le b nb i
        have hf := hO.free i
        have hf1 := hO.free (i + 1)
        have kc := hO.cell i (by omega)
        have kc1 := hO.cell (i + 1) (by omega)
        rw [hC.cur] at kc
        have hstep := fun o' q r hl hq hr ho hs h10 => hC.step na nb o' q r hl hq hr ho hs h10
        obtain ⟨x, hx⟩ : ∃ x, a.getD i 0 = x := ⟨_, rfl⟩
        obtain ⟨y, hy⟩ : ∃ y, b.getD i 0 = y := ⟨_, rfl⟩
        obtain ⟨i1, hi1⟩ : ∃ i1, i + 1 = i1 := ⟨_, rfl⟩
        rw [hi1] at hf1 kc1
        rw [hx, hy, hi1] at hstep
        have HST := hide hstep
        have HX := hide hx
        have HY := hide hy
        have HI := hide hi1
        have ei : (i : Int) + 1 = (i1 : Int) := by omega
        have hi0 : (0 : Int) ≤ (i : Int) := Int.natCast_nonneg _
        have hiN : (i : Int) < (N : Int) := by have := HN.out; omega
        have hi10 : (0 : Int) ≤ (i1 : Int) := Int.natCast_nonneg _
        have hi1N : (i1 : Int) < (N : Int) := by have := HN.out; omega
        have hi1b : i1 ≤ 1001 := by omega
        have hlN : o.length = N := by have := HN.out; omega
        have hiN2 : i < N ∧ i1 < N := by omega
        have hne : i ≠ i1 := by omega
        have hxb : x ≤ 9 := by omega
        have hyb : y ≤ 9 := by omega
        obtain ⟨s, hs⟩ : ∃ s, c + x + y = s := ⟨_, rfl⟩
        have hsb : s ≤ 19 := by omega
        have ws : IntKind.i64.wrap (s : Int) = (s : Int) := IntWalk.i64_in _ (by omega)
        have HC := hide hC
        have HS := hide hs
        have HO := hide hO
        clear hC hx hy hi1 hstep hO hs
        by_cases hiA : i < A
        · have d2 : decide (i < A) = true := by simpa using hiA
          obtain ⟨g1, o1, rfl, k1⟩ := r1 i (by rw [HA.out]; exact hiA)
          have hg1 : g1 < w.heap.size := q1 g1 rfl
          have k1' := (hu.cell g1 _ hg1 id).trans k1
          rw [HX.out] at k1'
          have hiA2 : (i : Int) < (A : Int) := by omega
          by_cases hiB : i < B
          · have d3 : decide (i < B) = true := by simpa using hiB
            obtain ⟨u1, hu1⟩ : ∃ u1, c + x = u1 := ⟨_, rfl⟩
            have e1 : (c : Int) + (x : Int) = (u1 : Int) := by omega
            have w1 : IntKind.i64.wrap (u1 : Int) = (u1 : Int) := IntWalk.i64_in _ (by omega)
            obtain ⟨g2, o2, rfl, k2⟩ := r2 i (by rw [HB.out]; exact hiB)
            have hg2 : g2 < w.heap.size := q2 g2 rfl
            have hiB2 : (i : Int) < (B : Int) := by omega
            have e2 : (u1 : Int) + (y : Int) = (s : Int) := by have := HS.out; omega
            have hO1 := HO.out.set i u1
            have uu := hu.setCell ⟨G, i, none⟩ (.int .i64 (u1 : Nat)) (.inl (by rw [HG.out]; exact Nat.le_refl _))
            have HO1 := hide hO1
            have HU1 := hide hu1
            have K2 := hide k2
            clear hO1 hu1 k1 k2 r1 r2
            go_wp2_with fail
            go_still_tail 12, (by kernel_rfl)
            change wpList _ _ _ _ _ wr.drew
            go_wp2_with fail
            clear k1' kc kc1 hf hf1
            have hO2 := HO1.out.upd ((Upd.refl _ (fun _ => False)).drew) id
            have hu2 := uu.drew
            generalize (wr.setCell ⟨G, i, none⟩ (.int .i64 (u1 : Nat))).drew = w2 at hO2 hu2 ⊢
            have k2' := (hu2.cell g2 _ hg2 id).trans K2.out
            rw [HY.out] at k2'
            have kc := hO2.cell i (by simp; omega)
            rw [getD_set _ i i _ (by omega), if_pos rfl] at kc
            have hf := hO2.free i
            have HO2 := hide hO2
            clear hO2 w1
            have GP : ∀ j, j ≠ i → (o.set i u1).getD j 0 = o.getD j 0 := fun j e => by rw [getD_set _ i j _ (by omega), if_neg e]
            have hlP : (o.set i u1).length = N := by simp; omega
            generalize (o.set i u1) = P0 at HO2 GP hlP
            have HP := HO2
            have UP := hu2
            have hW := HP.out.set i s
            have kz := hW.cell i (by simp; omega)
            rw [getD_set _ i i _ (by omega), if_pos rfl] at kz
            have kf := hW.free i
            have HW := hide hW
            clear hW
            have g3 : ∀ j, (P0.set i s).getD j 0 = if j = i then s else o.getD j 0 := fun j => by
              rw [getD_set _ i j _ (by omega)]
              by_cases e : j = i
              · rw [if_pos e, if_pos e]
              · rw [if_neg e, if_neg e, GP j e]
            by_cases h10 : 10 ≤ s
            · have d9 : decide (10 ≤ s) = true := by simpa using h10
              have d9' : decide ((10 : Int) ≤ (s : Int)) = true := by simp; omega
              obtain ⟨r, hr⟩ : ∃ r, s - 10 = r := ⟨_, rfl⟩
              have er : (s : Int) - 10 = (r : Int) := by omega
              have wr1 : IntKind.i64.wrap (r : Int) = (r : Int) := IntWalk.i64_in _ (by omega)
              have hW1 := HW.out.set i r
              have kd := hW1.cell i1 (by simp; omega)
              rw [getD_set _ i i1 _ (by simp; omega), if_neg (by omega), g3, if_neg (by omega), HC.out.rest i1 (by have := HI.out; omega)] at kd
              have kf1 := hW1.free i1
              have hW2 := hW1.set i1 1
              have g5 := fun j => (by rw [getD_set _ i1 j _ (by simp; omega), getD_set _ i j _ (by simp; omega)] : (((P0.set i s).set i r).set i1 1).getD j 0 = if j = i1 then 1 else if j = i then r else (P0.set i s).getD j 0)
              have hA2 := HST.out (((P0.set i s).set i r).set i1 1) 1 r (by simp; have := HN.out; omega) (by rw [g5, if_pos rfl]) (by rw [g5, if_neg (by omega), if_pos rfl]) (fun j h1 h2 => by rw [g5, if_neg h2, if_neg h1, g3, if_neg h1]) (by have := HS.out; omega) (by omega)
              have uW2 := ((UP.setCell ⟨G, i, none⟩ (.int .i64 (s : Nat)) (.inl (by rw [HG.out]; exact Nat.le_refl _))).setCell ⟨G, i, none⟩ (.int .i64 (r : Nat)) (.inl (by rw [HG.out]; exact Nat.le_refl _))).setCell ⟨G, i1, none⟩ (.int .i64 ((1 : Nat) : Int)) (.inl (by rw [HG.out]; exact Nat.le_refl _))
              have HA2 := hide hA2
              have HW2 := hide hW2
              have HU2 := hide uW2
              clear hA2 hW1 hW2 g3 g5 hr h10 uW2
              go_still_tail 12, (by kernel_rfl)
              change wpList _ _ _ _ _ w2.drew
              clear ws
              go_wp2_with fail
              go_roundg (gk - 1)
              case measure => omega
              case rel => exact ⟨i1, 1, _, by have := HI.out; omega, by first | rfl | go_num, HW2.out.upd ((Upd.refl _ (fun _ => False)).drew) id, HA2.out, HU2.out.drew⟩
            · have d9 : decide (10 ≤ s) = false := by simpa using h10
              have d9' : decide ((10 : Int) ≤ (s : Int)) = false := by simp; omega
              have hA2 := HST.out (P0.set i s) 0 s (by simp; have := HN.out; omega) (by rw [g3, if_neg (by omega), HC.out.rest i1 (by have := HI.out; omega)]) (by rw [g3, if_pos rfl]) (fun j h1 h2 => by rw [g3, if_neg h1]) (by have := HS.out; omega) (by omega)
              have HA2 := hide hA2
              have HU2 := hide (UP.setCell ⟨G, i, none⟩ (.int .i64 (s : Nat)) (.inl (by rw [HG.out]; exact Nat.le_refl _)))
              clear hA2 g3 h10
              go_still_tail 12, (by kernel_rfl)
              change wpList _ _ _ _ _ w2.drew
              clear ws
              go_wp2_with fail
              go_roundg (gk - 1)
              case measure => omega
              case rel => exact ⟨i1, 0, _, by have := HI.out; omega, by first | rfl | go_num, HW.out.upd ((Upd.refl _ (fun _ => False)).drew) id, HA2.out, HU2.out.drew⟩
          · have d3 : decide (i < B) = false := by simpa using hiB
            have hy0 : y = 0 := by rw [← HY.out, List.getD_eq_getElem?_getD, List.getElem?_eq_none (by rw [HB.out]; omega)]; rfl
            have e2 : (c : Int) + (x : Int) = (s : Int) := by have := HS.out; omega
            clear k1 r1 r2 hiB
            go_wp2_with fail
            have GP : ∀ j, j ≠ i → o.getD j 0 = o.getD j 0 := fun j e => rfl
            have hlP := hlN
            obtain ⟨P0, hP0⟩ : ∃ P0, o = P0 := ⟨_, rfl⟩
            have HP : Hid (ArrAt wr G P0) := hide (by rw [← hP0]; exact HO.out)
            rw [show o.length = P0.length from by rw [hP0]] at hlP
            replace GP : ∀ j, j ≠ i → P0.getD j 0 = o.getD j 0 := fun j e => by rw [hP0]
            clear hP0
            have UP := hu
            have hW := HP.out.set i s
            have kz := hW.cell i (by simp; omega)
            rw [getD_set _ i i _ (by omega), if_pos rfl] at kz
            have kf := hW.free i
            have HW := hide hW
            clear hW
            have g3 : ∀ j, (P0.set i s).getD j 0 = if j = i then s else o.getD j 0 := fun j => by
              rw [getD_set _ i j _ (by omega)]
              by_cases e : j = i
              · rw [if_pos e, if_pos e]
              · rw [if_neg e, if_neg e, GP j e]
            by_cases h10 : 10 ≤ s
            · have d9 : decide (10 ≤ s) = true := by simpa using h10
              have d9' : decide ((10 : Int) ≤ (s : Int)) = true := by simp; omega
              obtain ⟨r, hr⟩ : ∃ r, s - 10 = r := ⟨_, rfl⟩
              have er : (s : Int) - 10 = (r : Int) := by omega
              have wr1 : IntKind.i64.wrap (r : Int) = (r : Int) := IntWalk.i64_in _ (by omega)
              have hW1 := HW.out.set i r
              have kd := hW1.cell i1 (by simp; omega)
              rw [getD_set _ i i1 _ (by simp; omega), if_neg (by omega), g3, if_neg (by omega), HC.out.rest i1 (by have := HI.out; omega)] at kd
              have kf1 := hW1.free i1
              have hW2 := hW1.set i1 1
              have g5 := fun j => (by rw [getD_set _ i1 j _ (by simp; omega), getD_set _ i j _ (by simp; omega)] : (((P0.set i s).set i r).set i1 1).getD j 0 = if j = i1 then 1 else if j = i then r else (P0.set i s).getD j 0)
              have hA2 := HST.out (((P0.set i s).set i r).set i1 1) 1 r (by simp; have := HN.out; omega) (by rw [g5, if_pos rfl]) (by rw [g5, if_neg (by omega), if_pos rfl]) (fun j h1 h2 => by rw [g5, if_neg h2, if_neg h1, g3, if_neg h1]) (by have := HS.out; omega) (by omega)
              have uW2 := ((UP.setCell ⟨G, i, none⟩ (.int .i64 (s : Nat)) (.inl (by rw [HG.out]; exact Nat.le_refl _))).setCell ⟨G, i, none⟩ (.int .i64 (r : Nat)) (.inl (by rw [HG.out]; exact Nat.le_refl _))).setCell ⟨G, i1, none⟩ (.int .i64 ((1 : Nat) : Int)) (.inl (by rw [HG.out]; exact Nat.le_refl _))
              have HA2 := hide hA2
              have HW2 := hide hW2
              have HU2 := hide uW2
              clear hA2 hW1 hW2 g3 g5 hr h10 uW2
              go_still_tail 12, (by kernel_rfl)
              change wpList _ _ _ _ _ wr.drew
              clear ws
              go_wp2_with fail
              go_roundg (gk - 1)
              case measure => omega
              case rel => exact ⟨i1, 1, _, by have := HI.out; omega, by first | rfl | go_num, HW2.out.upd ((Upd.refl _ (fun _ => False)).drew) id, HA2.out, HU2.out.drew⟩
            · have d9 : decide (10 ≤ s) = false := by simpa using h10
              have d9' : decide ((10 : Int) ≤ (s : Int)) = false := by simp; omega
              have hA2 := HST.out (P0.set i s) 0 s (by simp; have := HN.out; omega) (by rw [g3, if_neg (by omega), HC.out.rest i1 (by have := HI.out; omega)]) (by rw [g3, if_pos rfl]) (fun j h1 h2 => by rw [g3, if_neg h1]) (by have := HS.out; omega) (by omega)
              have HA2 := hide hA2
              have HU2 := hide (UP.setCell ⟨G, i, none⟩ (.int .i64 (s : Nat)) (.inl (by rw [HG.out]; exact Nat.le_refl _)))
              clear hA2 g3 h10
              go_still_tail 12, (by kernel_rfl)
              change wpList _ _ _ _ _ wr.drew
              clear ws
              go_wp2_with fail
              go_roundg (gk - 1)
              case measure => omega
              case rel => exact ⟨i1, 0, _, by have := HI.out; omega, by first | rfl | go_num, HW.out.upd ((Upd.refl _ (fun _ => False)).drew) id, HA2.out, HU2.out.drew⟩
        · exact absurd hin hiA
      · have hie : i = A := by omega
        subst hie
        have d1 : decide (i < i) = false := by simp
        have hlN : o.length = N := by have := HN.out; omega
        have hdg := hO.dg
        obtain ⟨e1, e2⟩ := hC.whole (by rw [HA.out]; omega) (by rw [HB.out]; omega)
        have hT := fun w' hv => trim1_any w' (.slice (some ⟨G, 0, none⟩) o.length o.length) o hv e2 (by omega)
        rw [e1, hlN] at hT
        rw [hlN] at hdg
        have HD := hide hdg
        clear hC hdg hO hlen hin hi r1 r2 e1 e2
        go_wp2_with fail
        refine Calls.mono (hT _ HD.out) ?_
        rintro e w9 ⟨v, rfl, z1, ⟨m, rfl⟩, z2⟩
        go_wp2_with fail
        go_ret
        exact ⟨_, rfl, z1, hu.drewN m⟩
end Go.Proofs.YtmfngdjhkpddoaaGreatDoor
