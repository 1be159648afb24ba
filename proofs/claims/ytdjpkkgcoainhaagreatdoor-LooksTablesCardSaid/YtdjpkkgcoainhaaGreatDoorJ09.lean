/- The walk of the reference's product of digits. -/
import Derived.Test.YtdjpkkgcoainhaaGreatDoorJ08
import Derived.Test.YtdjpkkgcoainhaaGreatDoorJ05
import Derived.Lib.ParseIntB
import Derived.Lib.CutLaws
import Derived.Lib.IndexLaws
import Derived.Lib.IndexBytes
import Derived.Lib.SlTrimSet
/- The walk of the reference's product of digits. -/
set_option maxRecDepth 100000
namespace Go.Proofs.YtdjpkkgcoainhaaGreatDoor
open Go.RowKit Go.Lat

/-- What stands in the array behind i rows and k places of the next one. -/
structure Acc (a b o : List Nat) (i k : Nat) : Prop where
  len : o.length = a.length + b.length + 1
  v : val o = val (a.take i) * val b + a.getD i 0 * val (b.take k) * 10 ^ i
  le : ∀ d ∈ o, d ≤ 81 * (i * b.length + k)

theorem Acc.step {a b o : List Nat} {i k : Nat} (h : Acc a b o i k) (na : Norm a) (nb : Norm b) (hi : i < a.length) (hk : k < b.length) : Acc a b (o.set (i + k) (o.getD (i + k) 0 + a.getD i 0 * b.getD k 0)) i (k + 1) := by
  have hl := h.len
  refine ⟨by simp [hl], ?_, ?_⟩
  · rw [val_set o (i + k) _ (by omega), h.v, val_take_succ b k hk, Nat.pow_add]
    generalize val (a.take i) * val b = z
    generalize a.getD i 0 = x
    generalize val (b.take k) = y
    generalize b.getD k 0 = u
    rw [Nat.mul_add, Nat.add_mul, Nat.add_assoc]
    congr 2
    simp only [Nat.mul_assoc, Nat.mul_comm, Nat.mul_left_comm]
  · refine mem_set_le _ _ _ _ (fun d hd => by have := h.le d hd; rw [show 81 * (i * b.length + (k + 1)) = 81 * (i * b.length + k) + 81 from by omega]; omega) ?_
    have h1 := h.le _ (getD_mem o (i + k) (by omega))
    have h2 := Nat.mul_le_mul (dgs_le a na i) (dgs_le b nb k)
    omega
theorem Acc.row {a b o : List Nat} {i : Nat} (h : Acc a b o i b.length) (hi : i < a.length) : Acc a b o (i + 1) 0 := by
  refine ⟨h.len, ?_, ?_⟩
  · rw [h.v, val_take_succ a i hi, List.take_of_length_le (Nat.le_refl _), Nat.add_mul]
    simp only [List.take_zero, val, Nat.mul_zero, Nat.zero_mul, Nat.add_zero]
    congr 1
    rw [Nat.mul_assoc, Nat.mul_comm (val b), ← Nat.mul_assoc]
  · intro d hd
    have := h.le d hd
    rw [show (i + 1) * b.length + 0 = i * b.length + b.length from by rw [Nat.add_zero, Nat.succ_mul]]
    exact this
theorem Acc.start (a b : List Nat) : Acc a b (List.replicate (a.length + b.length + 1) 0) 0 0 := by
  refine ⟨by simp, ?_, ?_⟩
  · rw [val_zero _ (fun d hd => List.eq_of_mem_replicate hd)]
    simp [val]
  · intro d hd
    rw [List.eq_of_mem_replicate hd]
    omega

/-- What stands in the array behind i carries. -/
structure Car (V n o' : Nat) (o : List Nat) (i : Nat) : Prop where
  len : o.length = n + 1
  v : val o = V
  ten : ∀ j, j < i → o.getD j 0 < 10
  le : ∀ j, o.getD j 0 ≤ 2 * o'
  lt : ∀ j, i < j → o.getD j 0 ≤ o'

theorem Car.step {V n B : Nat} {o : List Nat} {i : Nat} (h : Car V n B o i) (hi : i < n) (hB : 1 ≤ B) : Car V n B ((o.set (i + 1) (o.getD (i + 1) 0 + o.getD i 0 / 10)).set i (o.getD i 0 % 10)) (i + 1) := by
  have hl := h.len
  have h1 := h.le i
  have h2 := h.lt (i + 1) (by omega)
  have g : ∀ j, ((o.set (i + 1) (o.getD (i + 1) 0 + o.getD i 0 / 10)).set i (o.getD i 0 % 10)).getD j 0 = if j = i then o.getD i 0 % 10 else if j = i + 1 then o.getD (i + 1) 0 + o.getD i 0 / 10 else o.getD j 0 := by
    intro j
    rw [getD_set _ i j _ (by simp; omega), getD_set _ (i + 1) j _ (by omega)]
  refine ⟨by simp [hl], by rw [val_carry o i (by omega)]; exact h.v, ?_, ?_, ?_⟩
  · intro j hj
    rw [g]
    split
    · omega
    · rw [if_neg (by omega)]
      exact h.ten j (by omega)
  · intro j
    rw [g]
    split
    · omega
    · split
      · omega
      · exact h.le j
  · intro j hj
    rw [g, if_neg (by omega), if_neg (by omega)]
    exact h.lt j (by omega)
theorem Car.done {V n B : Nat} {o : List Nat} (h : Car V n B o n) (hV : V < 10 ^ n) : ∀ d ∈ o, d < 10 := by
  intro d hd
  obtain ⟨j, hj, e⟩ := List.mem_iff_getElem.1 hd
  have hl := h.len
  have hg : o.getD j 0 = d := by
    rw [List.getD_eq_getElem?_getD, List.getElem?_eq_getElem hj, e]
    rfl
  rw [← hg]
  by_cases hjn : j < n
  · exact h.ten j hjn
  · have : j = n := by omega
    subst this
    rw [top_zero o j hl (by rw [h.v]; exact hV)]
    omega

set_option maxHeartbeats 3200000 in
theorem times1_any (w : World) (v1 v2 : Value) (a b : List Nat) (h1 : DgAt w v1 a) (h2 : DgAt w v2 b) (na : Norm a) (nb : Norm b) (hl1 : a.length ≤ 1000) (hl2 : b.length ≤ 1000) :
    Calls Tryz.prog 95 #[v1, v2] w fun e w' => ∃ v, e = .returned v ∧ DgAt w' v (dg (val a * val b)) ∧ Upd w w' (fun _ => False) ∧ (∀ k, v.ownBlock = some k → w.heap.size ≤ k) := by
  have q1 := h1.lt
  have q2 := h2.lt
  obtain ⟨a1, p1, rfl, -⟩ := Rw.form h1
  obtain ⟨a2, p2, rfl, -⟩ := Rw.form h2
  have r1 := fun j (hj : j < a.length) => dg_cell h1 j hj
  have r2 := fun j (hj : j < b.length) => dg_cell h2 j hj
  obtain ⟨A, hA⟩ : ∃ A, a.length = A := ⟨_, rfl⟩
  obtain ⟨B, hB⟩ : ∃ B, b.length = B := ⟨_, rfl⟩
  obtain ⟨N, hN⟩ : ∃ N, A + B + 1 = N := ⟨_, rfl⟩
  have hNb : N ≤ 5000 := by rw [← hN, ← hA, ← hB]; omega
  have hmk := run_make_row' (P := Tryz.prog) 37 3 (.int .i64 0) 8 Tryz.underlying37 Tryz.info3 rfl .i64 .i64 N (by omega) (by omega)
  have eN : ((A : Int) + (B : Int) + 1) = (N : Int) := by omega
  have HA := hide hA
  have HB := hide hB
  have HN := hide hN
  rw [hA] at hl1 ⊢
  rw [hB] at hl2 ⊢
  clear h1 h2 hA hB
  go_enter Tryz.func95, Tryz.ntmps95
  go_wp2_with fail
  have hM := ArrAt.made w N
  have uM : Upd w (w.alloc (.cells (madeCells #[.int .i64 0] N) 3)) (fun _ => False) := (Upd.refl w _).alloc _
  have hS := Acc.start a b
  rw [HA.out, HB.out, HN.out] at hS
  generalize (w.alloc (.cells (madeCells #[.int .i64 0] N) 3)) = wm at hM uM ⊢
  obtain ⟨G, hG⟩ : ∃ G, w.heap.size = G := ⟨_, rfl⟩
  rw [hG] at hM ⊢
  have HG := hide hG
  clear hG hmk eN
  go_loopg [6] A (fun q v wr => ∃ (i : Nat) (o : List Nat), i + q = A ∧ v = .int .i64 i ∧ ArrAt wr G o ∧ Acc a b o i 0 ∧ Upd w wr (fun _ => False))
  case atStart => exact ⟨0, _, by omega, rfl, hM, hS, uM⟩
  case round =>
    clear hM hS uM
    obtain ⟨i, o, hi, rfl, hO, hC, hu⟩ := hrel
    obtain ⟨ogk, rfl⟩ : ∃ ogk : Nat, ogk = gk := ⟨_, rfl⟩
    by_cases hiA : i < A
    · have d1 : decide (i < A) = true := by simpa using hiA
      obtain ⟨g1, o1, rfl, c1⟩ := r1 i (by rw [HA.out]; exact hiA)
      have hg1 : g1 < w.heap.size := q1 g1 rfl
      have hx9 := dgs_le a na i
      have HX : Hid (∃ x, a.getD i 0 = x) := hide ⟨_, rfl⟩
      obtain ⟨x, hx⟩ := HX.out
      rw [hx] at c1 hx9
      have HX2 := hide hx
      clear hx HX
      obtain ⟨wo, hwo⟩ : ∃ wo : World, wo = wr := ⟨_, rfl⟩
      subst hwo
      go_wp2_with fail
      go_loopg [7] B (fun q v wr => ∃ (k : Nat) (o : List Nat), k + q = B ∧ v = .int .i64 k ∧ ArrAt wr G o ∧ Acc a b o i k ∧ Upd w wr (fun _ => False))
      case atStart => exact ⟨0, o, by omega, rfl, hO, hC, hu⟩
      case round =>
        clear hO hC hu d1
        obtain ⟨k, o, hk, rfl, hO, hC, hu⟩ := hrel
        by_cases hkB : k < B
        · have d2 : decide (k < B) = true := by simpa using hkB
          obtain ⟨g2, o2, rfl, c2⟩ := r2 k (by rw [HB.out]; exact hkB)
          have hg2 : g2 < w.heap.size := q2 g2 rfl
          have k1 := (hu.cell g1 _ hg1 id).trans c1
          have k2 := (hu.cell g2 _ hg2 id).trans c2
          have hlen := hC.len
          rw [HA.out, HB.out, HN.out] at hlen
          obtain ⟨s, hs⟩ : ∃ s, i + k = s := ⟨_, rfl⟩
          have k3 := hO.cell s (by omega)
          have hf := hO.free s
          have hz := hC.le _ (getD_mem o s (by omega))
          rw [HB.out] at hz
          have hiB := Nat.mul_le_mul (show i ≤ 1000 by omega) (show B ≤ 1000 by omega)
          have hy9 := dgs_le b nb k
          obtain ⟨y, hy⟩ : ∃ y, b.getD k 0 = y := ⟨_, rfl⟩
          obtain ⟨z, hzz⟩ : ∃ z, o.getD s 0 = z := ⟨_, rfl⟩
          rw [hy] at k2 hy9
          rw [hzz] at k3 hz
          have hxy := Nat.mul_le_mul hx9 hy9
          obtain ⟨t, ht⟩ : ∃ t, x * y = t := ⟨_, rfl⟩
          rw [ht] at hxy
          have hzb : z ≤ 90000000 := by omega
          obtain ⟨u, hu2⟩ : ∃ u, z + t = u := ⟨_, rfl⟩
          have e1 : (i : Int) + (k : Int) = (s : Int) := by omega
          have e2 : (x : Int) * (y : Int) = (t : Int) := by rw [← ht]; simp
          have e3 : (z : Int) + (t : Int) = (u : Int) := by omega
          have hs0 : (0 : Int) ≤ (s : Int) := Int.natCast_nonneg _
          have hsN : (s : Int) < (N : Int) := by omega
          have hi0 : (0 : Int) ≤ (i : Int) := Int.natCast_nonneg _
          have hiA2 : (i : Int) < (A : Int) := by omega
          have hk0 : (0 : Int) ≤ (k : Int) := Int.natCast_nonneg _
          have hkB2 : (k : Int) < (B : Int) := by omega
          have hstep := hC.step na nb (by rw [HA.out]; exact hiA) (by rw [HB.out]; exact hkB)
          rw [HX2.out, hy, hs, hzz, ht, hu2] at hstep
          have wa : IntKind.i64.wrap (s : Int) = (s : Int) := IntWalk.i64_in _ (by omega)
          have wb : IntKind.i64.wrap (t : Int) = (t : Int) := IntWalk.i64_in _ (by omega)
          have wc : IntKind.i64.wrap (u : Int) = (u : Int) := IntWalk.i64_in _ (by omega)
          have HO := hide hO
          clear hs ht hu2 hy hzz hO hC hz hlen hiB c2 r1 r2
          go_wp2_with fail
          go_still_tail 21, (by kernel_rfl)
          clear wa wb wc
          change wpList _ _ _ _ _ wr.drew
          go_wp2_with fail
          go_roundg (gk - 1)
          case measure => omega
          case rel => exact ⟨k + 1, o.set s u, by omega, by go_num, (HO.out.set s u).upd ((Upd.refl _ (fun _ => False)).drew) id, hstep, (hu.setCell ⟨G, s, none⟩ _ (.inl (by rw [HG.out]; exact Nat.le_refl _))).drew⟩
        · have hke : k = b.length := by rw [HB.out]; omega
          subst hke
          have hrow := hC.row (by rw [HA.out]; exact hiA)
          have d2 : decide (b.length < B) = false := by simp; omega
          clear hk hkB hC r1 r2
          go_wp2_with fail
          go_roundg (ogk - 1)
          case measure => omega
          case rel => exact ⟨i + 1, o, by omega, by go_num, hO, hrow, hu⟩
    · have hie : i = A := by omega
      subst hie
      have d1 : decide (i < i) = false := by simp
      have hV : val o = val a * val b := by
        have := hC.v
        rw [← HA.out, List.take_of_length_le (Nat.le_refl _)] at this
        simpa [val] using this
      obtain ⟨V, eV⟩ : ∃ V, val a * val b = V := ⟨_, rfl⟩
      rw [eV] at hV
      have hVb : V < 10 ^ (i + B) := by
        rw [← eV, Nat.pow_add]
        have v1 := val_lt a na.1
        have v2 := val_lt b nb.1
        rw [HA.out] at v1
        rw [HB.out] at v2
        rcases Nat.eq_zero_or_pos (val a) with e | e
        · rw [e, Nat.zero_mul]; exact Nat.mul_pos (Nat.pow_pos (by omega)) (Nat.pow_pos (by omega))
        · exact Nat.mul_lt_mul_of_lt_of_le v1 (Nat.le_of_lt v2) (Nat.pow_pos (by omega))
      obtain ⟨n, hn⟩ : ∃ n, i + B = n := ⟨_, rfl⟩
      rw [hn] at hVb
      have hcar : Car V n (81 * (i * B) + 1) o 0 := by
        refine ⟨by rw [hC.len, HA.out, HB.out]; omega, hV, by omega, ?_, ?_⟩
        · intro j
          by_cases hj : j < o.length
          · have := hC.le _ (getD_mem o j hj)
            rw [HB.out] at this
            omega
          · rw [List.getD_eq_getElem?_getD, List.getElem?_eq_none (by omega)]; simp
        · intro j _
          by_cases hj : j < o.length
          · have := hC.le _ (getD_mem o j hj)
            rw [HB.out] at this
            omega
          · rw [List.getD_eq_getElem?_getD, List.getElem?_eq_none (by omega)]; simp
      have hAB := Nat.mul_le_mul hl1 hl2
      obtain ⟨T, hT⟩ : ∃ T, 81 * (i * B) + 1 = T := ⟨_, rfl⟩
      rw [hT] at hcar
      have hTb : 1 ≤ T ∧ T ≤ 100000000 := by omega
      have HV := hide eV
      have HVb := hide hVb
      have hnN : n + 1 = N := by omega
      have HNN := hide hnN
      clear hC hV eV hVb r1 r2 hAB hT hiA hi hn hnN hN
      go_wp2_with fail
      go_loopg [8] n (fun q v wr => ∃ (j : Nat) (o : List Nat), j + q = n ∧ v = .int .i64 j ∧ ArrAt wr G o ∧ Car V n T o j ∧ Upd w wr (fun _ => False))
      case atStart => exact ⟨0, o, by omega, rfl, hO, hcar, hu⟩
      case round =>
        clear hO hcar hu d1
        obtain ⟨j, o, hj, rfl, hO, hC, hu⟩ := hrel
        have hlen := hC.len
        obtain ⟨s, hs⟩ : ∃ s, j + 1 = s := ⟨_, rfl⟩
        have e1 : (j : Int) + 1 = (s : Int) := by omega
        by_cases hjn : j < n
        · have hsN : s < N := by have := HNN.out; omega
          have d2 : decide (s < N) = true := by simpa using hsN
          have k1 := hO.cell s (by have := HNN.out; omega)
          have k2 := hO.cell j (by omega)
          have f1 := hO.free s
          have p1 := hC.lt s (by omega)
          have p2 := hC.le j
          have hst := hC.step hjn hTb.1
          rw [hs] at hst
          obtain ⟨p, hp⟩ : ∃ p, o.getD s 0 = p := ⟨_, rfl⟩
          obtain ⟨r, hr⟩ : ∃ r, o.getD j 0 = r := ⟨_, rfl⟩
          obtain ⟨c, hc⟩ : ∃ c, r / 10 = c := ⟨_, rfl⟩
          obtain ⟨m, hm⟩ : ∃ m, r % 10 = m := ⟨_, rfl⟩
          obtain ⟨u, hu2⟩ : ∃ u, p + c = u := ⟨_, rfl⟩
          rw [hp] at k1 p1
          rw [hr] at k2 p2
          rw [hp, hr, hc, hm, hu2] at hst
          have hO1 := hO.set s u
          have k4 := hO1.cell j (by simp; omega)
          rw [getD_set _ s j _ (by have := HNN.out; omega), if_neg (by omega), hr] at k4
          have f4 := hO1.free j
          have hO2 := hO1.set j m
          have e2 : (r : Int).tdiv 10 = (c : Int) := by rw [← hc]; rfl
          have e3 : (r : Int).tmod 10 = (m : Int) := by rw [← hm]; rfl
          have e4 : (p : Int) + (c : Int) = (u : Int) := by omega
          have hs0 : (0 : Int) ≤ (s : Int) := Int.natCast_nonneg _
          have hsN2 : (s : Int) < (N : Int) := by omega
          have hj0 : (0 : Int) ≤ (j : Int) := Int.natCast_nonneg _
          have hjN2 : (j : Int) < (N : Int) := by omega
          have wa : IntKind.i64.wrap (s : Int) = (s : Int) := IntWalk.i64_in _ (by omega)
          have wb : IntKind.i64.wrap (u : Int) = (u : Int) := IntWalk.i64_in _ (by omega)
          have hcb : c ≤ 100000000 := by omega
          have wc : IntKind.i64.wrap (c : Int) = (c : Int) := IntWalk.i64_in _ (by omega)
          have HS := hide hs
          have HO := hide hO2
          clear hs hp hr hc hm hu2 hO hO1 hO2 hC hlen
          go_wp2_with fail
          go_still_tail 15, (by kernel_rfl)
          clear wa wb wc
          change wpList _ _ _ _ _ wr.drew
          go_wp2_with fail
          go_roundg (gk - 1)
          case measure => omega
          case rel => exact ⟨s, _, by have := HS.out; omega, rfl, HO.out.upd ((Upd.refl _ (fun _ => False)).drew) id, hst, ((hu.setCell ⟨G, s, none⟩ _ (.inl (by rw [HG.out]; exact Nat.le_refl _))).setCell ⟨G, j, none⟩ _ (.inl (by rw [HG.out]; exact Nat.le_refl _))).drew⟩
        · have hje : j = n := by omega
          subst hje
          have hsN : s = N := by have := HNN.out; omega
          subst hsN
          have d2 : decide (s < s) = false := by simp
          have h10 := hC.done HVb.out
          have hval := hC.v
          have HO := hide hO
          have HS := hide hs
          have HL : o.length = s := by omega
          have hdg := hO.dg
          have hT := fun w' hv => trim1_any w' (.slice (some ⟨G, 0, none⟩) o.length o.length) o hv h10 (by have := HNN.out; omega)
          rw [hval, HL] at hT
          rw [HL] at hdg
          have HD := hide hdg
          clear hs hO hC hj hjn hlen hTb hdg h10 hval
          go_wp2_with fail
          refine Calls.mono (hT _ HD.out) ?_
          rintro e w9 ⟨v, rfl, z1, ⟨m9, rfl⟩, z2⟩
          go_wp2_with fail
          go_ret
          refine ⟨_, rfl, by rw [HV.out]; exact z1, hu.drewN m9, ?_⟩
          intro k hk
          have hk2 : some G = some k := Eq.trans (show some G = _ from z2.symm) hk
          cases hk2
          rw [HG.out]
          exact Nat.le_refl _
end Go.Proofs.YtdjpkkgcoainhaaGreatDoor
/- The walk of the reference's rounded quotient of digits. -/
set_option maxRecDepth 100000
namespace Go.Proofs.YtdjpkkgcoainhaaGreatDoor
open Go.RowKit Go.Lat

/-- A quotient, rounded. -/
def rnd (A B : Nat) : Nat := A / B + if 2 * (A % B) < B then 0 else 1

set_option maxHeartbeats 1600000 in
theorem nearest_any (w : World) (v1 v2 : Value) (A B : Nat) (h1 : DgAt w v1 (dg A)) (h2 : DgAt w v2 (dg B)) (hB : 0 < B) (hA : A < 10 ^ 100) (hB2 : B < 10 ^ 100) :
    Calls Tryz.prog 97 #[v1, v2] w fun e w' => ∃ v, e = .returned v ∧ DgAt w' v (dg (rnd A B)) ∧ Upd w w' (fun _ => False) := by
  have l1 := dg_len A 100 hA
  have l2 := dg_len B 100 hB2
  have l3 := dg_len (A / B) 100 (Nat.lt_of_le_of_lt (Nat.div_le_self ..) hA)
  have hmod := Nat.mod_lt A hB
  have l4 := dg_len (A % B) 100 (by omega)
  have l5 := dg_len (A % B + A % B) 101 (by rw [Nat.pow_succ]; omega)
  have O := fun w k1 k2 => Over1_any w v1 v2 (dg A) (dg B) k1 k2 (dg_norm _) (dg_norm _) (by rw [val_dg]; exact hB) (by omega) (by omega)
  simp only [val_dg] at O
  have P := fun w v k => plus1_any w v v (dg (A % B)) (dg (A % B)) k k (dg_norm _) (dg_norm _) (by omega) (by omega)
  simp only [val_dg] at P
  have L := fun w v k1 k2 => below1_any w v v2 (dg (A % B + A % B)) (dg B) k1 k2 (dg_norm _) (dg_norm _) (by omega)
  simp only [val_dg] at L
  have hd1 : dg 1 = [1] := by rw [dg_pos (by omega), dg_zero]
  have P2 := fun w v v' k1 k2 => plus1_any w v v' (dg (A / B)) [1] k1 k2 (dg_norm _) (by unfold Norm; decide) (by omega) (by decide)
  rw [show val [1] = 1 from by decide, val_dg] at P2
  unfold rnd
  have e2 : 2 * (A % B) = A % B + A % B := by omega
  rw [e2]
  obtain ⟨x, hx⟩ : ∃ x, decide (A % B + A % B < B) = x := ⟨_, rfl⟩
  rw [hx] at L
  clear l1 l2 l3 l4 l5 hmod hA hB2 hB hd1
  cases x with
  | true =>
    rw [if_pos (by simpa using hx), Nat.add_zero]
    clear hx P2
    go_enter Tryz.func97, Tryz.ntmps97
    go_wp2_with fail
    refine Calls.mono (O _ h1 h2) ?_
    rintro e w1 ⟨vq, vr, rfl, k1, k2, u1⟩
    go_wp2_with fail
    refine Calls.mono (P _ _ k2) ?_
    rintro e w2 ⟨v3, rfl, k3, u2⟩
    go_wp2_with fail
    refine Calls.mono (L _ _ k3 ((h2.upd u1).upd u2)) ?_
    rintro e w3 ⟨rfl, ⟨n3, hn3⟩⟩
    have u3 : Upd w2 w3 (fun _ => False) := by rw [hn3]; exact (Upd.refl w2 _).drewN n3
    clear hn3
    go_wp2_with fail
    go_ret
    exact ⟨_, rfl, (k1.upd u2).upd u3, (u1.then u2 (fun _ _ => id)).then u3 (fun _ _ => id)⟩
  | false =>
    rw [if_neg (by simpa using hx)]
    clear hx
    go_enter Tryz.func97, Tryz.ntmps97
    go_wp2_with fail
    refine Calls.mono (O _ h1 h2) ?_
    rintro e w1 ⟨vq, vr, rfl, k1, k2, u1⟩
    go_wp2_with fail
    refine Calls.mono (P _ _ k2) ?_
    rintro e w2 ⟨v3, rfl, k3, u2⟩
    go_wp2_with fail
    refine Calls.mono (L _ _ k3 ((h2.upd u1).upd u2)) ?_
    rintro e w3 ⟨rfl, ⟨n3, hn3⟩⟩
    have u3 : Upd w2 w3 (fun _ => False) := by rw [hn3]; exact (Upd.refl w2 _).drewN n3
    clear hn3
    go_wp2_with fail
    have m2 : DgAt (w3.alloc (.cells #[.int .i64 1] 3)) (.slice (some ⟨w3.heap.size, 0, none⟩) 1 1) [1] := Rw.made w3 _ _ 1 1 rfl
    refine Calls.mono (P2 _ _ _ (((k1.upd u2).upd u3).upd ((Upd.refl w3 _).alloc _)) m2) ?_
    rintro e w4 ⟨v4, rfl, k4, u4⟩
    go_wp2_with fail
    go_ret
    exact ⟨_, rfl, k4, (((u1.then u2 (fun _ _ => id)).then u3 (fun _ _ => id)).alloc _).then u4 (fun _ _ => id)⟩
end Go.Proofs.YtdjpkkgcoainhaaGreatDoor
/- Plain laws on the digits of texts. -/
set_option maxRecDepth 100000
namespace Go.Lat

/-- A byte's digit; is it one? -/
def dvB (b : UInt8) : Nat := b.toNat - 48
def dgB (b : UInt8) : Bool := decide (48 ≤ b.toNat) && decide (b.toNat ≤ 57)
/-- What a text of digits stands for. -/
def dval (l : List UInt8) : Nat := val (l.reverse.map dvB)
/-- Is a text 1 to 18 digits? -/
def isD (l : List UInt8) : Bool := decide (1 ≤ l.length) && decide (l.length ≤ 18) && l.all dgB

theorem dgB_lt {b : UInt8} (h : dgB b = true) : dvB b < 10 := by
  simp [dgB] at h
  unfold dvB
  omega
theorem dval_nil : dval [] = 0 := rfl
theorem dval_append (a b : List UInt8) : dval (a ++ b) = dval a * 10 ^ b.length + dval b := by
  unfold dval
  rw [List.reverse_append, List.map_append, val_append]
  simp only [List.length_map, List.length_reverse]
  rw [Nat.mul_comm, Nat.add_comm]
theorem dval_lt (l : List UInt8) (h : l.all dgB = true) : dval l < 10 ^ l.length := by
  have := val_lt (l.reverse.map dvB) (fun d hd => by
    obtain ⟨b, hb, rfl⟩ := List.mem_map.1 hd
    exact dgB_lt (List.all_eq_true.1 h b (List.mem_reverse.1 hb)))
  simpa [dval] using this
theorem dval_one (b : UInt8) : dval [b] = dvB b := by simp [dval, val]
theorem dval_cons (b : UInt8) (l : List UInt8) : dval (b :: l) = dvB b * 10 ^ l.length + dval l := by
  have := dval_append [b] l
  rw [dval_one] at this
  exact this

theorem parse_go (M : Nat) : ∀ (l : List UInt8) (acc : Nat), l.all dgB = true → acc * 10 ^ l.length + dval l ≤ M → acc * 10 ^ l.length + dval l ≤ 9000000000000000000 → Lib.parseUintM M acc l = .ok (acc * 10 ^ l.length + dval l)
  | [], acc, _, _, _ => by simp [Lib.parseUintM, dval_nil]
  | b :: l, acc, h, h1, h2 => by
    simp only [List.all_cons, Bool.and_eq_true] at h
    have hb := h.1
    simp [dgB] at hb
    have hp : 1 ≤ 10 ^ l.length := Nat.pow_pos (by omega)
    rw [dval_cons, List.length_cons, Nat.pow_succ] at h1 h2 ⊢
    have e : acc * (10 ^ l.length * 10) + (dvB b * 10 ^ l.length + dval l) = (acc * 10 + dvB b) * 10 ^ l.length + dval l := by
      rw [Nat.add_mul, Nat.mul_assoc, Nat.mul_comm 10 (10 ^ l.length)]
      omega
    rw [e] at h1 h2 ⊢
    have hle := Nat.mul_le_mul_left (acc * 10 + dvB b) hp
    unfold Lib.parseUintM
    rw [if_pos hb]
    have ed : b.toNat - 48 = dvB b := rfl
    rw [ed, if_neg (by omega), if_neg (by omega)]
    exact parse_go M l _ h.2 h1 h2

theorem parse_digits (l : List UInt8) (h : l.all dgB = true) (h1 : 1 ≤ l.length) (h2 : l.length ≤ 18) : Lib.parseUintB 64 l = .ok (dval l) := by
  have hne : l ≠ [] := by intro e; subst e; simp at h1
  have hl := dval_lt l h
  have hp : 10 ^ l.length ≤ 10 ^ 18 := Nat.pow_le_pow_right (by omega) h2
  have e18 : (10 : Nat) ^ 18 = 1000000000000000000 := by decide
  unfold Lib.parseUintB
  rw [if_neg hne, parse_go _ l 0 h (by omega) (by omega)]
  simp

/-- Five digits of a part, noughts behind it. -/
theorem five (P : List UInt8) (h : P.all dgB = true) :
    dval ((P ++ [48, 48, 48, 48, 48]).take 5) = dval P * 100000 / 10 ^ P.length ∧ ((P ++ [48, 48, 48, 48, 48]).take 5).all dgB = true ∧ ((P ++ [48, 48, 48, 48, 48]).take 5).length = 5 := by
  have hall : (P ++ [48, 48, 48, 48, 48]).all dgB = true := by rw [List.all_append, h]; decide
  have hv : dval (P ++ [48, 48, 48, 48, 48]) = dval P * 100000 := by
    have e5 : (10 : Nat) ^ ([48, 48, 48, 48, 48] : List UInt8).length = 100000 := by decide
    rw [dval_append, show dval [48, 48, 48, 48, 48] = 0 from by decide, e5, Nat.add_zero]
  have hl : (P ++ [48, 48, 48, 48, 48]).length = P.length + 5 := by simp
  generalize P ++ [48, 48, 48, 48, 48] = Q at *
  have e := dval_append (Q.take 5) (Q.drop 5)
  rw [List.take_append_drop, List.length_drop, hl, Nat.add_sub_cancel, hv] at e
  have hd := dval_lt (Q.drop 5) (List.all_eq_true.2 fun b hb => List.all_eq_true.1 hall b (List.mem_of_mem_drop hb))
  rw [List.length_drop, hl, Nat.add_sub_cancel] at hd
  refine ⟨?_, List.all_eq_true.2 fun b hb => List.all_eq_true.1 hall b (List.mem_of_mem_take hb), by rw [List.length_take]; omega⟩
  rw [e, Nat.mul_comm, Nat.mul_add_div (Nat.pow_pos (by omega)), Nat.div_eq_of_lt hd, Nat.add_zero]
end Go.Lat
namespace Go.Proofs.YtdjpkkgcoainhaaGreatDoor
open Go.Lat

theorem rnd_ten (A B : Nat) (hB : 0 < B) : rnd A B = (10 * A / B + 5) / 10 := by
  unfold rnd
  have h1 := Nat.div_add_mod A B
  have h2 := Nat.mod_lt A hB
  have e : 10 * A / B = 10 * (A / B) + 10 * (A % B) / B := by
    conv => lhs; rw [← h1]
    rw [Nat.mul_add, Nat.mul_left_comm, Nat.mul_add_div hB]
  rw [e]
  have h3 : 10 * (A % B) / B < 10 := by
    rw [Nat.div_lt_iff_lt_mul hB]
    omega
  have h4 : 2 * (A % B) < B ↔ 10 * (A % B) / B < 5 := by
    rw [Nat.div_lt_iff_lt_mul hB]
    omega
  obtain ⟨z, hz⟩ : ∃ z, 10 * (A % B) / B = z := ⟨_, rfl⟩
  obtain ⟨q, hq⟩ : ∃ q, A / B = q := ⟨_, rfl⟩
  rw [hz] at h3 h4
  rw [hz, hq]
  by_cases h : 2 * (A % B) < B
  · rw [if_pos h]
    have := h4.1 h
    omega
  · rw [if_neg h]
    have : ¬ z < 5 := fun k => h (h4.2 k)
    omega

theorem rnd_add (W A B : Nat) (hB : 0 < B) : rnd (W * B + A) B = W + rnd A B := by
  unfold rnd
  have e1 : (W * B + A) / B = W + A / B := by rw [Nat.mul_comm, Nat.mul_add_div hB]
  have e2 : (W * B + A) % B = A % B := by rw [Nat.mul_comm, Nat.mul_add_mod]
  rw [e1, e2]
  omega

/-- The two ways of reckoning a text's number. -/
theorem two_ways (W F T : Nat) (hT : 0 < T) : rnd ((W * T + F) * 10000) T = W * 10000 + (F * 100000 / T + 5) / 10 := by
  rw [Nat.add_mul, Nat.mul_right_comm, rnd_add _ _ _ hT, rnd_ten _ _ hT]
  congr 4
  omega
end Go.Proofs.YtdjpkkgcoainhaaGreatDoor
