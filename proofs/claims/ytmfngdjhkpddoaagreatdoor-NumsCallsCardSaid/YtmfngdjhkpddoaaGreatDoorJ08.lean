/- The walk of the reference's product of digits. -/
import Derived.Test.YtmfngdjhkpddoaaGreatDoorJ07
import Derived.Test.YtmfngdjhkpddoaaGreatDoorJ04
import Derived.Test.YtmfngdjhkpddoaaGreatDoorJ02
/- The walk of the reference's product of digits. -/
set_option maxRecDepth 100000
namespace Go.Proofs.YtmfngdjhkpddoaaGreatDoor
open Go.RowKit Go.Lat

/-- What stands in the array behind i rows and k places of the next one. -/
structure Acc (a b o : List Nat) (i k : Nat) : Prop where
  len : o.length = a.length + b.length + 1
  v : val o = val (a.take i) * val b + a.getD i 0 * val (b.take k) * 10 ^ i
  le : ∀ d ∈ o, d ≤ 81 * (i * b.length + k)

theorem Acc.step {a b o : List Nat} {i k : Nat} (h : Acc a b o i k) (na : Norm a) (nb : Norm b) (hi : i < a.length) (hk : k < b.length) : Acc a b (o.set (i + k) (o.getD (i + k) 0 + a.getD i 0 * b.getD k 0)) i (k + 1) := by
  have hl := h.len
  refine ⟨by simp [hl], ?_, ?_⟩
  · rw [val_set o (i + k) _ (by omega), h.v, val_take_succ b k hk, Nat.pow_add]
    generalize val (a.take i) * val b = z
    generalize a.getD i 0 = x
    generalize val (b.take k) = y
    generalize b.getD k 0 = u
    rw [Nat.mul_add, Nat.add_mul, Nat.add_assoc]
    congr 2
    simp only [Nat.mul_assoc, Nat.mul_comm, Nat.mul_left_comm]
  · refine mem_set_le _ _ _ _ (fun d hd => by have := h.le d hd; rw [show 81 * (i * b.length + (k + 1)) = 81 * (i * b.length + k) + 81 from by omega]; omega) ?_
    have h1 := h.le _ (getD_mem o (i + k) (by omega))
    have h2 := Nat.mul_le_mul (dgs_le a na i) (dgs_le b nb k)
    omega
theorem Acc.row {a b o : List Nat} {i : Nat} (h : Acc a b o i b.length) (hi : i < a.length) : Acc a b o (i + 1) 0 := by
  refine ⟨h.len, ?_, ?_⟩
  · rw [h.v, val_take_succ a i hi, List.take_of_length_le (Nat.le_refl _), Nat.add_mul]
    simp only [List.take_zero, val, Nat.mul_zero, Nat.zero_mul, Nat.add_zero]
    congr 1
    rw [Nat.mul_assoc, Nat.mul_comm (val b), ← Nat.mul_assoc]
  · intro d hd
    have := h.le d hd
    rw [show (i + 1) * b.length + 0 = i * b.length + b.length from by rw [Nat.add_zero, Nat.succ_mul]]
    exact this
theorem Acc.start (a b : List Nat) : Acc a b (List.replicate (a.length + b.length + 1) 0) 0 0 := by
  refine ⟨by simp, ?_, ?_⟩
  · rw [val_zero _ (fun d hd => List.eq_of_mem_replicate hd)]
    simp [val]
  · intro d hd
    rw [List.eq_of_mem_replicate hd]
    omega

/-- What stands in the array behind i carries. -/
structure Car (V n o' : Nat) (o : List Nat) (i : Nat) : Prop where
  len : o.length = n + 1
  v : val o = V
  ten : ∀ j, j < i → o.getD j 0 < 10
  le : ∀ j, o.getD j 0 ≤ 2 * o'
  lt : ∀ j, i < j → o.getD j 0 ≤ o'

theorem Car.step {V n B : Nat} {o : List Nat} {i : Nat} (h : Car V n B o i) (hi : i < n) (hB : 1 ≤ B) : Car V n B ((o.set (i + 1) (o.getD (i + 1) 0 + o.getD i 0 / 10)).set i (o.getD i 0 % 10)) (i + 1) := by
  have hl := h.len
  have h1 := h.le i
  have h2 := h.lt (i + 1) (by omega)
  have g : ∀ j, ((o.set (i + 1) (o.getD (i + 1) 0 + o.getD i 0 / 10)).set i (o.getD i 0 % 10)).getD j 0 = if j = i then o.getD i 0 % 10 else if j = i + 1 then o.getD (i + 1) 0 + o.getD i 0 / 10 else o.getD j 0 := by
    intro j
    rw [getD_set _ i j _ (by simp; omega), getD_set _ (i + 1) j _ (by omega)]
  refine ⟨by simp [hl], by rw [val_carry o i (by omega)]; exact h.v, ?_, ?_, ?_⟩
  · intro j hj
    rw [g]
    split
    · omega
    · rw [if_neg (by omega)]
      exact h.ten j (by omega)
  · intro j
    rw [g]
    split
    · omega
    · split
      · omega
      · exact h.le j
  · intro j hj
    rw [g, if_neg (by omega), if_neg (by omega)]
    exact h.lt j (by omega)
theorem Car.done {V n B : Nat} {o : List Nat} (h : Car V n B o n) (hV : V < 10 ^ n) : ∀ d ∈ o, d < 10 := by
  intro d hd
  obtain ⟨j, hj, e⟩ := List.mem_iff_getElem.1 hd
  have hl := h.len
  have hg : o.getD j 0 = d := by
    rw [List.getD_eq_getElem?_getD, List.getElem?_eq_getElem hj, e]
    rfl
  rw [← hg]
  by_cases hjn : j < n
  · exact h.ten j hjn
  · have : j = n := by omega
    subst this
    rw [top_zero o j hl (by rw [h.v]; exact hV)]
    omega

set_option maxHeartbeats 3200000 in
theorem times1_any (w : World) (v1 v2 : Value) (a b : List Nat) (h1 : DgAt w v1 a) (h2 : DgAt w v2 b) (na : Norm a) (nb : Norm b) (hl1 : a.length ≤ 1000) (hl2 : b.length ≤ 1000) :
    Calls Tryz.prog 99 #[v1, v2] w fun e w' => ∃ v, e = .returned v ∧ DgAt w' v (dg (val a * val b)) ∧ Upd w w' (fun _ => False) ∧ (∀ k, v.ownBlock = some k → w.heap.size ≤ k) := by
  have q1 := h1.lt
  have q2 := h2.lt
  obtain ⟨a1, p1, rfl, -⟩ := Rw.form h1
  obtain ⟨a2, p2, rfl, -⟩ := Rw.form h2
  have r1 := fun j (hj : j < a.length) => dg_cell h1 j hj
  have r2 := fun j (hj : j < b.length) => dg_cell h2 j hj
  obtain ⟨A, hA⟩ : ∃ A, a.length = A := ⟨_, rfl⟩
  obtain ⟨B, hB⟩ : ∃ B, b.length = B := ⟨_, rfl⟩
  obtain ⟨N, hN⟩ : ∃ N, A + B + 1 = N := ⟨_, rfl⟩
  have hNb : N ≤ 5000 := by rw [← hN, ← hA, ← hB]; omega
  have hmk := run_make_row' (P := Tryz.prog) 49 3 (.int .i64 0) 8 Tryz.underlying49 Tryz.info3 rfl .i64 .i64 N (by omega) (by omega)
  have eN : ((A : Int) + (B : Int) + 1) = (N : Int) := by omega
  have HA := hide hA
  have HB := hide hB
  have HN := hide hN
  rw [hA] at hl1 ⊢
  rw [hB] at hl2 ⊢
  clear h1 h2 hA hB
  go_enter Tryz.func99, Tryz.ntmps99
  go_wp2_with fail
  have hM := ArrAt.made w N
  have uM : Upd w (w.alloc (.cells (madeCells #[.int .i64 0] N) 3)) (fun _ => False) := (Upd.refl w _).alloc _
  have hS := Acc.start a b
  rw [HA.out, HB.out, HN.out] at hS
  generalize (w.alloc (.cells (madeCells #[.int .i64 0] N) 3)) = wm at hM uM ⊢
  obtain ⟨G, hG⟩ : ∃ G, w.heap.size = G := ⟨_, rfl⟩
  rw [hG] at hM ⊢
  have HG := hide hG
  clear hG hmk eN
  go_loopg [6] A (fun q v wr => ∃ (i : Nat) (o : List Nat), i + q = A ∧ v = .int .i64 i ∧ ArrAt wr G o ∧ Acc a b o i 0 ∧ Upd w wr (fun _ => False))
  case atStart => exact ⟨0, _, by omega, rfl, hM, hS, uM⟩
  case round =>
    clear hM hS uM
    obtain ⟨i, o, hi, rfl, hO, hC, hu⟩ := hrel
    obtain ⟨ogk, rfl⟩ : ∃ ogk : Nat, ogk = gk := ⟨_, rfl⟩
    by_cases hiA : i < A
    · have d1 : decide (i < A) = true := by simpa using hiA
      obtain ⟨g1, o1, rfl, c1⟩ := r1 i (by rw [HA.out]; exact hiA)
      have hg1 : g1 < w.heap.size := q1 g1 rfl
      have hx9 := dgs_le a na i
      have HX : Hid (∃ x, a.getD i 0 = x) := hide ⟨_, rfl⟩
      obtain ⟨x, hx⟩ := HX.out
      rw [hx] at c1 hx9
      have HX2 := hide hx
      clear hx HX
      obtain ⟨wo, hwo⟩ : ∃ wo : World, wo = wr := ⟨_, rfl⟩
      subst hwo
      go_wp2_with fail
      go_loopg [7] B (fun q v wr => ∃ (k : Nat) (o : List Nat), k + q = B ∧ v = .int .i64 k ∧ ArrAt wr G o ∧ Acc a b o i k ∧ Upd w wr (fun _ => False))
      case atStart => exact ⟨0, o, by omega, rfl, hO, hC, hu⟩
      case round =>
        clear hO hC hu d1
        obtain ⟨k, o, hk, rfl, hO, hC, hu⟩ := hrel
        by_cases hkB : k < B
        · have d2 : decide (k < B) = true := by simpa using hkB
          obtain ⟨g2, o2, rfl, c2⟩ := r2 k (by rw [HB.out]; exact hkB)
          have hg2 : g2 < w.heap.size := q2 g2 rfl
          have k1 := (hu.cell g1 _ hg1 id).trans c1
          have k2 := (hu.cell g2 _ hg2 id).trans c2
          have hlen := hC.len
          rw [HA.out, HB.out, HN.out] at hlen
          obtain ⟨s, hs⟩ : ∃ s, i + k = s := ⟨_, rfl⟩
          have k3 := hO.cell s (by omega)
          have hf := hO.free s
          have hz := hC.le _ (getD_mem o s (by omega))
          rw [HB.out] at hz
          have hiB := Nat.mul_le_mul (show i ≤ 1000 by omega) (show B ≤ 1000 by omega)
          have hy9 := dgs_le b nb k
          obtain ⟨y, hy⟩ : ∃ y, b.getD k 0 = y := ⟨_, rfl⟩
          obtain ⟨z, hzz⟩ : ∃ z, o.getD s 0 = z := ⟨_, rfl⟩
          rw [hy] at k2 hy9
          rw [hzz] at k3 hz
          have hxy := Nat.mul_le_mul hx9 hy9
          obtain ⟨t, ht⟩ : ∃ t, x * y = t := ⟨_, rfl⟩
          rw [ht] at hxy
          have hzb : z ≤ 90000000 := by omega
          obtain ⟨u, hu2⟩ : ∃ u, z + t = u := ⟨_, rfl⟩
          have e1 : (i : Int) + (k : Int) = (s : Int) := by omega
          have e2 : (x : Int) * (y : Int) = (t : Int) := by rw [← ht]; simp
          have e3 : (z : Int) + (t : Int) = (u : Int) := by omega
          have hs0 : (0 : Int) ≤ (s : Int) := Int.natCast_nonneg _
          have hsN : (s : Int) < (N : Int) := by omega
          have hi0 : (0 : Int) ≤ (i : Int) := Int.natCast_nonneg _
          have hiA2 : (i : Int) < (A : Int) := by omega
          have hk0 : (0 : Int) ≤ (k : Int) := Int.natCast_nonneg _
          have hkB2 : (k : Int) < (B : Int) := by omega
          have hstep := hC.step na nb (by rw [HA.out]; exact hiA) (by rw [HB.out]; exact hkB)
          rw [HX2.out, hy, hs, hzz, ht, hu2] at hstep
          have wa : IntKind.i64.wrap (s : Int) = (s : Int) := IntWalk.i64_in _ (by omega)
          have wb : IntKind.i64.wrap (t : Int) = (t : Int) := IntWalk.i64_in _ (by omega)
          have wc : IntKind.i64.wrap (u : Int) = (u : Int) := IntWalk.i64_in _ (by omega)
          have HO := hide hO
          clear hs ht hu2 hy hzz hO hC hz hlen hiB c2 r1 r2
          go_wp2_with fail
          go_still_tail 21, (by kernel_rfl)
          clear wa wb wc
          change wpList _ _ _ _ _ wr.drew
          go_wp2_with fail
          go_roundg (gk - 1)
          case measure => omega
          case rel => exact ⟨k + 1, o.set s u, by omega, by go_num, (HO.out.set s u).upd ((Upd.refl _ (fun _ => False)).drew) id, hstep, (hu.setCell ⟨G, s, none⟩ _ (.inl (by rw [HG.out]; exact Nat.le_refl _))).drew⟩
        · have hke : k = b.length := by rw [HB.out]; omega
          subst hke
          have hrow := hC.row (by rw [HA.out]; exact hiA)
          have d2 : decide (b.length < B) = false := by simp; omega
          clear hk hkB hC r1 r2
          go_wp2_with fail
          go_roundg (ogk - 1)
          case measure => omega
          case rel => exact ⟨i + 1, o, by omega, by go_num, hO, hrow, hu⟩
    · have hie : i = A := by omega
      subst hie
      have d1 : decide (i < i) = false := by simp
      have hV : val o = val a * val b := by
        have := hC.v
        rw [← HA.out, List.take_of_length_le (Nat.le_refl _)] at this
        simpa [val] using this
      obtain ⟨V, eV⟩ : ∃ V, val a * val b = V := ⟨_, rfl⟩
      rw [eV] at hV
      have hVb : V < 10 ^ (i + B) := by
        rw [← eV, Nat.pow_add]
        have v1 := val_lt a na.1
        have v2 := val_lt b nb.1
        rw [HA.out] at v1
        rw [HB.out] at v2
        rcases Nat.eq_zero_or_pos (val a) with e | e
        · rw [e, Nat.zero_mul]; exact Nat.mul_pos (Nat.pow_pos (by omega)) (Nat.pow_pos (by omega))
        · exact Nat.mul_lt_mul_of_lt_of_le v1 (Nat.le_of_lt v2) (Nat.pow_pos (by omega))
      obtain ⟨n, hn⟩ : ∃ n, i + B = n := ⟨_, rfl⟩
      rw [hn] at hVb
      have hcar : Car V n (81 * (i * B) + 1) o 0 := by
        refine ⟨by rw [hC.len, HA.out, HB.out]; omega, hV, by omega, ?_, ?_⟩
        · intro j
          by_cases hj : j < o.length
          · have := hC.le _ (getD_mem o j hj)
            rw [HB.out] at this
            omega
          · rw [List.getD_eq_getElem?_getD, List.getElem?_eq_none (by omega)]; simp
        · intro j _
          by_cases hj : j < o.length
          · have := hC.le _ (getD_mem o j hj)
            rw [HB.out] at this
            omega
          · rw [List.getD_eq_getElem?_getD, List.getElem?_eq_none (by omega)]; simp
      have hAB := Nat.mul_le_mul hl1 hl2
      obtain ⟨T, hT⟩ : ∃ T, 81 * (i * B) + 1 = T := ⟨_, rfl⟩
      rw [hT] at hcar
      have hTb : 1 ≤ T ∧ T ≤ 100000000 := by omega
      have HV := hide eV
      have HVb := hide hVb
      have hnN : n + 1 = N := by omega
      have HNN := hide hnN
      clear hC hV eV hVb r1 r2 hAB hT hiA hi hn hnN hN
      go_wp2_with fail
      go_loopg [8] n (fun q v wr => ∃ (j : Nat) (o : List Nat), j + q = n ∧ v = .int .i64 j ∧ ArrAt wr G o ∧ Car V n T o j ∧ Upd w wr (fun _ => False))
      case atStart => exact ⟨0, o, by omega, rfl, hO, hcar, hu⟩
      case round =>
        clear hO hcar hu d1
        obtain ⟨j, o, hj, rfl, hO, hC, hu⟩ := hrel
        have hlen := hC.len
        obtain ⟨s, hs⟩ : ∃ s, j + 1 = s := ⟨_, rfl⟩
        have e1 : (j : Int) + 1 = (s : Int) := by omega
        by_cases hjn : j < n
        · have hsN : s < N := by have := HNN.out; omega
          have d2 : decide (s < N) = true := by simpa using hsN
          have k1 := hO.cell s (by have := HNN.out; omega)
          have k2 := hO.cell j (by omega)
          have f1 := hO.free s
          have p1 := hC.lt s (by omega)
          have p2 := hC.le j
          have hst := hC.step hjn hTb.1
          rw [hs] at hst
          obtain ⟨p, hp⟩ : ∃ p, o.getD s 0 = p := ⟨_, rfl⟩
          obtain ⟨r, hr⟩ : ∃ r, o.getD j 0 = r := ⟨_, rfl⟩
          obtain ⟨c, hc⟩ : ∃ c, r / 10 = c := ⟨_, rfl⟩
          obtain ⟨m, hm⟩ : ∃ m, r % 10 = m := ⟨_, rfl⟩
          obtain ⟨u, hu2⟩ : ∃ u, p + c = u := ⟨_, rfl⟩
          rw [hp] at k1 p1
          rw [hr] at k2 p2
          rw [hp, hr, hc, hm, hu2] at hst
          have hO1 := hO.set s u
          have k4 := hO1.cell j (by simp; omega)
          rw [getD_set _ s j _ (by have := HNN.out; omega), if_neg (by omega), hr] at k4
          have f4 := hO1.free j
          have hO2 := hO1.set j m
          have e2 : (r : Int).tdiv 10 = (c : Int) := by rw [← hc]; rfl
          have e3 : (r : Int).tmod 10 = (m : Int) := by rw [← hm]; rfl
          have e4 : (p : Int) + (c : Int) = (u : Int) := by omega
          have hs0 : (0 : Int) ≤ (s : Int) := Int.natCast_nonneg _
          have hsN2 : (s : Int) < (N : Int) := by omega
          have hj0 : (0 : Int) ≤ (j : Int) := Int.natCast_nonneg _
          have hjN2 : (j : Int) < (N : Int) := by omega
          have wa : IntKind.i64.wrap (s : Int) = (s : Int) := IntWalk.i64_in _ (by omega)
          have wb : IntKind.i64.wrap (u : Int) = (u : Int) := IntWalk.i64_in _ (by omega)
          have hcb : c ≤ 100000000 := by omega
          have wc : IntKind.i64.wrap (c : Int) = (c : Int) := IntWalk.i64_in _ (by omega)
          have HS := hide hs
          have HO := hide hO2
          clear hs hp hr hc hm hu2 hO hO1 hO2 hC hlen
          go_wp2_with fail
          go_still_tail 15, (by kernel_rfl)
          clear wa wb wc
          change wpList _ _ _ _ _ wr.drew
          go_wp2_with fail
          go_roundg (gk - 1)
          case measure => omega
          case rel => exact ⟨s, _, by have := HS.out; omega, rfl, HO.out.upd ((Upd.refl _ (fun _ => False)).drew) id, hst, ((hu.setCell ⟨G, s, none⟩ _ (.inl (by rw [HG.out]; exact Nat.le_refl _))).setCell ⟨G, j, none⟩ _ (.inl (by rw [HG.out]; exact Nat.le_refl _))).drew⟩
        · have hje : j = n := by omega
          subst hje
          have hsN : s = N := by have := HNN.out; omega
          subst hsN
          have d2 : decide (s < s) = false := by simp
          have h10 := hC.done HVb.out
          have hval := hC.v
          have HO := hide hO
          have HS := hide hs
          have HL : o.length = s := by omega
          have hdg := hO.dg
          have hT := fun w' hv => trim1_any w' (.slice (some ⟨G, 0, none⟩) o.length o.length) o hv h10 (by have := HNN.out; omega)
          rw [hval, HL] at hT
          rw [HL] at hdg
          have HD := hide hdg
          clear hs hO hC hj hjn hlen hTb hdg h10 hval
          go_wp2_with fail
          refine Calls.mono (hT _ HD.out) ?_
          rintro e w9 ⟨v, rfl, z1, ⟨m9, rfl⟩, z2⟩
          go_wp2_with fail
          go_ret
          refine ⟨_, rfl, by rw [HV.out]; exact z1, hu.drewN m9, ?_⟩
          intro k hk
          have hk2 : some G = some k := Eq.trans (show some G = _ from z2.symm) hk
          cases hk2
          rw [HG.out]
          exact Nat.le_refl _
end Go.Proofs.YtmfngdjhkpddoaaGreatDoor
/- The walk of the reference's rounded quotient of digits. -/
set_option maxRecDepth 100000
namespace Go.Proofs.YtmfngdjhkpddoaaGreatDoor
open Go.RowKit Go.Lat

/-- A quotient, rounded. -/
def rnd (A B : Nat) : Nat := A / B + if 2 * (A % B) < B then 0 else 1

set_option maxHeartbeats 1600000 in
theorem nearest_any (w : World) (v1 v2 : Value) (A B : Nat) (h1 : DgAt w v1 (dg A)) (h2 : DgAt w v2 (dg B)) (hB : 0 < B) (hA : A < 10 ^ 100) (hB2 : B < 10 ^ 100) :
    Calls Tryz.prog 100 #[v1, v2] w fun e w' => ∃ v, e = .returned v ∧ DgAt w' v (dg (rnd A B)) ∧ Upd w w' (fun _ => False) := by
  have l1 := dg_len A 100 hA
  have l2 := dg_len B 100 hB2
  have l3 := dg_len (A / B) 100 (Nat.lt_of_le_of_lt (Nat.div_le_self ..) hA)
  have hmod := Nat.mod_lt A hB
  have l4 := dg_len (A % B) 100 (by omega)
  have l5 := dg_len (A % B + A % B) 101 (by rw [Nat.pow_succ]; omega)
  have O := fun w k1 k2 => Over1_any w v1 v2 (dg A) (dg B) k1 k2 (dg_norm _) (dg_norm _) (by rw [val_dg]; exact hB) (by omega) (by omega)
  simp only [val_dg] at O
  have P := fun w v k => plus1_any w v v (dg (A % B)) (dg (A % B)) k k (dg_norm _) (dg_norm _) (by omega) (by omega)
  simp only [val_dg] at P
  have L := fun w v k1 k2 => below1_any w v v2 (dg (A % B + A % B)) (dg B) k1 k2 (dg_norm _) (dg_norm _) (by omega)
  simp only [val_dg] at L
  have hd1 : dg 1 = [1] := by rw [dg_pos (by omega), dg_zero]
  have P2 := fun w v v' k1 k2 => plus1_any w v v' (dg (A / B)) [1] k1 k2 (dg_norm _) (by unfold Norm; decide) (by omega) (by decide)
  rw [show val [1] = 1 from by decide, val_dg] at P2
  unfold rnd
  have e2 : 2 * (A % B) = A % B + A % B := by omega
  rw [e2]
  obtain ⟨x, hx⟩ : ∃ x, decide (A % B + A % B < B) = x := ⟨_, rfl⟩
  rw [hx] at L
  clear l1 l2 l3 l4 l5 hmod hA hB2 hB hd1
  cases x with
  | true =>
    rw [if_pos (by simpa using hx), Nat.add_zero]
    clear hx P2
    go_enter Tryz.func100, Tryz.ntmps100
    go_wp2_with fail
    refine Calls.mono (O _ h1 h2) ?_
    rintro e w1 ⟨vq, vr, rfl, k1, k2, u1⟩
    go_wp2_with fail
    refine Calls.mono (P _ _ k2) ?_
    rintro e w2 ⟨v3, rfl, k3, u2⟩
    go_wp2_with fail
    refine Calls.mono (L _ _ k3 ((h2.upd u1).upd u2)) ?_
    rintro e w3 ⟨rfl, ⟨n3, hn3⟩⟩
    have u3 : Upd w2 w3 (fun _ => False) := by rw [hn3]; exact (Upd.refl w2 _).drewN n3
    clear hn3
    go_wp2_with fail
    go_ret
    exact ⟨_, rfl, (k1.upd u2).upd u3, (u1.then u2 (fun _ _ => id)).then u3 (fun _ _ => id)⟩
  | false =>
    rw [if_neg (by simpa using hx)]
    clear hx
    go_enter Tryz.func100, Tryz.ntmps100
    go_wp2_with fail
    refine Calls.mono (O _ h1 h2) ?_
    rintro e w1 ⟨vq, vr, rfl, k1, k2, u1⟩
    go_wp2_with fail
    refine Calls.mono (P _ _ k2) ?_
    rintro e w2 ⟨v3, rfl, k3, u2⟩
    go_wp2_with fail
    refine Calls.mono (L _ _ k3 ((h2.upd u1).upd u2)) ?_
    rintro e w3 ⟨rfl, ⟨n3, hn3⟩⟩
    have u3 : Upd w2 w3 (fun _ => False) := by rw [hn3]; exact (Upd.refl w2 _).drewN n3
    clear hn3
    go_wp2_with fail
    have m2 : DgAt (w3.alloc (.cells #[.int .i64 1] 3)) (.slice (some ⟨w3.heap.size, 0, none⟩) 1 1) [1] := Rw.made w3 _ _ 1 1 rfl
    refine Calls.mono (P2 _ _ _ (((k1.upd u2).upd u3).upd ((Upd.refl w3 _).alloc _)) m2) ?_
    rintro e w4 ⟨v4, rfl, k4, u4⟩
    go_wp2_with fail
    go_ret
    exact ⟨_, rfl, k4, (((u1.then u2 (fun _ _ => id)).then u3 (fun _ _ => id)).alloc _).then u4 (fun _ _ => id)⟩
end Go.Proofs.YtmfngdjhkpddoaaGreatDoor
/- The walks of fixed.power and fixed.Round. -/
set_option maxRecDepth 100000
namespace Go.Proofs.YtmfngdjhkpddoaaGreatDoor
open Go.RowKit Go.Lat

theorem pow19 (n : Nat) (hn : n ≤ 19) : 10 ^ n ≤ 10000000000000000000 := by
  have := Nat.pow_le_pow_right (n := 10) (by omega) hn
  have e : (10 : Nat) ^ 19 = 10000000000000000000 := by decide
  omega

theorem power_any (w : World) (n : Nat) (hn : n ≤ 19) : Calls Tryz.prog 161 #[.int .i64 n] w fun e w' => e = .returned (.int .u64 ((10 ^ n : Nat) : Int)) ∧ w' = w := by
  go_enter Tryz.func161, Tryz.ntmps161
  go_wp2_with fail
  go_loopg [3, 5] n (fun q p i wr => wr = w ∧ ∃ k : Nat, k + q = n ∧ i = .int .i64 k ∧ p = .int .u64 ((10 ^ k : Nat) : Int))
  case atStart => exact ⟨rfl, 0, by omega, rfl, rfl⟩
  case round =>
    obtain ⟨hwr, k, hk, rfl, rfl⟩ := hrel
    replace hwr := hwr.symm
    subst hwr
    by_cases hkn : k < n
    · have d1 : decide (k < n) = true := by simpa using hkn
      have hp := pow19 (k + 1) (by omega)
      obtain ⟨T, hT⟩ : ∃ T, 10 ^ k = T := ⟨_, rfl⟩
      have e1 : 10 ^ (k + 1) = T * 10 := by rw [Nat.pow_succ, hT]
      rw [e1] at hp
      rw [hT]
      have w1 : IntKind.u64.wrap ((T : Int) * 10) = (T : Int) * 10 := by rw [IntKind.wrap_u64]; omega
      have HE := hide e1
      clear e1 hT
      go_wp2_with fail
      go_roundg (gk - 1)
      case measure => omega
      case rel => exact ⟨rfl, k + 1, by omega, by go_num, by rw [HE.out]; simp⟩
    · have hke : k = n := by omega
      subst hke
      have d1 : decide (k < k) = false := by simp
      go_wp2_with fail
      go_ret
      exact ⟨rfl, rfl⟩

set_option maxHeartbeats 3200000 in
theorem Round_up (w : World) (s : Bool) (x : Nat) (hx : x ≤ 9000000000000000000) (h0 : s = true → 0 < x) (p : Int) (hp : -15 ≤ p) (hp2 : p ≤ 3) (e : Nat) (he : (e : Int) = 4 - p) (T : Nat) (hT : 10 ^ e = T) (hg : T ≤ 2 * (x % T)) :
    Calls Tryz.prog 122 #[.int .i64 (if s then -(x : Int) else x), .int .i64 p] w fun e w' => e = .returned (.tuple #[.int .i64 (numV s ((x / T + 1) * T)), .int .i64 (numE ((x / T + 1) * T))]) ∧ Upd w w' (fun _ => False) := by
  have hTp : 0 < T := by rw [← hT]; exact Nat.pow_pos (by omega)
  have hTb := pow19 e (by omega)
  rw [hT] at hTb
  have G := fun w B h => fixgood_any w B (if s then -(x : Int) else x) h
  rw [show okNum (if s then -(x : Int) else (x : Int)) = true from by cases s <;> simp [okNum] <;> omega] at G
  have S := fun w => size_any w s x hx h0
  have P := fun w => power_any w e (by omega)
  rw [hT] at P
  generalize (if s then -(x : Int) else (x : Int)) = v at *
  have hmod := Nat.mod_lt x hTp
  have mixed := Tryz.lays219.mixed
  have d1 : decide (p < -15) = false := by simp; omega
  have d2 : decide (15 < p) = false := by simp; omega
  have d3 : decide (4 ≤ p) = false := by simp; omega
  have w1 : IntKind.i64.wrap (4 - p) = (e : Int) := by rw [← he]; exact IntWalk.i64_in _ (by omega)
  obtain ⟨q, hq⟩ : ∃ q, x / T = q := ⟨_, rfl⟩
  obtain ⟨r, hr⟩ : ∃ r, x % T = r := ⟨_, rfl⟩
  have hqx : q ≤ x := by rw [← hq]; exact Nat.div_le_self ..
  rw [hq]
  rw [hr] at hg hmod
  have t0 : ¬ (T : Int) = 0 := by omega
  have t0' : ¬ T = 0 := by omega
  have e1 : (x : Int) / (T : Int) = (q : Int) := by rw [← hq]; rfl
  have e2 : (x : Int) % (T : Int) = (r : Int) := by rw [← hr]; rfl
  have w2 : IntKind.u64.wrap (q : Int) = (q : Int) := by rw [IntKind.wrap_u64]; omega
  obtain ⟨d, hd⟩ : ∃ d, T - r = d := ⟨_, rfl⟩
  have e3 : (T : Int) - (r : Int) = (d : Int) := by omega
  have w3 : IntKind.u64.wrap (d : Int) = (d : Int) := by rw [IntKind.wrap_u64]; omega
  have d4 : decide (d ≤ r) = true := by simp; omega
  obtain ⟨k, hk⟩ : ∃ k, q + 1 = k := ⟨_, rfl⟩
  have e4 : (q : Int) + 1 = (k : Int) := by omega
  have w4 : IntKind.u64.wrap (k : Int) = (k : Int) := by rw [IntKind.wrap_u64]; omega
  rw [hk]
  clear hk
  obtain ⟨M, hM⟩ : ∃ M, 9000000000000000000 / T = M := ⟨_, rfl⟩
  have e5 : (9000000000000000000 : Int) / (T : Int) = (M : Int) := by rw [← hM]; rfl
  have hMb : M ≤ 9000000000000000000 := by rw [← hM]; exact Nat.div_le_self ..
  have w5 : IntKind.u64.wrap (M : Int) = (M : Int) := by rw [IntKind.wrap_u64]; omega
  have hcmp : 9000000000000000000 < k * T ↔ M < k := by rw [← hM, Nat.div_lt_iff_lt_mul hTp]
  obtain ⟨V, hV⟩ : ∃ V, k * T = V := ⟨_, rfl⟩
  have e6 : (k : Int) * (T : Int) = (V : Int) := by rw [← hV]; simp
  rw [hV] at hcmp ⊢
  unfold numV numE
  by_cases hz : M < k
  · have d5 : decide (M < k) = true := by simpa using hz
    rw [if_pos (hcmp.2 hz), if_pos (hcmp.2 hz)]
    clear hq hr hg hmod hT hTb hTp hd hM hMb hcmp hV hz hx h0 he hp hp2 hqx
    go_enter Tryz.func122, Tryz.ntmps122
    go_wp2_with fail
    refine Calls.mono (G _ _ (cells1 (heap_alloc_new w _))) ?_
    rintro e' w1 ⟨rfl, rfl⟩
    go_wp2_with fail
    refine Calls.mono (S _) ?_
    rintro e' w2 ⟨rfl, rfl⟩
    go_wp2_with fail
    refine Calls.mono (P _) ?_
    rintro e' w3 ⟨rfl, rfl⟩
    go_wp2_with fail
    go_region_o
    go_wp2_with fail
    go_ret2
    exact ⟨rfl, ((Upd.refl w _).alloc _).drew⟩
  · have d5 : decide (M < k) = false := by simpa using hz
    have hVb : ¬ 9000000000000000000 < V := fun h => hz (hcmp.1 h)
    rw [if_neg hVb, if_neg hVb]
    have w6 : IntKind.u64.wrap (V : Int) = (V : Int) := by rw [IntKind.wrap_u64]; omega
    have w7 : IntKind.i64.wrap (V : Int) = (V : Int) := IntWalk.i64_in _ (by omega)
    have w8 : IntKind.i64.wrap (-(V : Int)) = -(V : Int) := IntWalk.i64_in _ (by omega)
    clear hq hr hg hmod hT hTb hTp hd hM hMb hcmp hV hz hx h0 he hp hp2 hqx hVb
    cases s with
    | false =>
      go_enter Tryz.func122, Tryz.ntmps122
      go_wp2_with fail
      refine Calls.mono (G _ _ (cells1 (heap_alloc_new w _))) ?_
      rintro e' w1 ⟨rfl, rfl⟩
      go_wp2_with fail
      refine Calls.mono (S _) ?_
      rintro e' w2 ⟨rfl, rfl⟩
      go_wp2_with fail
      refine Calls.mono (P _) ?_
      rintro e' w3 ⟨rfl, rfl⟩
      go_wp2_with fail
      go_region_o
      go_wp2_with fail
      go_ret2
      exact ⟨rfl, ((Upd.refl w _).alloc _).drew⟩
    | true =>
      go_enter Tryz.func122, Tryz.ntmps122
      go_wp2_with fail
      refine Calls.mono (G _ _ (cells1 (heap_alloc_new w _))) ?_
      rintro e' w1 ⟨rfl, rfl⟩
      go_wp2_with fail
      refine Calls.mono (S _) ?_
      rintro e' w2 ⟨rfl, rfl⟩
      go_wp2_with fail
      refine Calls.mono (P _) ?_
      rintro e' w3 ⟨rfl, rfl⟩
      go_wp2_with fail
      go_region_o
      go_wp2_with fail
      go_ret2
      exact ⟨rfl, ((Upd.refl w _).alloc _).drew⟩

set_option maxHeartbeats 3200000 in
theorem Round_down (w : World) (s : Bool) (x : Nat) (hx : x ≤ 9000000000000000000) (h0 : s = true → 0 < x) (p : Int) (hp : -15 ≤ p) (hp2 : p ≤ 3) (e : Nat) (he : (e : Int) = 4 - p) (T : Nat) (hT : 10 ^ e = T) (hg : 2 * (x % T) < T) :
    Calls Tryz.prog 122 #[.int .i64 (if s then -(x : Int) else x), .int .i64 p] w fun e w' => e = .returned (.tuple #[.int .i64 (numV s ((x / T) * T)), .int .i64 (numE ((x / T) * T))]) ∧ Upd w w' (fun _ => False) := by
  have hTp : 0 < T := by rw [← hT]; exact Nat.pow_pos (by omega)
  have hTb := pow19 e (by omega)
  rw [hT] at hTb
  have G := fun w B h => fixgood_any w B (if s then -(x : Int) else x) h
  rw [show okNum (if s then -(x : Int) else (x : Int)) = true from by cases s <;> simp [okNum] <;> omega] at G
  have S := fun w => size_any w s x hx h0
  have P := fun w => power_any w e (by omega)
  rw [hT] at P
  generalize (if s then -(x : Int) else (x : Int)) = v at *
  have hmod := Nat.mod_lt x hTp
  have mixed := Tryz.lays219.mixed
  have d1 : decide (p < -15) = false := by simp; omega
  have d2 : decide (15 < p) = false := by simp; omega
  have d3 : decide (4 ≤ p) = false := by simp; omega
  have w1 : IntKind.i64.wrap (4 - p) = (e : Int) := by rw [← he]; exact IntWalk.i64_in _ (by omega)
  obtain ⟨q, hq⟩ : ∃ q, x / T = q := ⟨_, rfl⟩
  obtain ⟨r, hr⟩ : ∃ r, x % T = r := ⟨_, rfl⟩
  have hqx : q ≤ x := by rw [← hq]; exact Nat.div_le_self ..
  rw [hq]
  rw [hr] at hg hmod
  have t0 : ¬ (T : Int) = 0 := by omega
  have t0' : ¬ T = 0 := by omega
  have e1 : (x : Int) / (T : Int) = (q : Int) := by rw [← hq]; rfl
  have e2 : (x : Int) % (T : Int) = (r : Int) := by rw [← hr]; rfl
  have w2 : IntKind.u64.wrap (q : Int) = (q : Int) := by rw [IntKind.wrap_u64]; omega
  obtain ⟨d, hd⟩ : ∃ d, T - r = d := ⟨_, rfl⟩
  have e3 : (T : Int) - (r : Int) = (d : Int) := by omega
  have w3 : IntKind.u64.wrap (d : Int) = (d : Int) := by rw [IntKind.wrap_u64]; omega
  have d4 : decide (d ≤ r) = false := by simp; omega
  obtain ⟨M, hM⟩ : ∃ M, 9000000000000000000 / T = M := ⟨_, rfl⟩
  have e5 : (9000000000000000000 : Int) / (T : Int) = (M : Int) := by rw [← hM]; rfl
  have hMb : M ≤ 9000000000000000000 := by rw [← hM]; exact Nat.div_le_self ..
  have w5 : IntKind.u64.wrap (M : Int) = (M : Int) := by rw [IntKind.wrap_u64]; omega
  have hcmp : 9000000000000000000 < q * T ↔ M < q := by rw [← hM, Nat.div_lt_iff_lt_mul hTp]
  obtain ⟨V, hV⟩ : ∃ V, q * T = V := ⟨_, rfl⟩
  have e6 : (q : Int) * (T : Int) = (V : Int) := by rw [← hV]; simp
  rw [hV] at hcmp ⊢
  unfold numV numE
  by_cases hz : M < q
  · have d5 : decide (M < q) = true := by simpa using hz
    rw [if_pos (hcmp.2 hz), if_pos (hcmp.2 hz)]
    clear hq hr hg hmod hT hTb hTp hd hM hMb hcmp hV hz hx h0 he hp hp2 hqx
    go_enter Tryz.func122, Tryz.ntmps122
    go_wp2_with fail
    refine Calls.mono (G _ _ (cells1 (heap_alloc_new w _))) ?_
    rintro e' w1 ⟨rfl, rfl⟩
    go_wp2_with fail
    refine Calls.mono (S _) ?_
    rintro e' w2 ⟨rfl, rfl⟩
    go_wp2_with fail
    refine Calls.mono (P _) ?_
    rintro e' w3 ⟨rfl, rfl⟩
    go_wp2_with fail
    go_region_o
    go_wp2_with fail
    go_ret2
    exact ⟨rfl, ((Upd.refl w _).alloc _).drew⟩
  · have d5 : decide (M < q) = false := by simpa using hz
    have hVb : ¬ 9000000000000000000 < V := fun h => hz (hcmp.1 h)
    rw [if_neg hVb, if_neg hVb]
    have w6 : IntKind.u64.wrap (V : Int) = (V : Int) := by rw [IntKind.wrap_u64]; omega
    have w7 : IntKind.i64.wrap (V : Int) = (V : Int) := IntWalk.i64_in _ (by omega)
    have w8 : IntKind.i64.wrap (-(V : Int)) = -(V : Int) := IntWalk.i64_in _ (by omega)
    clear hq hr hg hmod hT hTb hTp hd hM hMb hcmp hV hz hx h0 he hp hp2 hqx hVb
    cases s with
    | false =>
      go_enter Tryz.func122, Tryz.ntmps122
      go_wp2_with fail
      refine Calls.mono (G _ _ (cells1 (heap_alloc_new w _))) ?_
      rintro e' w1 ⟨rfl, rfl⟩
      go_wp2_with fail
      refine Calls.mono (S _) ?_
      rintro e' w2 ⟨rfl, rfl⟩
      go_wp2_with fail
      refine Calls.mono (P _) ?_
      rintro e' w3 ⟨rfl, rfl⟩
      go_wp2_with fail
      go_region_o
      go_wp2_with fail
      go_ret2
      exact ⟨rfl, ((Upd.refl w _).alloc _).drew⟩
    | true =>
      go_enter Tryz.func122, Tryz.ntmps122
      go_wp2_with fail
      refine Calls.mono (G _ _ (cells1 (heap_alloc_new w _))) ?_
      rintro e' w1 ⟨rfl, rfl⟩
      go_wp2_with fail
      refine Calls.mono (S _) ?_
      rintro e' w2 ⟨rfl, rfl⟩
      go_wp2_with fail
      refine Calls.mono (P _) ?_
      rintro e' w3 ⟨rfl, rfl⟩
      go_wp2_with fail
      go_region_o
      go_wp2_with fail
      go_ret2
      exact ⟨rfl, ((Upd.refl w _).alloc _).drew⟩

end Go.Proofs.YtmfngdjhkpddoaaGreatDoor
/- The walks of the reference's sums and differences. -/
set_option maxRecDepth 100000
namespace Go.Proofs.YtmfngdjhkpddoaaGreatDoor
open Go.RowKit Go.Lat

theorem signed (a : Int) : ∃ (s : Bool) (n : Nat), a = (if s then -(n : Int) else (n : Int)) ∧ (s = true → 0 < n) ∧ decide (a < 0) = s ∧ n = a.natAbs := by
  by_cases h : a < 0
  · exact ⟨true, a.natAbs, (by simp; omega), (fun _ => by omega), (by simpa using h), rfl⟩
  · exact ⟨false, a.natAbs, (by simp; omega), (fun h => Bool.noConfusion h), (by simpa using h), rfl⟩

theorem norm_len (n : Nat) (h : n ≤ 9000000000000000000) : (dg n).length ≤ 1000 := by
  have := dg_len n 20 (by omega)
  omega

set_option maxHeartbeats 1600000 in
theorem RefAdd_same (w : World) (a b : Int) (ha : okNum a = true) (hb : okNum b = true) (s : Bool) (h1 : decide (a < 0) = s) (h2 : decide (b < 0) = s) :
    Calls Tryz.prog 48 #[.int .i64 a, .int .i64 b] w fun e w' => e = .returned (.tuple #[.int .i64 (numV s (a.natAbs + b.natAbs)), .int .i64 (numE (a.natAbs + b.natAbs))]) ∧ Upd w w' (fun _ => False) := by
  have G1 := fun w => RefGood_any w a
  have G2 := fun w => RefGood_any w b
  rw [ha] at G1
  rw [hb] at G2
  have ba := okNum_true ha
  have bb := okNum_true hb
  obtain ⟨s1, n, ea, -, e1, en⟩ := signed a
  obtain ⟨s2, m, eb, -, e2, em⟩ := signed b
  rw [h1] at e1
  rw [h2] at e2
  subst e1 e2
  rw [← en, ← em]
  have D1 := fun w => Digits_any w s n (by omega)
  have D2 := fun w => Digits_any w s m (by omega)
  rw [← ea] at D1
  rw [← eb] at D2
  have P := fun w v1 v2 k1 k2 => plus1_any w v1 v2 (dg n) (dg m) k1 k2 (dg_norm _) (dg_norm _) (norm_len n (by omega)) (norm_len m (by omega))
  rw [val_dg, val_dg] at P
  have N := fun w v k => Number_any w v (n + m) s k (by omega)
  clear ea eb en em ba bb ha hb
  generalize numV s (n + m) = x at *
  generalize numE (n + m) = y at *
  go_enter Tryz.func48, Tryz.ntmps48
  go_wp2_with fail
  refine Calls.mono (G1 _) ?_
  rintro e w1 ⟨rfl, hw⟩
  replace hw := hw.symm
  subst hw
  go_wp2_with fail
  refine Calls.mono (G2 _) ?_
  rintro e w2 ⟨rfl, hw⟩
  replace hw := hw.symm
  subst hw
  go_wp2_with fail
  refine Calls.mono (D1 _) ?_
  rintro e w3 ⟨v3, rfl, q3, u3, -⟩
  go_wp2_with fail
  refine Calls.mono (D2 _) ?_
  rintro e w4 ⟨v4, rfl, q4, u4, -⟩
  go_wp2_with fail
  refine Calls.mono (P _ _ _ (q3.upd u4) q4) ?_
  rintro e w5 ⟨v5, rfl, q5, u5⟩
  go_wp2_with fail
  refine Calls.mono (N _ _ q5) ?_
  rintro e w6 ⟨rfl, u6⟩
  go_wp2_with fail
  go_ret2
  exact ⟨rfl, ((u3.then u4 (fun _ _ => id)).then u5 (fun _ _ => id)).then u6 (fun _ _ => id)⟩

theorem RefAdd_diff (w : World) (a b : Int) (ha : okNum a = true) (hb : okNum b = true) (s t : Bool) (h1 : decide (a < 0) = s) (h2 : decide (b < 0) = t) (hst : (s == t) = false) :
    Calls Tryz.prog 48 #[.int .i64 a, .int .i64 b] w fun e w' => e = .returned (.tuple #[.int .i64 (a + b), .int .i64 0]) ∧ Upd w w' (fun _ => False) := by
  have G1 := fun w => RefGood_any w a
  have G2 := fun w => RefGood_any w b
  rw [ha] at G1
  rw [hb] at G2
  have ba := okNum_true ha
  have bb := okNum_true hb
  have w1 : IntKind.i64.wrap (a + b) = a + b := by
    refine IntWalk.i64_in _ ?_
    subst h1 h2
    by_cases c1 : a < 0 <;> by_cases c2 : b < 0 <;> simp [c1, c2] at hst <;> omega
  clear ba bb ha hb
  go_enter Tryz.func48, Tryz.ntmps48
  go_wp2_with fail
  refine Calls.mono (G1 _) ?_
  rintro e w1 ⟨rfl, hw⟩
  replace hw := hw.symm
  subst hw
  go_wp2_with fail
  refine Calls.mono (G2 _) ?_
  rintro e w2 ⟨rfl, hw⟩
  replace hw := hw.symm
  subst hw
  go_wp2_with fail
  go_ret2
  exact ⟨rfl, Upd.refl _ _⟩

theorem RefAdd_bad (w : World) (a b : Int) (h : (okNum a && okNum b) = false) :
    Calls Tryz.prog 48 #[.int .i64 a, .int .i64 b] w fun e w' => e = .returned (.tuple #[.int .i64 0, .int .i64 5]) ∧ Upd w w' (fun _ => False) := by
  have G1 := fun w => RefGood_any w a
  have G2 := fun w => RefGood_any w b
  generalize okNum a = x at *
  generalize okNum b = y at *
  cases x with
  | false =>
    go_enter Tryz.func48, Tryz.ntmps48
    go_wp2_with fail
    refine Calls.mono (G1 _) ?_
    rintro e w1 ⟨rfl, hw⟩
    replace hw := hw.symm
    subst hw
    go_wp2_with fail
    refine Calls.mono (G2 _) ?_
    rintro e w2 ⟨rfl, hw⟩
    replace hw := hw.symm
    subst hw
    go_wp2_with fail
    go_ret2
    exact ⟨rfl, Upd.refl _ _⟩
  | true =>
    obtain rfl : y = false := by simpa using h
    go_enter Tryz.func48, Tryz.ntmps48
    go_wp2_with fail
    refine Calls.mono (G1 _) ?_
    rintro e w1 ⟨rfl, hw⟩
    replace hw := hw.symm
    subst hw
    go_wp2_with fail
    refine Calls.mono (G2 _) ?_
    rintro e w2 ⟨rfl, hw⟩
    replace hw := hw.symm
    subst hw
    go_wp2_with fail
    go_ret2
    exact ⟨rfl, Upd.refl _ _⟩

theorem RefAdd_any (w : World) (a b : Int) : Calls Tryz.prog 48 #[.int .i64 a, .int .i64 b] w fun e w' => e = .returned (.tuple #[.int .i64 (addV a b), .int .i64 (addE a b)]) ∧ Upd w w' (fun _ => False) := by
  cases h : (okNum a && okNum b) with
  | false =>
    have e1 : addV a b = 0 := by unfold addV; rw [h]; rfl
    have e2 : addE a b = 5 := by unfold addE; rw [h]; rfl
    rw [e1, e2]
    exact RefAdd_bad w a b h
  | true =>
    have h' := h
    simp only [Bool.and_eq_true] at h'
    have ba := okNum_true h'.1
    have bb := okNum_true h'.2
    by_cases hst : decide (a < 0) = decide (b < 0)
    · have e1 : addV a b = numV (decide (a < 0)) (a.natAbs + b.natAbs) ∧ addE a b = numE (a.natAbs + b.natAbs) := by
        unfold addV addE numV numE
        rw [h, Bool.true_and]
        by_cases c1 : a < 0
        · have c2 : b < 0 := by simpa [c1] using hst
          by_cases hx : 9000000000000000000 < a.natAbs + b.natAbs
          · have e : okNum (a + b) = false := by simp [okNum]; omega
            simp [e, hx]
          · have e : okNum (a + b) = true := by simp [okNum]; omega
            simp [e, hx, c1]
            omega
        · have c2 : ¬ b < 0 := by simpa [c1] using hst
          by_cases hx : 9000000000000000000 < a.natAbs + b.natAbs
          · have e : okNum (a + b) = false := by simp [okNum]; omega
            simp [e, hx]
          · have e : okNum (a + b) = true := by simp [okNum]; omega
            simp [e, hx, c1]
            omega
      rw [e1.1, e1.2]
      exact RefAdd_same w a b h'.1 h'.2 _ rfl hst.symm
    · have hst' : (decide (a < 0) == decide (b < 0)) = false := by simpa using hst
      have e : okNum (a + b) = true := by
        by_cases c1 : a < 0 <;> by_cases c2 : b < 0 <;> simp [c1, c2] at hst <;> simp [okNum] <;> omega
      have e1 : addV a b = a + b := by unfold addV; rw [h, e]; rfl
      have e2 : addE a b = 0 := by unfold addE; rw [h, e]; rfl
      rw [e1, e2]
      exact RefAdd_diff w a b h'.1 h'.2 _ _ rfl rfl hst'

theorem RefSub_any (w : World) (a b : Int) : Calls Tryz.prog 49 #[.int .i64 a, .int .i64 b] w fun e w' => e = .returned (.tuple #[.int .i64 (addV a (-b)), .int .i64 (addE a (-b))]) ∧ Upd w w' (fun _ => False) := by
  have G2 := fun w => RefGood_any w b
  cases h : okNum b with
  | false =>
    have e0 : (okNum a && okNum (-b)) = false := by rw [okNum_neg, h]; simp
    have e1 : addV a (-b) = 0 := by unfold addV; rw [e0]; rfl
    have e2 : addE a (-b) = 5 := by unfold addE; rw [e0]; rfl
    rw [e1, e2]
    rw [h] at G2
    clear e0 e1 e2 h
    go_enter Tryz.func49, Tryz.ntmps49
    go_wp2_with fail
    refine Calls.mono (G2 _) ?_
    rintro e w2 ⟨rfl, hw⟩
    replace hw := hw.symm
    subst hw
    go_wp2_with fail
    go_ret2
    exact ⟨rfl, Upd.refl _ _⟩
  | true =>
    rw [h] at G2
    have bb := okNum_true h
    have w3 : IntKind.i64.wrap (-b) = -b := IntWalk.i64_in _ (by omega)
    have A := fun w => RefAdd_any w a (-b)
    generalize addV a (-b) = x at *
    generalize addE a (-b) = y at *
    clear h bb
    go_enter Tryz.func49, Tryz.ntmps49
    go_wp2_with fail
    refine Calls.mono (G2 _) ?_
    rintro e w2 ⟨rfl, hw⟩
    replace hw := hw.symm
    subst hw
    go_wp2_with fail
    refine Calls.mono (A _) ?_
    rintro e w3 ⟨rfl, u3⟩
    go_wp2_with fail
    go_ret2
    exact ⟨rfl, u3⟩
end Go.Proofs.YtmfngdjhkpddoaaGreatDoor
/- The walk of the reference's Round. -/
set_option maxRecDepth 100000
namespace Go.Proofs.YtmfngdjhkpddoaaGreatDoor
open Go.RowKit Go.Lat

set_option maxHeartbeats 1600000 in
theorem RefRound_in (w : World) (a : Int) (ha : okNum a = true) (s : Bool) (x : Nat) (ea : a = (if s then -(x : Int) else (x : Int))) (hs : decide (a < 0) = s) (hx : x ≤ 9000000000000000000) (p : Int) (hp : -15 ≤ p) (hp2 : p ≤ 3) (e : Nat) (he : (e : Int) = 4 - p) :
    Calls Tryz.prog 104 #[.int .i64 a, .int .i64 p] w fun e' w' => e' = .returned (.tuple #[.int .i64 (numV s (rnd x (10 ^ e) * 10 ^ e)), .int .i64 (numE (rnd x (10 ^ e) * 10 ^ e))]) ∧ Upd w w' (fun _ => False) := by
  have G := fun w => RefGood_any w a
  rw [ha] at G
  have D := fun w => Digits_any w s x (by omega)
  rw [← ea] at D
  have hd1 : dg 1 = [1] := by rw [dg_pos (by omega), dg_zero]
  have d1 : decide (p < -15) = false := by simp; omega
  have d2 : decide (15 < p) = false := by simp; omega
  have d3 : decide (3 < p) = false := by simp; omega
  have TE := pow19 e (by omega)
  have hb100 : (10000000000000000000 : Nat) < 10 ^ 100 := by decide
  have hr : rnd x (10 ^ e) ≤ 9000000000000000001 := by
    unfold rnd
    have := Nat.div_le_self x (10 ^ e)
    split <;> omega
  have N1 := fun w v1 v2 k1 k2 => nearest_any w v1 v2 x (10 ^ e) k1 k2 (Nat.pow_pos (by omega)) (by omega) (by omega)
  have hlr := dg_len (rnd x (10 ^ e)) 100 (by omega)
  have hlt := dg_len (10 ^ e) 100 (by omega)
  have T2 := fun w v1 v2 k1 k2 => times1_any w v1 v2 (dg (rnd x (10 ^ e))) (dg (10 ^ e)) k1 k2 (dg_norm _) (dg_norm _) (by omega) (by omega)
  simp only [val_dg] at T2
  have hm : rnd x (10 ^ e) * 10 ^ e < 10 ^ 100 := by
    have h1 := Nat.mul_le_mul hr TE
    have h2 : (9000000000000000001 * 10000000000000000000 : Nat) < 10 ^ 100 := by decide
    omega
  have NU := fun w v k => Number_any w v (rnd x (10 ^ e) * 10 ^ e) s k hm
  have HD := hide he
  have HL : Hid (∀ k, k < e → (dg (10 ^ k)).length ≤ 100) := hide (fun k hk => dg_len _ 100 (by have := pow19 k (by omega); omega))
  clear TE hb100 hr hlr hlt hm ha hx ea
  generalize numV s (rnd x (10 ^ e) * 10 ^ e) = X at *
  generalize numE (rnd x (10 ^ e) * 10 ^ e) = Y at *
  clear he
  go_enter Tryz.func104, Tryz.ntmps104
  go_wp2_with fail
  refine Calls.mono (G _) ?_
  rintro e' w1 ⟨rfl, hw⟩
  replace hw := hw.symm
  subst hw
  go_wp2_with fail
  go_loopg [7, 8] e (fun q v i wr => ∃ k : Nat, k + q = e ∧ i = .int .i64 (p + k) ∧ DgAt wr v (dg (10 ^ k)) ∧ Upd w wr (fun _ => False))
  case atStart =>
    refine ⟨0, by omega, by simp, ?_, (Upd.refl w _).alloc _⟩
    rw [Nat.pow_zero, hd1]
    exact Rw.made w _ _ 1 1 rfl
  case round =>
    obtain ⟨k, hk, rfl, hv, hu⟩ := hrel
    have he := HD.out
    by_cases hke : k < e
    · have d4 : decide (p + (k : Int) < 4) = true := by simp; omega
      have P := fun w v1 v2 h1 h2 => times1_any w v1 v2 (dg (10 ^ k)) [0, 1] h1 h2 (dg_norm _) (by unfold Norm; decide) (by have := HL.out k hke; omega) (by decide)
      rw [val_dg, show val [0, 1] = 10 from by decide, show 10 ^ k * 10 = 10 ^ (k + 1) from (Nat.pow_succ ..).symm] at P
      obtain ⟨i, hi⟩ : ∃ i, p + (k : Int) = i := ⟨_, rfl⟩
      rw [hi] at d4 ⊢
      have w1 : IntKind.i64.wrap (i + 1) = i + 1 := IntWalk.i64_in _ (by omega)
      have HI := hide hi
      clear hi he
      go_wp2_with fail
      have m2 : DgAt (wr.alloc (.cells #[.int .i64 0, .int .i64 1] 3)) (.slice (some ⟨wr.heap.size, 0, none⟩) 2 2) [0, 1] := Rw.made wr _ _ 1 2 rfl
      refine Calls.mono (P _ _ _ (hv.upd ((Upd.refl wr _).alloc _)) m2) ?_
      rintro e' w2 ⟨v2, rfl, q2, u2, -⟩
      clear P
      go_wp2_with fail
      go_roundg (gk - 1)
      case measure => omega
      case rel => exact ⟨k + 1, by omega, by have := HI.out; congr 1; omega, q2, (hu.alloc _).then u2 (fun _ _ => id)⟩
    · have hke : k = e := by omega
      subst hke
      have d4 : decide (p + (k : Int) < 4) = false := by simp; omega
      go_wp2_with fail
      refine Calls.mono (D _) ?_
      rintro e' w3 ⟨v3, rfl, q3, u3, -⟩
      go_wp2_with fail
      refine Calls.mono (N1 _ _ _ q3 (hv.upd u3)) ?_
      rintro e' w4 ⟨v4, rfl, q4, u4⟩
      go_wp2_with fail
      refine Calls.mono (T2 _ _ _ q4 ((hv.upd u3).upd u4)) ?_
      rintro e' w5 ⟨v5, rfl, q5, u5, -⟩
      go_wp2_with fail
      refine Calls.mono (NU _ _ q5) ?_
      rintro e' w6 ⟨rfl, u6⟩
      go_wp2_with fail
      go_ret2
      exact ⟨rfl, (((hu.then u3 (fun _ _ => id)).then u4 (fun _ _ => id)).then u5 (fun _ _ => id)).then u6 (fun _ _ => id)⟩
end Go.Proofs.YtmfngdjhkpddoaaGreatDoor
