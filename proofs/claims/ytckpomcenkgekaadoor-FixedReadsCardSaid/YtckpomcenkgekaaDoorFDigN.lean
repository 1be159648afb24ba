/- The walks of the reference's number of digits, and of its difference. -/
import Derived.Test.YtckpomcenkgekaaDoorFDigF
set_option maxRecDepth 100000
namespace Go.Proofs.YtckpomcenkgekaaDoor
open Go.RowKit Go.Lat

theorem val_drop (l : List Nat) (j : Nat) (hj : j < l.length) : val (l.drop j) = l.getD j 0 + 10 * val (l.drop (j + 1)) := by
  rw [drop_getD l j hj]
  rfl
theorem val_drop_le (l : List Nat) (r : Nat) : val (l.drop r) ≤ val l := by
  have := val_append (l.take r) (l.drop r)
  rw [List.take_append_drop] at this
  have hp : 0 < 10 ^ (l.take r).length := Nat.pow_pos (by omega)
  have h2 := Nat.mul_le_mul_right (val (l.drop r)) hp
  omega

def numV (neg : Bool) (X : Nat) : Int := if 9000000000000000000 < X then 0 else if neg then -(X : Int) else X
def numE (X : Nat) : Int := if 9000000000000000000 < X then 5 else 0

set_option maxHeartbeats 1600000 in
theorem Number_any (w : World) (v : Value) (X : Nat) (neg : Bool) (hv : DgAt w v (dg X)) (hX : X < 10 ^ 100) :
    Calls Tryd.prog 39 #[v, .bool neg] w fun e w' => e = .returned (.tuple #[.int .i64 (numV neg X), .int .i64 (numE X)]) ∧ Upd w w' (fun _ => False) := by
  have hlx := dg_len X 100 hX
  have D := fun w => Digits_nat w 9000000000000000000 (by omega)
  have hB := fun w v1 v2 h1 h2 => below1_any w v1 v2 (dg 9000000000000000000) (dg X) h1 h2 (dg_norm _) (dg_norm _) (by have := dg_len 9000000000000000000 19 (by omega); omega)
  simp only [val_dg] at hB
  have q := hv.lt
  go_enter Tryd.func39, Tryd.ntmps39
  go_wp2_with fail
  refine Calls.mono (D _) ?_
  rintro e w1 ⟨v1, rfl, q1, u1⟩
  go_wp2_with fail
  refine Calls.mono (hB _ _ _ q1 (hv.upd u1)) ?_
  rintro e w2 ⟨rfl, n2, rfl⟩
  clear D hB q1
  by_cases hbig : 9000000000000000000 < X
  · rw [decide_eq_true hbig]
    go_wp2_with fail
    go_ret2
    exact ⟨by unfold numV numE; rw [if_pos hbig, if_pos hbig]; rfl, u1.drewN n2⟩
  · rw [decide_eq_false hbig]
    have hv2 := hv.upd (u1.drewN n2)
    have u2 := u1.drewN n2
    generalize w1.drewN n2 = w2 at hv2 u2 ⊢
    obtain ⟨sa, sc, rfl, -⟩ := Rw.form hv2
    have hc := fun j hj => dg_cell hv2 j hj
    obtain ⟨s, hs⟩ : ∃ s, (dg X).length = s := ⟨_, rfl⟩
    rw [hs] at hc hlx ⊢
    have HS := hide hs
    have hvX : val (dg X) = X := val_dg X
    clear hs hv2 hv q u1
    go_wp2_with fail
    go_loopg [8, 9] s (fun q n i wr => wr = w2 ∧ ∃ r m : Nat, r ≤ q ∧ r ≤ s ∧ i = .int .i64 ((r : Int) - 1) ∧ n = .int .i64 m ∧ m = val ((dg X).drop r))
    case atStart => exact ⟨rfl, s, 0, Nat.le_refl _, Nat.le_refl _, by first | rfl | go_num, rfl, by rw [List.drop_eq_nil_of_le (by rw [HS.out]; exact Nat.le_refl _)]; rfl⟩
    case round =>
      obtain ⟨hwr, r, m, hr, hrs, rfl, rfl, hm⟩ := hrel
      replace hwr := hwr.symm
      subst hwr
      cases r with
      | zero =>
        have hmX : m = X := by rw [hm, List.drop_zero, hvX]
        have HM := hide hmX
        have hmb : m ≤ 9000000000000000000 := by omega
        clear hm hmX hvX hc
        cases neg with
        | true =>
          go_wp2_with fail
          go_ret2
          exact ⟨by unfold numV numE; rw [if_neg hbig, if_neg hbig, ← HM.out]; simp, u2⟩
        | false =>
          go_wp2_with fail
          go_ret2
          exact ⟨by unfold numV numE; rw [if_neg hbig, if_neg hbig, ← HM.out]; simp, u2⟩
      | succ j =>
        have ej : ((j + 1 : Nat) : Int) - 1 = (j : Int) := by omega
        rw [ej]
        obtain ⟨g, off, rfl, k1⟩ := hc j (by omega)
        have hj0 : (0 : Int) ≤ (j : Int) := Int.natCast_nonneg _
        have hjs : (j : Int) < (s : Int) := by omega
        have hnext := val_drop (dg X) j (by rw [HS.out]; omega)
        have hle := val_drop_le (dg X) j
        rw [hvX] at hle
        obtain ⟨z, hz⟩ : ∃ z, (dg X).getD j 0 = z := ⟨_, rfl⟩
        rw [hz] at k1 hnext
        rw [← hm] at hnext
        obtain ⟨t, ht⟩ : ∃ t, 10 * m = t := ⟨_, rfl⟩
        obtain ⟨u, hu⟩ : ∃ u, t + z = u := ⟨_, rfl⟩
        have e1 : (10 : Int) * (m : Int) = (t : Int) := by omega
        have e2 : (t : Int) + (z : Int) = (u : Int) := by omega
        have hub : u ≤ 9000000000000000000 := by omega
        have htb : t ≤ 9000000000000000000 := by omega
        have hres : u = val ((dg X).drop j) := by omega
        have HR := hide hres
        clear hnext hle hz ht hu hm hres hc ej hvX
        go_wp2_with fail
        go_roundg (gk - 1)
        case measure => omega
        case rel => exact ⟨rfl, j, u, by omega, by omega, by first | rfl | go_num, rfl, HR.out⟩

/-- What stands in the array of a difference behind i places. -/
structure Sb (a b o : List Nat) (i t : Nat) : Prop where
  len : o.length = a.length
  ten : ∀ d ∈ o, d < 10
  v : val (a.take i) + t * 10 ^ i = val (o.take i) + val (b.take i)
  t1 : t ≤ 1

theorem val_take_succ' (l : List Nat) (j : Nat) : val (l.take (j + 1)) = val (l.take j) + l.getD j 0 * 10 ^ j := by
  by_cases hj : j < l.length
  · exact val_take_succ l j hj
  · rw [List.take_of_length_le (by omega), List.take_of_length_le (by omega), List.getD_eq_getElem?_getD, List.getElem?_eq_none (by omega)]
    simp
theorem take_set (o : List Nat) (i x : Nat) (hi : i < o.length) : val ((o.set i x).take (i + 1)) = val (o.take i) + x * 10 ^ i := by
  rw [val_take_succ' (o.set i x) i, getD_set o i i x hi, if_pos rfl]
  congr 2
  rw [List.take_set_of_le (Nat.le_refl i)]

theorem Sb.step {a b o : List Nat} {i t : Nat} (h : Sb a b o i t) (hi : i < a.length) (x t' : Nat) (hx : x < 10) (ht : t' ≤ 1) (he : x + t + b.getD i 0 = a.getD i 0 + 10 * t') : Sb a b (o.set i x) (i + 1) t' := by
  refine ⟨by simp [h.len], ?_, ?_, ht⟩
  · intro d hd
    rcases List.mem_or_eq_of_mem_set hd with e | e
    · exact h.ten d e
    · omega
  · rw [take_set o i x (by rw [h.len]; exact hi), val_take_succ' a i, val_take_succ' b i, Nat.pow_succ]
    have hv := h.v
    have e2 : (x + t + b.getD i 0) * 10 ^ i = (a.getD i 0 + 10 * t') * 10 ^ i := by rw [he]
    rw [Nat.add_mul, Nat.add_mul, Nat.add_mul, Nat.mul_assoc] at e2
    rw [Nat.mul_comm (10 ^ i) 10, Nat.mul_left_comm]
    omega

theorem Sb.done {a b o : List Nat} {t : Nat} (h : Sb a b o a.length t) (nb : Norm b) (na : Norm a) (hle : val b ≤ val a) : val o = val a - val b := by
  have hl : b.length ≤ a.length := by
    rcases Nat.lt_or_ge a.length b.length with e | e
    · have := val_len_lt a b na nb e
      omega
    · exact e
  have hv := h.v
  rw [List.take_of_length_le (Nat.le_refl _), List.take_of_length_le (by rw [h.len]; exact Nat.le_refl _), List.take_of_length_le hl] at hv
  have ho := val_lt o h.ten
  rw [h.len] at ho
  have ht := h.t1
  generalize 10 ^ a.length = P at *
  rcases (show t = 0 ∨ t = 1 by omega) with e | e
  · subst e; omega
  · subst e; omega

set_option maxHeartbeats 3200000 in
theorem minus1_any (w : World) (v1 v2 : Value) (a b : List Nat) (h1 : DgAt w v1 a) (h2 : DgAt w v2 b) (na : Norm a) (nb : Norm b) (hle : val b ≤ val a) (hl1 : a.length ≤ 1000) (hl2 : b.length ≤ 1000) :
    Calls Tryd.prog 55 #[v1, v2] w fun e w' => ∃ v, e = .returned v ∧ DgAt w' v (dg (val a - val b)) ∧ Upd w w' (fun _ => False) ∧ (∀ k, v.ownBlock = some k → w.heap.size ≤ k) := by
  have q1 := h1.lt
  have q2 := h2.lt
  obtain ⟨a1, p1, rfl, -⟩ := Rw.form h1
  obtain ⟨a2, p2, rfl, -⟩ := Rw.form h2
  have r1 := fun j (hj : j < a.length) => dg_cell h1 j hj
  have r2 := fun j (hj : j < b.length) => dg_cell h2 j hj
  obtain ⟨A, hA⟩ : ∃ A, a.length = A := ⟨_, rfl⟩
  obtain ⟨B, hB⟩ : ∃ B, b.length = B := ⟨_, rfl⟩
  rw [hA] at hl1 ⊢
  rw [hB] at hl2 ⊢
  have hmk := run_make_row' (P := Tryd.prog) 40 3 (.int .i64 0) 8 Tryd.underlying40 Tryd.info3 rfl .i64 .i64 A (by omega) (by omega)
  have HA := hide hA
  have HB := hide hB
  clear h1 h2 hA hB
  go_enter Tryd.func55, Tryd.ntmps55
  go_wp2_with fail
  have hM := ArrAt.made w A
  have uM : Upd w (w.alloc (.cells (madeCells #[.int .i64 0] A) 3)) (fun _ => False) := (Upd.refl w _).alloc _
  have hS : Sb a b (List.replicate A 0) 0 0 := ⟨by rw [HA.out]; simp, fun d hd => by rw [List.eq_of_mem_replicate hd]; omega, by simp [val], by omega⟩
  generalize (w.alloc (.cells (madeCells #[.int .i64 0] A) 3)) = wm at hM uM ⊢
  obtain ⟨G, hG⟩ : ∃ G, w.heap.size = G := ⟨_, rfl⟩
  rw [hG] at hM ⊢
  have HG := hide hG
  clear hG hmk
  go_loopg [6, 7] A (fun q tv v wr => ∃ (i t : Nat) (o : List Nat), i + q = A ∧ v = .int .i64 i ∧ tv = .int .i64 t ∧ ArrAt wr G o ∧ Sb a b o i t ∧ Upd w wr (fun _ => False))
  case atStart => exact ⟨0, 0, _, by omega, rfl, rfl, hM, hS, uM⟩
  case round =>
    clear hM hS uM
    obtain ⟨i, t, o, hi, rfl, rfl, hO, hC, hu⟩ := hrel
    by_cases hiA : i < A
    · have d1 : decide (i < A) = true := by simpa using hiA
      obtain ⟨g1, o1, rfl, c1⟩ := r1 i (by rw [HA.out]; exact hiA)
      have hg1 : g1 < w.heap.size := q1 g1 rfl
      have k1 := (hu.cell g1 _ hg1 id).trans c1
      have hx9 := dgs_le a na i
      have hy9 := dgs_le b nb i
      have ht1 := hC.t1
      have hf := hO.free i
      have k3 := hO.cell i (by rw [hC.len, HA.out]; exact hiA)
      have hstep := fun x t' hx ht he => hC.step (by rw [HA.out]; exact hiA) x t' hx ht he
      obtain ⟨x, hx⟩ : ∃ x, a.getD i 0 = x := ⟨_, rfl⟩
      obtain ⟨y, hy⟩ : ∃ y, b.getD i 0 = y := ⟨_, rfl⟩
      rw [hx] at k1 hx9
      rw [hx, hy] at hstep
      rw [hy] at hy9
      have hi0 : (0 : Int) ≤ (i : Int) := Int.natCast_nonneg _
      have hiA2 : (i : Int) < (A : Int) := by omega
      obtain ⟨y1, e1⟩ : ∃ y1 : Int, (x : Int) - (t : Int) = y1 := ⟨_, rfl⟩
      have b1 : -1 ≤ y1 ∧ y1 ≤ 9 := by omega
      have HST := hide hstep
      have HO := hide hO
      by_cases hiB : i < B
      · have d2 : decide (i < B) = true := by simpa using hiB
        obtain ⟨g2, o2, rfl, c2⟩ := r2 i (by rw [HB.out]; exact hiB)
        have hg2 : g2 < w.heap.size := q2 g2 rfl
        have k2 := (hu.cell g2 _ hg2 id).trans c2
        rw [hy] at k2
        have hiB2 : (i : Int) < (B : Int) := by omega
        obtain ⟨y2, e2⟩ : ∃ y2 : Int, y1 - (y : Int) = y2 := ⟨_, rfl⟩
        have b2 : -10 ≤ y2 ∧ y2 ≤ 9 := by omega
        by_cases hneg : y2 < 0
        · have d3 : decide (y2 < 0) = true := by simpa using hneg
          obtain ⟨z, hz⟩ := Int.eq_ofNat_of_zero_le (show 0 ≤ y2 + 10 by omega)
          have hst := HST.out z 1 (by omega) (by omega) (by omega)
          clear hx hy hstep hC hO c1 c2 r1 r2 hneg
          go_wp2_with fail
          go_roundg (gk - 1)
          case measure => omega
          case rel => exact ⟨i + 1, 1, o.set i z, by omega, by first | rfl | go_num, rfl, HO.out.set i z, hst, hu.setCell ⟨G, i, none⟩ _ (.inl (by rw [HG.out]; exact Nat.le_refl _))⟩
        · have d3 : decide (y2 < 0) = false := by simpa using hneg
          obtain ⟨z, hz⟩ := Int.eq_ofNat_of_zero_le (show 0 ≤ y2 by omega)
          have d4 : decide ((z : Int) < 0) = false := by simp
          have d5 : (0 : Int) ≤ (z : Int) := Int.natCast_nonneg _
          have hst := HST.out z 0 (by omega) (by omega) (by omega)
          clear hx hy hstep hC hO c1 c2 r1 r2 hneg
          go_wp2_with fail
          go_roundg (gk - 1)
          case measure => omega
          case rel => exact ⟨i + 1, 0, o.set i z, by omega, by first | rfl | go_num, rfl, HO.out.set i z, hst, hu.setCell ⟨G, i, none⟩ _ (.inl (by rw [HG.out]; exact Nat.le_refl _))⟩
      · have d2 : decide (i < B) = false := by simpa using hiB
        have hy0 : y = 0 := by rw [← hy, List.getD_eq_getElem?_getD, List.getElem?_eq_none (by rw [HB.out]; omega)]; rfl
        by_cases hneg : y1 < 0
        · have d3 : decide (y1 < 0) = true := by simpa using hneg
          obtain ⟨z, hz⟩ := Int.eq_ofNat_of_zero_le (show 0 ≤ y1 + 10 by omega)
          have hst := HST.out z 1 (by omega) (by omega) (by omega)
          clear hx hy hstep hC hO c1 r1 r2 hneg hiB hy0
          go_wp2_with fail
          go_roundg (gk - 1)
          case measure => omega
          case rel => exact ⟨i + 1, 1, o.set i z, by omega, by first | rfl | go_num, rfl, HO.out.set i z, hst, hu.setCell ⟨G, i, none⟩ _ (.inl (by rw [HG.out]; exact Nat.le_refl _))⟩
        · have d3 : decide (y1 < 0) = false := by simpa using hneg
          obtain ⟨z, hz⟩ := Int.eq_ofNat_of_zero_le (show 0 ≤ y1 by omega)
          have d4 : decide ((z : Int) < 0) = false := by simp
          have d5 : (0 : Int) ≤ (z : Int) := Int.natCast_nonneg _
          have hst := HST.out z 0 (by omega) (by omega) (by omega)
          clear hx hy hstep hC hO c1 r1 r2 hneg hiB hy0
          go_wp2_with fail
          go_roundg (gk - 1)
          case measure => omega
          case rel => exact ⟨i + 1, 0, o.set i z, by omega, by first | rfl | go_num, rfl, HO.out.set i z, hst, hu.setCell ⟨G, i, none⟩ _ (.inl (by rw [HG.out]; exact Nat.le_refl _))⟩
    · have hie : i = A := by omega
      subst hie
      have d1 : decide (i < i) = false := by simp
      have hlen : o.length = i := by rw [hC.len]; exact HA.out
      have hval : val o = val a - val b := by
        rw [← HA.out] at hC
        exact hC.done nb na hle
      have hdg := hO.dg
      have T := fun w v hv => trim1_any w v o hv hC.ten (by omega)
      rw [hlen] at hdg
      rw [hval] at T
      clear hC r1 r2 hiA hi hval
      go_wp2_with fail
      refine Calls.mono (T _ _ hdg) ?_
      rintro e w2 ⟨v2, rfl, g2, ⟨n, rfl⟩, g3⟩
      go_wp2_with fail
      go_ret
      refine ⟨_, rfl, g2, hu.drewN n, fun k hk => ?_⟩
      have hk2 : some G = some k := (show v2.ownBlock = some G from g3).symm.trans hk
      cases hk2
      rw [HG.out]
      exact Nat.le_refl _
end Go.Proofs.YtckpomcenkgekaaDoor
