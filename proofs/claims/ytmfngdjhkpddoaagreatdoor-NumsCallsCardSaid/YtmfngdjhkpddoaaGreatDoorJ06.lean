/- The walk of the reference's division of digits. -/
import Derived.Test.YtmfngdjhkpddoaaGreatDoorJ05
set_option maxRecDepth 100000
namespace Go.Proofs.YtmfngdjhkpddoaaGreatDoor
open Go.RowKit Go.Lat

/-- What is reckoned when m places of the dividend are left. -/
structure Ov (a qs : List Nat) (V m R : Nat) : Prop where
  len : qs.length = a.length
  ten : ∀ d ∈ qs, d < 10
  v : val (a.drop m) = val (qs.drop m) * V + R
  lt : R < V
  zero : ∀ k, k < m → qs.getD k 0 = 0

theorem Ov.step {a qs : List Nat} {V j R : Nat} (h : Ov a qs V (j + 1) R) (hj : j < a.length) (t R2 : Nat) (he : R2 + t * V = a.getD j 0 + 10 * R) (hlt : R2 < V) (ht : t ≤ 9) : Ov a (qs.set j t) V j R2 := by
  refine ⟨by simp [h.len], ?_, ?_, hlt, fun k hk => by rw [getD_set qs j k t (by rw [h.len]; exact hj), if_neg (by omega)]; exact h.zero k (by omega)⟩
  · intro d hd
    rcases List.mem_or_eq_of_mem_set hd with e | e
    · exact h.ten d e
    · omega
  · have hv := h.v
    rw [val_drop a j hj, val_drop (qs.set j t) j (by simp [h.len]; exact hj), getD_set qs j j t (by rw [h.len]; exact hj), if_pos rfl, List.drop_set_of_lt (by omega), hv, Nat.add_mul, Nat.mul_assoc]
    omega

theorem set_zero (l : List Nat) (j : Nat) (hj : j < l.length) (h : l.getD j 0 = 0) : l.set j 0 = l := by
  rw [List.getD_eq_getElem?_getD, List.getElem?_eq_getElem hj] at h
  simp only [Option.getD_some] at h
  have e := List.set_getElem_self hj
  rw [h] at e
  exact e

theorem mul_le9 (t V X : Nat) (h : t * V ≤ X) (hX : X < 10 * V) : t ≤ 9 := by
  rcases Nat.lt_or_ge 9 t with e | e
  · have := Nat.mul_le_mul_right V (show 10 ≤ t from e)
    omega
  · exact e

set_option maxHeartbeats 6400000 in
theorem Over1_any (w : World) (v1 v2 : Value) (a b : List Nat) (h1 : DgAt w v1 a) (h2 : DgAt w v2 b) (na : Norm a) (nb : Norm b) (hb : 0 < val b) (hl1 : a.length ≤ 500) (hl2 : b.length ≤ 500) :
    Calls Tryz.prog 138 #[v1, v2] w fun e w' => ∃ x y, e = .returned (.tuple #[x, y]) ∧ DgAt w' x (dg (val a / val b)) ∧ DgAt w' y (dg (val a % val b)) ∧ Upd w w' (fun _ => False) := by
  obtain ⟨i0, hi, hz0, hz1, hz2⟩ := info_parts Tryz.info3
  have q1 := h1.lt
  obtain ⟨a1, p1, rfl, -⟩ := Rw.form h1
  have r1 := fun j (hj : j < a.length) => dg_cell h1 j hj
  obtain ⟨A, hA⟩ : ∃ A, a.length = A := ⟨_, rfl⟩
  rw [hA] at hl1 ⊢
  obtain ⟨V, hV⟩ : ∃ V, val b = V := ⟨_, rfl⟩
  have hVb : V < 10 ^ b.length := by rw [← hV]; exact val_lt b nb.1
  have hmk := run_make_row' (P := Tryz.prog) 49 3 (.int .i64 0) 8 Tryz.underlying49 Tryz.info3 rfl .i64 .i64 A (by omega) (by omega)
  have BL := fun w rv R (hr : DgAt w rv (dg R)) (hbb : DgAt w v2 b) (hR : R < 10 * V) => below1_any w rv v2 (dg R) b hr hbb (dg_norm R) nb (by have := dg_len R (b.length + 1) (by rw [Nat.pow_succ]; omega); omega)
  have MN := fun w rv R (hr : DgAt w rv (dg R)) (hbb : DgAt w v2 b) (hR : R < 10 * V) (hle : V ≤ R) => minus1_any w rv v2 (dg R) b hr hbb (dg_norm R) nb (by rw [val_dg, hV]; exact hle) (by have := dg_len R (b.length + 1) (by rw [Nat.pow_succ]; omega); omega) (by omega)
  simp only [val_dg, hV] at BL MN
  have TR := fun w rv l hv h10 hl => trim1_any w rv l hv h10 hl
  have RL := fun R (hR : R < V) => dg_len R b.length (Nat.lt_trans hR hVb)
  have HRL := hide RL
  have HA := hide hA
  have HV := hide hV
  rw [hV] at hb
  clear h1 hA hV RL hVb
  go_enter Tryz.func138, Tryz.ntmps138
  go_wp2_with fail
  have hM := ArrAt.made w A
  have uM : Upd w (w.alloc (.cells (madeCells #[.int .i64 0] A) 3)) (fun _ => False) := (Upd.refl w _).alloc _
  have hS : Ov a (List.replicate A 0) V A 0 := ⟨by rw [HA.out]; simp, fun d hd => by rw [List.eq_of_mem_replicate hd]; omega, by rw [List.drop_eq_nil_of_le (by rw [HA.out]; exact Nat.le_refl _), List.drop_eq_nil_of_le (by simp)]; simp [val], hb, fun k hk => by rw [List.getD_eq_getElem?_getD, List.getElem?_replicate, if_pos hk]; rfl⟩
  generalize (w.alloc (.cells (madeCells #[.int .i64 0] A) 3)) = wm at hM uM ⊢
  obtain ⟨G, hG⟩ : ∃ G, w.heap.size = G := ⟨_, rfl⟩
  rw [hG] at hM ⊢
  have HG := hide hG
  clear hG hmk
  go_loopg [7, 8] A (fun q rv iv wr => ∃ (m R : Nat) (qs : List Nat), m ≤ q ∧ m ≤ A ∧ iv = .int .i64 ((m : Int) - 1) ∧ DgAt wr rv (dg R) ∧ ArrAt wr G qs ∧ Ov a qs V m R ∧ Upd w wr (fun _ => False))
  case atStart => exact ⟨A, 0, _, Nat.le_refl _, Nat.le_refl _, by first | rfl | go_num, by rw [dg_zero]; exact Rw.nil _ _ _, hM, hS, uM⟩
  case round =>
    clear hM hS uM
    obtain ⟨m, R, qs, hm, hmA, rfl, hr, hO, hC, hu⟩ := hrel
    have hlt := hC.lt
    have hlenq : qs.length = A := by rw [hC.len]; exact HA.out
    cases m with
    | zero =>
      have hv := hC.v
      rw [List.drop_zero, List.drop_zero] at hv
      have e1 : val a / V = val qs := by
        rw [hv, Nat.mul_comm, Nat.mul_add_div hb, Nat.div_eq_of_lt hlt, Nat.add_zero]
      have e2 : val a % V = R := by
        rw [hv, Nat.mul_comm, Nat.mul_add_mod, Nat.mod_eq_of_lt hlt]
      have hdg := hO.dg
      rw [hlenq] at hdg
      have T := TR wr _ qs hdg hC.ten (by omega)
      have H1 := hide e1
      have H2 := hide e2
      have HR := hide hr
      clear hv e1 e2 hdg hC hO hr TR BL MN r1 hlt
      go_wp2_with fail
      refine Calls.mono T ?_
      rintro e w2 ⟨x2, rfl, g2, ⟨n, rfl⟩, -⟩
      go_wp2_with fail
      go_ret2
      exact ⟨_, _, rfl, by rw [HV.out, H1.out]; exact g2, by rw [HV.out, H2.out]; exact HR.out.upd ((Upd.refl wr _).drewN n), hu.drewN n⟩
    | succ j =>
      have ej : ((j + 1 : Nat) : Int) - 1 = (j : Int) := by omega
      rw [ej]
      obtain ⟨g1, o1, rfl, c1⟩ := r1 j (by rw [HA.out]; omega)
      have hg1 : g1 < w.heap.size := q1 g1 rfl
      have k1 := (hu.cell g1 _ hg1 id).trans c1
      have hx9 := dgs_le a na j
      have hstep := fun t R2 he hl ht => hC.step (by rw [HA.out]; omega) t R2 he hl ht
      have hqz := hC.zero j (by omega)
      obtain ⟨x, hx⟩ : ∃ x, a.getD j 0 = x := ⟨_, rfl⟩
      rw [hx] at k1 hx9 hstep
      have hj0 : (0 : Int) ≤ (j : Int) := Int.natCast_nonneg _
      have hjA : (j : Int) < (A : Int) := by omega
      have hrl := hr.lt
      have hrlen := HRL.out R hlt
      obtain ⟨ra, rc, rfl, -⟩ := Rw.form hr
      have rr := fun k hk => dg_cell hr k hk
      obtain ⟨LR, hLR⟩ : ∃ LR, (dg R).length = LR := ⟨_, rfl⟩
      rw [hLR] at hrlen rr hrl ⊢
      have HLR := hide hLR
      have HST := hide hstep
      have HO := hide hO
      obtain ⟨ogk, rfl⟩ : ∃ ogk : Nat, ogk = gk := ⟨_, rfl⟩
      have hfree := hO.free j
      have hG0 := hO.lt
      obtain ⟨wo, hwo⟩ : ∃ wo : World, wo = wr := ⟨_, rfl⟩
      subst hwo
      clear c1 hx hstep hC hO hr hLR r1 ej
      go_wp2_with fail
      have hN0 : DgAt (wo.alloc (.cells #[.int .i64 (x : Nat)] 3)) (.slice (some ⟨wo.heap.size, 0, none⟩) 1 1) [x] := Rw.made wo _ _ 1 1 rfl
      have uN0 : Upd wo (wo.alloc (.cells #[.int .i64 (x : Nat)] 3)) (fun _ => False) := (Upd.refl wo _).alloc _
      go_loopg [9, 10] LR (fun q nv kv w3 => ∃ k : Nat, k + q = LR ∧ kv = .int .i64 k ∧ DgAt w3 nv (x :: (dg R).take k) ∧ Upd wo w3 (fun _ => False) ∧ ∀ i, nv.ownBlock = some i → wo.heap.size ≤ i)
      case atStart => exact ⟨0, by omega, rfl, by simpa using hN0, uN0, by simp [Value.ownBlock]⟩
      case round =>
        clear hN0 uN0
        obtain ⟨k, hk, rfl, hN, u3, hob⟩ := hrel
        have hnl : (x :: (dg R).take k).length = k + 1 := by rw [List.length_cons, List.length_take, HLR.out]; omega
        by_cases hkL : k < LR
        · have d1 : decide (k < LR) = true := by simpa using hkL
          obtain ⟨g2, o2, rfl, c2⟩ := rr k hkL
          have hg2 : g2 < wo.heap.size := hrl g2 rfl
          have k2 := (u3.cell g2 _ hg2 id).trans c2
          have hk0 : (0 : Int) ≤ (k : Int) := Int.natCast_nonneg _
          have hkL2 : (k : Int) < (LR : Int) := by omega
          have hnext : x :: (dg R).take (k + 1) = (x :: (dg R).take k) ++ [(dg R).getD k 0] := by
            rw [List.take_add_one, List.getElem?_eq_getElem (by rw [HLR.out]; exact hkL), List.getD_eq_getElem?_getD, List.getElem?_eq_getElem (by rw [HLR.out]; exact hkL)]
            rfl
          obtain ⟨z, hz⟩ : ∃ z, (dg R).getD k 0 = z := ⟨_, rfl⟩
          rw [hz] at k2 hnext
          unfold DgAt at hN
          rw [hnl] at hN
          have HN := hide hnext
          clear hz hnext c2 rr hnl
          go_wp2_with (at_builtin; go_loud (refine wpList_append_rw _ rfl _ _ 49 49 rfl 3 _ i0 _ 1 8 Tryz.underlying49 Tryz.underlying49 (by simp) hi hz0 hz1 hz2 rfl _ (k + 1) _ rfl (hN.alloc _) _ 1 _ rfl (Rw.made _ _ _ 1 1 rfl).src rfl (by simp [Value.oneCell']) (by omega) (by omega) ?_); intro ga gc w4 hv' hg hob')
          go_roundg (gk - 1)
          case measure => omega
          case rel =>
            refine ⟨k + 1, by omega, by first | rfl | go_num, ?_, (u3.alloc _).grown hg (fun i hi => .inl (hob i hi)), ?_⟩
            · rw [HN.out]
              unfold DgAt
              rw [List.length_append, List.length_cons, List.length_take, HLR.out, Nat.min_eq_left (by omega), List.map_append]
              exact hv'
            · intro i hi
              rcases hob' with e | e
              · exact hob i (Eq.trans (show _ = _ from e.symm) hi)
              · rw [e] at hi; simp at hi; have := u3.size; omega
        · have hke : k = LR := by omega
          subst hke
          have d1 : decide (k < k) = false := by simp
          rw [List.take_of_length_le (by rw [HLR.out]; exact Nat.le_refl _)] at hN
          obtain ⟨X, hX⟩ : ∃ X, x + 10 * R = X := ⟨_, rfl⟩
          have hXb : X < 10 * V := by omega
          have T := TR wr _ (x :: dg R) hN (by
            intro d hd
            rcases List.mem_cons.1 hd with e | e
            · omega
            · exact (dg_norm R).1 d e) (by simp only [List.length_cons, HLR.out]; omega)
          rw [show val (x :: dg R) = X from by simp only [val, val_dg]; exact hX] at T
          have hbo := (h2.upd hu).upd u3
          have HX := hide hX
          clear hN hX rr TR
          go_wp2_with fail
          refine Calls.mono T ?_
          clear T
          rintro e w4 ⟨rv, rfl, gr, ⟨n4, rfl⟩, -⟩
          go_wp2_with fail
          have hbo4 := hbo.upd ((Upd.refl wr (fun _ => False)).drewN n4)
          refine Calls.mono (BL _ rv X gr hbo4 hXb) ?_
          rintro e w5 ⟨rfl, n5, rfl⟩
          have gr5 : DgAt (wr.drewN (n4 + n5)) rv (dg X) := gr
          have u5 : Upd wo (wr.drewN (n4 + n5)) (fun _ => False) := u3.drewN (n4 + n5)
          have hO5 := HO.out.upd u5 id
          go_wp2_with fail
          generalize (wr.drewN (n4 + n5)) = w5 at gr5 u5 hO5 ⊢
          clear gr hbo hbo4
          go_loopg [7, 11] 10 (fun q rv lv w6 => ∃ t R2 : Nat, ∃ qs2 : List Nat, t + q = 10 ∧ R2 + t * V = X ∧ lv = .bool (decide (R2 < V)) ∧ DgAt w6 rv (dg R2) ∧ ArrAt w6 G qs2 ∧ qs2 = qs.set j t ∧ Upd w w6 (fun _ => False))
          case atStart => exact ⟨0, X, qs, by omega, by rw [Nat.zero_mul, Nat.add_zero], rfl, gr5, hO5, (set_zero qs j (by omega) hqz).symm, hu.then u5 (fun _ _ => id)⟩
          case round =>
            clear gr5 u5 hO5
            obtain ⟨t, R2, qs2, htq, hRX, rfl, gr, hO6, rfl, u6⟩ := hrel
            have ht9 := mul_le9 t V X (by omega) hXb
            have hbo := h2.upd u6
            obtain ⟨g, hg⟩ : ∃ g, decide (R2 < V) = g := ⟨_, rfl⟩
            rw [hg]
            cases g
            case true =>
              have hlt2 : R2 < V := of_decide_eq_true hg
              have hst := HST.out t R2 (by rw [HX.out]; exact hRX) hlt2 ht9
              clear hg hbo d1
              go_wp2_with fail
              go_roundg (ogk - 1)
              case measure => omega
              case rel => exact ⟨j, R2, _, by omega, by omega, by first | rfl | go_num, gr, hO6, hst, u6⟩
            case false =>
              have hge : V ≤ R2 := Nat.le_of_not_lt (of_decide_eq_false hg)
              have hR10 : R2 < 10 * V := by omega
              have hM := MN _ _ R2 gr hbo hR10 hge
              obtain ⟨R3, hR3⟩ : ∃ R3, R2 - V = R3 := ⟨_, rfl⟩
              rw [hR3] at hM
              have hRX3 : R3 + (t + 1) * V = X := by rw [Nat.add_mul]; omega
              have ht1 := mul_le9 (t + 1) V X (by omega) hXb
              have hR3b : R3 < 10 * V := by omega
              have HRX := hide hRX3
              have HO6 := hide hO6
              clear hg hbo d1 hRX hRX3 hR3 gr hO6
              go_wp2_with fail
              refine Calls.mono hM ?_
              clear hM
              rintro e w7 ⟨rv7, rfl, gr7, u7, ob7⟩
              have hO7 := HO6.out.upd u7 id
              have kt := hO7.cell j (by simp; omega)
              rw [getD_set qs j j t (by omega), if_pos rfl] at kt
              have hf7 := hO7.free j
              have hO8 := hO7.set j (t + 1)
              rw [List.set_set] at hO8
              have u67 := u6.then u7 (fun _ _ => id)
              have u8 := u67.setCell ⟨G, j, none⟩ (.int .i64 ((t + 1 : Nat) : Int)) (.inl (by rw [HG.out]; exact Nat.le_refl _))
              have hbo8 := h2.upd u8
              have hGlt := HO6.out.lt
              have gr8 : DgAt (w7.setCell ⟨G, j, none⟩ (.int .i64 ((t + 1 : Nat) : Int))) rv7 (dg R3) := gr7.setCell _ _ (fun e => by have := ob7 _ e; simp at this; omega)
              rw [show ((t + 1 : Nat) : Int) = (t : Int) + 1 from rfl] at hO8 u8 hbo8 gr8
              have HO8 := hide hO8
              clear hO7 gr7 u7 hO8
              go_wp2_with fail
              refine Calls.mono (BL _ rv7 R3 gr8 hbo8 hR3b) ?_
              rintro e w9 ⟨rfl, n9, rfl⟩
              go_wp2_with fail
              go_roundg (gk - 1)
              case measure => omega
              case rel => exact ⟨t + 1, R3, _, by omega, HRX.out, rfl, gr8, HO8.out.upd ((Upd.refl _ (fun _ => False)).drewN n9) id, rfl, u8.drewN n9⟩
end Go.Proofs.YtmfngdjhkpddoaaGreatDoor
