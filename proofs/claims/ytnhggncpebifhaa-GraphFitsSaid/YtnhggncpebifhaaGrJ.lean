/- The walk of close. -/
import Derived.Test.YtnhggncpebifhaaGrI
set_option maxRecDepth 100000
namespace Go.Proofs.Ytnhggncpebifhaa
open Go.RowKit Go.Lat Go.Tarjan

def partAt (part : Nat → Nat) (Ms : List Nat) (mn j : Nat) : Nat → Nat := fun u => if u ∈ Ms.take j then mn else part u
def onAt (on : Nat → Bool) (Ms : List Nat) (j : Nat) : Nat → Bool := fun u => if u ∈ Ms.take j then false else on u
theorem takeN_mem {l : List Nat} {j x : Nat} (h : l[j]? = some x) (y : Nat) : y ∈ l.take (j + 1) ↔ y ∈ l.take j ∨ y = x := by
  rw [List.take_add_one, h]
  simp
theorem partAt_step (part : Nat → Nat) {Ms : List Nat} (mn : Nat) {j x : Nat} (h : Ms[j]? = some x) : upd (partAt part Ms mn j) x mn = partAt part Ms mn (j + 1) := by
  funext u
  unfold partAt upd
  by_cases e : u = x
  · rw [if_pos e, if_pos ((takeN_mem h u).2 (.inr e))]
  · rw [if_neg e]
    show (if u ∈ Ms.take j then mn else part u) = _
    by_cases q : u ∈ Ms.take j
    · rw [if_pos q, if_pos ((takeN_mem h u).2 (.inl q))]
    · rw [if_neg q, if_neg (fun z => ((takeN_mem h u).1 z).elim q e)]
theorem onAt_step (on : Nat → Bool) {Ms : List Nat} {j x : Nat} (h : Ms[j]? = some x) : updF (onAt on Ms j) x false = onAt on Ms (j + 1) := by
  funext u
  unfold onAt updF
  by_cases e : u = x
  · rw [if_pos e, if_pos ((takeN_mem h u).2 (.inr e))]
  · rw [if_neg e]
    show (if u ∈ Ms.take j then false else on u) = _
    by_cases q : u ∈ Ms.take j
    · rw [if_pos q, if_pos ((takeN_mem h u).2 (.inl q))]
    · rw [if_neg q, if_neg (fun z => ((takeN_mem h u).1 z).elim q e)]
set_option maxHeartbeats 400000 in
theorem close_any {w : World} {gb n : Nat} {m : Wm} {sa : Option Addr} {sc cnt : Nat} {idx low : Nat → Nat} {on : Nat → Bool} {part : Nat → Nat} (A B : List Nat) (v : Nat) (h : WkG w gb n m sa sc cnt idx low on (A ++ v :: B) part) (hvB : v ∉ B) (hlt : ∀ u ∈ v :: A, u < n) (hlen : (A ++ v :: B).length ≤ 1000000) :
    ∃ mn : Nat, mn ∈ v :: A.reverse ∧ (∀ u ∈ v :: A.reverse, mn ≤ u) ∧ Calls Try.prog 44 #[.pointer (some ⟨m.b, 0, none⟩), .int .i64 (v : Int)] w fun e w' => ∃ sa' sc', e = .returned (.tuple #[]) ∧ WkG w' gb n m sa' sc' cnt idx low (onAt on (v :: A.reverse) (A.length + 1)) B (partAt part (v :: A.reverse) mn (A.length + 1)) ∧ (∀ k, m.own sa' k → m.own sa k) ∧ Upd w w' (fun k => m.own sa k) := by
  obtain ⟨i0, hi, hz0, hz1, hz2⟩ := info_parts Try.info3
  obtain ⟨N, hN⟩ : ∃ N, (A ++ v :: B).length = N := ⟨_, rfl⟩
  obtain ⟨Q, hQ⟩ : ∃ Q, B.length = Q := ⟨_, rfl⟩
  have hNQ : N = Q + (A.length + 1) := by rw [← hN, ← hQ]; simp; omega
  have hr : (A ++ v :: B).reverse = B.reverse ++ v :: A.reverse := by simp
  have hrl : (B.reverse ++ v :: A.reverse).length = N := by rw [← hr, List.length_reverse, hN]
  have hk := h.k
  rw [hr] at hk
  rw [hN] at hk hlen
  have hk' : Rw w 3 1 (.slice sa (B.reverse ++ v :: A.reverse).length sc) (B.reverse ++ v :: A.reverse).length (natCells (B.reverse ++ v :: A.reverse)) := by rw [hrl]; exact hk
  have IX := Index_any w sa sc (B.reverse ++ v :: A.reverse) hk' (by omega) Q v (by rw [← hQ]; simp) (fun j hj e => by
    rw [List.getElem?_append_left (by simp; omega)] at e
    exact hvB (List.mem_reverse.1 (List.mem_of_getElem? e)))
  rw [hrl] at IX
  obtain ⟨a1, c1, hs1, hr1, ho1⟩ := Rw.slice_from (P := Try.prog) hk 29 i0 Try.underlying29 hi hz1 Q (by omega)
  have e1 : (natCells (B.reverse ++ v :: A.reverse)).drop (Q * 1) = natCells (v :: A.reverse) := by
    rw [← hQ]
    simp only [natCells, inCells, Nat.mul_one, ← List.map_drop]
    rw [List.drop_left' (by simp)]
  rw [e1] at hr1
  have lM : (v :: A.reverse).length = A.length + 1 := by simp
  have nq : N - Q = A.length + 1 := by omega
  rw [nq] at hs1 hr1 ho1
  obtain ⟨mn, hm1, hm2, MN⟩ := Min_any w a1 c1 (v :: A.reverse) (by rw [lM]; exact hr1) (by rw [lM]; omega) (by simp)
  rw [lM] at MN
  refine ⟨mn, hm1, hm2, ?_⟩
  have hMs : ∀ u ∈ v :: A.reverse, u < n := fun u hu => hlt u (by simpa using hu)
  obtain ⟨Ms, hMsE⟩ : ∃ Ms, v :: A.reverse = Ms := ⟨_, rfl⟩
  simp only [hMsE] at *
  obtain ⟨L, hL⟩ : ∃ L, A.length + 1 = L := ⟨_, rfl⟩
  simp only [hL] at *
  have hc := h.c
  rw [hN] at hc
  obtain ⟨c0, c1', c2, c3, c4, c5, c6⟩ := cells7 hc
  have hb := lt_at hc
  have u0 : Upd w w (fun k => m.own sa k) := Upd.refl _ _
  have h0 : WkG w gb n m sa sc cnt idx low (onAt on Ms 0) (A ++ v :: B) (partAt part Ms mn 0) := by
    have e1 : onAt on Ms 0 = on := by funext u; simp [onAt]
    have e2 : partAt part Ms mn 0 = part := by funext u; simp [partAt]
    rw [e1, e2]
    exact h
  have H0 := hide h0
  have HMS := hide hMs
  have HR1 := hide hr1
  have HO1 := hide ho1
  have HK := hide hk
  have HN := hide hN
  have HQ := hide hQ
  have HL := hide hL
  have HLM := hide lM
  have HHR := hide hr
  have hL6 : L ≤ 1000000 := by omega
  have HNQ := hide hNQ
  have hkb : ∀ k, (Value.slice a1 L c1).ownBlock = some k → k ∉ m.bs := fun k e => by
    refine h.kn k ?_
    rw [hN, ← ho1]
    exact e
  have HKB := hide hkb
  have hc0 := h0.c
  rw [hN] at hc0
  have HC0 := hide hc0
  obtain ⟨a2, c2', hs2, hr2, ho2⟩ := Rw.slice_to (P := Try.prog) hk 29 i0 Try.underlying29 hi hz1 Q (by omega)
  have HR2 := hide hr2
  have HO2 := hide ho2
  clear hNQ nq hlen h h0 hMs hr1 ho1 hk hk' e1 hN hQ hL lM hr hrl hc hm1 hm2 hvB hlt hMsE hkb hc0 hr2 ho2
  go_enter Try.func44, Try.ntmps44
  go_wp2_with (first
    | (go_at_call 52; with_reducible refine Calls.mono IX ?_; rintro e w1 ⟨rfl, hw⟩; obtain rfl := hw.symm; clear hw)
    | (go_at_call 53; with_reducible refine Calls.mono MN ?_; rintro e w1 ⟨rfl, hw⟩; obtain rfl := hw.symm; clear hw))
  clear IX MN c0 c1' c3 c4 c5 c6 hs1
  go_loopg [25] (L + 1) (fun q jv wr => ∃ j : Nat, j ≤ L ∧ L - j < q ∧ jv = .int .i64 j ∧ WkG wr gb n m sa sc cnt idx low (onAt on Ms j) (A ++ v :: B) (partAt part Ms mn j) ∧ Upd w wr (fun k => k ∈ m.bs))
  case atStart => exact ⟨0, by omega, by omega, rfl, H0.out, Upd.refl _ _⟩
  case round =>
    obtain ⟨j, hj, hq, rfl, h1, u1⟩ := hrel
    have H1 := hide h1
    have U1 := hide u1
    have hb1 := lt_at h1.c
    obtain ⟨d0, d1, d2, d3, d4, d5, d6⟩ := cells7 h1.c
    rw [HN.out] at d5
    have z5 := free_at h1.c 5
    by_cases hlt : j < L
    · obtain ⟨x, hx⟩ : ∃ x, Ms[j]? = some x := ⟨_, List.getElem?_eq_getElem (by rw [HLM.out]; exact hlt)⟩
      have hxn := HMS.out x (List.mem_of_getElem? hx)
      have hlt' : (j : Int) < (L : Int) := by omega
      have j0 : (0 : Int) ≤ (j : Int) := by omega
      have x0 : (0 : Int) ≤ (x : Int) := by omega
      have x1 : (x : Int) < (n : Int) := by omega
      obtain ⟨g, off, cap, hv, hg, hcell⟩ := Rw.pos (u1.rw HR1.out (fun k e => HKB.out k e)) (by omega : 0 < L)
      simp only [Value.slice.injEq] at hv
      obtain ⟨rfl, -, rfl⟩ := hv
      have e0 := hcell j _ (natCells_get hx)
      obtain ⟨bp, p1, p2⟩ := num_at h1.p hxn
      obtain ⟨bo, o1, o2⟩ := bool_at h1.o hxn
      have npo := h1.ne.op
      have HX := hide hx
      clear hx h1 u1 hcell d0 d1 d2 d3 d5 z5
      go_wp2_with fail
      go_region
      all_goals go_wp2_with fail
      all_goals go_roundg (gk - 1)
      all_goals first
        | omega
        | (refine ⟨j + 1, by omega, by omega, by go_num, ?_, ?_⟩
           · have q := (H1.out.setPart hxn mn).setOn hxn false
             rw [partAt_step _ _ HX.out, onAt_step _ HX.out] at q
             exact q.drew
           · exact ((U1.out.setCell _ _ (.inr (by simp [Wm.bs]))).setCell _ _ (.inr (by simp [Wm.bs]))).drew)
    · have hge : ¬ (j : Int) < (L : Int) := by omega
      have hjL : j = L := by omega
      subst hjL
      clear h1 u1 d0 d1 d2 d3 d4 d6
      go_wp2_with fail
      go_end0
      have hkn := H1.out.kn
      have e2 : (natCells (B.reverse ++ Ms)).take (Q * 1) = natCells B.reverse := by
        rw [← HQ.out]
        simp only [natCells, inCells, Nat.mul_one, ← List.map_take]
        rw [List.take_left' (by simp)]
      have ho2 : (Value.slice a2 Q c2').ownBlock = (Value.slice sa (A ++ v :: B).length sc).ownBlock := HO2.out.trans (own_slice sa _ _ _ _)
      have r2 := U1.out.rw HR2.out (fun k q => hkn k (ho2.symm.trans q))
      rw [e2] at r2
      have q := H1.out.setStk (stk2 := B) (sa2 := a2) (sc2 := c2') (Upd.refl wr (fun _ => False)) (fun _ _ => id) (by rw [HQ.out]; exact r2) (fun k q => hkn k (ho2.symm.trans ((own_slice a2 _ _ _ _).trans q)))
      rw [HQ.out] at q
      refine ⟨rfl, a2, ⟨c2', q⟩, fun k q => ?_, (U1.out.weaken (fun k _ q => .inl q)).setCell _ _ (.inr (.inl (by simp [Wm.bs])))⟩
      rcases q with q | q
      · exact .inl q
      · exact .inr ((own_slice sa _ _ _ _).trans (ho2.symm.trans ((own_slice a2 _ _ _ _).trans q)))
end Go.Proofs.Ytnhggncpebifhaa
