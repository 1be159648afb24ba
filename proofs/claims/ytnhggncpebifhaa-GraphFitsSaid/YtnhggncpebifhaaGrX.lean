/- The heap: Pop. -/
import Derived.Test.YtnhggncpebifhaaGrW
set_option maxRecDepth 100000
namespace Go.Proofs.Ytnhggncpebifhaa
open Go.RowKit Go.Lat Go.Tarjan Go.Heapl

set_option maxHeartbeats 1600000 in
theorem Swap_same {base : Nat} {w : World} {a : Option Addr} {c n : Nat} {l : List Nat} (h : NatAt base w a c l) (hn : l.length = n) (i : Nat) (hi : i < n) : Calls Try.prog 97 #[.slice a n c, .int .i64 (i : Int), .int .i64 (i : Int)] w fun e w' => e = .returned (.tuple #[]) ∧ NatAt base w' a c l ∧ Upd w w' (fun j => (Value.slice a 0 0).ownBlock = some j) := by
  obtain ⟨x, hx⟩ : ∃ x, l[i]? = some x := ⟨_, List.getElem?_eq_getElem (by rw [hn]; exact hi)⟩
  have hr := h.r
  rw [hn] at hr
  obtain ⟨g, off, cap, hv, hg, hc⟩ := Rw.pos hr (by omega)
  simp only [Value.slice.injEq] at hv
  obtain ⟨rfl, -, rfl⟩ := hv
  have e1 := hc i _ (natCells_get hx)
  have fz : ∀ o, w.frozen? ⟨g, o, none⟩ = false := by
    rcases hr.2 with ⟨he, _⟩ | ⟨g', off', cap', cur, he, hg', _⟩
    · cases he
    · cases he
      exact fun o => free_at hg' o
  have z1 := fz (off + i)
  have i0 : (0 : Int) ≤ (i : Int) := by omega
  have i1 : (i : Int) < (n : Int) := by omega
  have hset : (l.set i x).set i x = l := by
    rw [List.set_set]
    apply List.ext_getElem?
    intro j
    rw [List.getElem?_set]
    by_cases e : i = j
    · subst e
      rw [if_pos rfl, if_pos (by rw [hn]; exact hi), hx]
    · rw [if_neg e]
  have q := (h.set hn i x hi).set (by rw [List.length_set]; exact hn) i x hi
  rw [hset] at q
  have Q := hide q
  clear h hr hc hx hset hn fz q
  go_enter Try.func97, Try.ntmps97
  go_region
  all_goals go_wp2_with fail
  all_goals go_end0
  have u : Upd w ((w.setCell ⟨g, off + i, none⟩ (.int .i64 (x : Int))).setCell ⟨g, off + i, none⟩ (.int .i64 (x : Int))) (fun j => (Value.slice (some ⟨g, off, none⟩) 0 0).ownBlock = some j) := ((Upd.refl w (fun j => (Value.slice (some ⟨g, off, none⟩) 0 0).ownBlock = some j)).setCell ⟨g, off + i, none⟩ (.int .i64 (x : Int)) (.inr rfl)).setCell ⟨g, off + i, none⟩ (.int .i64 (x : Int)) (.inr rfl)
  exact ⟨rfl, Q.out.upd ((Upd.refl _ (fun _ => False)).drew) (fun _ _ => id), u.drew⟩
/-- Swap of the first and the last, whichever they are. -/
theorem Swap0_any {base : Nat} {w : World} {a : Option Addr} {c n : Nat} {l : List Nat} (h : NatAt base w a c l) (hn : l.length = n + 1) : Calls Try.prog 97 #[.slice a (n + 1) c, .int .i64 0, .int .i64 (n : Int)] w fun e w' => e = .returned (.tuple #[]) ∧ NatAt base w' a c (swapL l 0 n) ∧ Upd w w' (fun j => (Value.slice a 0 0).ownBlock = some j) := by
  by_cases e : n = 0
  · subst e
    have hs : swapL l 0 0 = l := by
      apply List.ext_getElem?
      intro j
      rw [swapL_get l 0 0 j (by omega) (by omega)]
      split
      · rename_i q; rw [q]
      · rfl
    rw [hs]
    exact Swap_same h hn 0 (by omega)
  · exact Swap_any h hn 0 n (by omega) (by omega) (fun q => e q.symm)
set_option maxHeartbeats 1600000 in
theorem HPop_any {base : Nat} {w : World} {b : Nat} {a : Option Addr} {c n : Nat} {l : List Nat} (h : HpAt base w b a c l) (hn : l.length = n + 1) (hn6 : n + 1 ≤ 100000) (hp : HpF (gf l) (n + 1)) :
    Calls Try.prog 40 #[.iface 70 (.pointer (some ⟨b, 0, none⟩))] w fun e w' => ∃ a' c' x L, e = .returned (.iface 3 (.int .i64 (x : Nat))) ∧ HpAt base w' b a' c' L ∧ HpF (gf L) L.length ∧ (L ++ [x]).Perm l ∧ (∀ u ∈ l, x ≤ u) ∧ (∀ k, HpAt.own b a' k → HpAt.own b a k) ∧ Upd w w' (fun k => HpAt.own b a k) := by
  have hl' : (swapL l 0 n).length = n + 1 := by rw [swapL_len, hn]
  have hdn := hp_pop hp
  rw [← gf_swap (by omega) (by omega)] at hdn
  obtain ⟨m1, -, m3⟩ := h.ms hn
  have hw : wrap64 (n : Int) = (n : Int) := IntWalk.wrap64_in _ (by omega)
  have SW := Swap0_any h.n hn
  have H := hide h
  have HN := hide hn
  have HPp := hide hp
  have HL := hide hl'
  have HDN := hide hdn
  have HSW := hide SW
  have fin : ∀ l'' : List Nat, l''.Perm (swapL l 0 n) → HpF (gf l'') n → (∀ m, n ≤ m → l''[m]? = (swapL l 0 n)[m]?) → ∃ L x, l'' = L ++ [x] ∧ HpF (gf L) L.length ∧ (L ++ [x]).Perm l ∧ (∀ u ∈ l, x ≤ u) := by
    intro l'' q1 q2 q3
    have ll : l''.length = n + 1 := q1.length_eq.trans hl'
    rcases List.eq_nil_or_concat l'' with e | ⟨L, x, e⟩
    · subst e; simp at ll
    · rw [List.concat_eq_append] at e
      have hL : L.length = n := by rw [e] at ll; simpa using ll
      have hx : l[0]? = some x := by
        have h0 := q3 n (Nat.le_refl _)
        rw [swapL_get l 0 n n (by omega) (by omega), if_pos rfl, e, List.getElem?_append_right (by omega)] at h0
        rw [← h0, hL]
        simp
      refine ⟨L, x, e, ?_, ?_, fun u hu => ?_⟩
      · rw [hL]
        refine hp_congr q2 (fun m hm => ?_)
        rw [e]
        exact gf_snoc L x m (by omega)
      · rw [← e]
        exact q1.trans (swapL_perm l 0 n (by omega) (by omega))
      · obtain ⟨m, hm⟩ := List.mem_iff_getElem?.1 hu
        have hm1 := (List.getElem?_eq_some_iff.1 hm).1
        have := hp_min hp m m (Nat.le_refl _) (by omega)
        unfold gf at this
        rw [hx, hm] at this
        exact this
  have FIN := hide fin
  clear h hn hp hl' hdn SW fin
  go_enter Try.func40, Try.ntmps40
  go_wp2_with (first
    | (go_at_call 39; refine Calls.mono (Len_any _ _ _ _) ?_; rintro e w2 ⟨rfl, hw2⟩; obtain rfl := hw2.symm; clear hw2)
    | (go_at_call 97; refine Calls.mono HSW.out ?_; rintro e w3 ⟨rfl, n3, u3⟩; have h3 := H.out.swapped (swapL_len _ _ _) n3 u3; have H3 := hide h3; have U3 := hide u3; clear h3 n3 u3)
    | (go_at_call 49; refine Calls.mono (down_any H3.out HL.out (by omega) (by omega) HDN.out) ?_; rintro e w4 ⟨l4, rr, rfl, h4, p4, f4, s4, u4⟩; obtain ⟨L, x, rfl, z1, z2, z3⟩ := FIN.out l4 p4 f4 s4; have M4 := methPop ⟨b, 0, none⟩ w4; have H4 := hide h4; have U4 := hide u4; have Z1 := hide z1; have Z2 := hide z2; have Z3 := hide z3; have PO := PopM_any h4 (by have := z2.length_eq; simp at this; have := HN.out; omega); have HPO := hide PO; clear h4 u4 p4 f4 s4 z1 z2 z3 PO)
    | (go_at_call 98; refine Calls.mono HPO.out ?_; rintro e w5 ⟨a5, c5, rfl, h5, o5, u5⟩))
  go_ret
  exact ⟨a5, c5, x, L, rfl, h5, Z1.out, Z2.out, Z3.out, o5, ((U3.out.weaken (fun k _ q => .inr q)).then U4.out (fun _ _ q => q)).then u5 (fun _ _ q => q)⟩
end Go.Proofs.Ytnhggncpebifhaa
