/- The walk of latticeref16's Has. -/
import Derived.Test.YtcclkfkdafmemaaCrA
import Derived.Test.YtcclkfkdafmemaaCrB
import Derived.Test.YtcclkfkdafmemaaCaE
set_option maxRecDepth 100000
namespace Go.Proofs.Ytcclkfkdafmemaa
open Go.RowKit Go.Lat

theorem row_at {w : World} {ty : TypeId} {sa : Option Addr} {n c : Nat} {l : List Lk} (h : Rw w ty 4 (.slice sa n c) n (lkCells l)) (j : Nat) (x : Lk) (hx : l[j]? = some x) (hj : j < n) :
    ∃ g off, sa = some ⟨g, off, none⟩ ∧ g < w.heap.size ∧ w.cell? ⟨g, off + j * 4, none⟩ = some (enS x.b) ∧ w.cell? ⟨g, off + j * 4 + 1, none⟩ = some (enS x.s) ∧ w.cell? ⟨g, off + j * 4 + 2, none⟩ = some (.int .i64 x.c) ∧ w.cell? ⟨g, off + j * 4 + 3, none⟩ = some (.int .i64 x.r) := by
  obtain ⟨g, off, cap, hv, hg, hc⟩ := Rw.pos h (by omega)
  simp at hv
  have c0 := lkCells_get l j x hx
  exact ⟨g, off, hv.1, hg, hc _ _ (c0 0 (by omega)), hc _ _ (c0 1 (by omega)), hc _ _ (c0 2 (by omega)), hc _ _ (c0 3 (by omega))⟩
theorem not_mem_next {L : List Lk} {j : Nat} {x p : Lk} (hx : L[j]? = some x) (hn : p ∉ L.take j) (hne : x ≠ p) : p ∉ L.take (j + 1) := by
  rw [List.take_add_one, hx]
  simp only [Option.toList_some, List.mem_append, List.mem_singleton]
  rintro (h | h)
  · exact hn h
  · exact hne h.symm

set_option maxHeartbeats 1600000 in
theorem Has_any (w : World) (va : Option Addr) (vc : Nat) (L : List Lk) (hr : Rw w 31 4 (.slice va L.length vc) L.length (lkCells L)) (hok : ∀ x ∈ L, x.ok) (p : Lk) (hp : p.ok) (hl : L.length ≤ 1000000) :
    Calls Try.prog 50 #[.slice va L.length vc, p.val] w fun e w' => e = .returned (.bool (decide (p ∈ L))) ∧ Upd w w' (fun _ => False) := by
  obtain ⟨N, hN⟩ : ∃ N, L.length = N := ⟨_, rfl⟩
  rw [hN] at hr hl ⊢
  obtain ⟨C, hC⟩ : ∃ C, w.heap.size = C := ⟨_, rfl⟩
  have b0 := Vnew1 w (.cells p.cs 31)
  rw [hC] at b0
  have EQ := fun (x : Lk) (hx : x.ok) w => eq_pl w hx hp
  obtain ⟨q, hq⟩ : ∃ q, decide (p ∈ L) = q := ⟨_, rfl⟩
  rw [hq]
  have HN := hide hN
  have HR := hide hr
  have HOK := hide hok
  have HC := hide hC
  have HQ := hide hq
  have HB0 := hide b0
  have HEQ := hide EQ
  obtain ⟨P, hP⟩ : ∃ P, P = p := ⟨_, rfl⟩
  rw [← hP] at HQ HEQ HB0
  have HPP := hide hP
  clear hN hr hok hC hq b0 EQ hP hp
  obtain ⟨pb, ps, pc, pr⟩ := p
  unfold Lk.val
  simp only
  go_enter Try.func50, Try.ntmps50
  go_wp2_with fail
  rw [HC.out]
  go_loopg [5] N (fun q iv wr => ∃ j : Nat, j + q = N ∧ iv = .int .i64 j ∧ P ∉ L.take j ∧ wr.heap[C]? = some (.cells P.cs 31 (0, 0)) ∧ Upd w wr (fun _ => False))
  case atStart => exact ⟨0, by omega, rfl, by simp, by rw [HPP.out] at HB0 ⊢; exact HB0.out, (Upd.refl w _).alloc _⟩
  case round =>
    obtain ⟨j, hj, rfl, hn, hb, hu⟩ := hrel
    have HNM := hide hn
    have HB := hide hb
    have HU := hide hu
    clear hn hb hu
    by_cases hjN : j < N
    · obtain ⟨x, hx⟩ : ∃ x, L[j]? = some x := ⟨_, List.getElem?_eq_getElem (by rw [HN.out]; exact hjN)⟩
      have xok := HOK.out x (List.mem_of_getElem? hx)
      obtain ⟨g, off, rfl, hg, d0, d1, d2, d3⟩ := row_at (HU.out.rw HR.out (fun _ _ => id)) j x hx hjN
      have hj0 : (0 : Int) ≤ (j : Int) := by omega
      have hj1 : (j : Int) < (N : Int) := by omega
      have EQ := HEQ.out x xok
      have HX := hide hx
      have hb := HB.out
      rw [HPP.out] at hb
      unfold Lk.cs at hb
      simp only at hb
      obtain ⟨e0, e1, e2, e3⟩ := cells4 hb
      clear hb hx xok
      by_cases hxp : x = P
      · have hqt : q = true := by rw [← HQ.out, decide_eq_true_iff, ← hxp]; exact List.mem_of_getElem? HX.out
        have e : decide (x = P) = true := by simpa using hxp
        rw [e, HPP.out] at EQ
        clear e hxp HX HEQ
        subst hqt
        obtain ⟨xb, xs, xc, xr⟩ := x
        unfold Lk.val at EQ
        simp only at EQ d0 d1 d2 d3
        go_wp2_with fail
        go_quiet (fail)
        go_wp2_with fail
        go_ret
        exact ⟨rfl, HU.out.drewN _⟩
      · have e : decide (x = P) = false := by simpa using hxp
        rw [e, HPP.out] at EQ
        have HNX := hide (not_mem_next HX.out HNM.out hxp)
        clear e hxp HX HEQ
        obtain ⟨xb, xs, xc, xr⟩ := x
        unfold Lk.val at EQ
        simp only at EQ d0 d1 d2 d3
        go_wp2_with fail
        go_quiet (fail)
        go_wp2_with fail
        go_roundg (gk - 1)
        case measure => omega
        case rel => exact ⟨j + 1, by omega, by go_num, HNX.out, HB.out, HU.out.drewN _⟩
    · have hj1 : ¬ (j : Int) < (N : Int) := by omega
      have hqf : q = false := by
        rw [← HQ.out, decide_eq_false_iff_not]
        have := HNM.out
        rwa [List.take_of_length_le (by rw [HN.out]; omega)] at this
      subst hqf
      go_wp2_with fail
      go_ret
      exact ⟨rfl, HU.out⟩
end Go.Proofs.Ytcclkfkdafmemaa
