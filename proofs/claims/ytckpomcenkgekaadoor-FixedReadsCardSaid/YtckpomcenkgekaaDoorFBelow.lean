/- The walks of the reference's comparison of digits. -/
import Derived.Test.YtckpomcenkgekaaDoorFDig
set_option maxRecDepth 100000
namespace Go.Proofs.YtckpomcenkgekaaDoor
open Go.RowKit Go.Lat

theorem dg_cell {w : World} {sa : Option Addr} {c : Nat} {l : List Nat} (h : DgAt w (.slice sa l.length c) l) (j : Nat) (hj : j < l.length) :
    ∃ g off, sa = some ⟨g, off, none⟩ ∧ w.cell? ⟨g, off + j, none⟩ = some (.int .i64 (l.getD j 0 : Nat)) := by
  obtain ⟨g, off, cap, hv, hg, hc⟩ := Rw.pos h (by omega)
  simp at hv
  exact ⟨g, off, hv.1, hc j _ (by simp [hj])⟩

set_option maxHeartbeats 1600000 in
theorem below1_any (w : World) (v1 v2 : Value) (a b : List Nat) (h1 : DgAt w v1 a) (h2 : DgAt w v2 b) (na : Norm a) (nb : Norm b) (hl : a.length ≤ 100000) :
    Calls Tryd.prog 54 #[v1, v2] w fun e w' => e = .returned (.bool (decide (val a < val b))) ∧ ∃ n, w' = w.drewN n := by
  obtain ⟨a1, p1, rfl, -⟩ := Rw.form h1
  obtain ⟨a2, p2, rfl, -⟩ := Rw.form h2
  by_cases hne : a.length = b.length
  · have d0 : ((a.length : Int) != (b.length : Int)) = false := by simp; omega
    have r1 := fun j (hj : j < a.length) => dg_cell h1 j hj
    have r2 := fun j (hj : j < b.length) => dg_cell h2 j hj
    have cmp := fun j hla hlb hd hn => val_cmp a b j na.1 nb.1 hla hlb hd hn
    have CMP := hide cmp
    have HN := hide hne
    obtain ⟨N, hN⟩ : ∃ N, a.length = N := ⟨_, rfl⟩
    obtain ⟨M, hM⟩ : ∃ M, b.length = M := ⟨_, rfl⟩
    have HA := hide hN
    have HB := hide hM
    rw [hN, hM] at d0 ⊢
    rw [hN] at hl
    have hNM : N = M := by omega
    clear h1 h2 na nb cmp hne hN hM
    go_enter Tryd.func54, Tryd.ntmps54
    go_wp2_with fail
    go_loopg [5] N (fun q i wr => ∃ r : Nat, r ≤ q ∧ r ≤ N ∧ i = .int .i64 ((r : Int) - 1) ∧ a.drop r = b.drop r ∧ ∃ n, wr = w.drewN n)
    case atStart => exact ⟨N, Nat.le_refl _, Nat.le_refl _, by first | rfl | go_num, by rw [List.drop_eq_nil_of_le (by rw [HA.out]; exact Nat.le_refl _), List.drop_eq_nil_of_le (by rw [HB.out]; omega)], 0, rfl⟩
    case round =>
      obtain ⟨r, hr, hrN, rfl, hd, n, rfl⟩ := hrel
      cases r with
      | zero =>
        have e : a = b := by simpa using hd
        have hv : decide (val a < val b) = false := by rw [e]; simp
        clear hNM
        go_wp2_with fail
        go_ret
        exact ⟨by rw [hv]; rfl, n, rfl⟩
      | succ j =>
        have ej : ((j + 1 : Nat) : Int) - 1 = (j : Int) := by omega
        rw [ej]
        obtain ⟨b1, o1, rfl, c1⟩ := r1 j (by rw [HA.out]; omega)
        obtain ⟨b2, o2, rfl, c2⟩ := r2 j (by rw [HB.out]; omega)
        have hcmp := CMP.out j (by rw [HA.out]; omega) (by rw [HB.out]; omega) hd
        have hstep : a.getD j 0 = b.getD j 0 → a.drop j = b.drop j := by
          intro he
          rw [drop_getD a j (by rw [HA.out]; omega), drop_getD b j (by rw [HB.out]; omega), hd, he]
        have HC := hide hcmp
        have HS := hide hstep
        clear r1 r2 ej hcmp hstep
        generalize a.getD j 0 = x at c1 HC HS
        generalize b.getD j 0 = y at c2 HC HS
        have hj0 : (0 : Int) ≤ (j : Int) := Int.natCast_nonneg _
        have hjN : (j : Int) < (N : Int) := by omega
        have hjM : (j : Int) < (M : Int) := by omega
        clear hNM
        by_cases hxy : x = y
        · have d1 : ((x : Int) != (y : Int)) = false := by simp; omega
          go_wp2_with fail
          go_quiet (fail)
          go_wp2_with fail
          go_roundg (gk - 1)
          case measure => omega
          case rel => exact ⟨j, by omega, by omega, by first | rfl | go_num, HS.out hxy, _, rfl⟩
        · have d1 : ((x : Int) != (y : Int)) = true := by simp; omega
          have hv : decide (val a < val b) = decide (x < y) := by
            rw [Bool.eq_iff_iff]
            simp only [decide_eq_true_eq]
            exact HC.out hxy
          go_wp2_with fail
          go_quiet (fail)
          go_wp2_with fail
          go_quiet (fail)
          go_wp2_with fail
          go_ret
          exact ⟨by rw [hv]; simp, _, by rw [World.drewN_drewN, World.drewN_drewN]⟩
  · have d0 : ((a.length : Int) != (b.length : Int)) = true := by simp; omega
    have hv : decide (val a < val b) = decide (a.length < b.length) := by
      rw [Bool.eq_iff_iff]
      simp only [decide_eq_true_eq]
      constructor
      · intro h
        rcases Nat.lt_trichotomy a.length b.length with c | c | c
        · exact c
        · exact absurd c hne
        · have := val_len_lt b a nb na c
          omega
      · exact val_len_lt a b na nb
    clear hne
    go_enter Tryd.func54, Tryd.ntmps54
    go_wp2_with fail
    go_ret
    exact ⟨by rw [hv]; simp, 0, rfl⟩

end Go.Proofs.YtckpomcenkgekaaDoor
