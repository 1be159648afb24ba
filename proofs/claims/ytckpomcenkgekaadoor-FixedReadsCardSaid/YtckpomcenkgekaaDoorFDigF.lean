/- The walks of the reference's digits of a word, of its powers of 2, and of its trimming. -/
import Derived.Test.YtckpomcenkgekaaDoorFArr
set_option maxRecDepth 100000
namespace Go.Proofs.YtckpomcenkgekaaDoor
open Go.RowKit Go.Lat

set_option maxHeartbeats 800000 in
theorem trim1_any (w : World) (v : Value) (l : List Nat) (hv : DgAt w v l) (h10 : ∀ d ∈ l, d < 10) (hl : l.length ≤ 100000) :
    Calls Tryd.prog 46 #[v] w fun e w' => ∃ v', e = .returned v' ∧ DgAt w' v' (dg (val l)) ∧ (∃ n, w' = w.drewN n) ∧ v'.ownBlock = v.ownBlock := by
  obtain ⟨sa, sc, rfl, -⟩ := Rw.form hv
  have hc := fun j hj => dg_cell hv j hj
  obtain ⟨s, hs⟩ : ∃ s, l.length = s := ⟨_, rfl⟩
  obtain ⟨i0, hi, hz0, hz1, hz2⟩ := info_parts Tryd.info3
  have hsl := fun m (hm : m ≤ l.length) => Rw.slice_to (P := Tryd.prog) hv 40 i0 Tryd.underlying40 hi hz1 m hm
  rw [hs] at hsl hc hl ⊢
  have HS := hide hs
  clear hs
  go_enter Tryd.func46, Tryd.ntmps46
  go_wp2_with fail
  go_loopg [3] s (fun q v wr => wr = w ∧ ∃ m : Nat, m ≤ q ∧ m ≤ s ∧ v = .int .i64 m ∧ ∀ k, m ≤ k → k < s → l.getD k 0 = 0)
  case atStart => exact ⟨rfl, s, Nat.le_refl _, Nat.le_refl _, rfl, by omega⟩
  case round =>
    obtain ⟨hwr, m, hm, hms, rfl, hz⟩ := hrel
    replace hwr := hwr.symm
    subst hwr
    obtain ⟨a, c, s1, s2, s3⟩ := hsl m hms
    have fin : (m = 0 ∨ l.getD (m - 1) 0 ≠ 0) → DgAt w (.slice a m c) (dg (val l)) := by
      intro hl'
      have e : l.take m = dg (val l) := by
        rw [norm_dg (l.take m) (norm_strike l m (by rw [HS.out]; exact hms) h10 hl'), val_strike l m (by rw [HS.out]; exact hz)]
      unfold DgAt
      rw [← e, List.length_take, HS.out, Nat.min_eq_left hms, List.map_take]
      simpa using s2
    have FIN := hide fin
    have HZ := hide hz
    clear fin hz s2
    obtain ⟨m2, hm2⟩ : ∃ m2, m = m2 := ⟨_, rfl⟩
    by_cases hm0 : m = 0
    · have d3 : decide (0 < m) = false := by simp; omega
      have hF := FIN.out (.inl hm0)
      have HF := hide hF
      clear hF hc hsl hm0 hm2
      go_wp2_with fail
      go_ret
      exact ⟨_, rfl, HF.out, ⟨0, rfl⟩, s3⟩
    · obtain ⟨j, hj⟩ : ∃ j, m = j + 1 := ⟨m - 1, by omega⟩
      have d3 : decide (0 < m) = true := by simp; omega
      have hmp : 0 < m := by omega
      have em : (m : Int) - 1 = (j : Int) := by omega
      obtain ⟨g, off, rfl, k1⟩ := hc j (by omega)
      obtain ⟨z, hzz⟩ : ∃ z, l.getD j 0 = z := ⟨_, rfl⟩
      rw [hzz] at k1
      have ZZ := hide hzz
      have hj0 : (0 : Int) ≤ (j : Int) := Int.natCast_nonneg _
      have hjs : (j : Int) < (s : Int) := by omega
      have HJ := hide hj
      clear hzz hj hm2 hm0 hc hsl
      by_cases hz0' : z = 0
      · have d4 : ((z : Int) == 0) = true := by simp; omega
        go_wp2_with fail
        go_roundg (gk - 1)
        case measure => have := HJ.out; omega
        case rel =>
          refine ⟨rfl, j, by have := HJ.out; omega, by omega, by first | rfl | go_num, ?_⟩
          intro k hk hks
          by_cases e : k = j
          · rw [e, ZZ.out]; exact hz0'
          · exact HZ.out k (by have := HJ.out; omega) hks
      · have d4 : ((z : Int) == 0) = false := by simp; omega
        have hF := FIN.out (.inr (by rw [show m - 1 = j from by have := HJ.out; omega, ZZ.out]; exact hz0'))
        have HF := hide hF
        clear hF
        go_wp2_with fail
        go_ret
        exact ⟨_, rfl, HF.out, ⟨0, rfl⟩, s3⟩
theorem DgAt.upd {w w' : World} {v : Value} {l : List Nat} (h : DgAt w v l) (u : Upd w w' (fun _ => False)) : DgAt w' v l := u.rw h (fun _ _ => id)

theorem Digits_nat (w : World) (n : Nat) (hn : n ≤ 9223372036854775807) :
    Calls Tryd.prog 36 #[.int .i64 n] w fun e w' => ∃ v, e = .returned v ∧ DgAt w' v (dg n) ∧ Upd w w' (fun _ => False) := by
  have h := Digits_any w false n hn
  simp only [Bool.false_eq_true, if_false] at h
  exact h.mono fun e w' ⟨v, h1, h2, h3, _⟩ => ⟨v, h1, h2, h3⟩

end Go.Proofs.YtckpomcenkgekaaDoor
