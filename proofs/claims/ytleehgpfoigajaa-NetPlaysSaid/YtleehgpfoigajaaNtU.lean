/- The walks of the law's samePairs, of the reference's Pairs. -/
import Derived.Test.YtleehgpfoigajaaNtR
import Derived.Test.YtleehgpfoigajaaNtT
set_option maxRecDepth 100000
namespace Go.Proofs.Ytleehgpfoigajaa
open Go.RowKit Go.Lat Go.Sort

theorem samePairs_any (w : World) (a1 a2 : Option Addr) (ks : List Pr) (c1 c2 : Nat) (h1 : Rw w 40 2 (.slice a1 ks.length c1) ks.length (prCells ks)) (h2 : Rw w 40 2 (.slice a2 ks.length c2) ks.length (prCells ks)) (hk : ∀ p ∈ ks, prOk p) (hl : ks.length ≤ 1000000) :
    Calls Try.prog 18 #[.slice a1 ks.length c1, .slice a2 ks.length c2] w fun e w' => e = .returned (.bool true) ∧ ∃ n, w' = w.drewN n := by
  obtain ⟨N, hN⟩ : ∃ N, ks.length = N := ⟨_, rfl⟩
  have HN := hide hN
  rw [hN] at h1 h2 hl ⊢
  have H1 := hide h1
  have H2 := hide h2
  clear h1 h2 hN
  go_enter Try.func18, Try.ntmps18
  go_wp2_with fail
  go_loopg [13] N (fun q iv wr => (∃ n, wr = w.drewN n) ∧ ∃ j : Nat, j + q = N ∧ iv = .int .i64 j)
  case atStart => exact ⟨⟨0, rfl⟩, 0, by omega, rfl⟩
  case round =>
    obtain ⟨⟨n, hw⟩, j, hj, rfl⟩ := hrel
    by_cases hjN : j < N
    · obtain ⟨p, hp⟩ : ∃ p, ks[j]? = some p := ⟨_, List.getElem?_eq_getElem (by rw [HN.out]; exact hjN)⟩
      have pok := hk p (List.mem_of_getElem? hp)
      have r1 : Rw wr 40 2 (.slice a1 N c1) N (prCells ks) := hw ▸ H1.out.drewN n
      have r2 : Rw wr 40 2 (.slice a2 N c2) N (prCells ks) := hw ▸ H2.out.drewN n
      obtain ⟨g, off, rfl, hg, d0, d1⟩ := pr_at r1 j p hp hjN
      obtain ⟨g', off', rfl, hg', d0', d1'⟩ := pr_at r2 j p hp hjN
      have hj0 : (0 : Int) ≤ (j : Int) := by omega
      have hj1 : (j : Int) < (N : Int) := by omega
      have hne : ∀ w, (binOp .neq 40 (.agg #[encStr p.1, encStr p.2]) (.agg #[encStr p.1, encStr p.2])).run Try.prog w = .ok (.bool false) w := fun w => by rw [neq_pr w pok pok]; simp
      have HW := hide hw
      clear hw r1 r2 hp
      go_wp2_with fail
      go_quiet (fail)
      go_wp2_with fail
      go_roundg (gk - 1)
      case measure => omega
      case rel => exact ⟨⟨n + nq, by rw [HW.out, World.drewN_drewN]⟩, j + 1, by omega, by go_num⟩
    · have hj1 : ¬ (j : Int) < (N : Int) := by omega
      have HW := hide hw
      clear hw
      go_wp2_with fail
      go_ret
      exact ⟨rfl, n, HW.out⟩
end Go.Proofs.Ytleehgpfoigajaa
