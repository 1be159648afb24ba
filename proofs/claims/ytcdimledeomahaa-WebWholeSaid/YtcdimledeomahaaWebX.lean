/- The walk of the law's sameLinks. -/
import Derived.Test.YtcdimledeomahaaWebW
set_option maxRecDepth 100000
namespace Go.Proofs.Ytcdimledeomahaa
open Go.RowKit Go.Lat

set_option maxHeartbeats 1600000 in
theorem sameLinks_true (w : World) (va vb : Value) (l : List Lk) (ha : LksAt w va l) (hb : PlsAt w vb l) (hl : l.length ≤ 1000000) :
    Calls Try.prog 18 #[va, vb] w fun e w' => e = .returned (.bool true) ∧ Upd w w' (fun _ => False) := by
  replace ha : Rw w 40 4 va l.length (lkCells l) := ha
  replace hb : Rw w 73 4 vb l.length (lkCells l) := hb
  obtain ⟨aa, ac, rfl, -⟩ := Rw.form ha
  obtain ⟨ba, bc, rfl, -⟩ := Rw.form hb
  obtain ⟨N, hN⟩ : ∃ N, l.length = N := ⟨_, rfl⟩
  rw [hN] at ha hb hl ⊢
  have HA := hide ha
  have HB := hide hb
  have HN := hide hN
  clear ha hb hN
  go_enter Try.func18, Try.ntmps18
  go_wp2_with fail
  go_loopg [14] N (fun q iv wr => ∃ k : Nat, k + q = N ∧ iv = .int .i64 k ∧ Upd w wr (fun _ => False))
  case atStart => exact ⟨0, by omega, rfl, Upd.refl _ _⟩
  case round =>
    obtain ⟨k, hk, rfl, hu⟩ := hrel
    have HU := hide hu
    by_cases hkN : k < N
    · obtain ⟨x, hx⟩ : ∃ x, l[k]? = some x := ⟨_, List.getElem?_eq_getElem (by rw [HN.out]; exact hkN)⟩
      obtain ⟨g1, o1, rfl, hg1, p0, p1, p2, p3⟩ := lk_at (hu.rw HA.out (fun _ _ => id)) k x hx hkN
      obtain ⟨g2, o2, rfl, hg2, q0, q1, q2, q3⟩ := lk_at (hu.rw HB.out (fun _ _ => id)) k x hx hkN
      have hk0 : (0 : Int) ≤ (k : Int) := by omega
      have hk1 : (k : Int) < (N : Int) := by omega
      obtain ⟨xb, xs, xc, xr⟩ := x
      simp only at p0 p1 p2 p3 q0 q1 q2 q3
      clear hu hx
      go_wp2_with fail
      go_quiet (fail)
      go_wp2_with fail
      go_roundg (gk - 1)
      case measure => omega
      case rel => exact ⟨k + 1, by omega, by go_num, (HU.out.alloc _).drewN _⟩
    · clear hu
      go_wp2_with fail
      go_ret
      exact ⟨rfl, HU.out⟩
end Go.Proofs.Ytcdimledeomahaa
