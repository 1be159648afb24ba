/- The comparison of frames; the calls of no end. -/
import Derived.Test.YtfbmhfpffciojaaRef
set_option maxRecDepth 100000
namespace Go.Proofs.Ytfbmhfpffciojaa
open Go.RowKit Go.Lat

/-- The cells of frame j of a slice of frames, of whichever type. -/
theorem fr_at {w : World} {e : TypeId} {sa : Option Addr} {c : Nat} {l : List Fr} (h : Rw w e 3 (.slice sa l.length c) l.length (frCells l)) (j : Nat) (x : Fr) (hx : l[j]? = some x) :
    ∃ g off, sa = some ⟨g, off, none⟩ ∧ g < w.heap.size ∧ w.cell? ⟨g, off + j * 3, none⟩ = some (.bool x.ack) ∧ w.cell? ⟨g, off + j * 3 + 1, none⟩ = some (.int .i64 x.seq) ∧ w.cell? ⟨g, off + j * 3 + 2, none⟩ = some (.string x.body) := by
  have hj : j < l.length := (List.getElem?_eq_some_iff.1 hx).1
  obtain ⟨g, off, cap, hv, hg, hc⟩ := Rw.pos h (by omega)
  simp at hv
  obtain ⟨c0, c1, c2⟩ := frCells_get l j x hx
  exact ⟨g, off, hv.1, hg, hc _ _ c0, hc _ _ c1, hc _ _ c2⟩

set_option maxHeartbeats 800000 in
theorem sameFrames_true (w : World) (v1 v2 : Value) (l : List Fr) (h1 : FrsAt w v1 l) (h2 : RFrsAt w v2 l) (hl : l.length ≤ 1000000) :
    Calls Try.prog 21 #[v1, v2] w fun e w' => e = .returned (.bool true) ∧ ∃ n, w' = w.drewN n := by
  obtain ⟨a1, p1, rfl, -⟩ := h1.form
  obtain ⟨a2, p2, rfl, -⟩ := h2.form
  obtain ⟨N, hN⟩ : ∃ N, l.length = N := ⟨_, rfl⟩
  have r1 := fun k x (hx : l[k]? = some x) => fr_at h1 k x hx
  have r2 := fun k x (hx : l[k]? = some x) => fr_at h2 k x hx
  clear h1 h2
  rw [hN] at hl ⊢
  have HN := hide hN
  clear hN
  go_enter Try.func21, Try.ntmps21
  go_wp2
  go_loopg [13] N (fun q i wr => ∃ k : Nat, k + q = N ∧ i = .int .i64 k ∧ ∃ n, wr = w.drewN n)
  case atStart => exact ⟨0, by omega, rfl, 0, rfl⟩
  case round =>
    obtain ⟨k, hk, rfl, n, rfl⟩ := hrel
    by_cases hkN : k < N
    · obtain ⟨x, hx⟩ : ∃ x, l[k]? = some x := ⟨_, List.getElem?_eq_getElem (by rw [HN.out]; exact hkN)⟩
      obtain ⟨b1, o1, rfl, -, d0, d1, d2⟩ := r1 k x hx
      obtain ⟨b2, o2, rfl, -, e0, e1, e2⟩ := r2 k x hx
      clear r1 r2 hx
      obtain ⟨ak, sq, bd⟩ := x
      simp only at d0 d1 d2 e0 e1 e2
      have hk0 : (0 : Int) ≤ (k : Int) := by omega
      have hk1 : (k : Int) < (N : Int) := by omega
      go_wp2_with fail
      go_quiet (fail)
      go_wp2_with fail
      go_roundg (gk - 1)
      case measure => omega
      case rel => exact ⟨k + 1, by omega, by go_num, _, rfl⟩
    · go_wp2_with fail
      go_ret
      exact ⟨rfl, n, rfl⟩

theorem Ready_nil (w : World) : Calls Try.prog 12 #[.pointer none] w fun e w' => e = .returned (.slice none 0 0) ∧ w' = w := by
  go_enter Try.func12, Try.ntmps12
  go_wp2
  go_ret
  exact ⟨rfl, rfl⟩
theorem Tick_nil (w : World) : Calls Try.prog 13 #[.pointer none] w fun e w' => e = .returned (.slice none 0 0) ∧ w' = w := by
  go_enter Try.func13, Try.ntmps13
  go_wp2
  go_ret
  exact ⟨rfl, rfl⟩
theorem Idle_nil (w : World) : Calls Try.prog 18 #[.pointer none] w fun e w' => e = .returned (.bool true) ∧ w' = w := by
  go_enter Try.func18, Try.ntmps18
  go_wp2
  go_ret
  exact ⟨rfl, rfl⟩
theorem Send_nil (w : World) (s : ByteArray) : Calls Try.prog 15 #[.pointer none, .string s] w fun e w' => e = .returned (.int .i64 1) ∧ w' = w := by
  go_enter Try.func15, Try.ntmps15
  go_wp2
  go_ret
  exact ⟨rfl, rfl⟩
theorem Waits_nil (w : World) : Calls Try.prog 16 #[.pointer none] w fun e w' => e = .returned (.tuple #[.int .i64 0, .int .i64 0]) ∧ w' = w := by
  go_enter Try.func16, Try.ntmps16
  go_wp2
  go_ret2
  exact ⟨rfl, rfl⟩
theorem Take_nil (w : World) (a : Bool) (n : Int) (s : ByteArray) : Calls Try.prog 14 #[.pointer none, .agg #[.bool a, .int .i64 n, .string s]] w fun e w' => e = .returned (.tuple #[.slice none 0 0, .slice none 0 0]) ∧ Upd w w' (fun _ => False) := by
  go_enter Try.func14, Try.ntmps14
  go_wp2
  go_ret2
  exact ⟨rfl, (Upd.refl w _).alloc _⟩
end Go.Proofs.Ytfbmhfpffciojaa
