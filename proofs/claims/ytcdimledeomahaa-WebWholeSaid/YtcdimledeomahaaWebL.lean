/- The walks of slices.Index and slices.Contains of places. -/
import Derived.Test.YtcdimledeomahaaWebK
set_option maxRecDepth 100000
namespace Go.Proofs.Ytcdimledeomahaa
open Go.RowKit Go.Lat

theorem pc_at {w : World} {e : TypeId} {sa : Option Addr} {n c : Nat} {l : List Pc} (h : Rw w e 3 (.slice sa n c) n (pcCells l)) (j : Nat) (x : Pc) (hx : l[j]? = some x) (hj : j < n) :
    ∃ g off, sa = some ⟨g, off, none⟩ ∧ g < w.heap.size ∧ w.cell? ⟨g, off + j * 3, none⟩ = some (encStr x.s) ∧ w.cell? ⟨g, off + j * 3 + 1, none⟩ = some (.int .i64 x.c) ∧ w.cell? ⟨g, off + j * 3 + 2, none⟩ = some (.int .i64 x.r) := by
  obtain ⟨g, off, cap, hv, hg, hc⟩ := Rw.pos h (by omega)
  simp at hv
  obtain ⟨c0, c1, c2⟩ := pcCells_get l j x hx
  exact ⟨g, off, hv.1, hg, hc _ _ c0, hc _ _ c1, hc _ _ c2⟩

set_option maxHeartbeats 800000 in
theorem Index_any (w : World) (sa : Option Addr) (N sc : Nat) (ps : List Pc) (p : Pc) (hN : ps.length = N) (h : Rw w 32 3 (.slice sa N sc) N (pcCells ps)) (hl : N ≤ 1000000) :
    Calls Try.prog 37 #[.slice sa N sc, p.val] w fun e w' => ∃ r : Int, e = .returned (.int .i64 r) ∧ Upd w w' (fun _ => False) ∧ ((r = -1 ∧ p ∉ ps) ∨ ∃ i : Nat, r = i ∧ p ∈ ps) := by
  have HN := hide hN
  have HR := hide h
  clear hN h
  have u0 : Upd w (w.alloc (.cells #[encStr p.s, .int .i64 p.c, .int .i64 p.r] 32)) (fun _ => False) := (Upd.refl w _).alloc _
  have hX := new1 w (.cells #[encStr p.s, .int .i64 p.c, .int .i64 p.r] 32)
  have HX := hide hX
  have HU0 := hide u0
  clear hX u0
  unfold Pc.val
  go_enter Try.func37, Try.ntmps37
  go_wp2_with fail
  go_loopg [8] N (fun q iv wr => ∃ k : Nat, k + q = N ∧ iv = .int .i64 k ∧ (∀ (j : Nat) (o : Pc), j < k → ps[j]? = some o → o ≠ p) ∧ Upd (w.alloc (.cells #[encStr p.s, .int .i64 p.c, .int .i64 p.r] 32)) wr (fun _ => False))
  case atStart => exact ⟨0, by omega, rfl, fun j o hj => absurd hj (by omega), Upd.refl _ _⟩
  case round =>
    obtain ⟨k, hk, rfl, hno, hu⟩ := hrel
    have hxr := hu.get HX.out id
    obtain ⟨p0, p1, p2⟩ := cells3 hxr
    have HNO := hide hno
    have HU := hide hu
    clear hno
    by_cases hkN : k < N
    · obtain ⟨o, ho⟩ : ∃ o, ps[k]? = some o := ⟨_, List.getElem?_eq_getElem (by rw [HN.out]; exact hkN)⟩
      obtain ⟨g, off, rfl, hg, d0, d1, d2⟩ := pc_at ((HU0.out.then hu (fun _ _ => id)).rw HR.out (fun _ _ => id)) k o ho hkN
      have HO := hide ho
      have hk0 : (0 : Int) ≤ (k : Int) := by omega
      have hk1 : (k : Int) < (N : Int) := by omega
      clear hu ho hxr
      have hcase : p = o ∨ p ≠ o := Decidable.em _
      obtain ⟨ps', pc, pr⟩ := p
      obtain ⟨os, oc, or⟩ := o
      simp only at p0 p1 p2 d0 d1 d2
      have hnext : (⟨ps', pc, pr⟩ : Pc) ≠ ⟨os, oc, or⟩ → ∀ (j : Nat) (o : Pc), j < k + 1 → ps[j]? = some o → o ≠ ⟨ps', pc, pr⟩ := by
        intro hne j o hj ho
        by_cases hjk : j = k
        · subst hjk
          rw [HO.out] at ho
          cases ho
          exact fun e => hne e.symm
        · exact HNO.out j o (by omega) ho
      by_cases h1 : os = ps'
      · by_cases h2 : oc = pc
        · by_cases h3 : or = pr
          · subst h1
            subst h2
            subst h3
            go_wp2_with fail
            go_quiet (fail)
            go_wp2_with fail
            go_ret
            exact ⟨k, rfl, (HU0.out.then HU.out (fun _ _ => id)).drewN _, .inr ⟨k, rfl, List.mem_of_getElem? HO.out⟩⟩
          · have hn := hnext (fun e => h3 (by cases e; rfl))
            have HNN := hide hn
            clear hn hnext hcase
            go_wp2_with fail
            go_quiet (fail)
            go_wp2_with fail
            go_roundg (gk - 1)
            case measure => omega
            case rel => exact ⟨k + 1, by omega, by go_num, HNN.out, HU.out.drewN _⟩
        · have hn := hnext (fun e => h2 (by cases e; rfl))
          have HNN := hide hn
          clear hn hnext hcase
          go_wp2_with fail
          go_quiet (fail)
          go_wp2_with fail
          go_roundg (gk - 1)
          case measure => omega
          case rel => exact ⟨k + 1, by omega, by go_num, HNN.out, HU.out.drewN _⟩
      · have hn := hnext (fun e => h1 (by cases e; rfl))
        have h1' : ¬ ps' = os := fun e => h1 e.symm
        have HNN := hide hn
        clear hn hnext hcase
        go_wp2_with fail
        go_quiet (fail)
        go_wp2_with fail
        go_roundg (gk - 1)
        case measure => omega
        case rel => exact ⟨k + 1, by omega, by go_num, HNN.out, HU.out.drewN _⟩
    · go_wp2_with fail
      go_ret
      refine ⟨-1, rfl, HU0.out.then HU.out (fun _ _ => id), .inl ⟨rfl, fun hm => ?_⟩⟩
      obtain ⟨j, hj⟩ := List.getElem?_of_mem hm
      exact HNO.out j p (by have := (List.getElem?_eq_some_iff.1 hj).1; rw [HN.out] at this; omega) hj rfl

theorem Contains_any (w : World) (v : Value) (ps : List Pc) (p : Pc) (h : PcsAt w v ps) (hl : ps.length ≤ 1000000) :
    Calls Try.prog 27 #[v, p.val] w fun e w' => e = .returned (.bool (decide (p ∈ ps))) ∧ Upd w w' (fun _ => False) := by
  replace h : Rw w 32 3 v ps.length (pcCells ps) := h
  obtain ⟨sa, sc, rfl, -⟩ := Rw.form h
  obtain ⟨N, hN⟩ : ∃ N, ps.length = N := ⟨_, rfl⟩
  rw [hN] at h hl ⊢
  obtain ⟨W1, hW1⟩ : ∃ W1, w.alloc (.cells #[encStr p.s, .int .i64 p.c, .int .i64 p.r] 32) = W1 := ⟨_, rfl⟩
  have u0 : Upd w W1 (fun _ => False) := hW1 ▸ (Upd.refl w _).alloc _
  have IX := Index_any W1 sa N sc ps p hN (u0.rw h (fun _ _ => id)) hl
  unfold Pc.val at IX ⊢
  have HU := hide u0
  have HW := hide hW1
  clear h u0 hW1
  go_enter Try.func27, Try.ntmps27
  go_wp2_with fail
  rw [HW.out]
  refine Calls.mono IX ?_
  rintro e w2 ⟨r, rfl, u2, hr⟩
  rcases hr with ⟨rfl, hno⟩ | ⟨i, rfl, hm⟩
  · have dm : decide (p ∈ ps) = false := by simpa using hno
    have HD := hide dm
    clear dm
    go_wp2_with fail
    go_ret
    exact ⟨by rw [HD.out]; rfl, HU.out.then u2 (fun _ _ => id)⟩
  · have dm : decide (p ∈ ps) = true := by simpa using hm
    have di : decide ((0 : Int) ≤ (i : Int)) = true := by simp
    have HD := hide dm
    clear dm
    go_wp2_with fail
    go_ret
    exact ⟨by rw [HD.out]; rfl, HU.out.then u2 (fun _ _ => id)⟩
end Go.Proofs.Ytcdimledeomahaa
