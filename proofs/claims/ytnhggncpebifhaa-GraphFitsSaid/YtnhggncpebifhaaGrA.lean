/- The walks of slices.BinarySearch at ints, of graph.put's parts. -/
import Derived.Test.YtnhggncpebifhaaTop
import Derived.Test.YtnhggncpebifhaaGrT
set_option maxRecDepth 100000
namespace Go.Proofs.Ytnhggncpebifhaa
open Go.RowKit Go.Lat

def inCells (l : List Int) : List Value := l.map (.int .i64)
theorem LessI_any (w : World) (x y : Int) : Calls Try.prog 56 #[.int .i64 x, .int .i64 y] w fun e w' => e = .returned (.bool (decide (x < y))) ∧ w' = w := by
  have NN : ∀ z, Calls Try.prog 70 #[.int .i64 z] w fun e w' => e = .returned (.bool false) ∧ w' = w := fun z => by
    go_enter Try.func70, Try.ntmps70
    go_wp2
    go_ret
    exact ⟨by simp, rfl⟩
  obtain ⟨q, hq⟩ : ∃ q, decide (x < y) = q := ⟨_, rfl⟩
  rw [hq]
  go_enter Try.func56, Try.ntmps56
  go_wp2_with (go_at_call 70; refine Calls.mono (NN _) ?_; rintro e w1 ⟨rfl, rfl⟩)
  go_ret
  exact ⟨rfl, rfl⟩
theorem NaNI (w : World) (z : Int) : Calls Try.prog 57 #[.int .i64 z] w fun e w' => e = .returned (.bool false) ∧ w' = w := by
  go_enter Try.func57, Try.ntmps57
  go_wp2
  go_ret
  exact ⟨by simp, rfl⟩
theorem int_at {w : World} {va : Option Addr} {N vc : Nat} {l : List Int} (h : Rw w 3 1 (.slice va N vc) N (inCells l)) (k : Nat) (x : Int) (hx : l[k]? = some x) (hk : k < N) : ∃ g off, va = some ⟨g, off, none⟩ ∧ g < w.heap.size ∧ w.cell? ⟨g, off + k, none⟩ = some (.int .i64 x) := by
  obtain ⟨g, off, cap, hv, hg, hc⟩ := Rw.pos h (by omega)
  simp at hv
  exact ⟨g, off, hv.1, hg, hc _ _ (by simp [inCells, hx])⟩
theorem not_in {l : List Int} (hs : l.Pairwise (· < ·)) {z : Int} {i : Nat} (hlo : ∀ (k : Nat) (x : Int), l[k]? = some x → k < i → x < z) (hi : ∀ x, l[i]? = some x → z < x) : z ∉ l := by
  intro hm
  obtain ⟨k, hk⟩ := List.mem_iff_getElem?.1 hm
  rcases Nat.lt_trichotomy k i with q | q | q
  · exact absurd (hlo k z hk q) (by omega)
  · subst q
    exact absurd (hi z hk) (by omega)
  · obtain ⟨h1, e1⟩ := List.getElem?_eq_some_iff.1 hk
    have h2 := hi _ (List.getElem?_eq_getElem (by omega : i < l.length))
    rw [List.pairwise_iff_getElem] at hs
    have h3 := hs i k (by omega) h1 q
    omega
set_option maxHeartbeats 3200000 in
theorem BinarySearch_any (w : World) (va : Option Addr) (vc : Nat) (l : List Int) (hr : Rw w 3 1 (.slice va l.length vc) l.length (inCells l)) (hs : l.Pairwise (· < ·)) (hl : l.length ≤ 1000000) (z : Int) :
    Calls Try.prog 50 #[.slice va l.length vc, .int .i64 z] w fun e w' => ∃ i : Nat, e = .returned (.tuple #[.int .i64 i, .bool (decide (z ∈ l))]) ∧ i ≤ l.length ∧ (∀ k x, l[k]? = some x → k < i → x < z) ∧ (∀ k x, l[k]? = some x → i ≤ k → z ≤ x) ∧ Upd w w' (fun _ => False) := by
  obtain ⟨N, hN⟩ : ∃ N, l.length = N := ⟨_, rfl⟩
  rw [hN] at hr hl ⊢
  obtain ⟨qz, hqz⟩ : ∃ q, decide (z ∈ l) = q := ⟨_, rfl⟩
  rw [hqz]
  have HQZ := hide hqz
  have HN := hide hN
  have HR := hide hr
  have HS := hide hs
  clear hN hr hs hqz
  go_enter Try.func50, Try.ntmps50
  go_wp2_with fail
  go_loopg [7, 8] (N + 1) (fun q iv jv wr => ∃ i j : Nat, i ≤ j ∧ j ≤ N ∧ j - i < q ∧ iv = .int .i64 i ∧ jv = .int .i64 j ∧ (∀ k x, l[k]? = some x → k < i → x < z) ∧ (∀ k x, l[k]? = some x → j ≤ k → z ≤ x) ∧ Upd w wr (fun _ => False))
  case atStart => exact ⟨0, N, by omega, by omega, by omega, rfl, rfl, fun k x _ h => by omega, fun k x hk h => by have := (List.getElem?_eq_some_iff.1 hk).1; have := HN.out; omega, Upd.refl _ _⟩
  case round =>
    obtain ⟨i, j, hij, hjN, hq, rfl, rfl, hlo, hhi, hu⟩ := hrel
    have HLO := hide hlo
    have HHI := hide hhi
    have HU := hide hu
    clear hlo hhi hu
    by_cases hlt : i < j
    · obtain ⟨m, hm⟩ : ∃ m, (i + j) / 2 = m := ⟨_, rfl⟩
      have hmN : m < N := by omega
      obtain ⟨x, hx⟩ : ∃ x, l[m]? = some x := ⟨_, List.getElem?_eq_getElem (by rw [HN.out]; exact hmN)⟩
      have w1 : IntKind.i64.wrap ((i : Int) + (j : Int)) = (i : Int) + (j : Int) := IntWalk.i64_in _ (by omega)
      have h1 : (i : Int) < (j : Int) := by omega
      have hd : ((i : Int) + (j : Int)) / 2 = (m : Int) := by omega
      have m0 : (0 : Int) ≤ (m : Int) := by omega
      have m1 : (m : Int) < (N : Int) := by omega
      obtain ⟨g, off, rfl, hg, d0⟩ := int_at (HU.out.rw HR.out (fun _ _ => id)) m x hx hmN
      have HX := hide hx
      have LS := fun w => LessI_any w x z
      clear hx hm
      by_cases hxz : x < z
      · have e : decide (x < z) = true := by simpa using hxz
        simp only [e] at LS
        have HLS := hide LS
        clear e LS
        go_wp2_with (go_at_call 56; refine Calls.mono (HLS.out _) ?_; rintro e w1 ⟨rfl, rfl⟩)
        go_roundg (gk - 1)
        case measure => omega
        case rel =>
          refine ⟨m + 1, j, by omega, hjN, by omega, by go_num, rfl, fun k y hk hkm => ?_, HHI.out, HU.out⟩
          obtain ⟨h1, e1⟩ := List.getElem?_eq_some_iff.1 hk
          obtain ⟨h2, e2⟩ := List.getElem?_eq_some_iff.1 HX.out
          have hs := HS.out
          rw [List.pairwise_iff_getElem] at hs
          by_cases q : k = m
          · subst q
            rw [HX.out] at hk
            have := Option.some.inj hk
            omega
          · have := hs k m h1 h2 (by omega)
            omega
      · have e : decide (x < z) = false := by simpa using hxz
        simp only [e] at LS
        have HLS := hide LS
        clear e LS
        go_wp2_with (go_at_call 56; refine Calls.mono (HLS.out _) ?_; rintro e w1 ⟨rfl, rfl⟩)
        go_roundg (gk - 1)
        case measure => omega
        case rel =>
          refine ⟨i, m, by omega, by omega, by omega, rfl, rfl, HLO.out, fun k y hk hkm => ?_, HU.out⟩
          obtain ⟨h1, e1⟩ := List.getElem?_eq_some_iff.1 hk
          obtain ⟨h2, e2⟩ := List.getElem?_eq_some_iff.1 HX.out
          have hs := HS.out
          rw [List.pairwise_iff_getElem] at hs
          by_cases q : k = m
          · subst q
            rw [HX.out] at hk
            have := Option.some.inj hk
            omega
          · have := hs m k h2 h1 (by omega)
            omega
    · have hije : i = j := by omega
      subst hije
      have h1 : ¬ (i : Int) < (i : Int) := by omega
      have i0 : (0 : Int) ≤ (i : Int) := by omega
      by_cases hiN : i < N
      · obtain ⟨x, hx⟩ : ∃ x, l[i]? = some x := ⟨_, List.getElem?_eq_getElem (by rw [HN.out]; exact hiN)⟩
        have i1 : (i : Int) < (N : Int) := by omega
        obtain ⟨g, off, rfl, hg, d0⟩ := int_at (HU.out.rw HR.out (fun _ _ => id)) i x hx hiN
        have hzx := HHI.out i x hx (Nat.le_refl _)
        by_cases hxz : x = z
        · subst hxz
          have hin : decide (x ∈ l) = true := by simpa using List.mem_of_getElem? hx
          have hqt : qz = true := by rw [← HQZ.out]; exact hin
          subst hqt
          clear hx hin
          go_wp2_with fail
          go_ret2
          exact ⟨i, rfl, by omega, HLO.out, HHI.out, HU.out⟩
        · have hin : decide (z ∈ l) = false := by
            simp only [decide_eq_false_iff_not]
            exact not_in HS.out HLO.out (fun y hy => by rw [hx] at hy; have := Option.some.inj hy; omega)
          have hqt : qz = false := by rw [← HQZ.out]; exact hin
          subst hqt
          have hb : (x == z) = false := by simpa using hxz
          clear hx hin hxz
          go_wp2_with (go_at_call 57; refine Calls.mono (NaNI _ _) ?_; rintro e w1 ⟨rfl, rfl⟩)
          go_ret2
          exact ⟨i, rfl, by omega, HLO.out, HHI.out, HU.out⟩
      · have i1 : ¬ (i : Int) < (N : Int) := by omega
        have hin : decide (z ∈ l) = false := by
          simp only [decide_eq_false_iff_not]
          exact not_in HS.out HLO.out (fun y hy => by have := (List.getElem?_eq_some_iff.1 hy).1; have := HN.out; omega)
        have hqt : qz = false := by rw [← HQZ.out]; exact hin
        subst hqt
        clear hin
        go_wp2_with fail
        go_ret2
        exact ⟨i, rfl, by omega, HLO.out, HHI.out, HU.out⟩
end Go.Proofs.Ytnhggncpebifhaa
