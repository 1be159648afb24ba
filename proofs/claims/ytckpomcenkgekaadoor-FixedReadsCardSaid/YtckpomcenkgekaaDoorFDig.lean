/- The walks of the reference's digits. -/
import Derived.Test.YtckpomcenkgekaaDoorDigL
set_option maxRecDepth 100000
namespace Go.Proofs.YtckpomcenkgekaaDoor
open Go.RowKit Go.Lat

/-- A slice of places that reads. -/
def DgAt (w : World) (v : Value) (l : List Nat) : Prop := Rw w 3 1 v l.length (l.map fun d => .int .i64 (d : Nat))

theorem Tryd.info3 : (Tryd.prog.info? 3).map (fun i => (i.zero, i.size, i.bytes)) = some (some (.int .i64 0), 1, 8) := by kernel_rfl

def DigitsRel (w : World) (s : Bool) (n q : Nat) (a v : Value) (wr : World) : Prop :=
  ∃ (m : Nat) (l : List Nat), m ≤ q ∧ m ≤ n ∧ a = .int .i64 (if s then -(m : Int) else m) ∧ DgAt wr v l ∧ l ++ dg m = dg n ∧ Upd w wr (fun _ => False) ∧ (∀ k, v.ownBlock = some k → w.heap.size ≤ k)

set_option maxHeartbeats 1600000 in
theorem Digits_any (w : World) (s : Bool) (n : Nat) (hn : n ≤ 9223372036854775807) :
    Calls Tryd.prog 36 #[.int .i64 (if s then -(n : Int) else n)] w fun e w' => ∃ v, e = .returned v ∧ DgAt w' v (dg n) ∧ Upd w w' (fun _ => False) ∧ (∀ k, v.ownBlock = some k → w.heap.size ≤ k) := by
  obtain ⟨i0, hi, hz0, hz1, hz2⟩ := info_parts Tryd.info3
  have hlen := dg_len n 20 (by omega)
  obtain ⟨a, ha⟩ : ∃ a, (if s then -(n : Int) else (n : Int)) = a := ⟨_, rfl⟩
  rw [ha]
  have HA := hide ha
  clear ha
  go_enter Tryd.func36, Tryd.ntmps36
  go_wp2
  go_loopg [0, 3] n (fun q a v wr => DigitsRel w s n q a v wr)
  case atStart => exact ⟨n, [], Nat.le_refl _, Nat.le_refl _, by rw [HA.out], Rw.nil _ _ _, by simp, Upd.refl _ _, by simp [Value.ownBlock]⟩
  case round =>
    obtain ⟨m, l, hm, hmn, rfl, hv, hl, hu, hob⟩ := hrel
    have hll : l.length ≤ 20 := by
      have := congrArg List.length hl
      rw [List.length_append] at this
      omega
    unfold DgAt at hv
    obtain ⟨k, hk⟩ : ∃ k, m % 10 = k := ⟨_, rfl⟩
    obtain ⟨m2, hm2⟩ : ∃ m2, m / 10 = m2 := ⟨_, rfl⟩
    have hk10 : k < 10 := by omega
    by_cases hm0 : m = 0
    · subst hm0
      rw [dg_zero, List.append_nil] at hl
      have e0 : (if s = true then -((0 : Nat) : Int) else ((0 : Nat) : Int)) = 0 := by cases s <;> rfl
      rw [e0]
      go_wp2
      go_ret
      exact ⟨_, rfl, by rw [← hl]; exact hv, hu, hob⟩
    · have hl2 : (l ++ [k]) ++ dg m2 = dg n := by rw [← hl, dg_pos hm0, hk, hm2, List.append_assoc]; rfl
      have e1 : (m : Int).tmod 10 = (k : Int) := by rw [← hk]; rfl
      have e2 : (m : Int).tdiv 10 = (m2 : Int) := by rw [← hm2]; rfl
      have HL := hide hl2
      have hm2b : m2 ≤ gk - 1 ∧ m2 ≤ n ∧ 1 ≤ gk := by omega
      have hmb : m ≤ 9223372036854775807 := by omega
      cases s
      case false =>
        simp only [Bool.false_eq_true, if_false] at HL ⊢
        have d1 : ((m : Int) != 0) = true := by simpa using hm0
        have d2 : decide ((k : Int) < 0) = false := by simp
        clear hk hm2 hl hl2 hm0
        go_wp2_with (at_builtin; go_loud (refine wpList_append_rw _ rfl _ _ 40 40 rfl 3 _ i0 _ 1 8 Tryd.underlying40 Tryd.underlying40 (by simp) hi hz0 hz1 hz2 rfl _ l.length _ rfl (hv.alloc _) _ 1 _ rfl (Rw.made _ _ _ 1 1 rfl).src rfl (by simp [Value.oneCell']) (by omega) (by omega) ?_); intro ga gc w1 hv' hg hob')
        go_roundg (gk - 1)
        case measure => omega
        case rel =>
          refine ⟨m2, l ++ [k], by omega, by omega, by simp, ?_, HL.out, (hu.alloc _).grown hg (fun i hi => .inl (hob i hi)), ?_⟩
          · unfold DgAt
            simpa using hv'
          · intro i hi
            rcases hob' with e | e
            · exact hob i (Eq.trans (show _ = _ from e.symm) hi)
            · rw [e] at hi; simp at hi; have := hu.size; omega
      case true =>
        simp only [if_true] at HL ⊢
        have d1 : (-(m : Int) != 0) = true := by simpa using hm0
        have e3 : (-(m : Int)).tmod 10 = -(k : Int) := by rw [Int.neg_tmod, e1]
        have e4 : (-(m : Int)).tdiv 10 = -(m2 : Int) := by rw [Int.neg_tdiv, e2]
        by_cases hk0 : k = 0
        · subst hk0
          simp only [Int.natCast_zero, Int.neg_zero] at e3
          have d2 : decide ((0 : Int) < 0) = false := by simp
          clear hk hm2 hl hl2 hm0 e1 e2
          go_wp2_with (at_builtin; go_loud (refine wpList_append_rw _ rfl _ _ 40 40 rfl 3 _ i0 _ 1 8 Tryd.underlying40 Tryd.underlying40 (by simp) hi hz0 hz1 hz2 rfl _ l.length _ rfl (hv.alloc _) _ 1 _ rfl (Rw.made _ _ _ 1 1 rfl).src rfl (by simp [Value.oneCell']) (by omega) (by omega) ?_); intro ga gc w1 hv' hg hob')
          go_roundg (gk - 1)
          case measure => omega
          case rel =>
            refine ⟨m2, l ++ [0], by omega, by omega, by simp, ?_, HL.out, (hu.alloc _).grown hg (fun i hi => .inl (hob i hi)), ?_⟩
            · unfold DgAt
              simpa using hv'
            · intro i hi
              rcases hob' with e | e
              · exact hob i (Eq.trans (show _ = _ from e.symm) hi)
              · rw [e] at hi; simp at hi; have := hu.size; omega
        · have d2 : decide (-(k : Int) < 0) = true := by simp; omega
          have d3 : decide (0 < k) = true := by simp; omega
          have d4 : 0 < k := by omega
          clear hk hm2 hl hl2 hm0 e1 e2 hk0
          go_wp2_with (at_builtin; go_loud (refine wpList_append_rw _ rfl _ _ 40 40 rfl 3 _ i0 _ 1 8 Tryd.underlying40 Tryd.underlying40 (by simp) hi hz0 hz1 hz2 rfl _ l.length _ rfl (hv.alloc _) _ 1 _ rfl (Rw.made _ _ _ 1 1 rfl).src rfl (by simp [Value.oneCell']) (by omega) (by omega) ?_); intro ga gc w1 hv' hg hob')
          go_roundg (gk - 1)
          case measure => omega
          case rel =>
            refine ⟨m2, l ++ [k], by omega, by omega, by simp, ?_, HL.out, (hu.alloc _).grown hg (fun i hi => .inl (hob i hi)), ?_⟩
            · unfold DgAt
              simpa using hv'
            · intro i hi
              rcases hob' with e | e
              · exact hob i (Eq.trans (show _ = _ from e.symm) hi)
              · rw [e] at hi; simp at hi; have := hu.size; omega
end Go.Proofs.YtckpomcenkgekaaDoor
