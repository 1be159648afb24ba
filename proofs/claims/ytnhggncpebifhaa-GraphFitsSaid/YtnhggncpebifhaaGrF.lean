/- The walks of Reads and Readers, slices.Clone at ints. -/
import Derived.Test.YtnhggncpebifhaaGrE
set_option maxRecDepth 100000
namespace Go.Proofs.Ytnhggncpebifhaa
open Go.RowKit Go.Lat

theorem NatRes.upd {w w0 w' : World} {l : List Nat} {e : Ending} (h : NatRes w0 l e w') (u : Upd w w0 (fun _ => False)) : NatRes w l e w' := by
  obtain ⟨a, c, h1, h2, h3, h4⟩ := h
  exact ⟨a, c, h1, h2, fun k q => Nat.le_trans u.size (h3 k q), u.then h4 (fun _ _ => id)⟩
theorem nat_one (l : List Nat) : ∀ u ∈ natCells l, u.oneCell' = true := in_one _
theorem CloneI_any (w : World) (va : Option Addr) (vc : Nat) (l : List Nat) (h : Rw w 3 1 (.slice va l.length vc) l.length (natCells l)) (hn : l.length ≤ 1000000) :
    Calls Try.prog 42 #[.slice va l.length vc] w (NatRes w l) := by
  obtain ⟨i0, hi, hz0, hz1, hz2⟩ := info_parts Try.info3
  cases va with
  | none =>
    have h1 := h.2
    have hl : l = [] := by
      rcases h1 with ⟨_, e⟩ | ⟨_, _, _, _, e, _⟩
      · exact List.eq_nil_of_length_eq_zero e
      · cases e
    subst hl
    have hq : ∀ w, (binOp .eql 29 (.slice none 0 vc) (.slice none 0 0)).run Try.prog w = .ok (.bool true) w := fun w => Lib.run_eql_slice_nil w _ _ none 0 vc 0 0 Try.underlying29
    simp only [List.length_nil] at h ⊢
    go_enter Try.func42, Try.ntmps42
    go_wp2_with fail
    go_ret
    exact ⟨none, 0, rfl, Rw.nil _ _ _, by simp [Value.ownBlock], Upd.refl _ _⟩
  | some ad =>
    have hq : ∀ w, (binOp .eql 29 (.slice (some ad) l.length vc) (.slice none 0 0)).run Try.prog w = .ok (.bool false) w := fun w => Lib.run_eql_slice_nil w _ _ (some ad) l.length vc 0 0 Try.underlying29
    go_enter Try.func42, Try.ntmps42
    go_wp2_with (at_builtin; go_loud (refine wpList_append_rw _ rfl _ _ 29 29 rfl 3 _ i0 _ 1 8 Try.underlying29 Try.underlying29 (by simp) hi hz0 hz1 hz2 rfl _ 0 [] rfl (Rw.made w #[] 3 1 0 rfl) _ l.length (natCells l) rfl (h.alloc _).src (by rw [natCells_len]; omega) (nat_one l) (by omega) (by omega) ?_); intro ga gc w1 hv' hg hob')
    go_ret
    simp only [Nat.zero_add, List.nil_append] at hv' hob' ⊢
    refine ⟨ga, gc, rfl, hv', ?_, ?_⟩
    · intro k hk
      rcases hob' with e | e
      · exact Nat.le_of_eq (Option.some.inj (hk.symm.trans e)).symm
      · have := Option.some.inj (hk.symm.trans e); simp at this; omega
    · exact ((Upd.refl w _).alloc _).grown hg (fun k hk => .inl (Nat.le_of_eq (Option.some.inj hk)))
/-- An index that is there. -/
def inN (n : Nat) (z : Int) : Bool := decide (0 ≤ z ∧ z < n)
theorem Reads_no {w : World} {gb n : Nat} {m : Gm} {E D : Nat → Nat → Bool} (h : GrAt w gb n m E D) (z : Int) (hz : inN n z = false) : Calls Try.prog 25 #[.pointer (some ⟨gb, 0, none⟩), .int .i64 z] w fun e w' => e = .returned (.slice none 0 0) ∧ w' = w := by
  have HA := has_any h z
  unfold inN at hz
  rw [hz] at HA
  clear h hz
  go_enter Try.func25, Try.ntmps25
  go_wp2_with (go_at_call 36; refine Calls.mono HA ?_; rintro e w1 ⟨rfl, rfl⟩)
  go_ret
  exact ⟨rfl, rfl⟩
theorem Readers_no {w : World} {gb n : Nat} {m : Gm} {E D : Nat → Nat → Bool} (h : GrAt w gb n m E D) (z : Int) (hz : inN n z = false) : Calls Try.prog 27 #[.pointer (some ⟨gb, 0, none⟩), .int .i64 z] w fun e w' => e = .returned (.slice none 0 0) ∧ w' = w := by
  have HA := has_any h z
  unfold inN at hz
  rw [hz] at HA
  clear h hz
  go_enter Try.func27, Try.ntmps27
  go_wp2_with (go_at_call 36; refine Calls.mono HA ?_; rintro e w1 ⟨rfl, rfl⟩)
  go_ret
  exact ⟨rfl, rfl⟩
theorem Reads_nil (w : World) (z : Int) : Calls Try.prog 25 #[.pointer none, .int .i64 z] w fun e w' => e = .returned (.slice none 0 0) ∧ w' = w := by
  go_enter Try.func25, Try.ntmps25
  go_wp2_with (go_at_call 36; refine Calls.mono (has_nil _ _) ?_; rintro e w1 ⟨rfl, rfl⟩)
  go_ret
  exact ⟨rfl, rfl⟩
theorem Reads_any {w : World} {gb n : Nat} {m : Gm} {E D : Nat → Nat → Bool} (h : GrAt w gb n m E D) (z : Nat) (hz : z < n) : Calls Try.prog 25 #[.pointer (some ⟨gb, 0, none⟩), .int .i64 (z : Int)] w (NatRes w (rowE n (E z))) := by
  have HA := has_any h (z : Int)
  have e : decide (0 ≤ (z : Int) ∧ (z : Int) < n) = true := by simp; omega
  rw [e] at HA
  obtain ⟨sv, sc, hv⟩ := slice_form h.r.spine
  obtain ⟨g, off, hg, hgl, d1, f1⟩ := Rw.cell1 (by have := h.r.spine; rw [hv] at this; exact this) hz
  subst hg
  obtain ⟨ra, rc, hfa⟩ := slice_form (h.r.row z hz)
  have hra := h.r.row z hz
  rw [natCells_len] at hfa hra
  rw [hfa] at hra
  have CL := CloneI_any w ra rc (rowE n (E z)) hra (by have := rowE_len n (E z); have := h.n4; omega)
  have d0 := (cells2 h.c).1
  have gl := lt_at h.c
  rw [hv] at d0
  rw [hfa] at d1
  have a0 : (0 : Int) ≤ (z : Int) := by omega
  have a1 : (z : Int) < (n : Int) := by omega
  clear h hv hfa hra e
  go_enter Try.func25, Try.ntmps25
  go_wp2_with (first
    | (go_at_call 36; refine Calls.mono HA ?_; rintro e w1 ⟨rfl, rfl⟩)
    | (go_at_call 42; refine Calls.mono CL ?_; rintro e w2 ⟨a, c, rfl, h2, h3, h4⟩))
  go_ret
  exact ⟨a, c, rfl, h2, h3, h4⟩
theorem Readers_any {w : World} {gb n : Nat} {m : Gm} {E D : Nat → Nat → Bool} (h : GrAt w gb n m E D) (z : Nat) (hz : z < n) : Calls Try.prog 27 #[.pointer (some ⟨gb, 0, none⟩), .int .i64 (z : Int)] w (NatRes w (rowE n (D z))) := by
  have HA := has_any h (z : Int)
  have e : decide (0 ≤ (z : Int) ∧ (z : Int) < n) = true := by simp; omega
  rw [e] at HA
  obtain ⟨sv, sc, hv⟩ := slice_form h.d.spine
  obtain ⟨g, off, hg, hgl, d1, f1⟩ := Rw.cell1 (by have := h.d.spine; rw [hv] at this; exact this) hz
  subst hg
  obtain ⟨ra, rc, hfa⟩ := slice_form (h.d.row z hz)
  have hra := h.d.row z hz
  rw [natCells_len] at hfa hra
  rw [hfa] at hra
  have CL := CloneI_any w ra rc (rowE n (D z)) hra (by have := rowE_len n (D z); have := h.n4; omega)
  have d0 := (cells2 h.c).2
  have gl := lt_at h.c
  rw [hv] at d0
  rw [hfa] at d1
  have a0 : (0 : Int) ≤ (z : Int) := by omega
  have a1 : (z : Int) < (n : Int) := by omega
  clear h hv hfa hra e
  go_enter Try.func27, Try.ntmps27
  go_wp2_with (first
    | (go_at_call 36; refine Calls.mono HA ?_; rintro e w1 ⟨rfl, rfl⟩)
    | (go_at_call 42; refine Calls.mono CL ?_; rintro e w2 ⟨a, c, rfl, h2, h3, h4⟩))
  go_ret
  exact ⟨a, c, rfl, h2, h3, h4⟩
end Go.Proofs.Ytnhggncpebifhaa
