/- The walks of Cycles, of spread's closure. -/
import Derived.Test.YtnhggncpebifhaaGrN
set_option maxRecDepth 100000
namespace Go.Proofs.Ytnhggncpebifhaa
open Go.RowKit Go.Lat Go.Tarjan

theorem rowE_succ (i : Nat) (f : Nat → Bool) : rowE (i + 1) f = if f i then rowE i f ++ [i] else rowE i f := by
  unfold rowE
  rw [List.range_succ, List.filter_append]
  cases h : f i <;> simp [h]
theorem natCells_snoc (l : List Nat) (x : Nat) : natCells l ++ [Value.int .i64 (x : Int)] = natCells (l ++ [x]) := by simp [natCells, inCells]
theorem boolc_at {w : World} {e n : Nat} {a : Option Addr} {c : Nat} {f : Nat → Bool} (h : Rw w e 1 (.slice a n c) n (fRow n (boolR f))) {t : Nat} (ht : t < n) : ∃ g off, a = some ⟨g, off, none⟩ ∧ g < w.heap.size ∧ w.cell? ⟨g, off + t, none⟩ = some (.bool (f t)) := by
  obtain ⟨g, off, h1, h2, h3, _⟩ := Rw.cell1 h ht
  exact ⟨g, off, h1, h2, h3⟩
/-- A slice of nodes of the call's own: what lies from base on. -/
structure NatAt (base : Nat) (w : World) (a : Option Addr) (c : Nat) (l : List Nat) : Prop where
  r : Rw w 3 1 (.slice a l.length c) l.length (natCells l)
  o : ∀ k, (Value.slice a 0 0).ownBlock = some k → base ≤ k
theorem NatAt.nil (base : Nat) (w : World) : NatAt base w none 0 [] := ⟨Rw.nil _ _ _, fun k q => by simp [Value.ownBlock] at q⟩
theorem NatAt.upd {base : Nat} {w w' : World} {a : Option Addr} {c : Nat} {l : List Nat} (h : NatAt base w a c l) {S : Nat → Prop} (u : Upd w w' S) (hS : ∀ k, (Value.slice a 0 0).ownBlock = some k → ¬ S k) : NatAt base w' a c l :=
  ⟨u.rw h.r (fun k q => hS k ((own_slice a _ _ _ _).trans q)), h.o⟩
theorem NatAt.snoc {base : Nat} {w w' : World} {a ga : Option Addr} {c gc n x : Nat} {l : List Nat} (h : NatAt base w a c l) (hn : l.length = n) (hw : base ≤ w.heap.size) (hv : Rw w' 3 1 (.slice ga (n + 1) gc) (n + 1) (natCells l ++ [Value.int .i64 (x : Int)])) (hob : (Value.slice ga (n + 1) gc).ownBlock = (Value.slice a n c).ownBlock ∨ (Value.slice ga (n + 1) gc).ownBlock = some w.heap.size) : NatAt base w' ga gc (l ++ [x]) := by
  have hl : (l ++ [x]).length = n + 1 := by simp [hn]
  rw [natCells_snoc] at hv
  refine ⟨by rw [hl]; exact hv, fun k q => ?_⟩
  have q2 := (own_slice ga (n + 1) gc 0 0).trans q
  rcases hob with e | e
  · rw [e] at q2
    exact h.o k ((own_slice a 0 0 n c).trans q2)
  · rw [e] at q2
    have := Option.some.inj q2
    omega
theorem NatAt.res {w0 w : World} {a : Option Addr} {c : Nat} {l : List Nat} (h : NatAt w0.heap.size w a c l) (u : Upd w0 w (fun _ => False)) : NatRes w0 l (.returned (.slice a l.length c)) w :=
  ⟨a, c, rfl, h.r, fun k q => h.o k ((own_slice a _ _ _ _).trans q), u⟩
set_option maxHeartbeats 1600000 in
theorem Cycles_any {w : World} {gb n : Nat} {mg : Gm} {E D : Nat → Nat → Bool} (hg : GrAt w gb n mg E D) : Calls Try.prog 15 #[.pointer (some ⟨gb, 0, none⟩)] w (NatRes w (rowE n (fun i => wrun E n i i))) := by
  have CY := cyclic_any hg
  have h4 := hg.n4
  obtain ⟨i0, hi, hz0, hz1, hz2⟩ := info_parts infoI
  obtain ⟨f, hf⟩ : ∃ f, (fun i => wrun E n i i) = f := ⟨_, rfl⟩
  rw [hf] at CY ⊢
  clear hg hf
  go_enter Try.func15, Try.ntmps15
  go_wp2_with (go_at_call 31; go_loud (refine Calls.mono CY ?_); rintro e w1 ⟨ca, cc, rfl, rc, oc, uc⟩)
  clear CY
  have HRC := hide rc
  have HUC := hide uc
  clear rc oc uc
  go_loopg [3, 9] (n + 1) (fun q ov iv wr => ∃ i a c, i ≤ n ∧ n - i < q ∧ iv = .int .i64 (i : Nat) ∧ ov = .slice a (rowE i f).length c ∧ NatAt w1.heap.size wr a c (rowE i f) ∧ Upd w1 wr (fun _ => False))
  case atStart => exact ⟨0, none, 0, by omega, by omega, rfl, rfl, NatAt.nil _ _, Upd.refl _ _⟩
  case round =>
    obtain ⟨i, a, c, hin, hq, rfl, rfl, na, u1⟩ := hrel
    by_cases hlt : i < n
    · have hlt' : (i : Int) < (n : Int) := by omega
      have j0 : (0 : Int) ≤ (i : Int) := by omega
      obtain ⟨g, off, rfl, hgl, e0⟩ := boolc_at (u1.rw HRC.out (fun _ _ => id)) hlt
      have hle := rowE_len i f
      have hsz := u1.size
      obtain ⟨b, hb⟩ : ∃ b, f i = b := ⟨_, rfl⟩
      rw [hb] at e0
      have hs := rowE_succ i f
      rw [hb] at hs
      obtain ⟨l, hl⟩ : ∃ l, rowE i f = l := ⟨_, rfl⟩
      rw [hl] at na hle hs ⊢
      obtain ⟨m, hm⟩ : ∃ m, l.length = m := ⟨_, rfl⟩
      have nr := na.r
      rw [hm] at hle nr ⊢
      have HNR := hide nr
      have HNA := hide na
      have HU1 := hide u1
      have HS := hide hs
      have HM := hide hm
      clear na u1 hs hm hl hb nr
      cases b with
      | true =>
        go_wp2_with (at_builtin; go_loud (refine wpList_append_rw _ rfl _ _ 29 29 rfl 3 _ i0 _ 1 8 Try.underlying29 Try.underlying29 (by simp) hi hz0 hz1 hz2 rfl _ m _ rfl (HNR.out.alloc _) _ 1 [.int .i64 (i : Int)] rfl (Rw.made wr #[.int .i64 (i : Int)] 3 1 1 rfl).src rfl (by simp [Value.oneCell']) (by omega) (by omega) ?_); intro ga gc w4 hv' hg4 hob')
        have na2 := (HNA.out.upd ((Upd.refl wr (fun _ => False)).alloc (.cells #[.int .i64 (i : Int)] 3)) (fun _ _ => id)).snoc HM.out (by simp; omega) hv' hob'
        have u2 : Upd w1 w4 (fun _ => False) := (HU1.out.then ((Upd.refl wr (fun k => (Value.slice a m c).ownBlock = some k)).alloc _) (fun k hk q => by have := HNA.out.o k ((own_slice a _ _ _ _).trans q); omega)).then ((Upd.refl _ (fun k => (Value.slice a m c).ownBlock = some k)).grown hg4 (fun k e => .inr e)) (fun k hk q => by have := HNA.out.o k ((own_slice a _ _ _ _).trans q); omega)
        have hs := HS.out
        simp only [if_true] at hs
        rw [← hs] at na2
        have hl2 : (rowE (i + 1) f).length = m + 1 := by rw [hs]; simp [HM.out]
        go_roundg (gk - 1)
        case measure => omega
        case rel => exact ⟨i + 1, ga, gc, by omega, by omega, by go_num, by rw [hl2], na2, u2⟩
      | false =>
        go_wp2_with fail
        have hs := HS.out
        simp only [Bool.false_eq_true, if_false] at hs
        go_roundg (gk - 1)
        case measure => omega
        case rel => exact ⟨i + 1, a, c, by omega, by omega, by go_num, by rw [hs, HM.out], by rw [hs]; exact HNA.out, HU1.out⟩
    · have hge : ¬ (i : Int) < (n : Int) := by omega
      have hin2 : i = n := by omega
      subst hin2
      have HNA := hide na
      have HU1 := hide u1
      clear na u1
      go_wp2_with fail
      go_ret
      have h1 : NatAt w.heap.size wr a c (rowE i f) := ⟨HNA.out.r, fun k q => Nat.le_trans HUC.out.size (HNA.out.o k q)⟩
      exact h1.res (HUC.out.then HU1.out (fun _ _ => id))
end Go.Proofs.Ytnhggncpebifhaa
