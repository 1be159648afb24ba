/- The walks of package flow, continued. -/
import Derived.Test.YtfbmhfpffciojaaFlow
set_option maxRecDepth 100000
namespace Go.Proofs.Ytfbmhfpffciojaa
open Go.RowKit Go.Lat

def Fl.upTo (s : Fl) : Nat := max s.next (min (s.base + s.texts.length) (s.base + s.win))

theorem frames_at (w : World) (b : Nat) (tv : Value) (s : Fl) (f n : Nat) (f' t : Int) (h : FlAt w b tv s) (ok : s.Ok) (hf : s.base ≤ f) (hn : f + n ≤ s.base + s.texts.length) (hf' : f' = (f : Nat)) (ht : t = (f + n : Nat)) :
    Calls Try.prog 28 #[.pointer (some ⟨b, 0, none⟩), .int .i64 f', .int .i64 t] w fun e w' => ∃ v, e = .returned v ∧ FrsAt w' v (s.frs f n) ∧ Upd w w' (fun _ => False) ∧ (∀ k, v.ownBlock = some k → w.heap.size ≤ k) := by
  rw [hf', ht]; exact frames_any w b tv s f n h ok hf hn

set_option maxHeartbeats 800000 in
theorem Ready_any (w : World) (b : Nat) (tv : Value) (s : Fl) (hF : FlAt w b tv s) (ok : s.Ok) :
    Calls Try.prog 12 #[.pointer (some ⟨b, 0, none⟩)] w fun e w' => ∃ v, e = .returned v ∧ FrsAt w' v (s.frs s.next (s.upTo - s.next)) ∧ FlAt w' b tv { s with next := s.upTo } ∧ Upd w w' (fun k => k = b) ∧ (∀ k, v.ownBlock = some k → w.heap.size ≤ k) := by
  obtain ⟨h1, h2, h3⟩ := id hF
  obtain ⟨c0, c1, c2, c3, c4⟩ := cells5 h1
  have f2 := free_at h1 2
  have hlt := lt_at h1
  have o1 := ok.win
  have o2 := ok.bn
  have o3 := ok.nt
  have o4 := ok.top
  have H1 := hide h1
  clear h1
  go_enter Try.func12, Try.ntmps12
  go_wp2
  go_quiet ((go_at_call 27; exact Calls.quiet_of (sent_any _ _ _ s hF ok)))
  all_goals
    go_wp2_with (go_at_call 28; go_loud (refine Calls.mono (frames_at _ b tv s s.next (s.upTo - s.next) _ _ hF ok o2 (by unfold Fl.upTo; omega) rfl (by unfold Fl.upTo; omega)) ?_); rintro e w1 ⟨v, rfl, hv, hu, hob⟩; have hb1 : w1.heap[b]? = _ := (hu.block b hlt id).trans H1.out; have g2 := (cells5 hb1).2.2.1; have gf := free_at hb1 2; have HB := hide hb1; clear hb1)
  all_goals
    go_ret
    refine ⟨_, rfl, ?_, ⟨?_, ?_, h3⟩, ?_, hob⟩
    · exact Rw.setCell hv _ _ (fun e => by have := hob _ e; simp at this; omega)
    · have := block_setCell HB.out 2 (.int .i64 s.upTo)
      have hx : ∀ q : Int, q = s.upTo → (w1.setCell ⟨b, 2, none⟩ (.int .i64 q)).heap[b]? = some (.cells #[.int .i64 s.win, .int .i64 s.base, .int .i64 s.upTo, .int .i64 s.wanted, tv] 72 (0, 0)) := fun q hq => by rw [hq, this]; rfl
      exact hx _ (by unfold Fl.upTo; omega)
    · exact (hu.rw h2 (fun _ _ => id)).setCell _ _ h3
    · exact (((Upd.refl w _).drewN nq).then (hu.weaken (T := fun k => k = b) (fun _ _ => False.elim)) (fun _ _ e => e)).setCell _ _ (.inr rfl)

set_option maxHeartbeats 800000 in
theorem Tick_any (w : World) (b : Nat) (tv : Value) (s : Fl) (hF : FlAt w b tv s) (ok : s.Ok) :
    Calls Try.prog 13 #[.pointer (some ⟨b, 0, none⟩)] w fun e w' => ∃ v, e = .returned v ∧ FrsAt w' v (s.frs s.base (s.next - s.base)) ∧ Upd w w' (fun _ => False) ∧ (∀ k, v.ownBlock = some k → w.heap.size ≤ k) := by
  obtain ⟨h1, h2, h3⟩ := id hF
  obtain ⟨c0, c1, c2, c3, c4⟩ := cells5 h1
  have hlt := lt_at h1
  have o2 := ok.bn
  have o3 := ok.nt
  have o4 := ok.top
  clear h1
  go_enter Try.func13, Try.ntmps13
  go_wp2
  go_region_held3 (fun w' => w'.cell? ⟨b, 1, none⟩ = some (.int .i64 s.base) ∧ w'.cell? ⟨b, 2, none⟩ = some (.int .i64 s.next)) (first | go_keep | exact ⟨(hu.cell b 1 hlt id).trans c1, (hu.cell b 2 hlt id).trans c2⟩)
    ((go_at_call 28; go_loud (refine Calls.mono (frames_at w.drew b tv s s.base (s.next - s.base) _ _ hF ok (Nat.le_refl _) (by omega) rfl (by omega)) ?_); rintro e w1 ⟨v, rfl, hv, hu, hob⟩))
  go_wp2
  go_ret
  exact ⟨_, rfl, hv, ((Upd.refl w _).drew).then hu (fun _ _ => id), hob⟩

def Fl.came (s : Fl) (n : Int) : Fl := if (s.base : Int) < n ∧ n ≤ s.next then { s with base := n.toNat, texts := s.texts.drop (n.toNat - s.base) } else s

theorem came_out (w : World) (b : Nat) (tv : Value) (s : Fl) (n : Int) (hF : FlAt w b tv s) (hno : ¬ ((s.base : Int) < n ∧ n ≤ s.next)) :
    Calls Try.prog 29 #[.pointer (some ⟨b, 0, none⟩), .int .i64 n] w fun e w' => e = .returned (.tuple #[]) ∧ w' = w := by
  obtain ⟨h1, h2, h3⟩ := id hF
  obtain ⟨c0, c1, c2, c3, c4⟩ := cells5 h1
  clear h1
  by_cases hbn : (s.base : Int) < n
  · have hn2 : decide (n ≤ (s.next : Int)) = false := by simp; omega
    have hn1 : decide ((s.base : Int) < n) = true := by simpa using hbn
    clear hno hbn
    go_enter Try.func29, Try.ntmps29
    go_wp2
    go_end0
    exact ⟨rfl, rfl⟩
  · have hn1 : decide ((s.base : Int) < n) = false := by simpa using hbn
    clear hno hbn
    go_enter Try.func29, Try.ntmps29
    go_wp2
    go_end0
    exact ⟨rfl, rfl⟩

theorem came_in (w : World) (b : Nat) (tv : Value) (s : Fl) (n : Nat) (hF : FlAt w b tv s) (ok : s.Ok) (hb : s.base < n) (hn : n ≤ s.next) :
    Calls Try.prog 29 #[.pointer (some ⟨b, 0, none⟩), .int .i64 n] w fun e w' => e = .returned (.tuple #[]) ∧ ∃ tv', FlAt w' b tv' { s with base := n, texts := s.texts.drop (n - s.base) } ∧ Upd w w' (fun k => k = b) ∧ tv'.ownBlock = tv.ownBlock := by
  obtain ⟨h1, h2, h3⟩ := id hF
  obtain ⟨c0, c1, c2, c3, c4⟩ := cells5 h1
  obtain ⟨i0, hi, hz0, hz1, hz2⟩ := info_parts Try.info9
  have o2 := ok.bn
  have o3 := ok.nt
  have o4 := ok.top
  have f1 := free_at h1 1
  have f4 := free_at h1 4
  obtain ⟨a, c, hrun, hrw, hown⟩ := h2.slice_from (P := Try.prog) 42 i0 Try.underlying42 hi hz1 (n - s.base) (by omega)
  have ec : ((n - s.base : Nat) : Int) = (n : Int) - (s.base : Int) := by omega
  rw [ec] at hrun
  have hn2 : decide ((n : Int) ≤ (s.next : Int)) = true := by simpa using hn
  have hn1 : decide ((s.base : Int) < (n : Int)) = true := by simpa using hb
  have H1 := hide h1
  clear h1 ec
  go_enter Try.func29, Try.ntmps29
  go_wp2_with fail
  have wa : IntKind.i64.wrap ((n : Int) - (s.base : Int)) = (n : Int) - (s.base : Int) := IntWalk.i64_in _ (by omega)
  go_still_tail 14, (by kernel_rfl)
  clear wa
  change wpList _ _ _ _ _ w.drew
  go_wp2
  go_end0
  have hne : (Value.slice a (s.texts.length - (n - s.base)) c).ownBlock ≠ some b := by rw [hown]; exact h3
  refine ⟨rfl, _, ⟨block_setCell (block_setCell H1.out 4 _) 1 _, ?_, hne⟩, ?_, hown⟩
  · have := (hrw.setCell ⟨b, 4, none⟩ (.slice a (s.texts.length - (n - s.base)) c) hne).setCell ⟨b, 1, none⟩ (.int .i64 n) hne
    simpa using this.drew
  · exact (((Upd.refl w (fun k => k = b)).setCell ⟨b, 4, none⟩ _ (.inr rfl)).setCell ⟨b, 1, none⟩ _ (.inr rfl)).drew
end Go.Proofs.Ytfbmhfpffciojaa
