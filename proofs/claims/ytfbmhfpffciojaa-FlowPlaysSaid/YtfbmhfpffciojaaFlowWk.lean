/- The law's fixed examples of package flow come true. -/
import Derived.Test.YtfbmhfpffciojaaFlowC
set_option maxRecDepth 100000
namespace Go.Proofs.Ytfbmhfpffciojaa
open Go.RowKit Go.Lat

theorem FrsAt.pos {w : World} {v : Value} {l : List Fr} (h : FrsAt w v l) (hl : 0 < l.length) :
    ∃ g off cap, v = .slice (some ⟨g, off, none⟩) l.length cap ∧ g < w.heap.size ∧ ∀ j u, (frCells l)[j]? = some u → w.cell? ⟨g, off + j, none⟩ = some u := Rw.pos h hl

/-- In the midst of the examples. -/
structure WS (w wN : World) (tv : Value) (s : Fl) : Prop where
  fl : FlAt wN w.heap.size tv s
  strs : wN.heap[w.heap.size + 1]? = some (.cells #[.string ⟨#[97]⟩, .string ⟨#[98]⟩, .string ⟨#[99]⟩] 9 (0, 0))
  upd : Upd w wN (fun _ => False)
  tv : ∀ k, tv.ownBlock = some k → w.heap.size + 1 < k

theorem WS.size {w wN : World} {tv : Value} {s : Fl} (h : WS w wN tv s) : w.heap.size + 1 < wN.heap.size := lt_at h.strs

theorem WS.send {w wN : World} {tv : Value} {s : Fl} (h : WS w wN tv s) (ok : s.Ok) (hl : s.base + s.texts.length < 1000000) (body : ByteArray) :
    Calls Try.prog 15 #[.pointer (some ⟨w.heap.size, 0, none⟩), .string body] wN fun e w' => e = .returned (.int .i64 0) ∧ ∃ tv', WS w w' tv' { s with texts := s.texts ++ [body] } := by
  refine Calls.mono (Send_any wN _ tv s body h.fl ok hl) ?_
  rintro e w' ⟨he, tv', h1, h2, h3⟩
  have hs := h.size
  refine ⟨he, tv', h1, h2.get h.strs (fun e => ?_), h.upd.then h2 (fun i hi e => ?_), fun k hk => ?_⟩
  · rcases e with e | e
    · omega
    · have := h.tv _ e; omega
  · rcases e with e | e
    · omega
    · have := h.tv _ e; omega
  · rcases h3 k hk with e | e
    · exact h.tv _ e
    · omega

set_option maxHeartbeats 1600000 in
theorem wakes_any (w : World) : Calls Try.prog 8 #[] w fun e w' => e = .returned (.bool true) ∧ Upd w w' (fun _ => False) := by
  go_enter Try.func8, Try.ntmps8
  go_wp2_with fail
  refine Calls.mono (New_ok w 2 (by omega) (by omega)) ?_
  rintro e w1 ⟨rfl, hF, hu, hsz⟩
  go_wp2_with fail
  have hS : WS w (w1.alloc (.cells #[.string ⟨#[97]⟩, .string ⟨#[98]⟩, .string ⟨#[99]⟩] 9)) (.slice none 0 0) ⟨2, 0, 0, 0, []⟩ :=
    ⟨hF.upd (((Upd.refl w1 (fun _ => False)).alloc _)) id (fun _ _ => id), by rw [← hsz]; exact heap_alloc_new w1 _, hu.alloc _, by simp [Value.ownBlock]⟩
  obtain ⟨c0, c1, c2⟩ := cells3 hS.strs
  generalize (w1.alloc (.cells #[.string ⟨#[97]⟩, .string ⟨#[98]⟩, .string ⟨#[99]⟩] 9)) = wa at hS c0 c1 c2 ⊢
  clear hF hu hsz
  refine wp_loop_rounds 4 ?_
  rw [rounds_succ]
  go_wp2_with fail
  refine Calls.mono (hS.send ⟨by simp, by simp, by simp, by simp, by simp⟩ (by simp) _) ?_
  clear hS c0 c1 c2 
  rintro e w2 ⟨rfl, tv2, hS⟩
  obtain ⟨c0, c1, c2⟩ := cells3 hS.strs
  go_wp2_with fail
  rw [rounds_succ]
  go_wp2_with fail
  refine Calls.mono (hS.send ⟨by simp, by simp, by simp, by simp, by simp⟩ (by simp) _) ?_
  clear hS c0 c1 c2 
  rintro e w3 ⟨rfl, tv3, hS⟩
  obtain ⟨c0, c1, c2⟩ := cells3 hS.strs
  go_wp2_with fail
  rw [rounds_succ]
  go_wp2_with fail
  refine Calls.mono (hS.send ⟨by simp, by simp, by simp, by simp, by simp⟩ (by simp) _) ?_
  clear hS c0 c1 c2 
  rintro e w4 ⟨rfl, tv4, hS⟩
  obtain ⟨c0, c1, c2⟩ := cells3 hS.strs
  go_wp2_with fail
  rw [rounds_succ]
  go_wp2_with fail
  clear c0 c1 c2
  simp only [List.nil_append, List.cons_append] at hS
  refine Calls.mono (Ready_any _ _ _ _ hS.fl ⟨by simp, by simp, by simp, by simp, by simp⟩) ?_
  rintro e w5 ⟨r, rfl, hr, hF5, hu5, hr5⟩
  have hu := hS.upd.then hu5 (fun i hi e => by omega)
  have htv := hS.tv
  have hsz := hS.size
  have z1 := hu5.size
  clear hS hu5
  have e5 : Fl.upTo ⟨2, 0, 0, 0, [⟨#[97]⟩, ⟨#[98]⟩, ⟨#[99]⟩]⟩ = 2 := by simp [Fl.upTo]
  simp only [e5] at hr hF5
  go_wp2_with fail
  refine Calls.mono (Take_ack _ _ _ _ 1 _ hF5 ⟨by simp, by simp, by simp, by simp, by simp⟩) ?_
  rintro e w6 ⟨rfl, tv6, hF6, hu6, ho6⟩
  have e6 : Fl.came ⟨2, 0, 2, 0, [⟨#[97]⟩, ⟨#[98]⟩, ⟨#[99]⟩]⟩ 1 = ⟨2, 1, 2, 0, [⟨#[98]⟩, ⟨#[99]⟩]⟩ := by simp [Fl.came]
  rw [e6] at hF6
  have hr6 := hu6.rw hr (fun k hk => by have := hr5 k hk; omega)
  go_wp2_with fail
  refine Calls.mono (Ready_any _ _ _ _ hF6 ⟨by simp, by simp, by simp, by simp, by simp⟩) ?_
  rintro e w7 ⟨s, rfl, hs, hF7, hu7, hs7⟩
  have e7 : Fl.upTo ⟨2, 1, 2, 0, [⟨#[98]⟩, ⟨#[99]⟩]⟩ = 3 := by simp [Fl.upTo]
  simp only [e7] at hs hF7
  have hr7 := hu7.rw hr6 (fun k hk => by have := hr5 k hk; omega)
  go_wp2_with fail
  refine Calls.mono (Tick_any _ _ _ _ hF7 ⟨by simp, by simp, by simp, by simp, by simp⟩) ?_
  rintro e w8 ⟨t, rfl, ht, hu8, ht8⟩
  have hr8 := hu8.rw hr7 (fun _ _ => id)
  have hs8 := hu8.rw hs (fun _ _ => id)
  have u8 := ((hu.then hu6 (fun i hi e => by omega)).then hu7 (fun i hi e => by omega)).then hu8 (fun i hi e => e)
  obtain ⟨g1, o1, p1, rfl, _, k1⟩ := Rw.pos hr8 (by simp [Fl.frs_len])
  obtain ⟨g2, o2, p2, rfl, _, k2⟩ := Rw.pos hs8 (by simp [Fl.frs_len])
  obtain ⟨g3, o3, p3, rfl, _, k3⟩ := FrsAt.pos ht (by simp [Fl.frs_len])
  have r4 := k1 4 (.int .i64 1) (by rfl)
  have r5 := k1 5 (.string ⟨#[98]⟩) (by rfl)
  have s1 := k2 1 (.int .i64 2) (by rfl)
  have t2 := k3 2 (.string ⟨#[98]⟩) (by rfl)
  clear k1 k2 k3 hr8 hs8 hr7 hr6 hr hs ht hr5 hs7 ht8 hF7 hF6 hF5 hu hu6 hu7 hu8
  simp only [Fl.frs_len] at *
  go_wp2_with fail
  go_ret
  exact ⟨by simp, u8⟩
end Go.Proofs.Ytfbmhfpffciojaa
