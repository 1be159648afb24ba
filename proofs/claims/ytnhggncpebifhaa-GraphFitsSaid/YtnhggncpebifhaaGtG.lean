/- The graph that is nil: Parts, cyclic, waits, Order. -/
import Derived.Test.YtnhggncpebifhaaGtB
set_option maxRecDepth 100000
namespace Go.Proofs.Ytnhggncpebifhaa
open Go.RowKit Go.Lat Go.Tarjan

theorem mkI0 (w : World) : (Instr.makeSlice 29 (.int .i64 0) (.int .i64 0)).run Try.prog w = .ok (.slice (some ⟨w.heap.size, 0, none⟩) 0 0) (w.alloc (.cells (madeCells #[.int .i64 0] 0) 3)) := mkI 0 (by omega) w
theorem mkB0 (w : World) : (Instr.makeSlice 51 (.int .i64 0) (.int .i64 0)).run Try.prog w = .ok (.slice (some ⟨w.heap.size, 0, none⟩) 0 0) (w.alloc (.cells (madeCells #[.bool false] 0) 4)) := mkB 0 (by omega) w
theorem mkII0 (w : World) : (Instr.makeSlice 62 (.int .i64 0) (.int .i64 0)).run Try.prog w = .ok (.slice (some ⟨w.heap.size, 0, none⟩) 0 0) (w.alloc (.cells (madeCells #[.slice none 0 0] 0) 29)) := mk62 0 (by omega) w
theorem made6 (W : World) (cs : Array Value) (t : TypeId) (n : Nat) (h : W.heap.size = n) (v : Value) (hj : cs[6]? = some v) : (W.alloc (.cells cs t)).drew.cell? ⟨n, 6, none⟩ = some v := by
  subst h
  exact cell_at (heap_alloc_new W _) 6 v hj
set_option maxHeartbeats 1600000 in
theorem Parts_nil (w : World) : Calls Try.prog 13 #[.pointer none] w fun e w' => ∃ a, e = .returned (.slice a 0 0) ∧ Upd w w' (fun _ => False) := by
  have NO := Nodes_nil w
  have MI := mkI0
  have MB := mkB0
  go_enter Try.func13, Try.ntmps13
  go_wp2_with (go_at_call 24; refine Calls.mono NO ?_; rintro e w1 ⟨rfl, hw⟩; obtain rfl := hw.symm; clear hw)
  clear NO
  go_cut [4] (fun pv wx => ∃ b p, pv = .pointer (some ⟨b, 0, none⟩) ∧ wx.cell? ⟨b, 6, none⟩ = some (.slice p 0 0) ∧ b < wx.heap.size ∧ Upd w wx (fun _ => False))
  case first =>
    go_region
    all_goals go_wp2_with fail
    all_goals go_meet
    all_goals exact ⟨_, _, rfl, made6 _ _ _ _ (by simp) _ rfl, by simp, ((((((Upd.refl w (fun _ => False)).alloc _).alloc _).alloc _).alloc _).alloc _).drew⟩
  case rest =>
    obtain ⟨b, p, rfl, d6, lb, u⟩ := hcut
    have HU := hide u
    clear u MI MB
    go_wp2_with fail
    go_loopg [20] 1 (fun q iv wx => 0 < q ∧ iv = .int .i64 0 ∧ wx = wc)
    case atStart => exact ⟨by omega, rfl, rfl⟩
    case round =>
      obtain ⟨hq, rfl, rfl⟩ := hrel
      go_wp2_with fail
      go_ret
      exact ⟨p, rfl, HU.out⟩
set_option maxHeartbeats 1600000 in
theorem cyclic_nil (w : World) : Calls Try.prog 31 #[.pointer none] w fun e w' => ∃ a c, e = .returned (.slice a 0 c) ∧ Upd w w' (fun _ => False) := by
  have PA := Parts_nil w
  have MI := mkI0
  have MB := mkB0
  go_enter Try.func31, Try.ntmps31
  go_wp2_with (go_at_call 13; go_loud (refine Calls.mono PA ?_); rintro e w1 ⟨a1, rfl, u1⟩; have HU1 := hide u1; clear u1)
  clear PA
  obtain ⟨W2, hW2⟩ : ∃ W, w1.alloc (.cells (madeCells #[.int .i64 0] 0) 3) = W := ⟨_, rfl⟩
  have u2 : Upd w1 W2 (fun _ => False) := by rw [← hW2]; exact (Upd.refl _ _).alloc _
  rw [hW2]
  have HU2 := hide u2
  clear hW2 u2
  go_loopg [17] 1 (fun q iv wx => 0 < q ∧ iv = .int .i64 0 ∧ wx = W2)
  case atStart => exact ⟨by omega, rfl, rfl⟩
  case round =>
    obtain ⟨hq, rfl, rfl⟩ := hrel
    go_wp2_with fail
    obtain ⟨W3, hW3⟩ : ∃ W, wr.alloc (.cells (madeCells #[.bool false] 0) 4) = W := ⟨_, rfl⟩
    have u3 : Upd wr W3 (fun _ => False) := by rw [← hW3]; exact (Upd.refl _ _).alloc _
    rw [hW3]
    have HU3 := hide u3
    clear hW3 u3
    go_loopg [33] 1 (fun q iv wx => 0 < q ∧ iv = .int .i64 0 ∧ wx = W3)
    case atStart => exact ⟨by omega, rfl, rfl⟩
    case round =>
      obtain ⟨hq2, rfl, rfl⟩ := hrel
      go_wp2_with fail
      go_ret
      exact ⟨_, _, rfl, (HU1.out.then HU2.out (fun _ _ => id)).then HU3.out (fun _ _ => id)⟩
set_option maxHeartbeats 1600000 in
theorem waits_nil (w : World) (a : Option Addr) (c : Nat) : Calls Try.prog 37 #[.pointer none, .slice a 0 c] w fun e w' => ∃ a c, e = .returned (.slice a 0 c) ∧ Upd w w' (fun _ => False) := by
  have MK := mkII0
  go_enter Try.func37, Try.ntmps37
  go_wp2_with fail
  obtain ⟨W2, hW2⟩ : ∃ W, w.alloc (.cells (madeCells #[.slice none 0 0] 0) 29) = W := ⟨_, rfl⟩
  have u2 : Upd w W2 (fun _ => False) := by rw [← hW2]; exact (Upd.refl _ _).alloc _
  rw [hW2]
  have HU2 := hide u2
  clear hW2 u2
  go_loopg [15] 1 (fun q iv wx => 0 < q ∧ iv = .int .i64 0 ∧ wx = W2)
  case atStart => exact ⟨by omega, rfl, rfl⟩
  case round =>
    obtain ⟨hq, rfl, rfl⟩ := hrel
    go_wp2_with fail
    go_ret
    exact ⟨_, _, rfl, HU2.out⟩
set_option maxHeartbeats 3200000 in
theorem Order_nil (w : World) (g c : Nat) (hg : g < w.heap.size) (hc : w.cell? ⟨g, 0, none⟩ = some (.int .i64 0)) : Calls Try.prog 20 #[.pointer none, .slice (some ⟨g, 0, none⟩) 1 c] w fun e w' => ∃ a c, e = .returned (.slice a 0 c) ∧ Upd w w' (fun _ => False) := by
  have NO := Nodes_nil w
  have MI := mkI0
  have MB := mkB0
  have HC := hide hc
  clear hc
  go_enter Try.func20, Try.ntmps20
  go_wp2_with (first
    | (go_at_call 24; refine Calls.mono NO ?_; rintro e w1 ⟨rfl, hw⟩; obtain rfl := hw.symm; clear hw)
    | (go_at_call 31; go_loud (refine Calls.mono (cyclic_nil _) ?_); rintro e w2 ⟨a2, c2, rfl, u2⟩; have HU2 := hide (((Upd.refl w (fun _ => False)).alloc (.cells (madeCells #[.bool false] 0) 4)).then u2 (fun _ _ => id)); clear u2))
  clear NO
  have d0 := (HU2.out.cell g 0 hg id).trans HC.out
  have hg2 := Nat.lt_of_lt_of_le hg HU2.out.size
  go_loopg [29] 2 (fun q iv wx => (iv = .int .i64 0 ∧ 1 < q ∨ iv = .int .i64 1 ∧ 0 < q) ∧ wx = w2)
  case atStart => exact ⟨.inl ⟨rfl, by omega⟩, rfl⟩
  case round =>
    obtain ⟨h, rfl⟩ := hrel
    rcases h with ⟨rfl, hq⟩ | ⟨rfl, hq⟩
    · have HN := has_nil wr 0
      go_wp2_with (go_at_call 36; refine Calls.mono HN ?_; rintro e w9 ⟨rfl, hw⟩; obtain rfl := hw.symm; clear hw)
      go_roundg (gk - 1)
      all_goals first | omega | exact ⟨.inr ⟨rfl, by omega⟩, rfl⟩
    · clear d0
      go_wp2_with (go_at_call 37; go_loud (refine Calls.mono (waits_nil _ _ _) ?_); rintro e w3 ⟨a3, c3, rfl, u3⟩; have HU3 := hide (HU2.out.then u3 (fun _ _ => id)); clear u3)
      obtain ⟨W4, hW4⟩ : ∃ W, w3.alloc (.cells (madeCells #[.int .i64 0] 0) 3) = W := ⟨_, rfl⟩
      have u4 : Upd w3 W4 (fun _ => False) := by rw [← hW4]; exact (Upd.refl _ _).alloc _
      rw [hW4]
      have HU4 := hide (HU3.out.then u4 (fun _ _ => id))
      clear hW4 u4
      go_loopg [53] 1 (fun q iv wx => 0 < q ∧ iv = .int .i64 0 ∧ wx = W4)
      case atStart => exact ⟨by omega, rfl, rfl⟩
      case round =>
        obtain ⟨hq2, rfl, rfl⟩ := hrel
        have o5 := heap_alloc_new wr (.cells #[.slice none 0 0] 68)
        have u5 : Upd wr (wr.alloc (.cells #[.slice none 0 0] 68)) (fun _ => False) := (Upd.refl _ _).alloc _
        have d5 := cells1 o5
        have l5 := lt_at o5
        have HU5 := hide (HU4.out.then u5 (fun _ _ => id))
        have HD5 := hide d5
        have HL5 := hide l5
        clear o5 u5 d5 l5
        go_wp2_with fail
        obtain ⟨W6, hW6⟩ : ∃ W, wr.alloc (.cells #[.slice none 0 0] 68) = W := ⟨_, rfl⟩
        obtain ⟨b, hb⟩ : ∃ b, wr.heap.size = b := ⟨_, rfl⟩
        rw [hW6, hb] at HD5 HL5
        rw [hW6] at HU5
        rw [hW6, hb]
        clear hW6 hb
        go_loopg [73] 1 (fun q iv wx => 0 < q ∧ iv = .int .i64 0 ∧ wx = W6)
        case atStart => exact ⟨by omega, rfl, rfl⟩
        case round =>
          obtain ⟨hq3, rfl, rfl⟩ := hrel
          go_wp2_with fail
          go_loopg [18] 1 (fun q ov wx => 0 < q ∧ ov = .slice none 0 0 ∧ wx = wr)
          case atStart => exact ⟨by omega, rfl, rfl⟩
          case round =>
            obtain ⟨hq4, rfl, rfl⟩ := hrel
            have d0 := HD5.out
            have l0 := HL5.out
            go_wp2_with (go_at_call 39; refine Calls.mono (Len_any _ _ _ _) ?_; rintro e w8 ⟨rfl, hw8⟩; obtain rfl := hw8.symm; clear hw8)
            go_ret
            exact ⟨_, _, rfl, HU5.out⟩
end Go.Proofs.Ytnhggncpebifhaa
