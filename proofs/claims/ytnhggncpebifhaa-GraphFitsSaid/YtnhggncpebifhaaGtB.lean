/- wakes. -/
import Derived.Test.YtnhggncpebifhaaGtA
import Derived.Test.YtnhggncpebifhaaGrZ
import Derived.Test.YtnhggncpebifhaaGsF
set_option maxRecDepth 100000
namespace Go.Proofs.Ytnhggncpebifhaa
open Go.RowKit Go.Lat Go.Tarjan

theorem RdI_new (w : World) (l : List Int) (t : TypeId) : RdI (w.alloc (.cells (l.map (Value.int .i64)).toArray t)) (some ⟨w.heap.size, 0, none⟩) l := fun i x hx => by
  refine ⟨w.heap.size, 0, rfl, by simp, ?_⟩
  rw [Nat.zero_add]
  exact cell_at (heap_alloc_new w _) i _ (by simp [hx])
theorem RdI_new4 (w : World) (x0 x1 x2 x3 : Int) (t : TypeId) : RdI (w.alloc (.cells #[.int .i64 x0, .int .i64 x1, .int .i64 x2, .int .i64 x3] t)) (some ⟨w.heap.size, 0, none⟩) [x0, x1, x2, x3] := RdI_new w [x0, x1, x2, x3] t
theorem RdI_new2 (w : World) (x0 x1 : Int) (t : TypeId) : RdI (w.alloc (.cells #[.int .i64 x0, .int .i64 x1] t)) (some ⟨w.heap.size, 0, none⟩) [x0, x1] := RdI_new w [x0, x1] t
theorem RdI_new1 (w : World) (x0 : Int) (t : TypeId) : RdI (w.alloc (.cells #[.int .i64 x0] t)) (some ⟨w.heap.size, 0, none⟩) [x0] := RdI_new w [x0] t
theorem NatRes.rd {w : World} {l l2 : List Nat} {e : Ending} {w' : World} (h : NatRes w l e w') (el : l = l2) : ∃ a c, e = .returned (.slice a l2.length c) ∧ RdI w' a (l2.map (fun (k : Nat) => (k : Int))) ∧ Upd w w' (fun _ => False) := by
  subst el
  obtain ⟨a, c, rfl, h1, _, h3⟩ := h
  exact ⟨a, c, rfl, RdI.of_rw h1, h3⟩
def wkL : List (Int × Int) := [(0, 1), (1, 2), (2, 1), (3, 0)]
def wkE : Nat → Nat → Bool := edgN 4 wkL
theorem wk_parts : (List.range 4).map (partF (wrun wkE 4)) = [0, 1, 1, 3] := by decide +kernel
theorem wk_cycles : rowE 4 (fun i => wrun wkE 4 i i) = [1, 2] := by decide +kernel
theorem wk_dirty : rowE 4 (reachB 4 (wrun (fun a b => wkE b a) 4) (fun k => decide ((k : Int) ∈ [(1 : Int)]))) = [0, 1, 2, 3] := by decide +kernel
theorem wk_order : ordF 4 (fun k => decide ((k : Int) ∈ [(0 : Int), 1, 2, 3]) && !wrun wkE 4 k k) (wrun wkE 4) 5 [] = [0, 3] := by decide +kernel
theorem wk_ed (w : World) : EdRd (w.alloc (.cells #[.int .i64 0, .int .i64 1, .int .i64 1, .int .i64 2, .int .i64 2, .int .i64 1, .int .i64 3, .int .i64 0] 37)) (some ⟨w.heap.size, 0, none⟩) wkL := fun i x hx => by
  have h0 := heap_alloc_new w (.cells #[.int .i64 0, .int .i64 1, .int .i64 1, .int .i64 2, .int .i64 2, .int .i64 1, .int .i64 3, .int .i64 0] 37)
  refine ⟨w.heap.size, 0, rfl, by simp, ?_⟩
  have hi : i < 4 := by
    have := (List.getElem?_eq_some_iff.1 hx).1
    exact this
  have : i = 0 ∨ i = 1 ∨ i = 2 ∨ i = 3 := by omega
  rcases this with rfl | rfl | rfl | rfl <;> (simp only [wkL, List.getElem?_cons_zero, List.getElem?_cons_succ, Option.some.injEq] at hx; subst hx; exact ⟨cell_at h0 _ _ rfl, cell_at h0 _ _ rfl⟩)
set_option maxHeartbeats 3200000 in
theorem wakes_any (w : World) : Calls Try.prog 11 #[] w fun e w' => e = .returned (.bool true) ∧ Upd w w' (fun _ => False) := by
  have GS : Calls Try.prog 10 #[.int .i64 4, .slice (some ⟨w.heap.size, 0, none⟩) 4 4] (w.alloc (.cells #[.int .i64 0, .int .i64 1, .int .i64 1, .int .i64 2, .int .i64 2, .int .i64 1, .int .i64 3, .int .i64 0] 37)) (GsRes (w.alloc (.cells #[.int .i64 0, .int .i64 1, .int .i64 1, .int .i64 2, .int .i64 2, .int .i64 1, .int .i64 3, .int .i64 0] 37)) 4 wkE) := graphs_any _ 4 _ 4 4 wkL rfl (by omega) (wk_ed w)
  have PA : ∀ {W : World} {gb : Nat} {mg : Gm} {D : Nat → Nat → Bool}, GrAt W gb 4 mg wkE D → Calls Try.prog 13 #[.pointer (some ⟨gb, 0, none⟩)] W fun e w' => ∃ a c, e = .returned (.slice a 4 c) ∧ RdI w' a [0, 1, 1, 3] ∧ Upd W w' (fun _ => False) := fun h => (Parts_any h).mono fun e w' q => q.rd wk_parts
  have CY : ∀ {W : World} {gb : Nat} {mg : Gm} {D : Nat → Nat → Bool}, GrAt W gb 4 mg wkE D → Calls Try.prog 15 #[.pointer (some ⟨gb, 0, none⟩)] W fun e w' => ∃ a c, e = .returned (.slice a 2 c) ∧ RdI w' a [1, 2] ∧ Upd W w' (fun _ => False) := fun h => (Cycles_any h).mono fun e w' q => q.rd wk_cycles
  have DI : ∀ {W : World} {gb : Nat} {mg : Gm} (fa : Option Addr) (fc : Nat), GrAt W gb 4 mg wkE (fun a b => wkE b a) → RdI W fa [1] → Calls Try.prog 19 #[.pointer (some ⟨gb, 0, none⟩), .slice fa 1 fc] W fun e w' => ∃ a c, e = .returned (.slice a 4 c) ∧ RdI w' a [0, 1, 2, 3] ∧ Upd W w' (fun _ => False) := fun fa fc h hr => (Dirty_any h fa fc [1] hr (by decide)).mono fun e w' q => q.rd wk_dirty
  have OR : ∀ {W : World} {gb : Nat} {mg : Gm} {D : Nat → Nat → Bool} (fa : Option Addr) (fc : Nat), GrAt W gb 4 mg wkE D → RdI W fa [0, 1, 2, 3] → Calls Try.prog 20 #[.pointer (some ⟨gb, 0, none⟩), .slice fa 4 fc] W fun e w' => ∃ a c, e = .returned (.slice a 2 c) ∧ RdI w' a [0, 3] ∧ Upd W w' (fun _ => False) := fun fa fc h hr => (Order_any h fa fc [0, 1, 2, 3] hr (by decide)).mono fun e w' q => q.rd wk_order
  have E4 : ∀ (W : World) (a b : Option Addr) (ca cb : Nat) (x0 x1 x2 x3 : Int), RdI W a [x0, x1, x2, x3] → RdI W b [x0, x1, x2, x3] → Calls Try.prog 12 #[.slice a 4 ca, .slice b 4 cb] W fun e w' => e = .returned (.bool true) ∧ Upd W w' (fun _ => False) := fun W a b ca cb x0 x1 x2 x3 h1 h2 => equal_true W a b ca cb [x0, x1, x2, x3] h1 h2 (by simp)
  have E2 : ∀ (W : World) (a b : Option Addr) (ca cb : Nat) (x0 x1 : Int), RdI W a [x0, x1] → RdI W b [x0, x1] → Calls Try.prog 12 #[.slice a 2 ca, .slice b 2 cb] W fun e w' => e = .returned (.bool true) ∧ Upd W w' (fun _ => False) := fun W a b ca cb x0 x1 h1 h2 => equal_true W a b ca cb [x0, x1] h1 h2 (by simp)
  have HPA := @hide _ @PA
  have HCY := @hide _ @CY
  have HDI := @hide _ @DI
  have HOR := @hide _ @OR
  have HE4 := hide E4
  have HE2 := hide E2
  have HU0 : Hid (Upd w (w.alloc (.cells #[.int .i64 0, .int .i64 1, .int .i64 1, .int .i64 2, .int .i64 2, .int .i64 1, .int .i64 3, .int .i64 0] 37)) (fun _ => False)) := hide ((Upd.refl w _).alloc _)
  have HGS := hide GS
  clear PA CY DI OR E4 E2 GS
  go_enter Try.func11, Try.ntmps11
  go_wp2_with (first
    | (go_at_call 10; go_loud (refine Calls.mono HGS.out ?_); rintro e w1 ⟨gb, mg, rb, rv, rf, rfl, g1, -, u1⟩; have HG1 := hide g1; have HU1 := hide u1; clear g1 u1)
    | (go_at_call 13; go_loud (refine Calls.mono (HPA.out HG1.out) ?_); rintro e w2 ⟨a2, c2, rfl, r2, u2⟩; have HR2 := hide r2; have HU2 := hide u2; clear r2 u2)
    | (go_at_call 12; with_reducible refine Calls.mono (HE4.out _ a2 _ c2 _ 0 1 1 3 (HR2.out.upd ((Upd.refl w2 _).alloc _)) (RdI_new4 w2 0 1 1 3 3)) ?_; rintro e w3 ⟨rfl, u3⟩; have HU3 := hide ((HU2.out.alloc _).then u3 (fun _ _ => id)); clear u3)
    | (go_at_call 15; go_loud (refine Calls.mono (HCY.out (HG1.out.upd HU3.out (fun _ _ => id))) ?_); rintro e w4 ⟨a4, c4, rfl, r4, u4⟩; have HR4 := hide r4; have HU4 := hide (HU3.out.then u4 (fun _ _ => id)); clear r4 u4)
    | (go_at_call 12; with_reducible refine Calls.mono (HE2.out _ a4 _ c4 _ 1 2 (HR4.out.upd ((Upd.refl w4 _).alloc _)) (RdI_new2 w4 1 2 3)) ?_; rintro e w5 ⟨rfl, u5⟩; have HU5 := hide ((HU4.out.alloc _).then u5 (fun _ _ => id)); clear u5)
    | (go_at_call 19; go_loud (refine Calls.mono (HDI.out _ _ (HG1.out.upd (HU5.out.alloc _) (fun _ _ => id)) (RdI_new1 w5 1 3)) ?_); rintro e w6 ⟨a6, c6, rfl, r6, u6⟩; have HR6 := hide r6; have HU6 := hide ((HU5.out.alloc _).then u6 (fun _ _ => id)); clear r6 u6)
    | (go_at_call 12; with_reducible refine Calls.mono (HE4.out _ a6 _ c6 _ 0 1 2 3 (HR6.out.upd ((Upd.refl w6 _).alloc _)) (RdI_new4 w6 0 1 2 3 3)) ?_; rintro e w7 ⟨rfl, u7⟩; have HU7 := hide ((HU6.out.alloc _).then u7 (fun _ _ => id)); clear u7)
    | (go_at_call 20; go_loud (refine Calls.mono (HOR.out _ _ (HG1.out.upd (HU7.out.alloc _) (fun _ _ => id)) (RdI_new4 w7 0 1 2 3 3)) ?_); rintro e w8 ⟨a8, c8, rfl, r8, u8⟩; have HR8 := hide r8; have HU8 := hide ((HU7.out.alloc _).then u8 (fun _ _ => id)); clear r8 u8)
    | (go_at_call 12; with_reducible refine Calls.mono (HE2.out _ a8 _ c8 _ 0 3 (HR8.out.upd ((Upd.refl w8 _).alloc _)) (RdI_new2 w8 0 3 3)) ?_; rintro e w9 ⟨rfl, u9⟩; have HU9 := hide ((HU8.out.alloc _).then u9 (fun _ _ => id)); clear u9))
  go_ret
  exact ⟨rfl, (HU0.out.then HU1.out (fun _ _ => id)).then HU9.out (fun _ _ => id)⟩
end Go.Proofs.Ytnhggncpebifhaa
