/- The walks of Reach, Dirty. -/
import Derived.Test.YtnhggncpebifhaaGrS
set_option maxRecDepth 100000
namespace Go.Proofs.Ytnhggncpebifhaa
open Go.RowKit Go.Lat Go.Tarjan

theorem Reach_any {w : World} {gb n : Nat} {mg : Gm} {E D : Nat → Nat → Bool} (hg : GrAt w gb n mg E D) (fa : Option Addr) (fc : Nat) (fr : List Int) (hf : RdI w fa fr) (hl : fr.length ≤ 9223372036854775807) :
    Calls Try.prog 17 #[.pointer (some ⟨gb, 0, none⟩), .slice fa fr.length fc] w (NatRes w (rowE n (reachB n (wrun E n) (fun k => decide ((k : Int) ∈ fr))))) := by
  have u0 : Upd w (w.alloc (.cells #[.pointer (some ⟨gb, 0, none⟩)] 23)) (fun _ => False) := (Upd.refl w _).alloc _
  have SP := spreadR_any (hg.upd u0 (fun _ _ => id)) (heap_alloc_new w (.cells #[.pointer (some ⟨gb, 0, none⟩)] 23)) fa fc fr (hf.upd u0) hl
  obtain ⟨N, hN⟩ : ∃ N, fr.length = N := ⟨_, rfl⟩
  rw [hN] at SP ⊢
  have HSP := hide SP
  have HU0 := hide u0
  clear hg hf hl hN SP u0
  go_enter Try.func17, Try.ntmps17
  go_wp2_with (go_at_call 32; go_loud (refine Calls.mono HSP.out ?_); rintro e w1 ⟨a, c, rfl, h1, h2, h3⟩)
  go_ret
  exact ⟨a, c, rfl, h1, fun k q => Nat.le_trans HU0.out.size (h2 k q), HU0.out.then h3 (fun _ _ => id)⟩
theorem Dirty_any {w : World} {gb n : Nat} {mg : Gm} {E D : Nat → Nat → Bool} (hg : GrAt w gb n mg E D) (fa : Option Addr) (fc : Nat) (fr : List Int) (hf : RdI w fa fr) (hl : fr.length ≤ 9223372036854775807) :
    Calls Try.prog 19 #[.pointer (some ⟨gb, 0, none⟩), .slice fa fr.length fc] w (NatRes w (rowE n (reachB n (wrun D n) (fun k => decide ((k : Int) ∈ fr))))) := by
  have u0 : Upd w (w.alloc (.cells #[.pointer (some ⟨gb, 0, none⟩)] 23)) (fun _ => False) := (Upd.refl w _).alloc _
  have SP := spreadD_any (hg.upd u0 (fun _ _ => id)) (heap_alloc_new w (.cells #[.pointer (some ⟨gb, 0, none⟩)] 23)) fa fc fr (hf.upd u0) hl
  obtain ⟨N, hN⟩ : ∃ N, fr.length = N := ⟨_, rfl⟩
  rw [hN] at SP ⊢
  have HSP := hide SP
  have HU0 := hide u0
  clear hg hf hl hN SP u0
  go_enter Try.func19, Try.ntmps19
  go_wp2_with (go_at_call 32; go_loud (refine Calls.mono HSP.out ?_); rintro e w1 ⟨a, c, rfl, h1, h2, h3⟩)
  go_ret
  exact ⟨a, c, rfl, h1, fun k q => Nat.le_trans HU0.out.size (h2 k q), HU0.out.then h3 (fun _ _ => id)⟩
end Go.Proofs.Ytnhggncpebifhaa
