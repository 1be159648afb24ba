/- The walks of package web's New, Known and Forget. -/
import Derived.Test.YtcdimledeomahaaMaps
import Derived.Carry
import Derived.ProofKit
set_option maxRecDepth 100000
namespace Go.Proofs.Ytcdimledeomahaa
open Go.RowKit Go.Lat
open Go.Maps (Keyed)

theorem strK : Keyed Try.prog 9 := Go.Maps.string_keyed Try.underlying9
abbrev noKnown : Value := .agg #[.int .i64 0, .slice none 0 0]
theorem zeroKnown (w : World) : (zeroValue 89).run Try.prog w = .ok noKnown w := by kernel_rfl

/-- A web: its block, its map's block, and what the map holds. -/
structure WebAt (w : World) (b bm n : Nat) (D : DataW Value) : Prop where
  c : w.heap[b]? = some (.cells #[.map (some bm)] 87 (0, 0))
  m : w.ownsMap Try.prog 9 heldElem bm n D

theorem WebAt.ne {w : World} {b bm n : Nat} {D : DataW Value} (h : WebAt w b bm n D) : b ≠ bm := by
  intro e
  subst e
  obtain ⟨es, clock, hb, _⟩ := h.m
  rw [h.c] at hb
  cases hb

theorem New_any (w : World) : Calls Try.prog 8 #[] w fun e w' => e = .returned (.pointer (some ⟨w.heap.size + 1, 0, none⟩)) ∧ WebAt w' (w.heap.size + 1) w.heap.size 0 (.map []) ∧ Upd w w' (fun _ => False) := by
  have hmm := @run_makeMap Try.prog
  go_enter Try.func8, Try.ntmps8
  go_wp2_with fail
  go_ret
  refine ⟨by simp, ⟨?_, ?_⟩, ((Upd.refl w _).alloc _).alloc _⟩
  · have := heap_alloc_new (w.alloc (.map #[] 0)) (.cells #[.map (some w.heap.size)] 87 (0, 0))
    simpa using this
  · exact (World.ownsMap_made w Try.prog 9 heldElem).alloc _

theorem Known_nil (w : World) (s : ByteArray) : Calls Try.prog 15 #[.pointer none, .string s] w fun e w' => e = .returned (.tuple #[.int .i64 0, .int .i64 0]) ∧ w' = w := by
  go_enter Try.func15, Try.ntmps15
  go_wp2_with fail
  go_ret2
  exact ⟨rfl, rfl⟩

theorem Known_any (w : World) (b bm n : Nat) (D : DataW Value) (h : WebAt w b bm n D) (s : ByteArray) (hs : s.size ≤ maxLen) (ver : Int) (a : Option Addr) (len cap : Nat) (hv : D.atKey (.string s.data.toList) (.held noKnown) = .held (.agg #[.int .i64 ver, .slice a len cap])) :
    Calls Try.prog 15 #[.pointer (some ⟨b, 0, none⟩), .string s] w fun e w' => e = .returned (.tuple #[.int .i64 ver, .int .i64 len]) ∧ Upd w w' (fun _ => False) := by
  have c0 := cells1 h.c
  have hm := h.m
  go_enter Try.func15, Try.ntmps15
  go_wp2_with (at_lookup; refine wpList_lookup_held _ rfl _ _ 85 rfl 9 89 strK Try.underlying85 _ _ (zeroKnown _) bm n D rfl hm _ _ rfl (Go.WideMaps.keyOf_string_mk Try.underlying9 hs) hv ?_)
  go_quiet (fail)
  go_wp2_with fail
  go_ret2
  exact ⟨rfl, ((Upd.refl w _).alloc _).drewN _⟩
end Go.Proofs.Ytcdimledeomahaa
