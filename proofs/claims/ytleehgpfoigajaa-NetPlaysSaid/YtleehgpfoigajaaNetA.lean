/- The walks of package net's New, Lost, Len and Look. -/
import Derived.Test.YtleehgpfoigajaaNetK
import Derived.Test.YtleehgpfoigajaaCap
import Derived.Test.YtleehgpfoigajaaShelfN
import Derived.Carry
set_option maxRecDepth 100000
namespace Go.Proofs.Ytleehgpfoigajaa
open Go.RowKit Go.Lat

/-- A network: its block, its map's block, what the map holds, and how many were lost. -/
structure NetAt (w : World) (b bm n : Nat) (D : DataW Value) (lost : Nat) : Prop where
  c : w.heap[b]? = some (.cells #[.map (some bm), .int .i64 lost] 54 (0, 0))
  m : w.ownsMap Try.prog 56 heldElem bm n D

theorem NetAt.ne {w : World} {b bm n : Nat} {D : DataW Value} {lost : Nat} (h : NetAt w b bm n D lost) : b ≠ bm := by
  intro e
  subst e
  obtain ⟨es, clock, hb, _⟩ := h.m
  rw [h.c] at hb
  cases hb

theorem NetAt.upd {w w' : World} {S : Nat → Prop} {b bm n : Nat} {D : DataW Value} {lost : Nat} (h : NetAt w b bm n D lost) (u : Upd w w' S) (h1 : ¬ S b) (h2 : ¬ S bm) : NetAt w' b bm n D lost := by
  refine ⟨u.get h.c h1, ?_⟩
  obtain ⟨es, clock, hb, k⟩ := h.m
  exact ⟨es, clock, u.get hb h2, k⟩

theorem New_any (w : World) : Calls Try.prog 7 #[] w fun e w' => e = .returned (.pointer (some ⟨w.heap.size + 1, 0, none⟩)) ∧ NetAt w' (w.heap.size + 1) w.heap.size 0 (.map []) 0 ∧ Upd w w' (fun _ => False) := by
  have hmm := @run_makeMap Try.prog
  go_enter Try.func7, Try.ntmps7
  go_wp2_with fail
  go_ret
  refine ⟨by simp, ⟨?_, ?_⟩, ((Upd.refl w _).alloc _).alloc _⟩
  · have := heap_alloc_new (w.alloc (.map #[] 0)) (.cells #[.map (some w.heap.size), .int .i64 0] 54 (0, 0))
    simpa using this
  · exact (World.ownsMap_made w Try.prog 56 heldElem).alloc _

theorem Lost_any (w : World) (b bm n : Nat) (D : DataW Value) (lost : Nat) (h : NetAt w b bm n D lost) : Calls Try.prog 10 #[.pointer (some ⟨b, 0, none⟩)] w fun e w' => e = .returned (.int .i64 lost) ∧ w' = w := by
  have c1 := (cells2 h.c).2
  go_enter Try.func10, Try.ntmps10
  go_wp2_with fail
  go_ret
  exact ⟨rfl, rfl⟩

theorem Len_any (w : World) (b bm n : Nat) (D : DataW Value) (lost : Nat) (h : NetAt w b bm n D lost) (f t : ByteArray) (hf : f.size ≤ maxLen) (ht : t.size ≤ maxLen) (a : Option Addr) (len cap : Nat)
    (hv : D.atKey (pairLit f t) (.held (.slice none 0 0)) = .held (.slice a len cap)) :
    Calls Try.prog 13 #[.pointer (some ⟨b, 0, none⟩), .string f, .string t] w fun e w' => e = .returned (.int .i64 len) ∧ w' = w := by
  have c0 := (cells2 h.c).1
  have hm := h.m
  go_enter Try.func13, Try.ntmps13
  go_wp2_with (at_lookup; refine wpList_lookup_held _ rfl _ _ 52 rfl 56 57 pairK Try.underlying52 _ _ (zeroE _) bm n D rfl hm _ _ rfl (pair_key f t hf ht) hv ?_)
  go_ret
  exact ⟨rfl, rfl⟩

theorem Look_in (w : World) (b bm n : Nat) (D : DataW Value) (lost : Nat) (h : NetAt w b bm n D lost) (f t : ByteArray) (hf : f.size ≤ maxLen) (ht : t.size ≤ maxLen) (g off len cap i : Nat) (hi : i < len) (x : ByteArray)
    (hv : D.atKey (pairLit f t) (.held (.slice none 0 0)) = .held (.slice (some ⟨g, off, none⟩) len cap)) (hx : w.cell? ⟨g, off + i, none⟩ = some (.string x)) :
    Calls Try.prog 14 #[.pointer (some ⟨b, 0, none⟩), .string f, .string t, .int .i64 i] w fun e w' => e = .returned (.tuple #[.string x, .int .i64 0]) ∧ w' = w := by
  have c0 := (cells2 h.c).1
  have hm := h.m
  have L := Len_any w b bm n D lost h f t hf ht _ _ _ hv
  have d1 : decide ((i : Int) < 0) = false := by simp
  have d2 : decide (len ≤ i) = false := by simp; omega
  have j0 : (0 : Int) ≤ (i : Int) := Int.natCast_nonneg _
  have j1 : (i : Int) < (len : Int) := by omega
  go_enter Try.func14, Try.ntmps14
  go_wp2_with (at_lookup; refine wpList_lookup_held _ rfl _ _ 52 rfl 56 57 pairK Try.underlying52 _ _ (zeroE _) bm n D rfl hm _ _ rfl (pair_key f t hf ht) hv ?_)
  refine Calls.mono L ?_
  rintro e w' ⟨rfl, hw⟩
  replace hw := hw.symm
  subst hw
  go_wp2_with (at_lookup; refine wpList_lookup_held _ rfl _ _ 52 rfl 56 57 pairK Try.underlying52 _ _ (zeroE _) bm n D rfl hm _ _ rfl (pair_key f t hf ht) hv ?_)
  go_ret2
  exact ⟨rfl, rfl⟩

theorem Send_full (w : World) (b bm n : Nat) (D : DataW Value) (lost : Nat) (h : NetAt w b bm n D lost) (hl : lost ≤ 1000000) (f t s : ByteArray) (hf : f.size ≤ maxLen) (ht : t.size ≤ maxLen) (a : Option Addr) (len cap : Nat) (h256 : 256 ≤ len)
    (hv : D.atKey (pairLit f t) (.held (.slice none 0 0)) = .held (.slice a len cap)) :
    Calls Try.prog 8 #[.pointer (some ⟨b, 0, none⟩), .string f, .string t, .string s] w fun e w' => e = .returned (.bool false) ∧ NetAt w' b bm n D (lost + 1) ∧ Upd w w' (fun k => k = b) := by
  have c0 := (cells2 h.c).1
  have c1 := (cells2 h.c).2
  have f1 := free_at h.c 1
  have hl1 := look_held (h.m.alloc (.cells #[.string f, .string t] 56)) pairK Try.underlying52 (zeroE _) (pair_key f t hf ht) hv
  have hl2 := look_held (h.m.alloc (.cells #[.string f, .string t] 56)).drew pairK Try.underlying52 (zeroE _) (pair_key f t hf ht) hv
  have d1 : decide (256 ≤ len) = true := by simpa using h256
  have d2 : decide ((256 : Int) ≤ (len : Int)) = true := by simp; omega
  have w1 : IntKind.i64.wrap ((lost : Int) + 1) = (lost : Int) + 1 := IntWalk.i64_in _ (by omega)
  have blt := lt_at h.c
  go_enter Try.func8, Try.ntmps8
  go_wp2_with fail
  go_region
  go_wp2_with fail
  go_ret
  refine ⟨rfl, ⟨?_, (h.m.setCell h.ne.symm _).alloc _⟩, (((Upd.refl w (fun k => k = b)).setCell ⟨b, 1, none⟩ _ (.inr rfl)).alloc _).drew⟩
  have k := block_alloc (block_setCell h.c 1 (.int .i64 ((lost : Int) + 1))) (.cells #[.string f, .string t] 56)
  have k2 : ((w.setCell ⟨b, 1, none⟩ (.int .i64 ((lost : Int) + 1))).alloc (.cells #[.string f, .string t] 56)).heap[b]? = some (.cells #[.map (some bm), .int .i64 ((lost + 1 : Nat) : Int)] 54 (0, 0)) := by simpa using k
  exact k2

theorem Try.info9 : (Try.prog.info? 9).map (fun i => (i.zero, i.size, i.bytes)) = some (some (.string ⟨#[]⟩), 1, 16) := by kernel_rfl

theorem own_ne {o o' : Option Nat} {n bm : Nat} (h : o = o' ∨ o = some n) (h' : o' ≠ some bm) (hlt : bm < n) : o ≠ some bm := by
  rcases h with e | e
  · rw [e]; exact h'
  · rw [e]
    intro e2
    have := Option.some.inj e2
    omega
theorem own_new {o o' : Option Nat} {n m : Nat} (h : o = o' ∨ o = some n) (hle : m ≤ n) : o = o' ∨ ∃ k, o = some k ∧ m ≤ k := by
  rcases h with e | e
  · exact .inl e
  · exact .inr ⟨n, e, hle⟩

set_option maxHeartbeats 1600000 in
theorem Send_room (w : World) (b bm n : Nat) (D : DataW Value) (lost : Nat) (h : NetAt w b bm n D lost) (hn : n < 1000000) (f t s : ByteArray) (hf : f.size ≤ maxLen) (ht : t.size ≤ maxLen) (v : Value) (xs : List Value) (h256 : xs.length < 256) (hr : Rw w 9 1 v xs.length xs) (hc : capOk v)
    (hv : D.atKey (pairLit f t) (.held (.slice none 0 0)) = .held v) (nb : v.ownBlock ≠ some b) (nm : v.ownBlock ≠ some bm) :
    Calls Try.prog 8 #[.pointer (some ⟨b, 0, none⟩), .string f, .string t, .string s] w fun e w' => e = .returned (.bool true) ∧
      ∃ a c, c ≤ maxLen ∧ NetAt w' b bm (n + 1) (D.put (pairLit f t) (.held (.slice a (xs.length + 1) c))) lost ∧ Rw w' 9 1 (.slice a (xs.length + 1) c) (xs.length + 1) (xs ++ [.string s]) ∧
        ((Value.slice a (xs.length + 1) c).ownBlock = v.ownBlock ∨ ∃ k, (Value.slice a (xs.length + 1) c).ownBlock = some k ∧ w.heap.size ≤ k) ∧ Upd w w' (fun k => k = bm ∨ some k = v.ownBlock) := by
  have c0 := (cells2 h.c).1
  obtain ⟨sa, sc, rfl, -⟩ := Rw.form hr
  obtain ⟨i0, hin, hzA, hzB, hzC⟩ := info_parts Try.info9
  have hl1 := look_held (h.m.alloc (.cells #[.string f, .string t] 56)) pairK Try.underlying52 (zeroE _) (pair_key f t hf ht) hv
  have hl2 := look_held (h.m.alloc (.cells #[.string f, .string t] 56)).drew pairK Try.underlying52 (zeroE _) (pair_key f t hf ht) hv
  have blt := lt_at h.c
  have bmlt := h.m.lt
  obtain ⟨st, M1, E1, E1b, E1u, E2⟩ := entry_held pairLaw Try.underlying52 zeroE ((h.m.alloc (.cells #[.string f, .string t] 56)).alloc (.cells #[.string s] 9)).drew.drew (by unfold maxLen; omega) (pair_key f t hf ht) hv
  have u0 : Upd w (((w.alloc (.cells #[.string f, .string t] 56)).alloc (.cells #[.string s] 9)).drew.drew) (fun k => k = bm) := (((Upd.refl w _).alloc _).alloc _).drew.drew
  have rY : Rw (((w.alloc (.cells #[.string f, .string t] 56)).alloc (.cells #[.string s] 9)).drew.drew) 9 1 (.slice (some ⟨(w.alloc (.cells #[.string f, .string t] 56)).heap.size, 0, none⟩) 1 1) 1 [.string s] := Rw.made (w.alloc (.cells #[.string f, .string t] 56)) #[.string s] 9 1 1 rfl
  have hY : (w.alloc (.cells #[.string f, .string t] 56)).heap.size = w.heap.size + 1 := by simp
  rw [hY] at rY
  obtain ⟨W2, hW2⟩ : ∃ W2, Go.ChangeMaps.setBlock (((w.alloc (.cells #[.string f, .string t] 56)).alloc (.cells #[.string s] 9)).drew.drew) bm M1 = W2 := ⟨_, rfl⟩
  rw [hW2] at E1 E1b E1u
  clear hW2
  have u2 := u0.then E1u (fun _ _ => id)
  have nY : ∀ k, (Value.slice (some ⟨w.heap.size + 1, 0, none⟩) 1 1).ownBlock = some k → ¬ k = bm := by
    intro k hk e
    simp [Value.ownBlock] at hk
    omega
  have rY2 := E1u.rw rY nY
  have rv2 := u2.rw hr (fun k hk e => nm (by rw [hk, e]))
  have s2 := u2.size
  obtain ⟨L, hL⟩ : ∃ L, xs.length = L := ⟨_, rfl⟩
  rw [hL] at h256 hl1 hl2 hr hv rv2 E1 nb nm ⊢
  have d1 : decide (256 ≤ L) = false := by simp; omega
  have d2 : decide ((256 : Int) ≤ (L : Int)) = false := by simp; omega
  have HU2 := hide u2
  have HRY := hide rY2
  have HRV := hide rv2
  clear u0 rY hY E1u u2 rY2 rv2 hr nY
  go_enter Try.func8, Try.ntmps8
  go_wp2_with fail
  go_region
  go_wp2_with fail
  go_region_law (refine step_append_rwc _ (by rfl) _ _ 57 57 (by rfl) 9 _ i0 _ 1 16 Try.underlying57 Try.underlying57 (by simp) hin hzA hzB hzC rfl _ _ _ (by rfl) HRV.out hc _ _ _ (by rfl) (Rw.src HRY.out) HRY.out.1 (by simp [Value.oneCell']) (by omega) (by omega) (by omega) ?_; intro ga gc w4 hA hgc hg ho; obtain ⟨w5, E5, m5, g5⟩ := E2 w4 (.slice ga (L + 1) gc) (block_grown hg E1b nm); replace E5 : (Instr.entryStore 52 (.map (some bm)) (.int .i64 (st : Int)) (.slice ga (L + 1) gc)).run Try.prog w4 = .ok () w5 := E5)
  all_goals go_wp2_with fail
  all_goals go_ret
  all_goals have no := own_ne ho nm (by omega)
  all_goals exact ⟨rfl, ga, gc, hgc, ⟨block_grown g5 (block_grown hg (HU2.out.get h.c h.ne) nb) (fun e => h.ne (Option.some.inj e).symm), m5⟩, Rw.grown hA g5 (.inr no), own_new ho HU2.out.size,
    ((HU2.out.weaken (T := fun k => k = bm ∨ some k = (Value.slice sa L sc).ownBlock) (fun _ _ e => .inl e)).grown hg (fun k e => .inr (.inr e.symm))).grown g5 (fun k e => .inr (.inl (Option.some.inj e).symm))⟩
end Go.Proofs.Ytleehgpfoigajaa
