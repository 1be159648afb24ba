/- The reference's graph: a table; has, New. -/
import Derived.Test.YtnhggncpebifhaaGrY
import Derived.Deep.AppendLies
set_option maxRecDepth 100000
namespace Go.Proofs.Ytnhggncpebifhaa
open Go.RowKit Go.Lat Go.Tarjan

def MatAt (base : Nat) (w : World) (v : Value) (n m : Nat) (f : Nat → Value) (C : Nat → Nat → Bool) : Prop := RwsAt base w 51 4 v n f (fun i => fRow m (boolR (C i)))
section
variable {base : Nat} {w w' : World} {v : Value} {n m : Nat} {f : Nat → Value} {C : Nat → Nat → Bool}
theorem MatAt.quiet (h : MatAt base w v n m f C) (u : Upd w w' (fun _ => False)) : MatAt base w' v n m f C := RwsAt.quiet h u
theorem MatAt.congr (h : MatAt base w v n m f C) {D : Nat → Nat → Bool} (e : ∀ i k, i < n → k < m → C i k = D i k) : MatAt base w v n m f D :=
  RwsAt.congr h (fun i hi => fRow_congr (fun k hk => by simp [boolR, e i k hi hk]))
theorem MatAt.at (h : MatAt base w v n m f C) {i k : Nat} (hi : i < n) (hk : k < m) :
    ∃ sg so sc rg ro rc, v = .slice (some ⟨sg, so, none⟩) n sc ∧ f i = .slice (some ⟨rg, ro, none⟩) m rc ∧ sg < w.heap.size ∧ rg < w.heap.size ∧ w.cell? ⟨sg, so + i, none⟩ = some (.slice (some ⟨rg, ro, none⟩) m rc) ∧ w.cell? ⟨rg, ro + k, none⟩ = some (.bool (C i k)) ∧ w.frozen? ⟨rg, ro + k, none⟩ = false := by
  obtain ⟨sa, sc, hv⟩ := slice_form h.spine
  have hs := h.spine
  rw [hv] at hs
  obtain ⟨sg, so, hsa, hsl, s0, -⟩ := Rw.cell1 hs hi
  subst hsa
  have hr : Rw w 4 1 (f i) (fRow m (boolR (C i))).length (fRow m (boolR (C i))) := RwsAt.row h i hi
  rw [fRow_len] at hr
  obtain ⟨ra, rc, hf⟩ := slice_form hr
  rw [hf] at hr s0
  obtain ⟨rg, ro, hra, hrl, r0, r1⟩ := Rw.cell1 hr hk
  subst hra
  exact ⟨sg, so, sc, rg, ro, rc, hv, hf, hsl, hrl, s0, r0, r1⟩
def setE (C : Nat → Nat → Bool) (a b : Nat) (x : Bool) : Nat → Nat → Bool := fun i k => if i = a ∧ k = b then x else C i k
theorem MatAt.set (h : MatAt base w v n m f C) {i k : Nat} (hi : i < n) (hk : k < m) {rg ro rc : Nat} (hf : f i = .slice (some ⟨rg, ro, none⟩) m rc) (x : Bool) : MatAt base (w.setCell ⟨rg, ro + k, none⟩ (.bool x)) v n m f (setE C i k x) ∧ Upd w (w.setCell ⟨rg, ro + k, none⟩ (.bool x)) (fun j => rowsOwn v n f j) := by
  have hr : Rw w 4 1 (f i) (fRow m (boolR (C i))).length (fRow m (boolR (C i))) := RwsAt.row h i hi
  rw [fRow_len, hf] at hr
  have q := Rw.set1 hr k hk (.bool x)
  rw [boolR_upd] at q
  have hown : (f i).ownBlock = some rg := by rw [hf]; rfl
  have u : Upd w (w.setCell ⟨rg, ro + k, none⟩ (.bool x)) (fun j => (f i).ownBlock = some j) := (Upd.refl w _).setCell _ _ (.inr hown)
  refine ⟨?_, u.weaken (fun j _ q => .inr ⟨i, hi, q⟩)⟩
  have q2 := RwsAt.inrow h hi u (M := fRow m (boolR (updF (C i) k x))) (by rw [fRow_len, hf]; exact q)
  refine RwsAt.congr q2 (fun a ha => ?_)
  by_cases e : a = i
  · subst e
    rw [updF_same]
    refine fRow_congr (fun b hb => ?_)
    unfold boolR updF setE
    by_cases e2 : b = k
    · simp [e2]
    · simp [e2]
  · rw [updF_other _ _ _ e]
    refine fRow_congr (fun b hb => ?_)
    unfold boolR setE
    simp [e]
end
/-- A row of the call's own is appended. -/
theorem MatAt.snoc {base : Nat} {wr w1 w4 : World} {va ga : Option Addr} {vc gc j m N : Nat} {f : Nat → Value} {C : Nat → Nat → Bool} {g : Nat → Bool} {x : Value} (h : MatAt base wr (.slice va j vc) j m f C) (u1 : Upd wr w1 (fun _ => False)) (hx : Rw w1 4 1 x m (fRow m (boolR g))) (xo : ∀ k, x.ownBlock = some k → wr.heap.size ≤ k) (hb : base ≤ wr.heap.size)
    (hA : Rw w4 51 1 (.slice ga (j + 1) gc) (j + 1) (fRow j f ++ [x])) (u : Upd w1 w4 (fun k => (Value.slice va j vc).ownBlock = some k)) (hN : w1.heap.size ≤ N) (ho : (Value.slice ga (j + 1) gc).ownBlock = (Value.slice va j vc).ownBlock ∨ (Value.slice ga (j + 1) gc).ownBlock = some N) :
    MatAt base w4 (.slice ga (j + 1) gc) (j + 1) m (updF f j x) (fun i => if i = j then g else C i) ∧ (∀ k, rowsOwn (.slice ga (j + 1) gc) (j + 1) (updF f j x) k → rowsOwn (.slice va j vc) j f k ∨ wr.heap.size ≤ k) := by
  have hs := u1.size
  have q := RwsAt.snoc (RwsAt.quiet h u1) (x := x) (M := fRow m (boolR g)) (by rw [fRow_len]; exact hx) (fun k z => ⟨Nat.le_trans hb (xo k z), fun z2 => by have := RwsAt.lt h z2; have := xo k z; omega⟩) hA u hN (by omega) ho
  refine ⟨RwsAt.congr q (fun i _ => ?_), fun k z => ?_⟩
  · by_cases e : i = j
    · subst e
      rw [updF_same]
      show _ = fRow m (boolR (if i = i then g else C i))
      rw [if_pos rfl]
    · rw [updF_other _ _ _ e]
      show _ = fRow m (boolR (if i = j then g else C i))
      rw [if_neg e]
  · rcases z with z | ⟨i, hi, z⟩
    · rcases ho with e | e
      · exact .inl (.inl (e.symm.trans z))
      · have := Option.some.inj (e.symm.trans z)
        exact .inr (by omega)
    · by_cases e : i = j
      · subst e
        rw [updF_same] at z
        exact .inr (xo k z)
      · rw [updF_other _ _ _ e] at z
        exact .inl (.inr ⟨i, by omega, z⟩)
structure RgAt (base : Nat) (w : World) (rb n : Nat) (v : Value) (f : Nat → Value) (C : Nat → Nat → Bool) : Prop where
  c : w.heap[rb]? = some (.cells #[.int .i64 (n : Int), v] 54 (0, 0))
  m : MatAt base w v n n f C
  off : ¬ rowsOwn v n f rb
  bb : base ≤ rb
theorem RgAt.upd {base : Nat} {w w' : World} {rb n : Nat} {v : Value} {f : Nat → Value} {C : Nat → Nat → Bool} (h : RgAt base w rb n v f C) {S : Nat → Prop} (u : Upd w w' S) (hd : ∀ k, k = rb ∨ rowsOwn v n f k → ¬ S k) : RgAt base w' rb n v f C :=
  ⟨u.get h.c (hd rb (.inl rfl)), RwsAt.upd h.m u (fun k q => hd k (.inr q)), h.off, h.bb⟩
theorem RgAt.quiet {base : Nat} {w w' : World} {rb n : Nat} {v : Value} {f : Nat → Value} {C : Nat → Nat → Bool} (h : RgAt base w rb n v f C) (u : Upd w w' (fun _ => False)) : RgAt base w' rb n v f C := h.upd u (fun _ _ => id)
/-- Is a number in a list? -/
theorem Rhas_any (w : World) (fa : Option Addr) (fc : Nat) (fr : List Int) (hf : RdI w fa fr) (hl : fr.length ≤ 9223372036854775807) (z : Int) :
    Calls Try.prog 34 #[.slice fa fr.length fc, .int .i64 z] w fun e w' => e = .returned (.bool (decide (z ∈ fr))) ∧ w' = w := by
  obtain ⟨N, hN⟩ : ∃ N, fr.length = N := ⟨_, rfl⟩
  rw [hN] at hl ⊢
  have HF := hide hf
  have HN := hide hN
  clear hf hN
  go_enter Try.func34, Try.ntmps34
  go_wp2_with fail
  go_loopg [5] (N + 1) (fun q jv wr => ∃ j, j ≤ N ∧ N - j < q ∧ jv = .int .i64 (j : Nat) ∧ z ∉ fr.take j ∧ wr = w)
  case atStart => exact ⟨0, by omega, by omega, rfl, by simp, rfl⟩
  case round =>
    obtain ⟨j, hj, hq, rfl, hn, rfl⟩ := hrel
    by_cases hjN : j < N
    · obtain ⟨x, hx⟩ : ∃ x, fr[j]? = some x := ⟨_, List.getElem?_eq_getElem (by rw [HN.out]; exact hjN)⟩
      obtain ⟨g, off, rfl, hgl, e0⟩ := HF.out j x hx
      have j0 : (0 : Int) ≤ (j : Int) := by omega
      have j1 : (j : Int) < (N : Int) := by omega
      by_cases hxz : x = z
      · subst hxz
        have e : decide (x ∈ fr) = true := by simpa using List.mem_of_getElem? hx
        have HE := hide e
        clear hx hn e
        go_wp2_with fail
        go_ret
        exact ⟨by rw [HE.out]; rfl, rfl⟩
      · have hb : (x == z) = false := by simpa using hxz
        have HX := hide hx
        have HNN := hide hn
        have HXZ := hide hxz
        clear hx hn hxz
        go_wp2_with fail
        go_roundg (gk - 1)
        case measure => omega
        case rel => exact ⟨j + 1, by omega, by omega, by go_num, by
          rw [List.take_add_one, HX.out]
          simp only [Option.toList_some, List.mem_append, List.mem_singleton]
          exact fun q => q.elim HNN.out (fun e => HXZ.out e.symm), rfl⟩
    · have j1 : ¬ (j : Int) < (N : Int) := by omega
      have hjn : j = N := by omega
      have e : decide (z ∈ fr) = false := by
        rw [hjn, ← HN.out, List.take_length] at hn
        simpa using hn
      have HE := hide e
      clear hn e hjn
      go_wp2_with fail
      go_ret
      exact ⟨by rw [HE.out]; rfl, rfl⟩
theorem infoBs : (Try.prog.info? 51).map (fun i => (i.zero, i.size, i.bytes)) = some (some (.slice none 0 0), 1, 24) := by kernel_rfl
set_option maxHeartbeats 1600000 in
theorem Rnew_any (w : World) (n : Nat) (hn : n ≤ 4096) : Calls Try.prog 28 #[.int .i64 (n : Int)] w fun e w' => ∃ rb v f, e = .returned (.pointer (some ⟨rb, 0, none⟩)) ∧ RgAt w.heap.size w' rb n v f (fun _ _ => false) ∧ Upd w w' (fun _ => False) := by
  have MB := fun w => mkB n hn w
  obtain ⟨i0, hi, hz0, hz1, hz2⟩ := info_parts infoBs
  have o0 := heap_alloc_new w (.cells #[.int .i64 (n : Int), .slice none 0 0] 54)
  have u0 : Upd w (w.alloc (.cells #[.int .i64 (n : Int), .slice none 0 0] 54)) (fun _ => False) := (Upd.refl w _).alloc _
  obtain ⟨rb, hrb⟩ : ∃ b, w.heap.size = b := ⟨_, rfl⟩
  obtain ⟨W1, hW1⟩ : ∃ W, w.alloc (.cells #[.int .i64 (n : Int), .slice none 0 0] 54) = W := ⟨_, rfl⟩
  rw [hW1] at o0 u0
  rw [hrb] at o0
  have HO := hide o0
  have HU := hide u0
  have HRB := hide hrb
  have HW1 := hide hW1
  clear o0 u0 hrb hW1
  go_enter Try.func28, Try.ntmps28
  go_wp2_with fail
  rw [HW1.out, HRB.out]
  go_loopg [4] (n + 1) (fun q jv wr => ∃ j va vc f, j ≤ n ∧ n - j < q ∧ jv = .int .i64 (j : Nat) ∧ wr.heap[rb]? = some (.cells #[.int .i64 (n : Int), .slice va j vc] 54 (0, 0)) ∧ MatAt w.heap.size wr (.slice va j vc) j n f (fun _ _ => false) ∧ ¬ rowsOwn (.slice va j vc) j f rb ∧ Upd w wr (fun _ => False))
  case atStart => exact ⟨0, none, 0, fun _ => .slice none 0 0, by omega, by omega, rfl, HO.out, RwsAt.nil _ _ _ _ _ _, fun q => by
    rcases q with q | ⟨i, hi, _⟩
    · simp [Value.ownBlock] at q
    · omega, HU.out⟩
  case round =>
    obtain ⟨j, va, vc, f, hj, hq, rfl, oc, hm, hno, uw⟩ := hrel
    by_cases hjn : j < n
    · have j1 : (j : Int) < (n : Int) := by omega
      obtain ⟨d0, d1⟩ := cells2 oc
      have lb := lt_at oc
      have z1 := free_at oc 1
      have hsz : (wr.alloc (.cells (madeCells #[.bool false] n) 4)).heap.size = wr.heap.size + 1 := by simp
      have hmd := Rw.made (wr.alloc (.cells (madeCells #[.bool false] n) 4)) #[.slice (some ⟨wr.heap.size, 0, none⟩) n n] 51 1 1 rfl
      rw [hsz] at hmd
      have hsp := hm.spine
      have hnb : (Value.slice va j vc).ownBlock ≠ some rb := fun q => hno (.inl q)
      have HMD := hide hmd
      have HSP := hide hsp
      have HNB := hide hnb
      have HOC := hide oc
      have HM := hide hm
      have HNO := hide hno
      have HUW := hide uw
      have HSZ := hide hsz
      have hj6 : j ≤ 4096 := by omega
      clear oc hm hno uw hmd hsp hnb hsz
      go_wp2_with fail
      go_region_law (first
        | (refine step_append_rw _ (by rfl) _ _ 52 52 (by rfl) 51 _ i0 _ 1 24 Try.underlying52 Try.underlying52 (by simp) hi hz0 hz1 hz2 rfl _ j _ (by rfl) (((HSP.out.alloc _).alloc _).drew) _ 1 [.slice (some ⟨wr.heap.size, 0, none⟩) n n] (by rfl) (HMD.out.drew).src rfl (by simp [Value.oneCell']) (by omega) (by omega) ?_; intro ga gc w4 hA hg4 hob'; have u4 : Upd wr w4 (fun k => (Value.slice va j vc).ownBlock = some k) := (((Upd.refl wr _).alloc _).alloc _).drew.grown hg4 (fun k e => .inr e); have d4 := (u4.cell rb 1 lb HNB.out).trans d1; have z4 : w4.frozen? ⟨rb, 1, none⟩ = false := (frozen_of u4 lb HNB.out).trans z1; have l4 := Nat.lt_of_lt_of_le lb u4.size))
      all_goals go_wp2_with fail
      all_goals
        have u41 : Upd (wr.alloc (.cells (madeCells #[.bool false] n) 4)) w4 (fun k => (Value.slice va j vc).ownBlock = some k) := ((Upd.refl _ _).alloc _).drew.grown hg4 (fun k e => .inr e)
        obtain ⟨m4, o4⟩ := HM.out.snoc (g := fun _ => false) ((Upd.refl wr (fun _ => False)).alloc _) (Rw.made1 wr 4 n (.bool false)) (fun k q => by have e : wr.heap.size = k := Option.some.inj q; omega) HUW.out.size hA u41 (by simp [World.drew]) hob'
        have hnr : ¬ rowsOwn (.slice ga (j + 1) gc) (j + 1) (updF f j (.slice (some ⟨wr.heap.size, 0, none⟩) n n)) rb := fun q => by
          rcases o4 rb q with z | z
          · exact HNO.out z
          · omega
        have ur : Upd w4 (w4.setCell ⟨rb, 1, none⟩ (.slice ga (j + 1) gc)) (fun k => k = rb) := (Upd.refl w4 _).setCell _ _ (.inr rfl)
        have hwb : w.heap.size ≤ rb := Nat.le_of_eq HRB.out
        go_roundg (gk - 1)
        case measure => omega
        case rel => exact ⟨j + 1, ga, gc, _, by omega, by omega, by go_num, by
          have := block_setCell (u4.get HOC.out HNB.out) 1 (.slice ga (j + 1) gc)
          simpa using this, RwsAt.upd (MatAt.congr m4 (D := fun _ _ => false) (fun i k _ _ => by split <;> rfl)) ur (fun k q e => hnr (by rw [← e]; exact q)), hnr, (HUW.out.then u4 (fun k hk q => RwsAt.base HM.out k (.inl q) |> fun z => by omega)).setCell _ _ (.inl hwb)⟩
    · have j1 : ¬ (j : Int) < (n : Int) := by omega
      have hjn2 : j = n := by omega
      subst hjn2
      have HOC := hide oc
      have HM := hide hm
      have HNO := hide hno
      have HUW := hide uw
      clear oc hm hno uw
      go_wp2_with fail
      go_ret
      exact ⟨rb, rfl, ⟨_, f, HOC.out, HM.out, HNO.out, Nat.le_of_eq HRB.out⟩, HUW.out⟩
end Go.Proofs.Ytnhggncpebifhaa
