/- The walk of package value's Put at every value. -/
import Derived.Test.YthahgablbdfodaaDoorJ04
import Derived.Test.YthahgablbdfodaaDoorJ03
import Derived.Lib.AppendStr
import Derived.Test.YthahgablbdfodaaDoorJ07
import Derived.Lib.TrimByte
/- The walk of package value's Put at every value. -/
set_option maxRecDepth 100000
namespace Go.Proofs.YthahgablbdfodaaDoor
open Go.RowKit Go.Lat Go.Lib

/-- What may be has one of five forms. -/
theorem good_forms {x : Vl} (h : goodV x = true) : x = ⟨0, 0, [], false, 0⟩ ∨ (∃ n, okNum n = true ∧ x = ⟨1, n, [], false, 0⟩) ∨ (∃ t : List UInt8, t.length ≤ 255 ∧ x = ⟨2, 0, t, false, 0⟩) ∨ (∃ b, x = ⟨3, 0, [], b, 0⟩) ∨ (∃ f, okFail f = true ∧ x = ⟨4, 0, [], false, f⟩) := by
  unfold goodV at h
  split at h
  · exact .inl (eqV_iff.1 h)
  · split at h
    · rename_i h0 h1
      have e := eqV_iff.1 h
      unfold mkN at e
      split at e
      · rename_i hn
        exact .inr (.inl ⟨x.n, hn, e⟩)
      · rw [e] at h1
        exact absurd h1 (by simp [mkE])
    · split at h
      · rename_i h0 h1 h2
        have e := eqV_iff.1 h
        unfold mkT at e
        split at e
        · rename_i hn
          exact .inr (.inr (.inl ⟨x.t, hn, e⟩))
        · rw [e] at h2
          exact absurd h2 (by simp [mkE])
      · split at h
        · exact .inr (.inr (.inr (.inl ⟨x.b, eqV_iff.1 h⟩)))
        · split at h
          · have e := eqV_iff.1 h
            unfold mkE at e
            cases hf : okFail x.f with
            | true =>
              rw [hf, if_pos rfl] at e
              exact .inr (.inr (.inr (.inr ⟨x.f, hf, e⟩)))
            | false =>
              rw [hf] at e
              simp only [Bool.false_eq_true, if_false] at e
              have : x.f = 3 := by rw [e]
              rw [this] at hf
              exact absurd hf (by decide)
          · exact absurd h (by simp)
/-- The bytes of a value, and its error. -/
def putV (x : Vl) : List UInt8 × Int :=
  if goodV x = true then
    ((if x.k = 0 then [0] else if x.k = 1 then 1 :: numBs x.n 8 else if x.k = 2 then 2 :: UInt8.ofNat x.t.length :: x.t else if x.k = 3 then [3, if x.b then 1 else 0] else [4, UInt8.ofNat x.f.toNat]), 0)
  else ([], 4)
abbrev PutPost (w : World) (p : List UInt8 × Int) : Ending → World → Prop := fun e w' => e = .returned (.tuple #[enS p.1, .int .i64 p.2]) ∧ Upd w w' (fun _ => False)
theorem srcStr {P : Program} (w : World) (s : List UInt8) : Src P w 1 (enS s) s.length (s.map fun b => .int .u8 (b.toNat : Int)) :=
  ⟨fun w' => by simp [Builtin.lenOf]; rfl, run_firstCells_string w 1 ⟨s.toArray⟩, run_firstCells_string w.drew 1 ⟨s.toArray⟩⟩
theorem srcMade {P : Program} (w : World) (x : Value) : Src P (w.alloc (.cells #[x] 5)) 1 (.slice (some ⟨w.heap.size, 0, none⟩) 1 1) 1 [x] := (Rw.made w #[x] 5 1 1 rfl).src

set_option maxHeartbeats 1600000 in
theorem Put_bad (w : World) (x : Vl) (hx : x.ok) (h : goodV x = false) : Calls Tryd.prog 8 #[x.val] w (PutPost w ([], 4)) := by
  have GA := fun w => Good_any w x hx
  rw [h] at GA
  obtain ⟨k0, n0, t0, b0, e0⟩ := x
  unfold Vl.val at GA ⊢
  simp only at GA ⊢
  clear h
  go_enter Tryd.func8, Tryd.ntmps8
  go_wp2_with fail
  refine Calls.mono (GA _) ?_
  rintro e w1 ⟨rfl, u1⟩
  go_wp2_with fail
  go_ret2
  exact ⟨rfl, ((Upd.refl w _).alloc _).then u1 (fun _ _ => id)⟩
set_option maxHeartbeats 1600000 in
theorem Put_blank (w : World) : Calls Tryd.prog 8 #[(Vl.mk 0 0 [] false 0).val] w (PutPost w ([0], 0)) := by
  have GA := fun w => Good_any w ⟨0, 0, [], false, 0⟩ vZero_ok
  rw [show goodV ⟨0, 0, [], false, 0⟩ = true from by decide] at GA
  unfold Vl.val at GA ⊢
  simp only at GA ⊢
  go_enter Tryd.func8, Tryd.ntmps8
  go_wp2_with fail
  refine Calls.mono (GA _) ?_
  rintro e w1 ⟨rfl, u1⟩
  have bX := u1.get (Vnew1 w (.cells (Vl.mk 0 0 [] false 0).cs 28)) id
  obtain ⟨c0, c1, c2, c3, c4⟩ := cells5 bX
  have xl := lt_at bX
  have HU := hide (((Upd.refl w _).alloc _).then u1 (fun _ _ => id))
  have cv := BtAt.back (w := w1.alloc (.cells #[.int .u8 0] 5)) (v := .slice (some ⟨w1.heap.size, 0, none⟩) 1 1) (l := [0]) (Rw.made w1 #[.int .u8 0] 5 1 1 rfl) (by simp)
  clear bX u1 GA
  go_wp2_with fail
  go_ret2
  exact ⟨rfl, HU.out.alloc _⟩
set_option maxHeartbeats 3200000 in
theorem Put_text (w : World) (t : List UInt8) (ht : t.length ≤ 255) : Calls Tryd.prog 8 #[(Vl.mk 2 0 t false 0).val] w (PutPost w (2 :: UInt8.ofNat t.length :: t, 0)) := by
  obtain ⟨ib, hi, hz0, hz1, hz2⟩ := info_parts Tryd.info5
  have hg : goodV ⟨2, 0, t, false, 0⟩ = true := by
    have e : mkT t = ⟨2, 0, t, false, 0⟩ := by unfold mkT; rw [if_pos ht]
    unfold goodV
    simp only [show ¬ ((2 : Int) = 0) by decide, show ¬ ((2 : Int) = 1) by decide, if_false, if_true]
    exact eqV_iff.2 e.symm
  have GA := fun w => Good_any w ⟨2, 0, t, false, 0⟩ ⟨i2, i0, Nat.le_trans ht (by decide), i0⟩
  rw [hg] at GA
  unfold Vl.val at GA ⊢
  simp only at GA ⊢
  have hlu : (t.length : Int) % 256 = ((UInt8.ofNat t.length).toNat : Int) := by
    rw [UInt8.toNat_ofNat']
    omega
  have HT := hide ht
  clear hg ht
  go_enter Tryd.func8, Tryd.ntmps8
  go_wp2_with fail
  refine Calls.mono (GA _) ?_
  rintro e w1 ⟨rfl, u1⟩
  have bX := u1.get (Vnew1 w (.cells (Vl.mk 2 0 t false 0).cs 28)) id
  obtain ⟨c0, c1, c2, c3, c4⟩ := cells5 bX
  have xl := lt_at bX
  have HU := hide (((Upd.refl w _).alloc _).then u1 (fun _ _ => id))
  have HX := hide bX
  clear bX u1 GA
  go_wp2_with fail
  obtain ⟨W, hW⟩ : ∃ W, w1.alloc (.cells #[.int .u8 2] 5) = W := ⟨_, rfl⟩
  have RA0 : Rw W.drew 5 1 (.slice (some ⟨w1.heap.size, 0, none⟩) 1 1) 1 [.int .u8 2] := hW ▸ (Rw.made w1 #[.int .u8 2] 5 1 1 rfl)
  have cW0 : W.cell? ⟨w.heap.size, 2, none⟩ = some (.string ⟨t.toArray⟩) := hW ▸ ((((Upd.refl w1 (fun _ => False)).alloc _).cell _ 2 xl id).trans c2)
  have xW : w.heap.size < W.heap.size := by rw [← hW]; simp; omega
  have UD : Upd w1 W.drew (fun _ => False) := hW ▸ ((Upd.refl w1 _).alloc _).drew
  have cW : W.drew.cell? ⟨w.heap.size, 2, none⟩ = some (.string ⟨t.toArray⟩) := (UD.cell _ 2 xl id).trans c2
  have RX : Rw (W.drew.alloc (.cells #[.int .u8 ((UInt8.ofNat t.length).toNat : Int)] 5)) 5 1 (.slice (some ⟨W.heap.size, 0, none⟩) 1 1) 1 [.int .u8 ((UInt8.ofNat t.length).toNat : Int)] := Rw.made W.drew _ _ 1 1 rfl
  rw [hW]
  have ht := HT.out
  clear hW c0 c1 c3 c4
  go_region_held3 (fun w' => w'.cell? ⟨w.heap.size, 2, none⟩ = some (.string ⟨t.toArray⟩))
    (first | exact cW | exact cA | exact cB | (go_keep; done))
    (first
    | (refine step_append_rw _ (by rfl) _ _ 55 55 (by rfl) 5 _ ib _ 1 1 Tryd.underlying55 Tryd.underlying55 (by simp) hi hz0 hz1 hz2 rfl _ 1 [.int .u8 2] (by rfl) (RA0.alloc _) _ 1 [.int .u8 ((UInt8.ofNat t.length).toNat : Int)] (by rfl) (Rw.src RX) rfl (by simp [Value.oneCell']) (by omega) (by omega) ?_; intro ga gca wa hva hga hoa; have ua : Upd w1 wa (fun _ => False) := Upd.grown (UD.alloc _) hga (fun j hj => .inl (by simp [Value.ownBlock] at hj; omega)); have cA : wa.cell? ⟨w.heap.size, 2, none⟩ = some (.string ⟨t.toArray⟩) := (ua.cell _ 2 xl id).trans c2; have oa : ∀ j, (Value.slice ga (1 + 1) gca).ownBlock = some j → w1.heap.size ≤ j := (fun j hj => by rcases hoa with e | e <;> (rw [e] at hj; simp [Value.ownBlock] at hj; have := UD.size; simp at this; omega)))
    | (refine step_append_rw _ (by rfl) _ _ 55 9 (by rfl) 5 _ ib _ 1 1 Tryd.underlying55 Tryd.underlying9 (by simp) hi hz0 hz1 hz2 rfl _ (1 + 1) ([.int .u8 2] ++ [.int .u8 ((UInt8.ofNat t.length).toNat : Int)]) (by rfl) hva _ t.length (t.map fun b => .int .u8 (b.toNat : Int)) (by rfl) (srcStr _ t) (by simp) (by intro u hu; simp at hu; obtain ⟨b, -, rfl⟩ := hu; rfl) (by omega) (by omega) ?_; intro gb gcb wb hvb hgb hob; have ub : Upd w1 wb (fun _ => False) := Upd.grown ua hgb (fun j hj => .inl (oa j hj)); have cB : wb.cell? ⟨w.heap.size, 2, none⟩ = some (.string ⟨t.toArray⟩) := (ub.cell _ 2 xl id).trans c2))
  all_goals (
    have cv := BtAt.back (w := wb) (v := .slice gb (2 + t.length) gcb) (l := 2 :: UInt8.ofNat t.length :: t) (by
      have e : (2 :: UInt8.ofNat t.length :: t).length = 2 + t.length := by simp; omega
      unfold BtAt
      rw [e]
      exact hvb) (by simp)
    go_wp2_with fail
    go_ret2
    exact ⟨rfl, HU.out.then ub (fun _ _ => id)⟩)
set_option maxHeartbeats 3200000 in
theorem Put_bool_true (w : World) : Calls Tryd.prog 8 #[(Vl.mk 3 0 [] true 0).val] w (PutPost w ([3, 1], 0)) := by
  obtain ⟨ib, hi, hz0, hz1, hz2⟩ := info_parts Tryd.info5
  have GA := fun w => Good_any w (Vl.mk 3 0 [] true 0) (mkB_ok true)
  rw [show goodV ⟨3, 0, [], true, 0⟩ = true from by decide] at GA
  unfold Vl.val at GA ⊢
  simp only at GA ⊢
  go_enter Tryd.func8, Tryd.ntmps8
  go_wp2_with fail
  refine Calls.mono (GA _) ?_
  rintro e w1 ⟨rfl, u1⟩
  have bX := u1.get (Vnew1 w (.cells (Vl.mk 3 0 [] true 0).cs 28)) id
  obtain ⟨c0, c1, c2, c3, c4⟩ := cells5 bX
  have xl := lt_at bX
  have HU := hide (((Upd.refl w _).alloc _).then u1 (fun _ _ => id))
  clear bX u1 GA
  go_wp2_with fail
  refine Calls.mono (rank_any _ true) ?_
  rintro e w' ⟨rfl, hw⟩
  replace hw := hw.symm
  subst hw
  have RA0 : Rw (w1.alloc (.cells #[.int .u8 3] 5)) 5 1 (.slice (some ⟨w1.heap.size, 0, none⟩) 1 1) 1 [.int .u8 3] := Rw.made w1 #[.int .u8 3] 5 1 1 rfl
  have RX : Rw ((w1.alloc (.cells #[.int .u8 3] 5)).alloc (.cells #[.int .u8 1] 5)) 5 1 (.slice (some ⟨w1.heap.size + 1, 0, none⟩) 1 1) 1 [.int .u8 1] := by
    have h := Rw.made (w1.alloc (.cells #[.int .u8 3] 5)) #[.int .u8 1] 5 1 1 rfl
    simpa using h
  have UD : Upd w1 (w1.alloc (.cells #[.int .u8 3] 5)) (fun _ => False) := (Upd.refl w1 _).alloc _
  go_wp2_with (at_builtin; go_loud (refine wpList_append_rw _ rfl _ _ 55 55 rfl 5 _ ib _ 1 1 Tryd.underlying55 Tryd.underlying55 (by simp) hi hz0 hz1 hz2 rfl _ 1 [.int .u8 3] rfl (RA0.alloc _) _ 1 [.int .u8 1] rfl (Rw.src RX) rfl (by simp [Value.oneCell']) (by omega) (by omega) ?_); intro ga gca wa hva hga hoa; go_loud (have ua : Upd w1 wa (fun _ => False) := Upd.grown (UD.alloc _) hga (fun j hj => .inl (by have hj' : (some w1.heap.size : Option Nat) = some j := hj; have := Option.some.inj hj'; omega))); go_loud (have cv := BtAt.back (w := wa) (v := .slice ga (1 + 1) gca) (l := [3, 1]) hva (by simp)))
  go_ret2
  exact ⟨rfl, HU.out.then ua (fun _ _ => id)⟩
set_option maxHeartbeats 3200000 in
theorem Put_bool_false (w : World) : Calls Tryd.prog 8 #[(Vl.mk 3 0 [] false 0).val] w (PutPost w ([3, 0], 0)) := by
  obtain ⟨ib, hi, hz0, hz1, hz2⟩ := info_parts Tryd.info5
  have GA := fun w => Good_any w (Vl.mk 3 0 [] false 0) (mkB_ok false)
  rw [show goodV ⟨3, 0, [], false, 0⟩ = true from by decide] at GA
  unfold Vl.val at GA ⊢
  simp only at GA ⊢
  go_enter Tryd.func8, Tryd.ntmps8
  go_wp2_with fail
  refine Calls.mono (GA _) ?_
  rintro e w1 ⟨rfl, u1⟩
  have bX := u1.get (Vnew1 w (.cells (Vl.mk 3 0 [] false 0).cs 28)) id
  obtain ⟨c0, c1, c2, c3, c4⟩ := cells5 bX
  have xl := lt_at bX
  have HU := hide (((Upd.refl w _).alloc _).then u1 (fun _ _ => id))
  clear bX u1 GA
  go_wp2_with fail
  refine Calls.mono (rank_any _ false) ?_
  rintro e w' ⟨rfl, hw⟩
  replace hw := hw.symm
  subst hw
  have RA0 : Rw (w1.alloc (.cells #[.int .u8 3] 5)) 5 1 (.slice (some ⟨w1.heap.size, 0, none⟩) 1 1) 1 [.int .u8 3] := Rw.made w1 #[.int .u8 3] 5 1 1 rfl
  have RX : Rw ((w1.alloc (.cells #[.int .u8 3] 5)).alloc (.cells #[.int .u8 0] 5)) 5 1 (.slice (some ⟨w1.heap.size + 1, 0, none⟩) 1 1) 1 [.int .u8 0] := by
    have h := Rw.made (w1.alloc (.cells #[.int .u8 3] 5)) #[.int .u8 0] 5 1 1 rfl
    simpa using h
  have UD : Upd w1 (w1.alloc (.cells #[.int .u8 3] 5)) (fun _ => False) := (Upd.refl w1 _).alloc _
  go_wp2_with (at_builtin; go_loud (refine wpList_append_rw _ rfl _ _ 55 55 rfl 5 _ ib _ 1 1 Tryd.underlying55 Tryd.underlying55 (by simp) hi hz0 hz1 hz2 rfl _ 1 [.int .u8 3] rfl (RA0.alloc _) _ 1 [.int .u8 0] rfl (Rw.src RX) rfl (by simp [Value.oneCell']) (by omega) (by omega) ?_); intro ga gca wa hva hga hoa; go_loud (have ua : Upd w1 wa (fun _ => False) := Upd.grown (UD.alloc _) hga (fun j hj => .inl (by have hj' : (some w1.heap.size : Option Nat) = some j := hj; have := Option.some.inj hj'; omega))); go_loud (have cv := BtAt.back (w := wa) (v := .slice ga (1 + 1) gca) (l := [3, 0]) hva (by simp)))
  go_ret2
  exact ⟨rfl, HU.out.then ua (fun _ _ => id)⟩
set_option maxHeartbeats 3200000 in
theorem Put_err (w : World) (f : Int) (hf : okFail f = true) : Calls Tryd.prog 8 #[(Vl.mk 4 0 [] false f).val] w (PutPost w ([4, UInt8.ofNat f.toNat], 0)) := by
  obtain ⟨ib, hi, hz0, hz1, hz2⟩ := info_parts Tryd.info5
  have hgd : goodV ⟨4, 0, [], false, f⟩ = true := by
    have e : mkE f = ⟨4, 0, [], false, f⟩ := by unfold mkE; rw [if_pos hf]
    unfold goodV
    simp only [show ¬ ((4 : Int) = 0) by decide, show ¬ ((4 : Int) = 1) by decide, show ¬ ((4 : Int) = 2) by decide, show ¬ ((4 : Int) = 3) by decide, if_false, if_true]
    exact eqV_iff.2 e.symm
  have hfr : 0 < f ∧ f < 9 := by simpa [okFail] using hf
  have hlu : f % 256 = ((UInt8.ofNat f.toNat).toNat : Int) := by
    rw [UInt8.toNat_ofNat']
    omega
  obtain ⟨c, hc⟩ : ∃ c : UInt8, UInt8.ofNat f.toNat = c := ⟨_, rfl⟩
  rw [hc] at hlu ⊢
  clear hc
  have GA := fun w => Good_any w (Vl.mk 4 0 [] false f) ⟨i4, i0, Nat.zero_le _, okFail_i64 hf⟩
  rw [show goodV ⟨4, 0, [], false, f⟩ = true from hgd] at GA
  unfold Vl.val at GA ⊢
  simp only at GA ⊢
  clear hfr hgd
  go_enter Tryd.func8, Tryd.ntmps8
  go_wp2_with fail
  refine Calls.mono (GA _) ?_
  rintro e w1 ⟨rfl, u1⟩
  have bX := u1.get (Vnew1 w (.cells (Vl.mk 4 0 [] false f).cs 28)) id
  obtain ⟨c0, c1, c2, c3, c4⟩ := cells5 bX
  have xl := lt_at bX
  have HU := hide (((Upd.refl w _).alloc _).then u1 (fun _ _ => id))
  clear bX u1 GA
  have RA0 : Rw (w1.alloc (.cells #[.int .u8 4] 5)) 5 1 (.slice (some ⟨w1.heap.size, 0, none⟩) 1 1) 1 [.int .u8 4] := Rw.made w1 #[.int .u8 4] 5 1 1 rfl
  have RX : Rw ((w1.alloc (.cells #[.int .u8 4] 5)).alloc (.cells #[.int .u8 (c.toNat : Int)] 5)) 5 1 (.slice (some ⟨w1.heap.size + 1, 0, none⟩) 1 1) 1 [.int .u8 (c.toNat : Int)] := by
    have h := Rw.made (w1.alloc (.cells #[.int .u8 4] 5)) #[.int .u8 (c.toNat : Int)] 5 1 1 rfl
    simpa using h
  have UD : Upd w1 (w1.alloc (.cells #[.int .u8 4] 5)) (fun _ => False) := (Upd.refl w1 _).alloc _
  go_wp2_with (at_builtin; go_loud (refine wpList_append_rw _ rfl _ _ 55 55 rfl 5 _ ib _ 1 1 Tryd.underlying55 Tryd.underlying55 (by simp) hi hz0 hz1 hz2 rfl _ 1 [.int .u8 4] rfl (RA0.alloc _) _ 1 [.int .u8 (c.toNat : Int)] rfl (Rw.src RX) rfl (by simp [Value.oneCell']) (by omega) (by omega) ?_); intro ga gca wa hva hga hoa; go_loud (have ua : Upd w1 wa (fun _ => False) := Upd.grown (UD.alloc _) hga (fun j hj => .inl (by have hj' : (some w1.heap.size : Option Nat) = some j := hj; have := Option.some.inj hj'; omega))); go_loud (have cv := BtAt.back (w := wa) (v := .slice ga (1 + 1) gca) (l := [4, c]) hva (by simp)))
  go_ret2
  exact ⟨rfl, HU.out.then ua (fun _ _ => id)⟩
theorem Put_any (w : World) (x : Vl) (hx : x.ok) : Calls Tryd.prog 8 #[x.val] w (PutPost w (putV x)) := by
  unfold putV
  cases hg : goodV x with
  | false => exact Put_bad w x hx hg
  | true =>
    rw [if_pos rfl]
    rcases good_forms hg with rfl | ⟨n, hn, rfl⟩ | ⟨t, ht, rfl⟩ | ⟨b, rfl⟩ | ⟨f, hf, rfl⟩
    · exact Put_blank w
    · exact PutN_any w n hx hg
    · exact Put_text w t ht
    · cases b with
      | true => exact Put_bool_true w
      | false => exact Put_bool_false w
    · exact Put_err w f hf
end Go.Proofs.YthahgablbdfodaaDoor
/- The digits of a number without the lowest. -/
set_option maxRecDepth 100000
namespace Go.Proofs.YthahgablbdfodaaDoor
open Go.RowKit Go.Lat

theorem dg_drop (k : Nat) : ∀ n, (dg n).drop k = dg (n / 10 ^ k) := by
  induction k with
  | zero => intro n; simp
  | succ k ih =>
    intro n
    by_cases h : n = 0
    · subst h
      rw [dg_zero, Nat.zero_div, dg_zero]
      rfl
    · rw [dg_pos h, List.drop_succ_cons, ih, Nat.div_div_eq_div_mul, Nat.pow_succ, Nat.mul_comm 10]

end Go.Proofs.YthahgablbdfodaaDoor
/- Plain laws: the digits of a number's text. -/
set_option maxRecDepth 100000
namespace Go.Proofs.YthahgablbdfodaaDoor
open Go.RowKit Go.Lat Go.Shelf Go.Sort
open Go.Lib (decDigits trimRightB)

/-- A digit's byte. -/
def ch (d : Nat) : UInt8 := UInt8.ofNat (48 + d)

theorem dec_dg : ∀ u, 0 < u → decDigits u = (Lat.dg u).reverse.map ch := by
  intro u
  induction u using Nat.strongRecOn with
  | ind u ih =>
    intro hu
    rw [dg_pos (by omega), List.reverse_cons, List.map_append]
    unfold decDigits
    by_cases h : u < 10
    · rw [dif_pos h, show u / 10 = 0 from by omega, dg_zero, show u % 10 = u from by omega]
      rfl
    · rw [dif_neg h, ih (u / 10) (by omega) (by omega)]
      rfl

theorem val_zeros (z : Nat) : val (List.replicate z 0) = 0 := val_zero _ (fun _ hd => List.eq_of_mem_replicate hd)

/-- The whole part, from above. -/
theorem text_whole (x z : Nat) (dl : List Nat) (h : dl = Lat.dg x ++ List.replicate z 0) (h5 : 5 ≤ dl.length) (hz : dl.length ≤ 5 ∨ z = 0) : (dl.drop 4).reverse.map ch = decDigits (x / 10000) := by
  by_cases hz0 : z = 0
  · subst hz0
    rw [List.replicate_zero, List.append_nil] at h
    have hd := dg_drop 4 x
    rw [show (10 : Nat) ^ 4 = 10000 from by decide, ← h] at hd
    have hu : 0 < x / 10000 := by
      rcases Nat.eq_zero_or_pos (x / 10000) with e | e
      · rw [e, dg_zero] at hd
        have := congrArg List.length hd
        rw [List.length_drop] at this
        simp at this
        omega
      · exact e
    rw [hd, dec_dg _ hu]
  · have h5' : dl.length = 5 := by omega
    have hl : (Lat.dg x).length + z = 5 := by
      rw [h, List.length_append, List.length_replicate] at h5'
      exact h5'
    have hx := val_lt (Lat.dg x) (dg_norm x).1
    rw [val_dg] at hx
    have hp : 10 ^ (Lat.dg x).length ≤ 10 ^ 4 := Nat.pow_le_pow_right (by omega) (by omega)
    have e4 : (10 : Nat) ^ 4 = 10000 := by decide
    have hu : x / 10000 = 0 := Nat.div_eq_of_lt (by omega)
    have hd : dl.drop 4 = [0] := by
      rw [h, List.drop_append, List.drop_eq_nil_of_le (by omega), List.drop_replicate, show z - (4 - (Lat.dg x).length) = 1 from by omega]
      rfl
    rw [hd, hu]
    unfold decDigits
    rw [dif_pos (by omega)]
    rfl

/-- The four places behind the point. -/
theorem text_four (x z : Nat) (dl : List Nat) (h : dl = Lat.dg x ++ List.replicate z 0) (h5 : 5 ≤ dl.length) :
    (dl.take 4).length = 4 ∧ (∀ d ∈ dl, d < 10) ∧ val (dl.take 4) = x % 10000 ∧ (decDigits (10000 + x % 10000)).drop 1 = (dl.take 4).reverse.map ch := by
  have h10 : ∀ d ∈ dl, d < 10 := by
    intro d hd
    rw [h] at hd
    rcases List.mem_append.1 hd with k | k
    · exact (dg_norm x).1 d k
    · rw [List.eq_of_mem_replicate k]
      omega
  have hv : val dl = x := by rw [h, val_append, val_dg, val_zeros, Nat.mul_zero, Nat.add_zero]
  have hl : (dl.take 4).length = 4 := by rw [List.length_take]; omega
  have h10' : ∀ d ∈ dl.take 4, d < 10 := fun d hd => h10 d (List.mem_of_mem_take hd)
  have hlt := val_lt (dl.take 4) h10'
  rw [hl, show (10 : Nat) ^ 4 = 10000 from by decide] at hlt
  have hs := val_append (dl.take 4) (dl.drop 4)
  rw [List.take_append_drop, hv, hl, show (10 : Nat) ^ 4 = 10000 from by decide] at hs
  have hm : val (dl.take 4) = x % 10000 := by omega
  refine ⟨hl, h10, hm, ?_⟩
  have hn : dl.take 4 ++ [1] = Lat.dg (10000 + x % 10000) := by
    have e : val (dl.take 4 ++ [1]) = 10000 + x % 10000 := by
      rw [val_append, hl, show (10 : Nat) ^ 4 = 10000 from by decide, hm]
      simp [val]
      omega
    rw [← e]
    refine norm_dg _ ⟨?_, ?_⟩
    · intro d hd
      rcases List.mem_append.1 hd with k | k
      · exact h10' d k
      · simp at k; omega
    · intro hne
      simp
  rw [dec_dg _ (by omega), ← hn]
  simp

/-- What is struck behind the part. -/
theorem text_part (f : List Nat) (n : Nat) (h10 : ∀ d ∈ f, d < 10) (hz : ∀ k, k < n → f.getD k 0 = 0) (hn : n < f.length) (h : f.getD n 0 ≠ 0) : trimRightB (f.reverse.map ch) 48 = (f.drop n).reverse.map ch := by
  have key : ∀ (n : Nat) (f : List Nat), (∀ d ∈ f, d < 10) → (∀ k, k < n → f.getD k 0 = 0) → n < f.length → f.getD n 0 ≠ 0 → (f.map ch).dropWhile (· == 48) = (f.drop n).map ch := by
    intro n
    induction n with
    | zero =>
      intro f h10 _ hl h
      cases f with
      | nil => simp at hl
      | cons d l =>
        have hd := h10 d (by simp)
        have hd0 : d ≠ 0 := by simpa using h
        have e : (ch d == 48) = false := by
          have : ch d ≠ 48 := by
            intro e
            have := congrArg UInt8.toNat e
            simp [ch] at this
            omega
          simpa using this
        simp [e]
    | succ n ih =>
      intro f h10 hz hl h
      cases f with
      | nil => simp at hl
      | cons d l =>
        have h0 := hz 0 (by omega)
        simp at h0
        subst h0
        have e : (ch 0 == 48) = true := by decide
        simp only [List.map_cons, List.dropWhile, e, List.drop_succ_cons]
        refine ih l (fun d hd => h10 d (by simp [hd])) (fun k hk => ?_) (by simpa using hl) (by simpa using h)
        have := hz (k + 1) (by omega)
        simpa using this
  unfold trimRightB
  rw [← List.map_reverse, List.reverse_reverse, key n f h10 hz hn h, List.map_reverse]

/-- A number's text. -/
def txt (s : Bool) (x : Nat) : List UInt8 := (if s then [45] else []) ++ (decDigits (x / 10000) ++ if x % 10000 = 0 then [] else 46 :: trimRightB ((decDigits (10000 + x % 10000)).drop 1) 48)

theorem Text_any (s : Bool) (x : Nat) (hx : x ≤ 9000000000000000000) (h0 : s = true → 0 < x) (w : World) (ht : Pow w) :
    Calls Tryd.prog 29 #[.int .i64 (if s then -(x : Int) else x)] w fun e w' => e = .returned (.string ⟨(txt s x).toArray⟩) ∧ Upd w w' (fun _ => False) := by
  unfold txt
  by_cases hr : x % 10000 = 0
  · rw [if_pos hr, List.append_nil]
    refine Calls.mono (Text_whole w s x hx h0 hr ht) ?_
    rintro e w' ⟨⟨t, rfl, et⟩, u⟩
    exact ⟨by rw [Go.WideShapes.bytes_inj (show t.data.toList = (⟨((if s then [45] else []) ++ decDigits (x / 10000)).toArray⟩ : ByteArray).data.toList from et)], u⟩
  · rw [if_neg hr]
    refine Calls.mono (Text_part w s x hx h0 hr ht) ?_
    rintro e w' ⟨⟨t, rfl, et⟩, u⟩
    exact ⟨by rw [Go.WideShapes.bytes_inj (show t.data.toList = (⟨((if s then [45] else []) ++ (decDigits (x / 10000) ++ 46 :: trimRightB ((decDigits (10000 + x % 10000)).drop 1) 48)).toArray⟩ : ByteArray).data.toList from et)], u⟩

theorem Text_bad (w : World) (a : Int) (h : okNum a = false) : Calls Tryd.prog 29 #[.int .i64 a] w fun e w' => e = .returned (.string ⟨#[]⟩) ∧ Upd w w' (fun _ => False) := by
  have G := fun w B k => fixgood_any w B a k
  rw [h] at G
  clear h
  go_enter Tryd.func29, Tryd.ntmps29
  go_wp2_with fail
  refine Calls.mono (G _ _ (cells1 (heap_alloc_new w _))) ?_
  rintro e' w1 ⟨rfl, rfl⟩
  go_wp2_with fail
  go_ret
  exact ⟨rfl, (Upd.refl w _).alloc _⟩

end Go.Proofs.YthahgablbdfodaaDoor
/- The reference's Order behind what is blank. -/
set_option maxRecDepth 1000000
namespace Go.Proofs.YthahgablbdfodaaDoor
open Go.RowKit Go.Lat Go.Lib

/-- The two values' kinds are those of values that may be, and no errors. -/
def plainK (a : Vl) : Prop := a.k = 0 ∧ a.b = false ∨ a.k = 1 ∨ a.k = 2 ∨ a.k = 3
end Go.Proofs.YthahgablbdfodaaDoor
/- The walk of the reference's Order. -/
set_option maxRecDepth 1000000
namespace Go.Proofs.YthahgablbdfodaaDoor
open Go.RowKit Go.Lat Go.Lib

theorem rset_two1 {W : World} {g : Nat} {x : Vl} (hg : W.heap[g]? = some (.cells x.cs 29 (0, 0))) (a : Vl) :
    (set5 W g (.int .i64 a.k) (.int .i64 a.n) (.string ⟨a.t.toArray⟩) (.bool a.b) (.int .i64 a.f)).heap[g]? = some (.cells a.cs 29 (0, 0)) := rblock5 hg _ _ _ _ _
theorem goodV_plain {x : Vl} (h : goodV x = true) (h4 : x.k ≠ 4) : plainK x := by
  unfold plainK
  unfold goodV at h
  split at h
  · rename_i h0
    have := eqV_iff.1 h
    exact .inl ⟨h0, by rw [this]; rfl⟩
  · split at h
    · rename_i h1; exact .inr (.inl h1)
    · split at h
      · rename_i h1; exact .inr (.inr (.inl h1))
      · split at h
        · rename_i h1; exact .inr (.inr (.inr h1))
        · cases h
theorem soundV_plain {x : Vl} (h4 : (soundV x).k ≠ 4) : plainK (soundV x) := by
  unfold soundV at h4 ⊢
  split
  · rename_i h
    rw [if_pos h] at h4
    exact goodV_plain h h4
  · rename_i h
    rw [if_neg h] at h4
    exact absurd rfl h4
theorem beside_plain {a b : Vl} (ha : plainK a) (hb : plainK b) : plainK (besideV a b) := by
  unfold besideV
  split
  · rcases hb with ⟨h, _⟩ | h | h | h
    · exact .inl ⟨h, rfl⟩
    · exact .inr (.inl h)
    · exact .inr (.inr (.inl h))
    · exact .inr (.inr (.inr h))
  · exact ha
theorem beside_back (a b : Vl) : besideV b (besideV a b) = besideV b a := by
  unfold besideV
  by_cases h : b.k = 0
  · rw [if_pos h, if_pos h]
    by_cases h2 : a.k = 0
    · rw [if_pos h2, h2, h]
    · rw [if_neg h2]
  · rw [if_neg h, if_neg h]
end Go.Proofs.YthahgablbdfodaaDoor
/- The walks of the reference's Signs, and of Show at every value, both sides. -/
set_option maxRecDepth 100000
namespace Go.Proofs.YthahgablbdfodaaDoor
open Go.RowKit Go.Lat Go.Lib

theorem sign_at (f : Int) (h : ¬ (1 ≤ f ∧ f ≤ 8)) : signT f = [] := by
  unfold signT okFail
  rw [if_neg]
  simp
  omega
theorem soundV_kind (x : Vl) : (soundV x).k = 0 ∨ (soundV x).k = 1 ∨ (soundV x).k = 2 ∨ (soundV x).k = 3 ∨ (soundV x).k = 4 := by
  by_cases h : (soundV x).k = 4
  · omega
  · have := soundV_plain h
    unfold plainK at this
    omega
/-- A value as a reader sees it, where tx is its number's text. -/
def showV (y : Vl) (tx : List UInt8) : List UInt8 :=
  if y.k = 0 then [] else if y.k = 1 then tx else if y.k = 2 then y.t else if y.k = 3 then (if y.b then [84, 82, 85, 69] else [70, 65, 76, 83, 69]) else signT y.f
set_option maxHeartbeats 1600000 in
theorem Show_k1 (w : World) (hp : Pow w) (x : Vl) (hx : x.ok) (n : Int) (t : List UInt8) (b : Bool) (f : Int) (h : soundV x = ⟨1, n, t, b, f⟩) (tx : List UInt8) (T1 : ∀ w, Pow w → Calls Tryd.prog 29 #[.int .i64 n] w fun e w' => e = .returned (enS tx) ∧ Upd w w' (fun _ => False)) :
    Calls Tryd.prog 12 #[x.val] w fun e w' => e = .returned (enS tx) ∧ Upd w w' (fun _ => False) := by
  have SA := fun w => sound_any w x hx
  rw [h] at SA
  obtain ⟨k0, n0, t0, b0, e0⟩ := x
  unfold Vl.val at SA ⊢
  simp only at SA ⊢
  clear h
  have HG := hide hp
  clear hp
  go_enter Tryd.func12, Tryd.ntmps12
  go_wp2_with fail
  refine Calls.mono (SA _) ?_
  rintro e w1 ⟨rfl, u1⟩
  have bX := u1.get (Vnew1 w (.cells (Vl.mk k0 n0 t0 b0 e0).cs 28)) id
  obtain ⟨c0, c1, c2, c3, c4⟩ := cells5 bX
  have xl := lt_at bX
  have f0 := free_at bX 0
  have f1 := free_at bX 1
  have f2 := free_at bX 2
  have f3 := free_at bX 3
  have f4 := free_at bX 4
  have HX := hide bX
  have HU := hide (((Upd.refl w _).alloc _).then u1 (fun _ _ => id))
  clear bX u1 SA
  go_wp2_with fail
  have UU := hide (upd5 (W := w1) HU.out (g := w.heap.size) (Nat.le_refl _) (.int .i64 1) (.int .i64 n) (.string ⟨t.toArray⟩) (.bool b) (.int .i64 f))
  have HS2 := HG.out.upd UU.out id
  refine Calls.mono (T1 _ HS2) ?_
  rintro e w2 ⟨rfl, u2⟩
  have HU2 := hide (UU.out.then u2 (fun _ _ => id))
  clear u2 HS2
  go_wp2_with fail
  (try simp only [Exit.inBlock, Exit.then])
  go_ret
  exact ⟨rfl, HU2.out⟩
set_option maxHeartbeats 1600000 in
theorem Show_k0 (w : World) (x : Vl) (hx : x.ok) (n : Int) (t : List UInt8) (b : Bool) (f : Int) (h : soundV x = ⟨0, n, t, b, f⟩) :
    Calls Tryd.prog 12 #[x.val] w fun e w' => e = .returned (enS []) ∧ Upd w w' (fun _ => False) := by
  have SA := fun w => sound_any w x hx
  rw [h] at SA
  obtain ⟨k0, n0, t0, b0, e0⟩ := x
  unfold Vl.val at SA ⊢
  simp only at SA ⊢
  clear h
  go_enter Tryd.func12, Tryd.ntmps12
  go_wp2_with fail
  refine Calls.mono (SA _) ?_
  rintro e w1 ⟨rfl, u1⟩
  have bX := u1.get (Vnew1 w (.cells (Vl.mk k0 n0 t0 b0 e0).cs 28)) id
  obtain ⟨c0, c1, c2, c3, c4⟩ := cells5 bX
  have xl := lt_at bX
  have f0 := free_at bX 0
  have f1 := free_at bX 1
  have f2 := free_at bX 2
  have f3 := free_at bX 3
  have f4 := free_at bX 4
  have HX := hide bX
  have HU := hide (((Upd.refl w _).alloc _).then u1 (fun _ _ => id))
  clear bX u1 SA
  go_wp2_with fail
  have UU := hide (upd5 (W := w1) HU.out (g := w.heap.size) (Nat.le_refl _) (.int .i64 0) (.int .i64 n) (.string ⟨t.toArray⟩) (.bool b) (.int .i64 f))
  (try simp only [Exit.inBlock, Exit.then])
  go_ret
  exact ⟨rfl, UU.out⟩
set_option maxHeartbeats 1600000 in
theorem Show_k2 (w : World) (x : Vl) (hx : x.ok) (n : Int) (t : List UInt8) (b : Bool) (f : Int) (h : soundV x = ⟨2, n, t, b, f⟩) :
    Calls Tryd.prog 12 #[x.val] w fun e w' => e = .returned (enS t) ∧ Upd w w' (fun _ => False) := by
  have SA := fun w => sound_any w x hx
  rw [h] at SA
  obtain ⟨k0, n0, t0, b0, e0⟩ := x
  unfold Vl.val at SA ⊢
  simp only at SA ⊢
  clear h
  go_enter Tryd.func12, Tryd.ntmps12
  go_wp2_with fail
  refine Calls.mono (SA _) ?_
  rintro e w1 ⟨rfl, u1⟩
  have bX := u1.get (Vnew1 w (.cells (Vl.mk k0 n0 t0 b0 e0).cs 28)) id
  obtain ⟨c0, c1, c2, c3, c4⟩ := cells5 bX
  have xl := lt_at bX
  have f0 := free_at bX 0
  have f1 := free_at bX 1
  have f2 := free_at bX 2
  have f3 := free_at bX 3
  have f4 := free_at bX 4
  have HX := hide bX
  have HU := hide (((Upd.refl w _).alloc _).then u1 (fun _ _ => id))
  clear bX u1 SA
  go_wp2_with fail
  have UU := hide (upd5 (W := w1) HU.out (g := w.heap.size) (Nat.le_refl _) (.int .i64 2) (.int .i64 n) (.string ⟨t.toArray⟩) (.bool b) (.int .i64 f))
  (try simp only [Exit.inBlock, Exit.then])
  go_ret
  exact ⟨rfl, UU.out⟩
set_option maxHeartbeats 1600000 in
theorem Show_k3t (w : World) (x : Vl) (hx : x.ok) (n : Int) (t : List UInt8) (f : Int) (h : soundV x = ⟨3, n, t, true, f⟩) :
    Calls Tryd.prog 12 #[x.val] w fun e w' => e = .returned (enS [84, 82, 85, 69]) ∧ Upd w w' (fun _ => False) := by
  have SA := fun w => sound_any w x hx
  rw [h] at SA
  obtain ⟨k0, n0, t0, b0, e0⟩ := x
  unfold Vl.val at SA ⊢
  simp only at SA ⊢
  clear h
  go_enter Tryd.func12, Tryd.ntmps12
  go_wp2_with fail
  refine Calls.mono (SA _) ?_
  rintro e w1 ⟨rfl, u1⟩
  have bX := u1.get (Vnew1 w (.cells (Vl.mk k0 n0 t0 b0 e0).cs 28)) id
  obtain ⟨c0, c1, c2, c3, c4⟩ := cells5 bX
  have xl := lt_at bX
  have f0 := free_at bX 0
  have f1 := free_at bX 1
  have f2 := free_at bX 2
  have f3 := free_at bX 3
  have f4 := free_at bX 4
  have HX := hide bX
  have HU := hide (((Upd.refl w _).alloc _).then u1 (fun _ _ => id))
  clear bX u1 SA
  go_wp2_with fail
  have UU := hide (upd5 (W := w1) HU.out (g := w.heap.size) (Nat.le_refl _) (.int .i64 3) (.int .i64 n) (.string ⟨t.toArray⟩) (.bool true) (.int .i64 f))
  (try simp only [Exit.inBlock, Exit.then])
  go_ret
  exact ⟨rfl, UU.out⟩
set_option maxHeartbeats 1600000 in
theorem Show_k3f (w : World) (x : Vl) (hx : x.ok) (n : Int) (t : List UInt8) (f : Int) (h : soundV x = ⟨3, n, t, false, f⟩) :
    Calls Tryd.prog 12 #[x.val] w fun e w' => e = .returned (enS [70, 65, 76, 83, 69]) ∧ Upd w w' (fun _ => False) := by
  have SA := fun w => sound_any w x hx
  rw [h] at SA
  obtain ⟨k0, n0, t0, b0, e0⟩ := x
  unfold Vl.val at SA ⊢
  simp only at SA ⊢
  clear h
  go_enter Tryd.func12, Tryd.ntmps12
  go_wp2_with fail
  refine Calls.mono (SA _) ?_
  rintro e w1 ⟨rfl, u1⟩
  have bX := u1.get (Vnew1 w (.cells (Vl.mk k0 n0 t0 b0 e0).cs 28)) id
  obtain ⟨c0, c1, c2, c3, c4⟩ := cells5 bX
  have xl := lt_at bX
  have f0 := free_at bX 0
  have f1 := free_at bX 1
  have f2 := free_at bX 2
  have f3 := free_at bX 3
  have f4 := free_at bX 4
  have HX := hide bX
  have HU := hide (((Upd.refl w _).alloc _).then u1 (fun _ _ => id))
  clear bX u1 SA
  go_wp2_with fail
  have UU := hide (upd5 (W := w1) HU.out (g := w.heap.size) (Nat.le_refl _) (.int .i64 3) (.int .i64 n) (.string ⟨t.toArray⟩) (.bool false) (.int .i64 f))
  (try simp only [Exit.inBlock, Exit.then])
  go_ret
  exact ⟨rfl, UU.out⟩
theorem Show_any (w : World) (hg : Sig w) (hp : Pow w) (x : Vl) (hx : x.ok) (tx : List UInt8) (T1 : ∀ w, Pow w → Calls Tryd.prog 29 #[.int .i64 (soundV x).n] w fun e w' => e = .returned (enS tx) ∧ Upd w w' (fun _ => False)) :
    Calls Tryd.prog 12 #[x.val] w fun e w' => e = .returned (enS (showV (soundV x) tx)) ∧ Upd w w' (fun _ => False) := by
  obtain ⟨y, hy⟩ : ∃ y, soundV x = y := ⟨_, rfl⟩
  have hk := soundV_kind x
  rw [hy] at T1 hk ⊢
  obtain ⟨k, n, t, b, f⟩ := y
  simp only at T1 hk
  rcases hk with rfl | rfl | rfl | rfl | rfl
  · exact Show_k0 w x hx n t b f hy
  · exact Show_k1 w hp x hx n t b f hy tx T1
  · exact Show_k2 w x hx n t b f hy
  · cases b with
    | true => exact Show_k3t w x hx n t f hy
    | false => exact Show_k3f w x hx n t f hy
  · exact ShowE_any w hg x hx n t b f hy
end Go.Proofs.YthahgablbdfodaaDoor
/- Plain laws: blanks at both ends; a word that says true, or false, in small letters and in great ones. -/
set_option maxRecDepth 100000
namespace Go.Proofs.YthahgablbdfodaaDoor
open Go.RowKit Go.Lat Go.Lib

theorem trimR_cons (a : UInt8) (l : List UInt8) (c : UInt8) : trimRightB (a :: l) c = if a = c ∧ trimRightB l c = [] then [] else a :: trimRightB l c := by
  unfold trimRightB
  rw [List.reverse_cons, List.dropWhile_append]
  by_cases h : (l.reverse.dropWhile (· == c)) = []
  · rw [h]
    by_cases ha : a = c
    · simp [ha]
    · simp [ha]
  · rw [if_neg (by simpa using h), if_neg (by simp [h])]
    simp
theorem trim_swap (l : List UInt8) (c : UInt8) : trimRightB (trimLeftB l c) c = trimB l c := by
  unfold trimB
  induction l with
  | nil => rfl
  | cons a l ih =>
    by_cases ha : a = c
    · subst ha
      have e : trimLeftB (a :: l) a = trimLeftB l a := by simp [trimLeftB]
      rw [e, ih, trimR_cons]
      by_cases h : trimRightB l a = []
      · rw [if_pos ⟨rfl, h⟩, h]
      · rw [if_neg (by simp [h])]
        simp [trimLeftB]
    · have e : trimLeftB (a :: l) c = a :: l := by simp [trimLeftB, ha]
      rw [e, trimR_cons, if_neg (by simp [ha])]
      simp [trimLeftB, ha]

theorem bytes_all {p : UInt8 → Prop} (h : ∀ n : Fin 256, p (UInt8.ofNat n.val)) (c : UInt8) : p c := by
  have := h ⟨c.toNat, c.toNat_lt⟩
  simpa using this
theorem up_low (a : Fin 26) (c : UInt8) : upB c = UInt8.ofNat (65 + a.val) ↔ lowB c = UInt8.ofNat (97 + a.val) := by
  revert a
  refine bytes_all (p := fun c => ∀ a : Fin 26, upB c = UInt8.ofNat (65 + a.val) ↔ lowB c = UInt8.ofNat (97 + a.val)) ?_ c
  decide +kernel
def lTrue : List UInt8 := [116, 114, 117, 101]
def lFalse : List UInt8 := [102, 97, 108, 115, 101]
theorem upS_true (s : List UInt8) : upS s = tTrue ↔ lowS s = lTrue := by
  unfold upS lowS tTrue lTrue
  have h1 := up_low 19
  have h2 := up_low 17
  have h3 := up_low 20
  have h4 := up_low 4
  simp only [List.map_eq_cons_iff, List.map_eq_nil_iff]
  have h1 : ∀ c, upB c = 84 ↔ lowB c = 116 := h1
  have h2 : ∀ c, upB c = 82 ↔ lowB c = 114 := h2
  have h3 : ∀ c, upB c = 85 ↔ lowB c = 117 := h3
  have h4 : ∀ c, upB c = 69 ↔ lowB c = 101 := h4
  simp only [h1, h2, h3, h4]
theorem upS_false (s : List UInt8) : upS s = tFalse ↔ lowS s = lFalse := by
  unfold upS lowS tFalse lFalse
  have h1 : ∀ c, upB c = 70 ↔ lowB c = 102 := up_low 5
  have h2 : ∀ c, upB c = 65 ↔ lowB c = 97 := up_low 0
  have h3 : ∀ c, upB c = 76 ↔ lowB c = 108 := up_low 11
  have h4 : ∀ c, upB c = 83 ↔ lowB c = 115 := up_low 18
  have h5 : ∀ c, upB c = 69 ↔ lowB c = 101 := up_low 4
  simp only [List.map_eq_cons_iff, List.map_eq_nil_iff, h1, h2, h3, h4, h5]
/-- What a word says, by its small letters. -/
theorem truth_low (s : List UInt8) : truthV s = if lowS s = lTrue then (true, true) else if lowS s = lFalse then (false, true) else (false, false) := by
  unfold truthV
  simp only [upS_true, upS_false]
end Go.Proofs.YthahgablbdfodaaDoor
/- The walk of the reference's Bare; strings.Trim at a blank. -/
set_option maxRecDepth 100000
namespace Go.Proofs.YthahgablbdfodaaDoor
open Go.RowKit Go.Lat Go.Lib

theorem getB {z : ByteArray} {k : Nat} (h : k < z.size) : z.data.toList[k]? = some z[k] := by
  rw [List.getElem?_eq_getElem (by simpa using h)]
  rfl
theorem drop1 (z : ByteArray) : (z.extract 1 z.size).data.toList = z.data.toList.drop 1 := by
  simp only [ByteArray.data_extract, Array.toList_extract, List.extract_eq_take_drop]
  rw [List.take_of_length_le]
  simp
theorem take1 (z : ByteArray) (m : Nat) : (z.extract 0 m).data.toList = z.data.toList.take m := by
  simp [ByteArray.data_extract, List.extract_eq_take_drop]

end Go.Proofs.YthahgablbdfodaaDoor
/- The walks of package value's long, told. -/
set_option maxRecDepth 100000
namespace Go.Proofs.YthahgablbdfodaaDoor
open Go.RowKit Go.Lat Go.Lib

theorem enS_bk (t : ByteArray) : enS t.data.toList = .string t := by
  show Value.string ⟨t.data.toList.toArray⟩ = .string t
  simp
theorem head1 {z : ByteArray} (h : 0 < z.size) : z.data.toList = z[0] :: z.data.toList.drop 1 := by
  have h1 : 0 < z.data.toList.length := h
  rw [List.drop_one]
  cases hz : z.data.toList with
  | nil => rw [hz] at h1; simp at h1
  | cons a l =>
    have h2 := getB h
    rw [hz] at h2
    simp at h2
    simp [h2]
theorem head2 {z : ByteArray} (h : 1 < z.size) : z.data.toList = z[0] :: z[1] :: z.data.toList.drop 2 := by
  have h1 := head1 (z := z) (by omega)
  have h2 := getB h
  rw [h1]
  congr 1
  rw [h1] at h2
  simp only [List.getElem?_cons_succ] at h2
  cases hd : z.data.toList.drop 1 with
  | nil => rw [hd] at h2; simp at h2
  | cons a l =>
    rw [hd] at h2
    simp at h2
    rw [h2]
    congr 1
/-- How many bytes stand behind a kind's byte; false, if that can't be told. -/
def longV (k : Nat) (l : Option Nat) : Int × Bool :=
  if k = 0 then (0, true) else if k = 1 then (8, true) else if k = 2 then (match l with | none => (0, false) | some l => (1 + (l : Int), true)) else if k = 3 then (1, true) else if k = 4 then (1, true) else (0, false)
theorem long_any (w : World) (z : ByteArray) (h0 : 0 < z.size) (k : UInt8) (hk : z[0] = k) (l : Option Nat) (hl : if h : 1 < z.size then l = some z[1].toNat else l = none) :
    Calls Tryd.prog 24 #[.string z] w fun e w' => e = .returned (.tuple #[.int .i64 (longV k.toNat l).1, .bool (longV k.toNat l).2]) ∧ w' = w := by
  unfold longV
  obtain ⟨n, hn⟩ : ∃ n, k.toNat = n := ⟨_, rfl⟩
  have hz0 : z[0].toNat = n := by rw [hk, hn]
  rw [hn]
  have hn256 : n < 256 := by rw [← hn]; exact k.toNat_lt
  clear hk hn
  by_cases c0 : n = 0
  · subst c0
    rw [if_pos rfl]
    clear hl
    go_enter Tryd.func24, Tryd.ntmps24
    go_wp2_with fail
    go_ret2
    exact ⟨rfl, rfl⟩
  · rw [if_neg c0]
    have b0 : ((n : Int) == 0) = false := beq_eq_false_iff_ne.2 (by omega)
    by_cases c1 : n = 1
    · subst c1
      rw [if_pos rfl]
      clear hl
      go_enter Tryd.func24, Tryd.ntmps24
      go_wp2_with fail
      go_ret2
      exact ⟨rfl, rfl⟩
    · rw [if_neg c1]
      have b1 : ((n : Int) == 1) = false := beq_eq_false_iff_ne.2 (by omega)
      by_cases c2 : n = 2
      · subst c2
        rw [if_pos rfl]
        by_cases h1 : 1 < z.size
        · rw [dif_pos h1] at hl
          subst hl
          simp only
          have d1 : decide ((z.size : Int) < 2) = false := decide_eq_false (by omega)
          have d2 : decide (z.size < 2) = false := decide_eq_false (by omega)
          have hb : z[1].toNat < 256 := z[1].toNat_lt
          obtain ⟨m, hm⟩ : ∃ m, z[1].toNat = m := ⟨_, rfl⟩
          rw [hm] at hb ⊢
          have hw : IntKind.i64.wrap (1 + (m : Int)) = 1 + (m : Int) := IntWalk.i64_in _ (by omega)
          clear c0 c1
          go_enter Tryd.func24, Tryd.ntmps24
          go_wp2_with fail
          go_ret2
          exact ⟨rfl, rfl⟩
        · rw [dif_neg h1] at hl
          subst hl
          simp only
          have d1 : decide ((z.size : Int) < 2) = true := decide_eq_true (by omega)
          have d2 : decide (z.size < 2) = true := decide_eq_true (by omega)
          clear c0 c1
          go_enter Tryd.func24, Tryd.ntmps24
          go_wp2_with fail
          go_ret2
          exact ⟨rfl, rfl⟩
      · rw [if_neg c2]
        have b2 : ((n : Int) == 2) = false := beq_eq_false_iff_ne.2 (by omega)
        by_cases c3 : n = 3
        · subst c3
          rw [if_pos rfl]
          clear hl
          go_enter Tryd.func24, Tryd.ntmps24
          go_wp2_with fail
          go_ret2
          exact ⟨rfl, rfl⟩
        · rw [if_neg c3]
          have b3 : ((n : Int) == 3) = false := beq_eq_false_iff_ne.2 (by omega)
          by_cases c4 : n = 4
          · subst c4
            rw [if_pos rfl]
            clear hl
            go_enter Tryd.func24, Tryd.ntmps24
            go_wp2_with fail
            go_ret2
            exact ⟨rfl, rfl⟩
          · rw [if_neg c4]
            have b4 : ((n : Int) == 4) = false := beq_eq_false_iff_ne.2 (by omega)
            have hwn : wrap64 (n : Int) = (n : Int) := IntWalk.wrap64_in _ (by omega)
            clear c0 c1 c2 c3 c4 hl
            go_enter Tryd.func24, Tryd.ntmps24
            go_wp2_with fail
            go_ret2
            exact ⟨rfl, rfl⟩
end Go.Proofs.YthahgablbdfodaaDoor
