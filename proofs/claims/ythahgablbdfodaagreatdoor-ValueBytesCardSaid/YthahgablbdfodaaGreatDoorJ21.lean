/- The walk of package value's Put at every value. -/
import Derived.Test.YthahgablbdfodaaGreatDoorJ05
import Derived.Lib.AppendStr
import Derived.Test.YthahgablbdfodaaGreatDoorJ16
import Derived.Lib.EndianBits
/- The walk of package value's Put at every value. -/
set_option maxRecDepth 100000
namespace Go.Proofs.YthahgablbdfodaaGreatDoor
open Go.RowKit Go.Lat Go.Lib

/-- What may be has one of five forms. -/
theorem good_forms {x : Vl} (h : goodV x = true) : x = ⟨0, 0, [], false, 0⟩ ∨ (∃ n, okNum n = true ∧ x = ⟨1, n, [], false, 0⟩) ∨ (∃ t : List UInt8, t.length ≤ 255 ∧ x = ⟨2, 0, t, false, 0⟩) ∨ (∃ b, x = ⟨3, 0, [], b, 0⟩) ∨ (∃ f, okFail f = true ∧ x = ⟨4, 0, [], false, f⟩) := by
  unfold goodV at h
  split at h
  · exact .inl (eqV_iff.1 h)
  · split at h
    · rename_i h0 h1
      have e := eqV_iff.1 h
      unfold mkN at e
      split at e
      · rename_i hn
        exact .inr (.inl ⟨x.n, hn, e⟩)
      · rw [e] at h1
        exact absurd h1 (by simp [mkE])
    · split at h
      · rename_i h0 h1 h2
        have e := eqV_iff.1 h
        unfold mkT at e
        split at e
        · rename_i hn
          exact .inr (.inr (.inl ⟨x.t, hn, e⟩))
        · rw [e] at h2
          exact absurd h2 (by simp [mkE])
      · split at h
        · exact .inr (.inr (.inr (.inl ⟨x.b, eqV_iff.1 h⟩)))
        · split at h
          · have e := eqV_iff.1 h
            unfold mkE at e
            cases hf : okFail x.f with
            | true =>
              rw [hf, if_pos rfl] at e
              exact .inr (.inr (.inr (.inr ⟨x.f, hf, e⟩)))
            | false =>
              rw [hf] at e
              simp only [Bool.false_eq_true, if_false] at e
              have : x.f = 3 := by rw [e]
              rw [this] at hf
              exact absurd hf (by decide)
          · exact absurd h (by simp)
/-- The bytes of a value, and its error. -/
def putV (x : Vl) : List UInt8 × Int :=
  if goodV x = true then
    ((if x.k = 0 then [0] else if x.k = 1 then 1 :: numBs x.n 8 else if x.k = 2 then 2 :: UInt8.ofNat x.t.length :: x.t else if x.k = 3 then [3, if x.b then 1 else 0] else [4, UInt8.ofNat x.f.toNat]), 0)
  else ([], 4)
abbrev PutPost (w : World) (p : List UInt8 × Int) : Ending → World → Prop := fun e w' => e = .returned (.tuple #[enS p.1, .int .i64 p.2]) ∧ Upd w w' (fun _ => False)
theorem srcStr {P : Program} (w : World) (s : List UInt8) : Src P w 1 (enS s) s.length (s.map fun b => .int .u8 (b.toNat : Int)) :=
  ⟨fun w' => by simp [Builtin.lenOf]; rfl, run_firstCells_string w 1 ⟨s.toArray⟩, run_firstCells_string w.drew 1 ⟨s.toArray⟩⟩
theorem srcMade {P : Program} (w : World) (x : Value) : Src P (w.alloc (.cells #[x] 5)) 1 (.slice (some ⟨w.heap.size, 0, none⟩) 1 1) 1 [x] := (Rw.made w #[x] 5 1 1 rfl).src

set_option maxHeartbeats 1600000 in
theorem Put_bad (w : World) (x : Vl) (hx : x.ok) (h : goodV x = false) : Calls Tryz.prog 36 #[x.val] w (PutPost w ([], 4)) := by
  have GA := fun w => Good_any w x hx
  rw [h] at GA
  obtain ⟨k0, n0, t0, b0, e0⟩ := x
  unfold Vl.val at GA ⊢
  simp only at GA ⊢
  clear h
  go_enter Tryz.func36, Tryz.ntmps36
  go_wp2_with fail
  refine Calls.mono (GA _) ?_
  rintro e w1 ⟨rfl, u1⟩
  go_wp2_with fail
  go_ret2
  exact ⟨rfl, ((Upd.refl w _).alloc _).then u1 (fun _ _ => id)⟩
set_option maxHeartbeats 1600000 in
theorem Put_blank (w : World) : Calls Tryz.prog 36 #[(Vl.mk 0 0 [] false 0).val] w (PutPost w ([0], 0)) := by
  have GA := fun w => Good_any w ⟨0, 0, [], false, 0⟩ vZero_ok
  rw [show goodV ⟨0, 0, [], false, 0⟩ = true from by decide] at GA
  unfold Vl.val at GA ⊢
  simp only at GA ⊢
  go_enter Tryz.func36, Tryz.ntmps36
  go_wp2_with fail
  refine Calls.mono (GA _) ?_
  rintro e w1 ⟨rfl, u1⟩
  have bX := u1.get (Vnew1 w (.cells (Vl.mk 0 0 [] false 0).cs 28)) id
  obtain ⟨c0, c1, c2, c3, c4⟩ := cells5 bX
  have xl := lt_at bX
  have HU := hide (((Upd.refl w _).alloc _).then u1 (fun _ _ => id))
  have cv := BtAt.back (w := w1.alloc (.cells #[.int .u8 0] 5)) (v := .slice (some ⟨w1.heap.size, 0, none⟩) 1 1) (l := [0]) (Rw.made w1 #[.int .u8 0] 5 1 1 rfl) (by simp)
  clear bX u1 GA
  go_wp2_with fail
  go_ret2
  exact ⟨rfl, HU.out.alloc _⟩
set_option maxHeartbeats 3200000 in
theorem Put_text (w : World) (t : List UInt8) (ht : t.length ≤ 255) : Calls Tryz.prog 36 #[(Vl.mk 2 0 t false 0).val] w (PutPost w (2 :: UInt8.ofNat t.length :: t, 0)) := by
  obtain ⟨ib, hi, hz0, hz1, hz2⟩ := info_parts Tryz.info5
  have hg : goodV ⟨2, 0, t, false, 0⟩ = true := by
    have e : mkT t = ⟨2, 0, t, false, 0⟩ := by unfold mkT; rw [if_pos ht]
    unfold goodV
    simp only [show ¬ ((2 : Int) = 0) by decide, show ¬ ((2 : Int) = 1) by decide, if_false, if_true]
    exact eqV_iff.2 e.symm
  have GA := fun w => Good_any w ⟨2, 0, t, false, 0⟩ ⟨i2, i0, Nat.le_trans ht (by decide), i0⟩
  rw [hg] at GA
  unfold Vl.val at GA ⊢
  simp only at GA ⊢
  have hlu : (t.length : Int) % 256 = ((UInt8.ofNat t.length).toNat : Int) := by
    rw [UInt8.toNat_ofNat']
    omega
  have HT := hide ht
  clear hg ht
  go_enter Tryz.func36, Tryz.ntmps36
  go_wp2_with fail
  refine Calls.mono (GA _) ?_
  rintro e w1 ⟨rfl, u1⟩
  have bX := u1.get (Vnew1 w (.cells (Vl.mk 2 0 t false 0).cs 28)) id
  obtain ⟨c0, c1, c2, c3, c4⟩ := cells5 bX
  have xl := lt_at bX
  have HU := hide (((Upd.refl w _).alloc _).then u1 (fun _ _ => id))
  have HX := hide bX
  clear bX u1 GA
  go_wp2_with fail
  obtain ⟨W, hW⟩ : ∃ W, w1.alloc (.cells #[.int .u8 2] 5) = W := ⟨_, rfl⟩
  have RA0 : Rw W.drew 5 1 (.slice (some ⟨w1.heap.size, 0, none⟩) 1 1) 1 [.int .u8 2] := hW ▸ (Rw.made w1 #[.int .u8 2] 5 1 1 rfl)
  have cW0 : W.cell? ⟨w.heap.size, 2, none⟩ = some (.string ⟨t.toArray⟩) := hW ▸ ((((Upd.refl w1 (fun _ => False)).alloc _).cell _ 2 xl id).trans c2)
  have xW : w.heap.size < W.heap.size := by rw [← hW]; simp; omega
  have UD : Upd w1 W.drew (fun _ => False) := hW ▸ ((Upd.refl w1 _).alloc _).drew
  have cW : W.drew.cell? ⟨w.heap.size, 2, none⟩ = some (.string ⟨t.toArray⟩) := (UD.cell _ 2 xl id).trans c2
  have RX : Rw (W.drew.alloc (.cells #[.int .u8 ((UInt8.ofNat t.length).toNat : Int)] 5)) 5 1 (.slice (some ⟨W.heap.size, 0, none⟩) 1 1) 1 [.int .u8 ((UInt8.ofNat t.length).toNat : Int)] := Rw.made W.drew _ _ 1 1 rfl
  rw [hW]
  have ht := HT.out
  clear hW c0 c1 c3 c4
  go_region_held3 (fun w' => w'.cell? ⟨w.heap.size, 2, none⟩ = some (.string ⟨t.toArray⟩))
    (first | exact cW | exact cA | exact cB | (go_keep; done))
    (first
    | (refine step_append_rw _ (by rfl) _ _ 80 80 (by rfl) 5 _ ib _ 1 1 Tryz.underlying80 Tryz.underlying80 (by simp) hi hz0 hz1 hz2 rfl _ 1 [.int .u8 2] (by rfl) (RA0.alloc _) _ 1 [.int .u8 ((UInt8.ofNat t.length).toNat : Int)] (by rfl) (Rw.src RX) rfl (by simp [Value.oneCell']) (by omega) (by omega) ?_; intro ga gca wa hva hga hoa; have ua : Upd w1 wa (fun _ => False) := Upd.grown (UD.alloc _) hga (fun j hj => .inl (by simp [Value.ownBlock] at hj; omega)); have cA : wa.cell? ⟨w.heap.size, 2, none⟩ = some (.string ⟨t.toArray⟩) := (ua.cell _ 2 xl id).trans c2; have oa : ∀ j, (Value.slice ga (1 + 1) gca).ownBlock = some j → w1.heap.size ≤ j := (fun j hj => by rcases hoa with e | e <;> (rw [e] at hj; simp [Value.ownBlock] at hj; have := UD.size; simp at this; omega)))
    | (refine step_append_rw _ (by rfl) _ _ 80 9 (by rfl) 5 _ ib _ 1 1 Tryz.underlying80 Tryz.underlying9 (by simp) hi hz0 hz1 hz2 rfl _ (1 + 1) ([.int .u8 2] ++ [.int .u8 ((UInt8.ofNat t.length).toNat : Int)]) (by rfl) hva _ t.length (t.map fun b => .int .u8 (b.toNat : Int)) (by rfl) (srcStr _ t) (by simp) (by intro u hu; simp at hu; obtain ⟨b, -, rfl⟩ := hu; rfl) (by omega) (by omega) ?_; intro gb gcb wb hvb hgb hob; have ub : Upd w1 wb (fun _ => False) := Upd.grown ua hgb (fun j hj => .inl (oa j hj)); have cB : wb.cell? ⟨w.heap.size, 2, none⟩ = some (.string ⟨t.toArray⟩) := (ub.cell _ 2 xl id).trans c2))
  all_goals (
    have cv := BtAt.back (w := wb) (v := .slice gb (2 + t.length) gcb) (l := 2 :: UInt8.ofNat t.length :: t) (by
      have e : (2 :: UInt8.ofNat t.length :: t).length = 2 + t.length := by simp; omega
      unfold BtAt
      rw [e]
      exact hvb) (by simp)
    go_wp2_with fail
    go_ret2
    exact ⟨rfl, HU.out.then ub (fun _ _ => id)⟩)
set_option maxHeartbeats 3200000 in
theorem Put_bool_true (w : World) : Calls Tryz.prog 36 #[(Vl.mk 3 0 [] true 0).val] w (PutPost w ([3, 1], 0)) := by
  obtain ⟨ib, hi, hz0, hz1, hz2⟩ := info_parts Tryz.info5
  have GA := fun w => Good_any w (Vl.mk 3 0 [] true 0) (mkB_ok true)
  rw [show goodV ⟨3, 0, [], true, 0⟩ = true from by decide] at GA
  unfold Vl.val at GA ⊢
  simp only at GA ⊢
  go_enter Tryz.func36, Tryz.ntmps36
  go_wp2_with fail
  refine Calls.mono (GA _) ?_
  rintro e w1 ⟨rfl, u1⟩
  have bX := u1.get (Vnew1 w (.cells (Vl.mk 3 0 [] true 0).cs 28)) id
  obtain ⟨c0, c1, c2, c3, c4⟩ := cells5 bX
  have xl := lt_at bX
  have HU := hide (((Upd.refl w _).alloc _).then u1 (fun _ _ => id))
  clear bX u1 GA
  go_wp2_with fail
  refine Calls.mono (rank_any _ true) ?_
  rintro e w' ⟨rfl, hw⟩
  replace hw := hw.symm
  subst hw
  have RA0 : Rw (w1.alloc (.cells #[.int .u8 3] 5)) 5 1 (.slice (some ⟨w1.heap.size, 0, none⟩) 1 1) 1 [.int .u8 3] := Rw.made w1 #[.int .u8 3] 5 1 1 rfl
  have RX : Rw ((w1.alloc (.cells #[.int .u8 3] 5)).alloc (.cells #[.int .u8 1] 5)) 5 1 (.slice (some ⟨w1.heap.size + 1, 0, none⟩) 1 1) 1 [.int .u8 1] := by
    have h := Rw.made (w1.alloc (.cells #[.int .u8 3] 5)) #[.int .u8 1] 5 1 1 rfl
    simpa using h
  have UD : Upd w1 (w1.alloc (.cells #[.int .u8 3] 5)) (fun _ => False) := (Upd.refl w1 _).alloc _
  go_wp2_with (at_builtin; go_loud (refine wpList_append_rw _ rfl _ _ 80 80 rfl 5 _ ib _ 1 1 Tryz.underlying80 Tryz.underlying80 (by simp) hi hz0 hz1 hz2 rfl _ 1 [.int .u8 3] rfl (RA0.alloc _) _ 1 [.int .u8 1] rfl (Rw.src RX) rfl (by simp [Value.oneCell']) (by omega) (by omega) ?_); intro ga gca wa hva hga hoa; go_loud (have ua : Upd w1 wa (fun _ => False) := Upd.grown (UD.alloc _) hga (fun j hj => .inl (by have hj' : (some w1.heap.size : Option Nat) = some j := hj; have := Option.some.inj hj'; omega))); go_loud (have cv := BtAt.back (w := wa) (v := .slice ga (1 + 1) gca) (l := [3, 1]) hva (by simp)))
  go_ret2
  exact ⟨rfl, HU.out.then ua (fun _ _ => id)⟩
set_option maxHeartbeats 3200000 in
theorem Put_bool_false (w : World) : Calls Tryz.prog 36 #[(Vl.mk 3 0 [] false 0).val] w (PutPost w ([3, 0], 0)) := by
  obtain ⟨ib, hi, hz0, hz1, hz2⟩ := info_parts Tryz.info5
  have GA := fun w => Good_any w (Vl.mk 3 0 [] false 0) (mkB_ok false)
  rw [show goodV ⟨3, 0, [], false, 0⟩ = true from by decide] at GA
  unfold Vl.val at GA ⊢
  simp only at GA ⊢
  go_enter Tryz.func36, Tryz.ntmps36
  go_wp2_with fail
  refine Calls.mono (GA _) ?_
  rintro e w1 ⟨rfl, u1⟩
  have bX := u1.get (Vnew1 w (.cells (Vl.mk 3 0 [] false 0).cs 28)) id
  obtain ⟨c0, c1, c2, c3, c4⟩ := cells5 bX
  have xl := lt_at bX
  have HU := hide (((Upd.refl w _).alloc _).then u1 (fun _ _ => id))
  clear bX u1 GA
  go_wp2_with fail
  refine Calls.mono (rank_any _ false) ?_
  rintro e w' ⟨rfl, hw⟩
  replace hw := hw.symm
  subst hw
  have RA0 : Rw (w1.alloc (.cells #[.int .u8 3] 5)) 5 1 (.slice (some ⟨w1.heap.size, 0, none⟩) 1 1) 1 [.int .u8 3] := Rw.made w1 #[.int .u8 3] 5 1 1 rfl
  have RX : Rw ((w1.alloc (.cells #[.int .u8 3] 5)).alloc (.cells #[.int .u8 0] 5)) 5 1 (.slice (some ⟨w1.heap.size + 1, 0, none⟩) 1 1) 1 [.int .u8 0] := by
    have h := Rw.made (w1.alloc (.cells #[.int .u8 3] 5)) #[.int .u8 0] 5 1 1 rfl
    simpa using h
  have UD : Upd w1 (w1.alloc (.cells #[.int .u8 3] 5)) (fun _ => False) := (Upd.refl w1 _).alloc _
  go_wp2_with (at_builtin; go_loud (refine wpList_append_rw _ rfl _ _ 80 80 rfl 5 _ ib _ 1 1 Tryz.underlying80 Tryz.underlying80 (by simp) hi hz0 hz1 hz2 rfl _ 1 [.int .u8 3] rfl (RA0.alloc _) _ 1 [.int .u8 0] rfl (Rw.src RX) rfl (by simp [Value.oneCell']) (by omega) (by omega) ?_); intro ga gca wa hva hga hoa; go_loud (have ua : Upd w1 wa (fun _ => False) := Upd.grown (UD.alloc _) hga (fun j hj => .inl (by have hj' : (some w1.heap.size : Option Nat) = some j := hj; have := Option.some.inj hj'; omega))); go_loud (have cv := BtAt.back (w := wa) (v := .slice ga (1 + 1) gca) (l := [3, 0]) hva (by simp)))
  go_ret2
  exact ⟨rfl, HU.out.then ua (fun _ _ => id)⟩
set_option maxHeartbeats 3200000 in
theorem Put_err (w : World) (f : Int) (hf : okFail f = true) : Calls Tryz.prog 36 #[(Vl.mk 4 0 [] false f).val] w (PutPost w ([4, UInt8.ofNat f.toNat], 0)) := by
  obtain ⟨ib, hi, hz0, hz1, hz2⟩ := info_parts Tryz.info5
  have hgd : goodV ⟨4, 0, [], false, f⟩ = true := by
    have e : mkE f = ⟨4, 0, [], false, f⟩ := by unfold mkE; rw [if_pos hf]
    unfold goodV
    simp only [show ¬ ((4 : Int) = 0) by decide, show ¬ ((4 : Int) = 1) by decide, show ¬ ((4 : Int) = 2) by decide, show ¬ ((4 : Int) = 3) by decide, if_false, if_true]
    exact eqV_iff.2 e.symm
  have hfr : 0 < f ∧ f < 9 := by simpa [okFail] using hf
  have hlu : f % 256 = ((UInt8.ofNat f.toNat).toNat : Int) := by
    rw [UInt8.toNat_ofNat']
    omega
  obtain ⟨c, hc⟩ : ∃ c : UInt8, UInt8.ofNat f.toNat = c := ⟨_, rfl⟩
  rw [hc] at hlu ⊢
  clear hc
  have GA := fun w => Good_any w (Vl.mk 4 0 [] false f) ⟨i4, i0, Nat.zero_le _, okFail_i64 hf⟩
  rw [show goodV ⟨4, 0, [], false, f⟩ = true from hgd] at GA
  unfold Vl.val at GA ⊢
  simp only at GA ⊢
  clear hfr hgd
  go_enter Tryz.func36, Tryz.ntmps36
  go_wp2_with fail
  refine Calls.mono (GA _) ?_
  rintro e w1 ⟨rfl, u1⟩
  have bX := u1.get (Vnew1 w (.cells (Vl.mk 4 0 [] false f).cs 28)) id
  obtain ⟨c0, c1, c2, c3, c4⟩ := cells5 bX
  have xl := lt_at bX
  have HU := hide (((Upd.refl w _).alloc _).then u1 (fun _ _ => id))
  clear bX u1 GA
  have RA0 : Rw (w1.alloc (.cells #[.int .u8 4] 5)) 5 1 (.slice (some ⟨w1.heap.size, 0, none⟩) 1 1) 1 [.int .u8 4] := Rw.made w1 #[.int .u8 4] 5 1 1 rfl
  have RX : Rw ((w1.alloc (.cells #[.int .u8 4] 5)).alloc (.cells #[.int .u8 (c.toNat : Int)] 5)) 5 1 (.slice (some ⟨w1.heap.size + 1, 0, none⟩) 1 1) 1 [.int .u8 (c.toNat : Int)] := by
    have h := Rw.made (w1.alloc (.cells #[.int .u8 4] 5)) #[.int .u8 (c.toNat : Int)] 5 1 1 rfl
    simpa using h
  have UD : Upd w1 (w1.alloc (.cells #[.int .u8 4] 5)) (fun _ => False) := (Upd.refl w1 _).alloc _
  go_wp2_with (at_builtin; go_loud (refine wpList_append_rw _ rfl _ _ 80 80 rfl 5 _ ib _ 1 1 Tryz.underlying80 Tryz.underlying80 (by simp) hi hz0 hz1 hz2 rfl _ 1 [.int .u8 4] rfl (RA0.alloc _) _ 1 [.int .u8 (c.toNat : Int)] rfl (Rw.src RX) rfl (by simp [Value.oneCell']) (by omega) (by omega) ?_); intro ga gca wa hva hga hoa; go_loud (have ua : Upd w1 wa (fun _ => False) := Upd.grown (UD.alloc _) hga (fun j hj => .inl (by have hj' : (some w1.heap.size : Option Nat) = some j := hj; have := Option.some.inj hj'; omega))); go_loud (have cv := BtAt.back (w := wa) (v := .slice ga (1 + 1) gca) (l := [4, c]) hva (by simp)))
  go_ret2
  exact ⟨rfl, HU.out.then ua (fun _ _ => id)⟩
theorem Put_any (w : World) (x : Vl) (hx : x.ok) : Calls Tryz.prog 36 #[x.val] w (PutPost w (putV x)) := by
  unfold putV
  cases hg : goodV x with
  | false => exact Put_bad w x hx hg
  | true =>
    rw [if_pos rfl]
    rcases good_forms hg with rfl | ⟨n, hn, rfl⟩ | ⟨t, ht, rfl⟩ | ⟨b, rfl⟩ | ⟨f, hf, rfl⟩
    · exact Put_blank w
    · exact PutN_any w n hx hg
    · exact Put_text w t ht
    · cases b with
      | true => exact Put_bool_true w
      | false => exact Put_bool_false w
    · exact Put_err w f hf
end Go.Proofs.YthahgablbdfodaaGreatDoor
/- The walks of package value's long, told. -/
set_option maxRecDepth 100000
namespace Go.Proofs.YthahgablbdfodaaGreatDoor
open Go.RowKit Go.Lat Go.Lib

theorem enS_bk (t : ByteArray) : enS t.data.toList = .string t := by
  show Value.string ⟨t.data.toList.toArray⟩ = .string t
  simp
theorem head1 {z : ByteArray} (h : 0 < z.size) : z.data.toList = z[0] :: z.data.toList.drop 1 := by
  have h1 : 0 < z.data.toList.length := h
  rw [List.drop_one]
  cases hz : z.data.toList with
  | nil => rw [hz] at h1; simp at h1
  | cons a l =>
    have h2 := getB h
    rw [hz] at h2
    simp at h2
    simp [h2]
theorem head2 {z : ByteArray} (h : 1 < z.size) : z.data.toList = z[0] :: z[1] :: z.data.toList.drop 2 := by
  have h1 := head1 (z := z) (by omega)
  have h2 := getB h
  rw [h1]
  congr 1
  rw [h1] at h2
  simp only [List.getElem?_cons_succ] at h2
  cases hd : z.data.toList.drop 1 with
  | nil => rw [hd] at h2; simp at h2
  | cons a l =>
    rw [hd] at h2
    simp at h2
    rw [h2]
    congr 1
/-- How many bytes stand behind a kind's byte; false, if that can't be told. -/
def longV (k : Nat) (l : Option Nat) : Int × Bool :=
  if k = 0 then (0, true) else if k = 1 then (8, true) else if k = 2 then (match l with | none => (0, false) | some l => (1 + (l : Int), true)) else if k = 3 then (1, true) else if k = 4 then (1, true) else (0, false)
theorem long_any (w : World) (z : ByteArray) (h0 : 0 < z.size) (k : UInt8) (hk : z[0] = k) (l : Option Nat) (hl : if h : 1 < z.size then l = some z[1].toNat else l = none) :
    Calls Tryz.prog 62 #[.string z] w fun e w' => e = .returned (.tuple #[.int .i64 (longV k.toNat l).1, .bool (longV k.toNat l).2]) ∧ w' = w := by
  unfold longV
  obtain ⟨n, hn⟩ : ∃ n, k.toNat = n := ⟨_, rfl⟩
  have hz0 : z[0].toNat = n := by rw [hk, hn]
  rw [hn]
  have hn256 : n < 256 := by rw [← hn]; exact k.toNat_lt
  clear hk hn
  by_cases c0 : n = 0
  · subst c0
    rw [if_pos rfl]
    clear hl
    go_enter Tryz.func62, Tryz.ntmps62
    go_wp2_with fail
    go_ret2
    exact ⟨rfl, rfl⟩
  · rw [if_neg c0]
    have b0 : ((n : Int) == 0) = false := beq_eq_false_iff_ne.2 (by omega)
    by_cases c1 : n = 1
    · subst c1
      rw [if_pos rfl]
      clear hl
      go_enter Tryz.func62, Tryz.ntmps62
      go_wp2_with fail
      go_ret2
      exact ⟨rfl, rfl⟩
    · rw [if_neg c1]
      have b1 : ((n : Int) == 1) = false := beq_eq_false_iff_ne.2 (by omega)
      by_cases c2 : n = 2
      · subst c2
        rw [if_pos rfl]
        by_cases h1 : 1 < z.size
        · rw [dif_pos h1] at hl
          subst hl
          simp only
          have d1 : decide ((z.size : Int) < 2) = false := decide_eq_false (by omega)
          have d2 : decide (z.size < 2) = false := decide_eq_false (by omega)
          have hb : z[1].toNat < 256 := z[1].toNat_lt
          obtain ⟨m, hm⟩ : ∃ m, z[1].toNat = m := ⟨_, rfl⟩
          rw [hm] at hb ⊢
          have hw : IntKind.i64.wrap (1 + (m : Int)) = 1 + (m : Int) := IntWalk.i64_in _ (by omega)
          clear c0 c1
          go_enter Tryz.func62, Tryz.ntmps62
          go_wp2_with fail
          go_ret2
          exact ⟨rfl, rfl⟩
        · rw [dif_neg h1] at hl
          subst hl
          simp only
          have d1 : decide ((z.size : Int) < 2) = true := decide_eq_true (by omega)
          have d2 : decide (z.size < 2) = true := decide_eq_true (by omega)
          clear c0 c1
          go_enter Tryz.func62, Tryz.ntmps62
          go_wp2_with fail
          go_ret2
          exact ⟨rfl, rfl⟩
      · rw [if_neg c2]
        have b2 : ((n : Int) == 2) = false := beq_eq_false_iff_ne.2 (by omega)
        by_cases c3 : n = 3
        · subst c3
          rw [if_pos rfl]
          clear hl
          go_enter Tryz.func62, Tryz.ntmps62
          go_wp2_with fail
          go_ret2
          exact ⟨rfl, rfl⟩
        · rw [if_neg c3]
          have b3 : ((n : Int) == 3) = false := beq_eq_false_iff_ne.2 (by omega)
          by_cases c4 : n = 4
          · subst c4
            rw [if_pos rfl]
            clear hl
            go_enter Tryz.func62, Tryz.ntmps62
            go_wp2_with fail
            go_ret2
            exact ⟨rfl, rfl⟩
          · rw [if_neg c4]
            have b4 : ((n : Int) == 4) = false := beq_eq_false_iff_ne.2 (by omega)
            have hwn : wrap64 (n : Int) = (n : Int) := IntWalk.wrap64_in _ (by omega)
            clear c0 c1 c2 c3 c4 hl
            go_enter Tryz.func62, Tryz.ntmps62
            go_wp2_with fail
            go_ret2
            exact ⟨rfl, rfl⟩
end Go.Proofs.YthahgablbdfodaaGreatDoor
/- The walk of package value's told. -/
set_option maxRecDepth 100000
namespace Go.Proofs.YthahgablbdfodaaGreatDoor
open Go.RowKit Go.Lat Go.Lib

set_option maxHeartbeats 1600000 in
theorem told_blank (w : World) (z : ByteArray) (h0 : 0 < z.size) (hk : z[0].toNat = 0) :
    Calls Tryz.prog 63 #[.string z] w fun e w' => e = .returned vZero.val ∧ Upd w w' (fun _ => False) := by
  go_enter Tryz.func63, Tryz.ntmps63
  go_wp2_with fail
  (try simp only [Exit.inBlock, Exit.then])
  refine bodyPost_ret (ret_vl rfl _ _ w.heap.size ⟨0, 0, [], false, 0⟩ rfl (block_alloc (Vnew1 w _) _)) rfl ?_
  exact ⟨rfl, ((Upd.refl w _).alloc _).alloc _⟩
set_option maxHeartbeats 1600000 in
theorem told_text (w : World) (z q : ByteArray) (h0 : 0 < z.size) (hk : z[0].toNat = 2) (h2 : 2 ≤ z.size) (hq : z.extract 2 z.size = q) :
    Calls Tryz.prog 63 #[.string z] w fun e w' => e = .returned (Vl.mk 2 0 q.data.toList false 0).val ∧ Upd w w' (fun _ => False) := by
  have e := enS_bk q
  unfold Vl.val
  simp only [e]
  clear e
  go_enter Tryz.func63, Tryz.ntmps63
  go_wp2_with fail
  (try simp only [Exit.inBlock, Exit.then])
  refine bodyPost_ret (results_cell_row rfl _ _ w.heap.size 28 #[.int .i64 2, .int .i64 0, .string q, .bool false, .int .i64 0] (0, 0) _ rfl (block_alloc (Vnew1 w _) _) Tryz.underlying28 rfl Tryz.infoV) rfl ?_
  exact ⟨rfl, ((Upd.refl w _).alloc _).alloc _⟩
set_option maxHeartbeats 1600000 in
theorem told_bool (w : World) (z : ByteArray) (h0 : 0 < z.size) (hk : z[0].toNat = 3) (h1 : 1 < z.size) (b : Bool) (hb : ((z[1].toNat : Int) == 1) = b) :
    Calls Tryz.prog 63 #[.string z] w fun e w' => e = .returned (Vl.mk 3 0 [] b 0).val ∧ Upd w w' (fun _ => False) := by
  go_enter Tryz.func63, Tryz.ntmps63
  go_wp2_with fail
  (try simp only [Exit.inBlock, Exit.then])
  refine bodyPost_ret (ret_vl rfl _ _ w.heap.size ⟨3, 0, [], b, 0⟩ rfl (block_alloc (Vnew1 w _) _)) rfl ?_
  exact ⟨rfl, ((Upd.refl w _).alloc _).alloc _⟩
set_option maxHeartbeats 1600000 in
theorem told_err (w : World) (z : ByteArray) (h0 : 0 < z.size) (hk : z[0].toNat = 4) (h1 : 1 < z.size) (f : Nat) (hf : z[1].toNat = f) (hw : wrap64 (f : Int) = (f : Int)) :
    Calls Tryz.prog 63 #[.string z] w fun e w' => e = .returned (Vl.mk 4 0 [] false (f : Int)).val ∧ Upd w w' (fun _ => False) := by
  go_enter Tryz.func63, Tryz.ntmps63
  go_wp2_with fail
  (try simp only [Exit.inBlock, Exit.then])
  refine bodyPost_ret (ret_vl rfl _ _ w.heap.size ⟨4, 0, [], false, (f : Int)⟩ rfl (block_alloc (Vnew1 w _) _)) rfl ?_
  exact ⟨rfl, ((Upd.refl w _).alloc _).alloc _⟩

/-- The number of bytes, the highest first. -/
def natOf (l : List UInt8) : Nat := l.foldl (fun n b => n * 256 + b.toNat) 0
theorem natOf_snoc (l : List UInt8) (b : UInt8) : natOf (l ++ [b]) = natOf l * 256 + b.toNat := by
  unfold natOf
  rw [List.foldl_append]
  rfl
theorem natOf_lt' : ∀ (l : List UInt8) (n : Nat), l.foldl (fun n b => n * 256 + b.toNat) n < (n + 1) * 256 ^ l.length
  | [], n => by simp
  | b :: l, n => by
    have h := natOf_lt' l (n * 256 + b.toNat)
    have hb := b.toNat_lt
    rw [List.foldl_cons, List.length_cons, Nat.pow_succ]
    have h2 : (n * 256 + b.toNat + 1) * 256 ^ l.length ≤ ((n + 1) * 256) * 256 ^ l.length := Nat.mul_le_mul_right _ (by omega)
    have h3 : (n + 1) * (256 ^ l.length * 256) = ((n + 1) * 256) * 256 ^ l.length := by rw [Nat.mul_comm (256 ^ l.length) 256, Nat.mul_assoc]
    omega
theorem natOf_lt (l : List UInt8) : natOf l < 256 ^ l.length := by
  have h := natOf_lt' l 0
  rw [Nat.zero_add, Nat.one_mul] at h
  exact h
/-- The number of eight bytes. -/
def numOf (l : List UInt8) : Int := IntKind.i64.wrap (natOf l : Int)
theorem shl_or (x c : Nat) (hx : x * 256 < 18446744073709551616) (hc : c < 256) : bits BinOp.or IntKind.u64 (IntKind.u64.wrap ((x : Int) * 256)) (c : Int) = ((x * 256 + c : Nat) : Int) := by
  rw [u64_wrap_id _ (by omega) (by omega)]
  rw [bits_join .u64 64 (by decide) wraps_u64 8 _ _ (by omega) (by omega) (by omega) (by omega) (by omega) (by omega)]
  omega
theorem natOf_step {l : List UInt8} (hl : l.length = 8) {j : Nat} {c : UInt8} (hc : l[j]? = some c) : natOf (l.take j) * 256 < 18446744073709551616 ∧ natOf (l.take (j + 1)) = natOf (l.take j) * 256 + c.toNat := by
  have hj : j < 8 := by rw [← hl]; exact (List.getElem?_eq_some_iff.1 hc).1
  constructor
  · have h := natOf_lt (l.take j)
    have h2 : (l.take j).length = j := by rw [List.length_take]; omega
    rw [h2] at h
    have h3 : 256 ^ (j + 1) ≤ 256 ^ 8 := Nat.pow_le_pow_right (by decide) (by omega)
    have h4 : (256 : Nat) ^ 8 = 18446744073709551616 := by decide
    rw [Nat.pow_succ] at h3
    omega
  · rw [List.take_add_one, hc]
    exact natOf_snoc _ _
set_option maxHeartbeats 3200000 in
theorem told_num (w : World) (z q : ByteArray) (h0 : 0 < z.size) (hk : z[0].toNat = 1) (hq : z.extract 1 z.size = q) (hq8 : q.size = 8) :
    Calls Tryz.prog 63 #[.string z] w fun e w' => e = .returned (Vl.mk 1 (numOf q.data.toList) [] false 0).val ∧ Upd w w' (fun _ => False) := by
  have h1z : (1 : Int) ≤ (z.size : Int) := by omega
  obtain ⟨w2, hw2⟩ : ∃ w2, (w.alloc (.cells #[.int .i64 0, .int .i64 0, .string ⟨#[]⟩, .bool false, .int .i64 0] 28)).alloc (.cells #[.int .i64 1, .int .i64 0, .string ⟨#[]⟩, .bool false, .int .i64 0] 28) = w2 := ⟨_, rfl⟩
  have bR : w2.heap[w.heap.size]? = some (.cells vZero.cs 28 (0, 0)) := hw2 ▸ block_alloc (Vnew1 w _) _
  have bV : w2.heap[w.heap.size + 1]? = some (.cells (Vl.mk 1 0 [] false 0).cs 28 (0, 0)) := hw2 ▸ Vnew2 w _ _
  have uV : Upd w w2 (fun _ => False) := hw2 ▸ ((Upd.refl w _).alloc _).alloc _
  have KW := Lib.run_convert_string_bytes (P := Tryz.prog) w2 9 80 5 q Tryz.underlying9 Tryz.underlying80 Tryz.underlying5
  have hB := Buf.made w2 5 q
  have hU := Buf.world w2 5 q
  obtain ⟨W, hW⟩ : ∃ W, bytesWorld w2 5 q = W := ⟨_, rfl⟩
  rw [hW] at hB hU KW
  obtain ⟨cap, hcap⟩ : ∃ cap, grownCap w2 q.size 0 5 = cap := ⟨_, rfl⟩
  rw [hcap, hq8] at KW
  obtain ⟨l, hl2⟩ : ∃ l, q.data.toList = l := ⟨_, rfl⟩
  have hl : l.length = 8 := by rw [← hl2, ← hq8]; rfl
  rw [hl2] at hB ⊢
  have hU2 : w2.heap.size ≤ W.heap.size := hU.size
  have gl := hB.lt
  obtain ⟨g, hg⟩ : ∃ g, w2.heap.size = g := ⟨_, rfl⟩
  rw [hg] at KW hB gl
  rw [← hw2] at KW
  have HB0 := hide hB
  have HL := hide hl
  have HU := hide hU
  have HR := hide bR
  have HV := hide bV
  have HUV := hide uV
  clear hW hcap hB hU hl hl2 bR bV uV hg hU2 hw2
  go_enter Tryz.func63, Tryz.ntmps63
  go_wp2_with fail
  obtain ⟨g, hg⟩ : ∃ g, w2.heap.size = g := ⟨_, rfl⟩
  have HG := hide hg
  clear KW
  go_loopg [4, 19] 8 (fun q v iv wr => ∃ j : Nat, j + q = 8 ∧ iv = .int .i64 (j : Int) ∧ v = .int .u64 (natOf (l.take j) : Int) ∧ wr = W)
  case atStart => exact ⟨0, by omega, by rfl, by rfl, by rfl⟩
  case round =>
    obtain ⟨j, hj, rfl, rfl, hw⟩ := hrel
    replace hw := hw.symm
    subst hw
    by_cases hj8 : j < 8
    · obtain ⟨c, hc⟩ : ∃ c, l[j]? = some c := ⟨_, List.getElem?_eq_getElem (by rw [HL.out]; exact hj8)⟩
      have c0 := HB0.out.cell hc
      have hi0 : (0 : Int) ≤ (j : Int) := by omega
      have hi1 : (j : Int) < 8 := by omega
      obtain ⟨hb1, hb2⟩ := natOf_step HL.out hc
      have hso := shl_or (natOf (l.take j)) c.toNat hb1 c.toNat_lt
      rw [← hb2] at hso
      have c255 : c.toNat < 256 := c.toNat_lt
      clear hb1 hb2
      go_wp2_with fail
      go_roundg (gk - 1)
      case measure => omega
      case rel => exact ⟨j + 1, by omega, by first | rfl | go_num, by first | rfl | (rw [hso]), rfl⟩
    · obtain rfl : j = 8 := by omega
      have e8 : l.take 8 = l := List.take_of_length_le (by rw [HL.out]; decide)
      rw [e8]
      have bV := HU.out.get HV.out id
      obtain ⟨c0, c1, c2, c3, c4⟩ := cells5 bV
      have xl := lt_at bV
      have v1 := free_at bV 1
      have bR := HU.out.get HR.out id
      obtain ⟨d0, d1, d2, d3, d4⟩ := cells5 bR
      have yl := lt_at bR
      have f0 := free_at bR 0
      have f1 := free_at bR 1
      have f2 := free_at bR 2
      have f3 := free_at bR 3
      have f4 := free_at bR 4
      have HBR := hide bR
      clear bV bR e8
      obtain ⟨N, hN⟩ : ∃ N : Int, (natOf l : Int) = N := ⟨_, rfl⟩
      rw [hN]
      have HN := hide hN
      clear hN
      go_wp2_with fail
      (try simp only [Exit.inBlock, Exit.then])
      have uS : Upd W (W.setCell ⟨w.heap.size + 1, 1, none⟩ (.int .i64 (wrap64 N))) (fun k => k = w.heap.size + 1) := (Upd.refl W _).setCell _ _ (.inr rfl)
      refine bodyPost_ret (ret_vl rfl _ _ w.heap.size ⟨1, wrap64 N, [], false, 0⟩ rfl (block5 (uS.get HBR.out (by omega)) _ _ _ _ _)) rfl ?_
      refine ⟨by rw [show numOf l = wrap64 N from by unfold numOf; rw [HN.out, IntWalk.i64_left]], upd5 ?_ (Nat.le_refl _) _ _ _ _ _⟩
      exact (HUV.out.then HU.out (fun _ _ => id)).setCell _ _ (.inl (by show w.heap.size ≤ w.heap.size + 1; omega))
end Go.Proofs.YthahgablbdfodaaGreatDoor
/- The walk of package value's Get, given what long, told and Put answer. -/
set_option maxRecDepth 100000
namespace Go.Lat
theorem results_cell_tmp2_row {P : Program} {fn : Func} {p q r : Tmp} {ty : TypeId} (h : fn.results = #[.cell p ty, .tmp q, .tmp r]) (tmps : Array Value) (w : World) (g : Nat) (t : TypeId) (cs : Array Value) (fr : Nat × Nat) (d : TypeDesc)
    (hp : tmps.getD p undef = .pointer (some ⟨g, 0, none⟩)) (hg : w.heap[g]? = some (.cells cs t fr))
    (hu : P.underlying ty = some d) (hd : (match d with | .struct _ | .array _ _ => true | _ => false) = true) (hi : (P.info? ty).map (·.size) = some cs.size) :
    (results fn tmps).run P w = .ok (.tuple #[.agg cs, tmps.getD q undef, tmps.getD r undef]) w := by
  have hp' : tmps[p]?.getD undef = .pointer (some ⟨g, 0, none⟩) := by simpa using hp
  simp [results, h, hp', asAddr, run_loadVar_row w g t ty cs fr d hg hu hd hi, Result.andThen]
end Go.Lat
namespace Go.Proofs.YthahgablbdfodaaGreatDoor
open Go.RowKit Go.Lat Go.Lib

abbrev GetPost (w : World) (v : Vl) (n e : Int) : Ending → World → Prop := fun x w' => x = .returned (.tuple #[v.val, .int .i64 n, .int .i64 e]) ∧ Upd w w' (fun _ => False)
theorem ret_get {fn : Func} {p q r : Tmp} (h : fn.results = #[.cell p 28, .tmp q, .tmp r]) (tmps : Array Value) (W : World) (g : Nat) (x : Vl) (hp : tmps.getD p undef = .pointer (some ⟨g, 0, none⟩)) (hg : W.heap[g]? = some (.cells x.cs 28 (0, 0))) :
    (results fn tmps).run Tryz.prog W = .ok (.tuple #[x.val, tmps.getD q undef, tmps.getD r undef]) W :=
  results_cell_tmp2_row h tmps W g 28 x.cs (0, 0) _ hp hg Tryz.underlying28 rfl Tryz.infoV

set_option maxHeartbeats 1600000 in
theorem Get_out (w : World) (s : ByteArray) (a : Int) (h : (decide (a < 0) = true) ∨ (decide (a < 0) = false ∧ decide (a > (s.size : Int)) = true)) :
    Calls Tryz.prog 40 #[.string s, .int .i64 a] w (GetPost w vZero 0 3) := by
  rcases h with h | ⟨h, h'⟩
  all_goals (go_enter Tryz.func40, Tryz.ntmps40)
  all_goals (go_wp2_with fail)
  all_goals (try simp only [Exit.inBlock, Exit.then])
  all_goals refine bodyPost_ret (ret_get rfl _ _ w.heap.size ⟨0, 0, [], false, 0⟩ rfl (Vnew1 w _)) rfl ?_
  all_goals exact ⟨rfl, (Upd.refl w _).alloc _⟩
set_option maxHeartbeats 1600000 in
theorem Get_empty (w : World) (s : ByteArray) (a : Nat) (ha : a ≤ s.size) (hz : s.extract a s.size = ⟨#[]⟩) :
    Calls Tryz.prog 40 #[.string s, .int .i64 (a : Int)] w (GetPost w vZero 0 4) := by
  have d1 : decide ((a : Int) < 0) = false := decide_eq_false (by omega)
  have d2 : decide ((a : Int) > (s.size : Int)) = false := decide_eq_false (by omega)
  have d3 : decide (s.size < a) = false := decide_eq_false (by omega)
  have a0 : (0 : Int) ≤ (a : Int) := by omega
  have a1 : (a : Int) ≤ (s.size : Int) := by omega
  go_enter Tryz.func40, Tryz.ntmps40
  go_wp2_with fail
  (try simp only [Exit.inBlock, Exit.then])
  refine bodyPost_ret (ret_get rfl _ _ w.heap.size ⟨0, 0, [], false, 0⟩ rfl (Vnew1 w _)) rfl ?_
  exact ⟨rfl, (Upd.refl w _).alloc _⟩
set_option maxHeartbeats 1600000 in
theorem Get_untold (w : World) (s : ByteArray) (a : Nat) (ha : a ≤ s.size) (l : List UInt8) (hz : s.extract a s.size = ⟨l.toArray⟩) (hl : (l == []) = false) (N : Int) (L : ∀ w, Calls Tryz.prog 62 #[enS l] w fun e w' => e = .returned (.tuple #[.int .i64 N, .bool false]) ∧ w' = w) :
    Calls Tryz.prog 40 #[.string s, .int .i64 (a : Int)] w (GetPost w vZero 0 4) := by
  have d1 : decide ((a : Int) < 0) = false := decide_eq_false (by omega)
  have d2 : decide ((a : Int) > (s.size : Int)) = false := decide_eq_false (by omega)
  have d3 : decide (s.size < a) = false := decide_eq_false (by omega)
  have a0 : (0 : Int) ≤ (a : Int) := by omega
  have a1 : (a : Int) ≤ (s.size : Int) := by omega
  go_enter Tryz.func40, Tryz.ntmps40
  go_wp2_with fail
  refine Calls.mono (L _) ?_
  rintro e w1 ⟨rfl, hw⟩
  replace hw := hw.symm
  subst hw
  go_wp2_with fail
  (try simp only [Exit.inBlock, Exit.then])
  refine bodyPost_ret (ret_get rfl _ _ w.heap.size ⟨0, 0, [], false, 0⟩ rfl (Vnew1 w _)) rfl ?_
  exact ⟨rfl, (Upd.refl w _).alloc _⟩
set_option maxHeartbeats 1600000 in
theorem Get_short (w : World) (s : ByteArray) (a : Nat) (ha : a ≤ s.size) (l : List UInt8) (hz : s.extract a s.size = ⟨l.toArray⟩) (hl : (l == []) = false) (N : Nat) (hN : l.length ≤ N) (L : ∀ w, Calls Tryz.prog 62 #[enS l] w fun e w' => e = .returned (.tuple #[.int .i64 (N : Int), .bool true]) ∧ w' = w) :
    Calls Tryz.prog 40 #[.string s, .int .i64 (a : Int)] w (GetPost w vZero 0 4) := by
  have d4 : decide ((l.length : Int) ≤ (N : Int)) = true := decide_eq_true (by omega)
  have d5 : decide (l.length ≤ N) = true := decide_eq_true hN
  have d1 : decide ((a : Int) < 0) = false := decide_eq_false (by omega)
  have d2 : decide ((a : Int) > (s.size : Int)) = false := decide_eq_false (by omega)
  have d3 : decide (s.size < a) = false := decide_eq_false (by omega)
  have a0 : (0 : Int) ≤ (a : Int) := by omega
  have a1 : (a : Int) ≤ (s.size : Int) := by omega
  go_enter Tryz.func40, Tryz.ntmps40
  go_wp2_with fail
  refine Calls.mono (L _) ?_
  rintro e w1 ⟨rfl, hw⟩
  replace hw := hw.symm
  subst hw
  go_wp2_with fail
  (try simp only [Exit.inBlock, Exit.then])
  refine bodyPost_ret (ret_get rfl _ _ w.heap.size ⟨0, 0, [], false, 0⟩ rfl (Vnew1 w _)) rfl ?_
  exact ⟨rfl, (Upd.refl w _).alloc _⟩
set_option maxHeartbeats 3200000 in
theorem Get_bad1 (w : World) (s : ByteArray) (a : Nat) (ha : a ≤ s.size) (l : List UInt8) (hz : s.extract a s.size = ⟨l.toArray⟩) (hl : (l == []) = false) (N : Nat) (hN : N < l.length) (hN2 : N ≤ 1000) (L : ∀ w, Calls Tryz.prog 62 #[enS l] w fun e w' => e = .returned (.tuple #[.int .i64 (N : Int), .bool true]) ∧ w' = w)
    (hd : List UInt8) (hh : (⟨l.toArray⟩ : ByteArray).extract 0 (1 + N) = ⟨hd.toArray⟩) (k n : Int) (t : List UInt8) (b : Bool) (f : Int) (T : ∀ w, Calls Tryz.prog 63 #[enS hd] w fun e w' => e = .returned (Vl.mk k n t b f).val ∧ Upd w w' (fun _ => False))
    (p : List UInt8) (E : Int) (PU : ∀ w, Calls Tryz.prog 36 #[(Vl.mk k n t b f).val] w (PutPost w (p, E))) (hE : (E != 0) = true) :
    Calls Tryz.prog 40 #[.string s, .int .i64 (a : Int)] w (GetPost w vZero 0 4) := by
  have d4 : decide ((l.length : Int) ≤ (N : Int)) = false := decide_eq_false (by omega)
  have d5 : decide (l.length ≤ N) = false := decide_eq_false (by omega)
  have hw1 : IntKind.i64.wrap (1 + (N : Int)) = ((1 + N : Nat) : Int) := by rw [IntWalk.i64_in _ (by omega)]; omega
  have m0 : (0 : Int) ≤ ((1 + N : Nat) : Int) := by omega
  have m1 : ((1 + N : Nat) : Int) ≤ (l.length : Int) := by omega
  obtain ⟨M, hM⟩ : ∃ M, 1 + N = M := ⟨_, rfl⟩
  rw [hM] at hw1 m0 m1 hh
  unfold Vl.val at T PU
  simp only at T PU
  have HM := hide hM
  clear hM
  have d1 : decide ((a : Int) < 0) = false := decide_eq_false (by omega)
  have d2 : decide ((a : Int) > (s.size : Int)) = false := decide_eq_false (by omega)
  have d3 : decide (s.size < a) = false := decide_eq_false (by omega)
  have a0 : (0 : Int) ≤ (a : Int) := by omega
  have a1 : (a : Int) ≤ (s.size : Int) := by omega
  go_enter Tryz.func40, Tryz.ntmps40
  go_wp2_with fail
  refine Calls.mono (L _) ?_
  rintro e w1 ⟨rfl, hw⟩
  replace hw := hw.symm
  subst hw
  go_wp2_with fail
  refine Calls.mono (T _) ?_
  rintro e w2 ⟨rfl, u2⟩
  have HZ := hide (u2.get (Vnew1 w (.cells vZero.cs 28)) id)
  have HU := hide (((Upd.refl w _).alloc _).then u2 (fun _ _ => id))
  clear u2 T L
  go_wp2_with fail
  refine Calls.mono (PU _) ?_
  rintro e w3 ⟨rfl, u3⟩
  have bZ := u3.get (block_alloc HZ.out (.cells (Vl.mk k n t b f).cs 28)) id
  obtain ⟨c0, c1, c2, c3, c4⟩ := cells5 bZ
  have xl := lt_at bZ
  have f0 := free_at bZ 0
  have f1 := free_at bZ 1
  have f2 := free_at bZ 2
  have f3 := free_at bZ 3
  have f4 := free_at bZ 4
  have bV := u3.get (Vnew1 w2 (.cells (Vl.mk k n t b f).cs 28)) id
  obtain ⟨e0, e1, e2, e3, e4⟩ := cells5 bV
  have vl := lt_at bV
  have HBZ := hide bZ
  have HU3 := hide ((HU.out.alloc _).then u3 (fun _ _ => id))
  clear u3 PU HZ HU bZ bV
  go_wp2_with fail
  (try simp only [Exit.inBlock, Exit.then])
  refine bodyPost_ret (ret_get rfl _ _ w.heap.size ⟨0, 0, [], false, 0⟩ rfl (block5 HBZ.out _ _ _ _ _)) rfl ?_
  exact ⟨rfl, upd5 HU3.out (Nat.le_refl _) _ _ _ _ _⟩
set_option maxHeartbeats 3200000 in
theorem Get_bad2 (w : World) (s : ByteArray) (a : Nat) (ha : a ≤ s.size) (l : List UInt8) (hz : s.extract a s.size = ⟨l.toArray⟩) (hl : (l == []) = false) (N : Nat) (hN : N < l.length) (hN2 : N ≤ 1000) (L : ∀ w, Calls Tryz.prog 62 #[enS l] w fun e w' => e = .returned (.tuple #[.int .i64 (N : Int), .bool true]) ∧ w' = w)
    (hd : List UInt8) (hh : (⟨l.toArray⟩ : ByteArray).extract 0 (1 + N) = ⟨hd.toArray⟩) (k n : Int) (t : List UInt8) (b : Bool) (f : Int) (T : ∀ w, Calls Tryz.prog 63 #[enS hd] w fun e w' => e = .returned (Vl.mk k n t b f).val ∧ Upd w w' (fun _ => False))
    (p : List UInt8) (E : Int) (PU : ∀ w, Calls Tryz.prog 36 #[(Vl.mk k n t b f).val] w (PutPost w (p, E))) (hE : (E != 0) = false) (hp : (p == hd) = false) :
    Calls Tryz.prog 40 #[.string s, .int .i64 (a : Int)] w (GetPost w vZero 0 4) := by
  have d4 : decide ((l.length : Int) ≤ (N : Int)) = false := decide_eq_false (by omega)
  have d5 : decide (l.length ≤ N) = false := decide_eq_false (by omega)
  have hw1 : IntKind.i64.wrap (1 + (N : Int)) = ((1 + N : Nat) : Int) := by rw [IntWalk.i64_in _ (by omega)]; omega
  have m0 : (0 : Int) ≤ ((1 + N : Nat) : Int) := by omega
  have m1 : ((1 + N : Nat) : Int) ≤ (l.length : Int) := by omega
  obtain ⟨M, hM⟩ : ∃ M, 1 + N = M := ⟨_, rfl⟩
  rw [hM] at hw1 m0 m1 hh
  unfold Vl.val at T PU
  simp only at T PU
  have HM := hide hM
  clear hM
  have d1 : decide ((a : Int) < 0) = false := decide_eq_false (by omega)
  have d2 : decide ((a : Int) > (s.size : Int)) = false := decide_eq_false (by omega)
  have d3 : decide (s.size < a) = false := decide_eq_false (by omega)
  have a0 : (0 : Int) ≤ (a : Int) := by omega
  have a1 : (a : Int) ≤ (s.size : Int) := by omega
  go_enter Tryz.func40, Tryz.ntmps40
  go_wp2_with fail
  refine Calls.mono (L _) ?_
  rintro e w1 ⟨rfl, hw⟩
  replace hw := hw.symm
  subst hw
  go_wp2_with fail
  refine Calls.mono (T _) ?_
  rintro e w2 ⟨rfl, u2⟩
  have HZ := hide (u2.get (Vnew1 w (.cells vZero.cs 28)) id)
  have HU := hide (((Upd.refl w _).alloc _).then u2 (fun _ _ => id))
  clear u2 T L
  go_wp2_with fail
  refine Calls.mono (PU _) ?_
  rintro e w3 ⟨rfl, u3⟩
  have bZ := u3.get (block_alloc HZ.out (.cells (Vl.mk k n t b f).cs 28)) id
  obtain ⟨c0, c1, c2, c3, c4⟩ := cells5 bZ
  have xl := lt_at bZ
  have f0 := free_at bZ 0
  have f1 := free_at bZ 1
  have f2 := free_at bZ 2
  have f3 := free_at bZ 3
  have f4 := free_at bZ 4
  have bV := u3.get (Vnew1 w2 (.cells (Vl.mk k n t b f).cs 28)) id
  obtain ⟨e0, e1, e2, e3, e4⟩ := cells5 bV
  have vl := lt_at bV
  have HBZ := hide bZ
  have HU3 := hide ((HU.out.alloc _).then u3 (fun _ _ => id))
  clear u3 PU HZ HU bZ bV
  go_wp2_with fail
  (try simp only [Exit.inBlock, Exit.then])
  refine bodyPost_ret (ret_get rfl _ _ w.heap.size ⟨0, 0, [], false, 0⟩ rfl (block5 HBZ.out _ _ _ _ _)) rfl ?_
  exact ⟨rfl, upd5 HU3.out (Nat.le_refl _) _ _ _ _ _⟩
set_option maxHeartbeats 3200000 in
theorem Get_good (w : World) (s : ByteArray) (a : Nat) (ha : a ≤ s.size) (l : List UInt8) (hz : s.extract a s.size = ⟨l.toArray⟩) (hl : (l == []) = false) (N : Nat) (hN : N < l.length) (hN2 : N ≤ 1000) (L : ∀ w, Calls Tryz.prog 62 #[enS l] w fun e w' => e = .returned (.tuple #[.int .i64 (N : Int), .bool true]) ∧ w' = w)
    (hd : List UInt8) (hh : (⟨l.toArray⟩ : ByteArray).extract 0 (1 + N) = ⟨hd.toArray⟩) (k n : Int) (t : List UInt8) (b : Bool) (f : Int) (T : ∀ w, Calls Tryz.prog 63 #[enS hd] w fun e w' => e = .returned (Vl.mk k n t b f).val ∧ Upd w w' (fun _ => False))
    (p : List UInt8) (E : Int) (PU : ∀ w, Calls Tryz.prog 36 #[(Vl.mk k n t b f).val] w (PutPost w (p, E))) (hs : s.size ≤ 1000000) (hE : (E != 0) = false) (hp : (p == hd) = true) :
    Calls Tryz.prog 40 #[.string s, .int .i64 (a : Int)] w (GetPost w ⟨k, n, t, b, f⟩ ((a : Int) + 1 + (N : Int)) 0) := by
  have d4 : decide ((l.length : Int) ≤ (N : Int)) = false := decide_eq_false (by omega)
  have d5 : decide (l.length ≤ N) = false := decide_eq_false (by omega)
  have hw1 : IntKind.i64.wrap (1 + (N : Int)) = ((1 + N : Nat) : Int) := by rw [IntWalk.i64_in _ (by omega)]; omega
  have m0 : (0 : Int) ≤ ((1 + N : Nat) : Int) := by omega
  have m1 : ((1 + N : Nat) : Int) ≤ (l.length : Int) := by omega
  obtain ⟨M, hM⟩ : ∃ M, 1 + N = M := ⟨_, rfl⟩
  rw [hM] at hw1 m0 m1 hh
  have hwa : IntKind.i64.wrap ((a : Int) + 1) = (a : Int) + 1 := IntWalk.i64_in _ (by omega)
  have hwb : IntKind.i64.wrap ((a : Int) + 1 + (N : Int)) = (a : Int) + 1 + (N : Int) := IntWalk.i64_in _ (by omega)
  unfold Vl.val at T PU
  simp only at T PU
  have HM := hide hM
  clear hM
  have d1 : decide ((a : Int) < 0) = false := decide_eq_false (by omega)
  have d2 : decide ((a : Int) > (s.size : Int)) = false := decide_eq_false (by omega)
  have d3 : decide (s.size < a) = false := decide_eq_false (by omega)
  have a0 : (0 : Int) ≤ (a : Int) := by omega
  have a1 : (a : Int) ≤ (s.size : Int) := by omega
  go_enter Tryz.func40, Tryz.ntmps40
  go_wp2_with fail
  refine Calls.mono (L _) ?_
  rintro e w1 ⟨rfl, hw⟩
  replace hw := hw.symm
  subst hw
  go_wp2_with fail
  refine Calls.mono (T _) ?_
  rintro e w2 ⟨rfl, u2⟩
  have HZ := hide (u2.get (Vnew1 w (.cells vZero.cs 28)) id)
  have HU := hide (((Upd.refl w _).alloc _).then u2 (fun _ _ => id))
  clear u2 T L
  go_wp2_with fail
  refine Calls.mono (PU _) ?_
  rintro e w3 ⟨rfl, u3⟩
  have bZ := u3.get (block_alloc HZ.out (.cells (Vl.mk k n t b f).cs 28)) id
  obtain ⟨c0, c1, c2, c3, c4⟩ := cells5 bZ
  have xl := lt_at bZ
  have f0 := free_at bZ 0
  have f1 := free_at bZ 1
  have f2 := free_at bZ 2
  have f3 := free_at bZ 3
  have f4 := free_at bZ 4
  have bV := u3.get (Vnew1 w2 (.cells (Vl.mk k n t b f).cs 28)) id
  obtain ⟨e0, e1, e2, e3, e4⟩ := cells5 bV
  have vl := lt_at bV
  have HBZ := hide bZ
  have HU3 := hide ((HU.out.alloc _).then u3 (fun _ _ => id))
  clear u3 PU HZ HU bZ bV
  go_wp2_with fail
  (try simp only [Exit.inBlock, Exit.then])
  refine bodyPost_ret (ret_get rfl _ _ w.heap.size ⟨k, n, t, b, f⟩ rfl (block5 HBZ.out _ _ _ _ _)) rfl ?_
  exact ⟨rfl, upd5 HU3.out (Nat.le_refl _) _ _ _ _ _⟩
end Go.Proofs.YthahgablbdfodaaGreatDoor
