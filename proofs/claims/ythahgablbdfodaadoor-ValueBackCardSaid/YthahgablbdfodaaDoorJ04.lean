/- The walk of package value's Read, given what Parse answers. -/
import Derived.Test.YthahgablbdfodaaDoorJ03
import Derived.Test.YthahgablbdfodaaDoorJ01
import Derived.Laws.OwnMore
import Derived.Deep.OwnRows
/- The walk of package value's Read, given what Parse answers. -/
set_option maxRecDepth 100000
namespace Go.Proofs.YthahgablbdfodaaDoor
open Go.RowKit Go.Lat Go.Lib

/-- The first error whose signs a text is. -/
def signIs (s : List UInt8) : Option Nat := (List.range 8).find? fun i => decide (signT ((i + 1 : Nat) : Int) = s)
/-- What a text is read as, where Parse answers V, E. -/
def readV (s : List UInt8) (V E : Int) : Vl :=
  if s = [] then vZero else if E = 0 then mkN V else if (truthV s).2 = true then mkB (truthV s).1 else match signIs s with
    | some i => mkE ((i + 1 : Nat) : Int)
    | none => mkT s
theorem signIs_some {s : List UInt8} {f : Nat} (h1 : f < 8) (h2 : signT ((f + 1 : Nat) : Int) = s) (h3 : ∀ g : Nat, g < f → signT ((g + 1 : Nat) : Int) ≠ s) : signIs s = some f := by
  unfold signIs
  rw [List.find?_eq_some_iff_getElem]
  refine ⟨by simpa using h2, f, by simpa using h1, by simp, fun j hj => ?_⟩
  simpa using h3 j hj
theorem signIs_none {s : List UInt8} (h : ∀ g : Nat, g < 8 → signT ((g + 1 : Nat) : Int) ≠ s) : signIs s = none := by
  unfold signIs
  rw [List.find?_eq_none]
  intro g hg
  simpa using h g (by simpa using hg)

set_option maxHeartbeats 3200000 in
theorem Read_any (w : World) (hg : Sig w) (s : List UInt8) (hs : s.length ≤ 1000) (V E : Int) (PA : ∀ w, Calls Tryd.prog 26 #[enS s] w fun e w' => e = .returned (.tuple #[.int .i64 V, .int .i64 E]) ∧ Upd w w' (fun _ => False)) :
    Calls Tryd.prog 11 #[enS s] w fun e w' => e = .returned (readV s V E).val ∧ Upd w w' (fun _ => False) := by
  have HB := hide (Vnew1 w (.cells vZero.cs 28))
  unfold readV
  by_cases h0 : s = []
  · subst h0
    rw [if_pos rfl]
    clear PA hg
    go_enter Tryd.func11, Tryd.ntmps11
    go_wp2_with fail
    (try simp only [Exit.inBlock, Exit.then])
    refine bodyPost_ret (ret_vl rfl _ _ w.heap.size ⟨0, 0, [], false, 0⟩ rfl (Vnew1 w _)) rfl ?_
    exact ⟨rfl, (Upd.refl w _).alloc _⟩
  · rw [if_neg h0]
    have b0' : (s == []) = false := by simpa using h0
    by_cases h1 : E = 0
    · subst h1
      rw [if_pos rfl]
      have NA := fun w => N_any w V
      obtain ⟨ev, hev⟩ : ∃ v, mkN V = v := ⟨_, rfl⟩
      rw [hev] at NA ⊢
      obtain ⟨k0, n0, t0, b0, e0⟩ := ev
      unfold Vl.val at NA
      simp only at NA
      clear hev
      clear hg h0
      go_enter Tryd.func11, Tryd.ntmps11
      go_wp2_with fail
      refine Calls.mono (PA _) ?_
      rintro e w1 ⟨rfl, u1⟩
      have HX1 := hide (u1.get HB.out id)
      have HU1 := hide u1
      clear u1 PA
      go_wp2_with fail
      refine Calls.mono (NA _) ?_
      rintro e w2 ⟨rfl, u2⟩
      have bX2 := u2.get HX1.out id
      obtain ⟨c0, c1, c2, c3, c4⟩ := cells5 bX2
      have xl := lt_at bX2
      have f0 := free_at bX2 0
      have f1 := free_at bX2 1
      have f2 := free_at bX2 2
      have f3 := free_at bX2 3
      have f4 := free_at bX2 4
      have HX2 := hide bX2
      have HU2 := hide u2
      clear bX2 u2
      go_wp2_with fail
      (try simp only [Exit.inBlock, Exit.then])
      refine bodyPost_ret (ret_vl rfl _ _ w.heap.size ⟨k0, n0, t0, b0, e0⟩ rfl (block5 HX2.out _ _ _ _ _)) rfl ?_
      exact ⟨rfl, upd5 ((((Upd.refl w _).alloc _).then HU1.out (fun _ _ => id)).then HU2.out (fun _ _ => id)) (Nat.le_refl _) _ _ _ _ _⟩
    · rw [if_neg h1]
      have b1 : (E == 0) = false := by simpa using h1
      have TA := fun w => truth_any w s (by omega)
      cases h2 : (truthV s).2 with
      | true =>
        rw [h2] at TA
        simp only [if_true]
        have NA := fun w => B_any w (truthV s).1
        obtain ⟨ev, hev⟩ : ∃ v, mkB (truthV s).1 = v := ⟨_, rfl⟩
        rw [hev] at NA ⊢
        obtain ⟨k0, n0, t0, b0, e0⟩ := ev
        unfold Vl.val at NA
        simp only at NA
        clear hev
        clear hg h0 h1
        go_enter Tryd.func11, Tryd.ntmps11
        go_wp2_with fail
        refine Calls.mono (PA _) ?_
        rintro e w1 ⟨rfl, u1⟩
        have HX1 := hide (u1.get HB.out id)
        have HU1 := hide u1
        clear u1 PA
        go_wp2_with fail
        refine Calls.mono (TA _) ?_
        rintro e w2 ⟨rfl, u2⟩
        have HX2 := hide (u2.get HX1.out id)
        have HU2 := hide u2
        clear u2 TA
        go_wp2_with fail
        refine Calls.mono (NA _) ?_
        rintro e w3 ⟨rfl, u3⟩
        have bX3 := u3.get HX2.out id
        obtain ⟨c0, c1, c2, c3, c4⟩ := cells5 bX3
        have xl := lt_at bX3
        have f0 := free_at bX3 0
        have f1 := free_at bX3 1
        have f2 := free_at bX3 2
        have f3 := free_at bX3 3
        have f4 := free_at bX3 4
        have HX3 := hide bX3
        have HU3 := hide u3
        clear bX3 u3
        go_wp2_with fail
        (try simp only [Exit.inBlock, Exit.then])
        refine bodyPost_ret (ret_vl rfl _ _ w.heap.size ⟨k0, n0, t0, b0, e0⟩ rfl (block5 HX3.out _ _ _ _ _)) rfl ?_
        exact ⟨rfl, upd5 (((((Upd.refl w _).alloc _).then HU1.out (fun _ _ => id)).then HU2.out (fun _ _ => id)).then HU3.out (fun _ _ => id)) (Nat.le_refl _) _ _ _ _ _⟩
      | false =>
        rw [h2] at TA
        simp only [Bool.false_eq_true, if_false]
        obtain ⟨R, hR⟩ : ∃ R : Vl, (match signIs s with | some i => mkE ((i + 1 : Nat) : Int) | none => mkT s) = R := ⟨_, rfl⟩
        rw [hR]
        have HR := hide hR
        have HG := hide hg
        clear hR hg h0 h1
        go_enter Tryd.func11, Tryd.ntmps11
        go_wp2_with fail
        refine Calls.mono (PA _) ?_
        rintro e w1 ⟨rfl, u1⟩
        have HX1 := hide (u1.get HB.out id)
        have HU1 := hide u1
        clear u1 PA
        go_wp2_with fail
        refine Calls.mono (TA _) ?_
        rintro e w2 ⟨rfl, u2⟩
        have HX2 := hide (u2.get HX1.out id)
        have HU2 := hide ((((Upd.refl w _).alloc _).then HU1.out (fun _ _ => id)).then u2 (fun _ _ => id))
        clear u2 TA HU1
        go_wp2_with fail
        go_loopg [7] 8 (fun q iv wr => wr = w2 ∧ ∃ f : Nat, f + q = 8 ∧ iv = .int .i64 ((f + 1 : Nat) : Int) ∧ ∀ g : Nat, g < f → signT ((g + 1 : Nat) : Int) ≠ s)
        case atStart => exact ⟨rfl, 0, by omega, by rfl, fun g hg => by omega⟩
        case round =>
          obtain ⟨hw, f, hf, rfl, hno⟩ := hrel
          replace hw := hw.symm
          subst hw
          have hsg := HG.out.upd HU2.out id
          by_cases hf8 : f < 8
          · have FT := FailText_any w2 hsg ((f + 1 : Nat) : Int)
            have k1 : ((f + 1 : Nat) : Int) < 9 := by omega
            have k1' : decide (((f + 1 : Nat) : Int) < 9) = true := by simp; omega
            have hwr : IntKind.i64.wrap (((f + 1 : Nat) : Int) + 1) = ((f + 1 + 1 : Nat) : Int) := by rw [IntWalk.i64_in _ (by omega)]; omega
            obtain ⟨z, hz⟩ : ∃ z, signT ((f + 1 : Nat) : Int) = z := ⟨_, rfl⟩
            rw [hz] at FT
            by_cases hzs : z = s
            · subst hzs
              have hsi := signIs_some hf8 hz hno
              have hRv : mkE ((f + 1 : Nat) : Int) = R := by rw [← HR.out, hsi]
              have NA := fun w => E_any w ((f + 1 : Nat) : Int)
              obtain ⟨ev, hev⟩ : ∃ v, mkE ((f + 1 : Nat) : Int) = v := ⟨_, rfl⟩
              rw [hev] at NA hRv
              obtain ⟨k0, n0, t0, b0, e0⟩ := ev
              have HRV := hide hRv
              unfold Vl.val at NA
              simp only at NA
              obtain ⟨fi, hfi⟩ : ∃ fi : Int, ((f + 1 : Nat) : Int) = fi := ⟨_, rfl⟩
              rw [hfi] at FT NA k1 k1' ⊢
              clear hsg hno hz hsi hRv hwr hev hfi
              go_wp2_with fail
              refine Calls.mono FT ?_
              rintro e w3 ⟨rfl, hw3⟩
              replace hw3 := hw3.symm
              subst hw3
              go_wp2_with fail
              refine Calls.mono (NA _) ?_
              rintro e w4 ⟨rfl, u4⟩
              have bX4 := u4.get HX2.out id
              obtain ⟨c0, c1, c2, c3, c4⟩ := cells5 bX4
              have xl := lt_at bX4
              have f0 := free_at bX4 0
              have f1 := free_at bX4 1
              have f2 := free_at bX4 2
              have f3 := free_at bX4 3
              have f4 := free_at bX4 4
              have HX4 := hide bX4
              have HU4 := hide u4
              clear bX4 u4
              go_wp2_with fail
              (try simp only [Exit.inBlock, Exit.then])
              refine bodyPost_ret (ret_vl rfl _ _ w.heap.size ⟨k0, n0, t0, b0, e0⟩ rfl (block5 HX4.out _ _ _ _ _)) rfl ?_
              exact ⟨by rw [← HRV.out], upd5 (HU2.out.then HU4.out (fun _ _ => id)) (Nat.le_refl _) _ _ _ _ _⟩
            · have hb : (s == z) = false := by simpa using fun e : s = z => hzs e.symm
              have HN := hide hno
              have HZ := hide hz
              clear hsg hno hz
              go_wp2_with fail
              refine Calls.mono FT ?_
              rintro e w3 ⟨rfl, hw3⟩
              replace hw3 := hw3.symm
              subst hw3
              go_wp2_with fail
              go_roundg (gk - 1)
              case measure => omega
              case rel =>
                refine ⟨rfl, f + 1, by omega, by first | rfl | (rw [← hwr]; go_num) | go_num, fun g hg => ?_⟩
                by_cases e : g = f
                · subst e
                  rw [HZ.out]
                  exact hzs
                · exact HN.out g (by omega)
          · have k1 : ¬ ((f + 1 : Nat) : Int) < 9 := by omega
            have k1' : decide (((f + 1 : Nat) : Int) < 9) = false := by simp; omega
            have hsi := signIs_none (fun g hg => hno g (by omega))
            have hRv : mkT s = R := by rw [← HR.out, hsi]
            have NA := fun w => T_any w s
            obtain ⟨ev, hev⟩ : ∃ v, mkT s = v := ⟨_, rfl⟩
            rw [hev] at NA hRv
            obtain ⟨k0, n0, t0, b0, e0⟩ := ev
            have HRV := hide hRv
            unfold Vl.val at NA
            simp only at NA
            clear hsg hno hsi hRv hev
            go_wp2_with fail
            refine Calls.mono (NA _) ?_
            rintro e w4 ⟨rfl, u4⟩
            have bX4 := u4.get HX2.out id
            obtain ⟨c0, c1, c2, c3, c4⟩ := cells5 bX4
            have xl := lt_at bX4
            have f0 := free_at bX4 0
            have f1 := free_at bX4 1
            have f2 := free_at bX4 2
            have f3 := free_at bX4 3
            have f4 := free_at bX4 4
            have HX4 := hide bX4
            have HU4 := hide u4
            clear bX4 u4
            go_wp2_with fail
            (try simp only [Exit.inBlock, Exit.then])
            refine bodyPost_ret (ret_vl rfl _ _ w.heap.size ⟨k0, n0, t0, b0, e0⟩ rfl (block5 HX4.out _ _ _ _ _)) rfl ?_
            exact ⟨by rw [← HRV.out], upd5 (HU2.out.then HU4.out (fun _ _ => id)) (Nat.le_refl _) _ _ _ _ _⟩
end Go.Proofs.YthahgablbdfodaaDoor
/- The walk of package value's Show at an error. -/
set_option maxRecDepth 100000
namespace Go.Proofs.YthahgablbdfodaaDoor
open Go.RowKit Go.Lat Go.Lib

set_option maxHeartbeats 3200000 in
theorem ShowE_any (w : World) (hg : Sig w) (x : Vl) (hx : x.ok) (n : Int) (t : List UInt8) (b : Bool) (f : Int) (h : soundV x = ⟨4, n, t, b, f⟩) :
    Calls Tryd.prog 12 #[x.val] w fun e w' => e = .returned (enS (signT f)) ∧ Upd w w' (fun _ => False) := by
  have SA := fun w => sound_any w x hx
  rw [h] at SA
  obtain ⟨k0, n0, t0, b0, e0⟩ := x
  unfold Vl.val at SA ⊢
  simp only at SA ⊢
  have HG := hide hg
  clear h hg
  go_enter Tryd.func12, Tryd.ntmps12
  go_wp2_with fail
  refine Calls.mono (SA _) ?_
  rintro e w1 ⟨rfl, u1⟩
  have bX := u1.get (Vnew1 w (.cells (Vl.mk k0 n0 t0 b0 e0).cs 28)) id
  obtain ⟨c0, c1, c2, c3, c4⟩ := cells5 bX
  have xl := lt_at bX
  have f0 := free_at bX 0
  have f1 := free_at bX 1
  have f2 := free_at bX 2
  have f3 := free_at bX 3
  have f4 := free_at bX 4
  have HX := hide bX
  have HU := hide (((Upd.refl w _).alloc _).then u1 (fun _ _ => id))
  clear bX u1 SA
  have HS := hide (HG.out.upd HU.out id)
  have FT := fun (w' : World) (hs : Sig w') => FailText_any w' hs f
  go_wp2_with fail
  have UU := hide (upd5 (W := w1) HU.out (g := w.heap.size) (Nat.le_refl _) (.int .i64 4) (.int .i64 n) (.string ⟨t.toArray⟩) (.bool b) (.int .i64 f))
  have HS2 := HG.out.upd UU.out id
  refine Calls.mono (FT _ HS2) ?_
  rintro e w2 ⟨rfl, hw⟩
  have HW := hide hw
  clear hw FT HS2
  go_wp2_with fail
  (try simp only [Exit.inBlock, Exit.then])
  go_ret
  refine ⟨rfl, ?_⟩
  rw [HW.out]
  exact UU.out
end Go.Proofs.YthahgablbdfodaaDoor
/- The walk of package value's Put at a number. -/
set_option maxRecDepth 100000
namespace Go.Proofs.YthahgablbdfodaaDoor
open Go.RowKit Go.Lat Go.Lib

/-- A slice of bytes that reads. -/
def BtAt (w : World) (v : Value) (l : List UInt8) : Prop := Rw w 5 1 v l.length (l.map fun b => .int .u8 (b.toNat : Int))
theorem Tryd.info5 : (Tryd.prog.info? 5).map (fun i => (i.zero, i.size, i.bytes)) = some (some (.int .u8 0), 1, 1) := by kernel_rfl
theorem BtAt.back {w : World} {v : Value} {l : List UInt8} (h : BtAt w v l) (h0 : l ≠ []) : (convert 55 9 v).run Tryd.prog w = .ok (enS l) w := by
  rcases h.2 with ⟨rfl, e⟩ | ⟨g, off, cap, cur, rfl, hg, r⟩
  · exact absurd (List.eq_nil_of_length_eq_zero e) h0
  · refine run_convert_bytes_back w 55 9 5 ⟨g, off, none⟩ cap l Tryd.underlying55 Tryd.underlying5 Tryd.underlying9 (fun j hj => ?_)
    have := h.cells j (.int .u8 (l[j].toNat : Int)) (by simp [hj])
    rw [add_off]
    exact this
/-- The j-th byte of a number, the highest first. -/
def numB (n : Int) (j : Nat) : UInt8 := UInt8.ofNat ((n % 18446744073709551616).toNat / 2 ^ (8 * (7 - j)))
def numBs (n : Int) (j : Nat) : List UInt8 := (List.range j).map (numB n)
theorem numB_int (n : Int) (j : Nat) : IntKind.u64.wrap n / 2 ^ (8 * (7 - j)) % 256 = ((numB n j).toNat : Int) := by
  have e : IntKind.u64.wrap n = n % 18446744073709551616 := by rfl
  have h0 : 0 ≤ n % 18446744073709551616 := Int.emod_nonneg _ (by decide)
  unfold numB
  rw [e, UInt8.toNat_ofNat']
  simp only [Int.natCast_emod, Int.natCast_ediv, Int.toNat_of_nonneg h0]
  rfl
theorem numBs_next (n : Int) (j : Nat) : numBs n (j + 1) = numBs n j ++ [numB n j] := by
  simp [numBs, List.range_succ]

set_option maxHeartbeats 3200000 in
theorem PutN_any (w : World) (n : Int) (hx : (Vl.mk 1 n [] false 0).ok) (h : goodV ⟨1, n, [], false, 0⟩ = true) :
    Calls Tryd.prog 8 #[(Vl.mk 1 n [] false 0).val] w fun e w' => e = .returned (.tuple #[enS (1 :: numBs n 8), .int .i64 0]) ∧ Upd w w' (fun _ => False) := by
  obtain ⟨ib, hi, hz0, hz1, hz2⟩ := info_parts Tryd.info5
  have GA := fun w => Good_any w _ hx
  rw [h] at GA
  unfold Vl.val at GA ⊢
  simp only at GA ⊢
  clear h
  go_enter Tryd.func8, Tryd.ntmps8
  go_wp2_with fail
  refine Calls.mono (GA _) ?_
  rintro e w1 ⟨rfl, u1⟩
  have bX := u1.get (Vnew1 w (.cells (Vl.mk 1 n [] false 0).cs 28)) id
  obtain ⟨c0, c1, c2, c3, c4⟩ := cells5 bX
  have xl := lt_at bX
  have HX := hide bX
  have HU := hide (((Upd.refl w _).alloc _).then u1 (fun _ _ => id))
  clear bX u1 GA
  go_wp2_with fail
  go_loopg [4, 5] 8 (fun q v iv wr => ∃ j : Nat, j + q = 8 ∧ iv = .int .i64 (7 - (j : Int)) ∧ BtAt wr v (1 :: numBs n j) ∧ Upd w1 wr (fun _ => False) ∧ (∀ k, v.ownBlock = some k → w1.heap.size ≤ k))
  case atStart =>
    refine ⟨0, by omega, by rfl, ?_, (Upd.refl w1 _).alloc _, ?_⟩
    · exact Rw.made w1 #[.int .u8 1] 5 1 1 rfl
    · intro k hk
      simp [Value.ownBlock] at hk
      omega
  case round =>
    obtain ⟨j, hj, rfl, hv, hu, hob⟩ := hrel
    have bX2 := hu.get HX.out id
    obtain ⟨d0, d1, d2, d3, d4⟩ := cells5 bX2
    have xl2 := lt_at bX2
    clear bX2
    by_cases hj8 : j < 8
    · have b1 : decide (7 - (j : Int) ≥ 0) = true := by simp; omega
      have nb := numB_int n j
      have jw : IntKind.i64.wrap (7 - (j : Int) - 1) = 7 - ((j + 1 : Nat) : Int) := by rw [IntWalk.i64_in _ (by omega)]; omega
      go_wp2_with (at_builtin; go_loud (refine wpList_append_rw _ rfl _ _ 55 55 rfl 5 _ ib _ 1 1 Tryd.underlying55 Tryd.underlying55 (by simp) hi hz0 hz1 hz2 rfl _ (1 :: numBs n j).length _ rfl (hv.alloc _) _ 1 _ rfl (Rw.made _ _ _ 1 1 rfl).src rfl (by simp [Value.oneCell']) (by simp [numBs]; omega) (by simp [numBs]; omega) ?_); intro ga gc w2 hv' hg hob')
      go_roundg (gk - 1)
      case measure => omega
      case rel =>
        refine ⟨j + 1, by omega, (by first | rw [jw] | exact congrArg (Value.int .i64) (by omega)), ?_, (hu.alloc _).grown hg (fun i hi => .inl (hob i hi)), ?_⟩
        · unfold BtAt
          rw [numBs_next]
          simpa using hv'
        · intro i hi
          rcases hob' with e | e
          · exact hob i (Eq.trans (show _ = _ from e.symm) hi)
          · have hi' := Eq.trans e.symm (show _ = _ from hi); simp at hi'; have := hu.size; omega
    · obtain rfl : j = 8 := by omega
      have cv := hv.back (by simp)
      go_wp2_with fail
      go_ret2
      refine ⟨rfl, ?_⟩
      exact HU.out.then hu (fun _ _ => id)
end Go.Proofs.YthahgablbdfodaaDoor
/- Plain laws on digits: a number's digits, the lowest first. -/
namespace Go.Lat

/-- What a list of places stands for. -/
def val : List Nat → Nat
  | [] => 0
  | d :: l => d + 10 * val l
/-- The digits of a number, the lowest first; none of 0. -/
def dg (n : Nat) : List Nat := if h : n = 0 then [] else n % 10 :: dg (n / 10)
termination_by n
decreasing_by omega

theorem dg_zero : dg 0 = [] := by rw [dg]; simp
theorem dg_pos {n : Nat} (h : n ≠ 0) : dg n = n % 10 :: dg (n / 10) := by rw [dg, dif_neg h]
theorem val_dg (n : Nat) : val (dg n) = n := by
  induction n using Nat.strongRecOn with
  | ind n ih =>
    by_cases h : n = 0
    · subst h; rw [dg_zero]; rfl
    · rw [dg_pos h]
      simp only [val]
      rw [ih (n / 10) (by omega)]
      omega

/-- Digits, and no nought above. -/
def Norm (l : List Nat) : Prop := (∀ d ∈ l, d < 10) ∧ ∀ h : l ≠ [], l.getLast h ≠ 0

theorem dg_norm (n : Nat) : Norm (dg n) := by
  induction n using Nat.strongRecOn with
  | ind n ih =>
    by_cases h : n = 0
    · subst h; rw [dg_zero]; exact ⟨by simp, fun h => absurd rfl h⟩
    · obtain ⟨h1, h2⟩ := ih (n / 10) (by omega)
      rw [dg_pos h]
      refine ⟨?_, fun _ => ?_⟩
      · intro d hd
        rcases List.mem_cons.1 hd with e | e
        · subst e; omega
        · exact h1 d e
      · by_cases h3 : n / 10 = 0
        · simp only [h3, dg_zero, List.getLast_singleton]
          omega
        · have hne : dg (n / 10) ≠ [] := by rw [dg_pos h3]; simp
          rw [List.getLast_cons hne]
          exact h2 hne

theorem val_append (a b : List Nat) : val (a ++ b) = val a + 10 ^ a.length * val b := by
  induction a with
  | nil => simp [val]
  | cons d l ih =>
    simp only [List.cons_append, val, ih, List.length_cons, Nat.pow_succ]
    rw [Nat.mul_add, Nat.mul_comm (10 ^ l.length) 10, Nat.mul_assoc, ← Nat.add_assoc]
theorem val_lt (l : List Nat) (h : ∀ d ∈ l, d < 10) : val l < 10 ^ l.length := by
  induction l with
  | nil => simp [val]
  | cons d l ih =>
    have h1 := ih (fun x hx => h x (by simp [hx]))
    have h2 := h d (by simp)
    simp only [val, List.length_cons, Nat.pow_succ]
    omega

/-- Digits without noughts above are told by what they stand for. -/
theorem norm_dg : ∀ (l : List Nat), Norm l → l = dg (val l)
  | [], _ => by simp [val, dg_zero]
  | d :: l, h => by
    have hd : d < 10 := h.1 d (by simp)
    have hn : Norm l := by
      refine ⟨fun x hx => h.1 x (by simp [hx]), fun hne => ?_⟩
      have := h.2 (by simp)
      rwa [List.getLast_cons hne] at this
    have ih := norm_dg l hn
    have hv : d + 10 * val l ≠ 0 := by
      intro h0
      have hv0 : val l = 0 := by omega
      have hl : l = [] := by rw [ih, hv0, dg_zero]
      subst hl
      have := h.2 (by simp)
      simp at this
      omega
    simp only [val]
    rw [dg_pos hv, show (d + 10 * val l) % 10 = d from by omega, show (d + 10 * val l) / 10 = val l from by omega, ← ih]

theorem dg_len_lt {a b : Nat} (h : (dg a).length < (dg b).length) : a < b := by
  have h1 := val_lt (dg a) (dg_norm a).1
  rw [val_dg] at h1
  have hb : b ≠ 0 := by intro e; subst e; rw [dg_zero] at h; simp at h
  have h2 : 10 ^ ((dg b).length - 1) ≤ b := by
    clear h h1
    induction b using Nat.strongRecOn with
    | ind n ih =>
      rw [dg_pos hb]
      by_cases h3 : n / 10 = 0
      · rw [h3, dg_zero]; simp; omega
      · have := ih (n / 10) (by omega) h3
        have hl : 1 ≤ (dg (n / 10)).length := by rw [dg_pos h3]; simp
        simp only [List.length_cons, Nat.add_sub_cancel]
        have e : 10 ^ (dg (n / 10)).length = 10 * 10 ^ ((dg (n / 10)).length - 1) := by
          rw [← Nat.pow_succ']; congr 1; omega
        omega
  have h3 : 10 ^ (dg a).length ≤ 10 ^ ((dg b).length - 1) := Nat.pow_le_pow_right (by omega) (by omega)
  omega

theorem dg_len (n k : Nat) (h : n < 10 ^ k) : (dg n).length ≤ k := by
  induction n using Nat.strongRecOn generalizing k with
  | ind n ih =>
    by_cases h0 : n = 0
    · subst h0; rw [dg_zero]; simp
    · rw [dg_pos h0]
      cases k with
      | zero => simp at h; omega
      | succ k =>
        have := ih (n / 10) (by omega) k (by rw [Nat.pow_succ] at h; omega)
        simp; omega

theorem drop_getD (l : List Nat) (j : Nat) (hj : j < l.length) : l.drop j = l.getD j 0 :: l.drop (j + 1) := by
  rw [List.drop_eq_getElem_cons hj, List.getD_eq_getElem?_getD, List.getElem?_eq_getElem hj]
  rfl

theorem val_split (l : List Nat) (j : Nat) (hj : j < l.length) : val l = val (l.take j) + 10 ^ j * (l.getD j 0 + 10 * val (l.drop (j + 1))) := by
  have e : l = l.take j ++ (l.getD j 0 :: l.drop (j + 1)) := by
    have h1 : l.drop j = l.getD j 0 :: l.drop (j + 1) := by
      rw [List.drop_eq_getElem_cons hj, List.getD_eq_getElem?_getD, List.getElem?_eq_getElem hj]
      rfl
    rw [← h1, List.take_append_drop]
  have h2 := congrArg val e
  rw [val_append, List.length_take, Nat.min_eq_left (by omega)] at h2
  exact h2

/-- The first place from above at which two lists differ tells which is less. -/
theorem val_cmp (a b : List Nat) (j : Nat) (ha : ∀ d ∈ a, d < 10) (hb : ∀ d ∈ b, d < 10) (hla : j < a.length) (hlb : j < b.length) (hd : a.drop (j + 1) = b.drop (j + 1)) (hne : a.getD j 0 ≠ b.getD j 0) :
    val a < val b ↔ a.getD j 0 < b.getD j 0 := by
  have h1 := val_lt (a.take j) (fun d h => ha d (List.mem_of_mem_take h))
  have h2 := val_lt (b.take j) (fun d h => hb d (List.mem_of_mem_take h))
  rw [List.length_take, Nat.min_eq_left (by omega)] at h1 h2
  rw [val_split a j hla, val_split b j hlb, hd]
  generalize val (a.take j) = x at *
  generalize val (b.take j) = y at *
  generalize a.getD j 0 = u at *
  generalize b.getD j 0 = v at *
  generalize 10 * val (b.drop (j + 1)) = z at *
  generalize 10 ^ j = P at *
  constructor
  · intro h
    rcases Nat.lt_trichotomy u v with c | c | c
    · exact c
    · exact absurd c hne
    · have := Nat.mul_le_mul_left P (show v + z + 1 ≤ u + z by omega)
      rw [Nat.mul_add] at this
      omega
  · intro h
    have := Nat.mul_le_mul_left P (show u + z + 1 ≤ v + z by omega)
    rw [Nat.mul_add] at this
    omega

/-- Of normal lists the longer one is more. -/
theorem val_len_lt (a b : List Nat) (ha : Norm a) (hb : Norm b) (h : a.length < b.length) : val a < val b := by
  refine dg_len_lt ?_
  rw [← norm_dg a ha, ← norm_dg b hb]
  exact h
end Go.Lat
/- The walks of the reference's digits. -/
set_option maxRecDepth 100000
namespace Go.Proofs.YthahgablbdfodaaDoor
open Go.RowKit Go.Lat

/-- A slice of places that reads. -/
def DgAt (w : World) (v : Value) (l : List Nat) : Prop := Rw w 3 1 v l.length (l.map fun d => .int .i64 (d : Nat))

theorem Tryd.info3 : (Tryd.prog.info? 3).map (fun i => (i.zero, i.size, i.bytes)) = some (some (.int .i64 0), 1, 8) := by kernel_rfl

def DigitsRel (w : World) (s : Bool) (n q : Nat) (a v : Value) (wr : World) : Prop :=
  ∃ (m : Nat) (l : List Nat), m ≤ q ∧ m ≤ n ∧ a = .int .i64 (if s then -(m : Int) else m) ∧ DgAt wr v l ∧ l ++ dg m = dg n ∧ Upd w wr (fun _ => False) ∧ (∀ k, v.ownBlock = some k → w.heap.size ≤ k)

end Go.Proofs.YthahgablbdfodaaDoor
/- The walks of the reference's comparison of digits. -/
set_option maxRecDepth 100000
namespace Go.Proofs.YthahgablbdfodaaDoor
open Go.RowKit Go.Lat

theorem dg_cell {w : World} {sa : Option Addr} {c : Nat} {l : List Nat} (h : DgAt w (.slice sa l.length c) l) (j : Nat) (hj : j < l.length) :
    ∃ g off, sa = some ⟨g, off, none⟩ ∧ w.cell? ⟨g, off + j, none⟩ = some (.int .i64 (l.getD j 0 : Nat)) := by
  obtain ⟨g, off, cap, hv, hg, hc⟩ := Rw.pos h (by omega)
  simp at hv
  exact ⟨g, off, hv.1, hc j _ (by simp [hj])⟩

end Go.Proofs.YthahgablbdfodaaDoor
/- Plain laws on digits: a place is added to, a carry is made, noughts above are struck. -/
namespace Go.Lat

theorem val_set (l : List Nat) (j x : Nat) (hj : j < l.length) : val (l.set j (l.getD j 0 + x)) = val l + x * 10 ^ j := by
  induction l generalizing j with
  | nil => simp at hj
  | cons d l ih =>
    cases j with
    | zero => simp [val]; omega
    | succ j =>
      have := ih j (by simpa using hj)
      simp only [List.set_cons_succ, List.getD_cons_succ, val, this, Nat.pow_succ]
      rw [Nat.mul_add, Nat.mul_comm (10 ^ j) 10, Nat.mul_left_comm]
      omega

theorem val_take_succ (l : List Nat) (j : Nat) (hj : j < l.length) : val (l.take (j + 1)) = val (l.take j) + l.getD j 0 * 10 ^ j := by
  have e : l.take (j + 1) = l.take j ++ [l.getD j 0] := by
    rw [List.take_add_one, List.getElem?_eq_getElem hj, List.getD_eq_getElem?_getD, List.getElem?_eq_getElem hj]
    rfl
  rw [e, val_append, List.length_take, Nat.min_eq_left (by omega)]
  simp only [val]
  rw [Nat.mul_zero, Nat.add_zero, Nat.mul_comm]

theorem mem_set_le (l : List Nat) (j x B : Nat) (h : ∀ d ∈ l, d ≤ B) (hx : x ≤ B) : ∀ d ∈ l.set j x, d ≤ B := by
  intro d hd
  rcases List.mem_or_eq_of_mem_set hd with e | e
  · exact h d e
  · omega

theorem getD_set (l : List Nat) (j k x : Nat) (hj : j < l.length) : (l.set j x).getD k 0 = if k = j then x else l.getD k 0 := by
  rw [List.getD_eq_getElem?_getD, List.getD_eq_getElem?_getD, List.getElem?_set]
  by_cases h : j = k
  · subst h; simp [hj]
  · rw [if_neg h, if_neg (fun e => h e.symm)]

/-- The carry at place i. -/
theorem val_carry (l : List Nat) (i : Nat) (hi : i + 1 < l.length) :
    val ((l.set (i + 1) (l.getD (i + 1) 0 + l.getD i 0 / 10)).set i (l.getD i 0 % 10)) = val l := by
  induction l generalizing i with
  | nil => simp at hi
  | cons d l ih =>
    cases i with
    | zero =>
      cases l with
      | nil => simp at hi
      | cons e l =>
        simp [val]
        omega
    | succ i =>
      have := ih i (by simpa using hi)
      simp only [List.set_cons_succ, List.getD_cons_succ, val, this]

theorem val_zero (l : List Nat) (h : ∀ d ∈ l, d = 0) : val l = 0 := by
  induction l with
  | nil => rfl
  | cons d l ih =>
    have h1 := h d (by simp)
    have h2 := ih (fun x hx => h x (by simp [hx]))
    simp [val, h1, h2]

theorem getD_mem (l : List Nat) (j : Nat) (hj : j < l.length) : l.getD j 0 ∈ l := by
  rw [List.getD_eq_getElem?_getD, List.getElem?_eq_getElem hj]
  exact List.getElem_mem hj

/-- Of places that are struck from above, what is left. -/
theorem val_strike (l : List Nat) (m : Nat) (hz : ∀ j, m ≤ j → j < l.length → l.getD j 0 = 0) : val (l.take m) = val l := by
  conv => rhs; rw [← List.take_append_drop m l]
  rw [val_append]
  have : val (l.drop m) = 0 := by
    refine val_zero _ (fun d hd => ?_)
    obtain ⟨k, hk, e⟩ := List.mem_iff_getElem.1 hd
    rw [List.length_drop] at hk
    have h1 := hz (m + k) (by omega) (by omega)
    rw [List.getD_eq_getElem?_getD, List.getElem?_eq_getElem (by omega)] at h1
    simp at h1
    rw [← e, List.getElem_drop]
    exact h1
  rw [this, Nat.mul_zero, Nat.add_zero]

theorem norm_strike (l : List Nat) (m : Nat) (hm : m ≤ l.length) (h10 : ∀ d ∈ l, d < 10) (hl : m = 0 ∨ l.getD (m - 1) 0 ≠ 0) : Norm (l.take m) := by
  refine ⟨fun d hd => h10 d (List.mem_of_mem_take hd), fun hne => ?_⟩
  have h0 : m ≠ 0 := by intro e; subst e; simp at hne
  rcases hl with h | h
  · exact absurd h h0
  · rw [List.getLast_eq_getElem, List.getElem_take]
    simp only [List.length_take, Nat.min_eq_left hm]
    rw [List.getD_eq_getElem?_getD, List.getElem?_eq_getElem (by omega)] at h
    simpa using h

/-- The place above all is 0 if what is stood for is less. -/
theorem top_zero (l : List Nat) (n : Nat) (hl : l.length = n + 1) (h : val l < 10 ^ n) : l.getD n 0 = 0 := by
  have := val_split l n (by omega)
  rcases Nat.eq_zero_or_pos (l.getD n 0) with e | e
  · exact e
  · have h2 := Nat.mul_le_mul_left (10 ^ n) (show 1 ≤ l.getD n 0 + 10 * val (l.drop (n + 1)) by omega)
    omega
end Go.Lat
/- An array of places in memory that is written in place. -/
set_option maxRecDepth 100000
namespace Go.Proofs.YthahgablbdfodaaDoor
open Go.RowKit Go.Lat

def ArrAt (w : World) (g : Nat) (l : List Nat) : Prop := ∃ cs, w.heap[g]? = some (.cells cs 3 (0, 0)) ∧ cs.toList = l.map fun d => .int .i64 (d : Nat)

theorem ArrAt.lt {w : World} {g : Nat} {l : List Nat} (h : ArrAt w g l) : g < w.heap.size := by
  obtain ⟨cs, h1, -⟩ := h
  exact lt_at h1
theorem ArrAt.cell {w : World} {g : Nat} {l : List Nat} (h : ArrAt w g l) (j : Nat) (hj : j < l.length) : w.cell? ⟨g, j, none⟩ = some (.int .i64 (l.getD j 0 : Nat)) := by
  obtain ⟨cs, h1, h2⟩ := h
  refine cell_at h1 j _ ?_
  rw [← Array.getElem?_toList, h2]
  simp [hj]
theorem ArrAt.free {w : World} {g : Nat} {l : List Nat} (h : ArrAt w g l) (j : Nat) : w.frozen? ⟨g, j, none⟩ = false := by
  obtain ⟨cs, h1, -⟩ := h
  exact free_at h1 j
theorem ArrAt.set {w : World} {g : Nat} {l : List Nat} (h : ArrAt w g l) (j x : Nat) : ArrAt (w.setCell ⟨g, j, none⟩ (.int .i64 (x : Nat))) g (l.set j x) := by
  obtain ⟨cs, h1, h2⟩ := h
  refine ⟨_, block_setCell h1 j _, ?_⟩
  rw [Array.toList_setIfInBounds, h2, List.map_set]
theorem ArrAt.upd {w w' : World} {g : Nat} {l : List Nat} {S : Nat → Prop} (h : ArrAt w g l) (u : Upd w w' S) (hg : ¬ S g) : ArrAt w' g l := by
  obtain ⟨cs, h1, h2⟩ := h
  exact ⟨cs, u.get h1 hg, h2⟩
theorem ArrAt.dg {w : World} {g : Nat} {l : List Nat} (h : ArrAt w g l) : DgAt w (.slice (some ⟨g, 0, none⟩) l.length l.length) l := by
  obtain ⟨cs, h1, h2⟩ := h
  have hs : cs.size = l.length := by rw [← Array.length_toList, h2, List.length_map]
  refine ⟨by simp, .inr ⟨g, 0, l.length, cs, rfl, h1, Nat.le_refl _, by omega, ?_⟩⟩
  rw [h2, List.drop_zero, Nat.mul_one, List.take_of_length_le (by simp)]
theorem ArrAt.dg_take {w : World} {g : Nat} {l : List Nat} (h : ArrAt w g l) (m : Nat) (hm : m ≤ l.length) : DgAt w (.slice (some ⟨g, 0, none⟩) m l.length) (l.take m) := by
  obtain ⟨cs, h1, h2⟩ := h
  have hs : cs.size = l.length := by rw [← Array.length_toList, h2, List.length_map]
  have hl : (l.take m).length = m := by rw [List.length_take, Nat.min_eq_left hm]
  unfold DgAt
  rw [hl]
  refine ⟨by rw [List.length_map, hl, Nat.mul_one], .inr ⟨g, 0, l.length, cs, rfl, h1, hm, by omega, ?_⟩⟩
  rw [h2, List.drop_zero, Nat.mul_one, List.map_take]
theorem ArrAt.made (w : World) (n : Nat) : ArrAt (w.alloc (.cells (madeCells #[.int .i64 0] n) 3)) w.heap.size (List.replicate n 0) := by
  refine ⟨_, heap_alloc_new w _, ?_⟩
  rw [toList_madeCells_one, List.map_replicate]
  rfl

/-- A number's places in order: 10 times by place. -/
theorem dgs_le (l : List Nat) (h : Norm l) : ∀ j, l.getD j 0 ≤ 9 := by
  intro j
  by_cases hj : j < l.length
  · have := h.1 _ (getD_mem l j hj)
    omega
  · rw [List.getD_eq_getElem?_getD, List.getElem?_eq_none (by omega)]
    simp
end Go.Proofs.YthahgablbdfodaaDoor
/- The walks of the reference's digits of a word, of its powers of 2, and of its trimming. -/
set_option maxRecDepth 100000
namespace Go.Proofs.YthahgablbdfodaaDoor
open Go.RowKit Go.Lat

theorem DgAt.upd {w w' : World} {v : Value} {l : List Nat} (h : DgAt w v l) (u : Upd w w' (fun _ => False)) : DgAt w' v l := u.rw h (fun _ _ => id)

end Go.Proofs.YthahgablbdfodaaDoor
/- The walks of the reference's number of digits, and of its difference. -/
set_option maxRecDepth 100000
namespace Go.Proofs.YthahgablbdfodaaDoor
open Go.RowKit Go.Lat

theorem val_drop (l : List Nat) (j : Nat) (hj : j < l.length) : val (l.drop j) = l.getD j 0 + 10 * val (l.drop (j + 1)) := by
  rw [drop_getD l j hj]
  rfl
theorem val_drop_le (l : List Nat) (r : Nat) : val (l.drop r) ≤ val l := by
  have := val_append (l.take r) (l.drop r)
  rw [List.take_append_drop] at this
  have hp : 0 < 10 ^ (l.take r).length := Nat.pow_pos (by omega)
  have h2 := Nat.mul_le_mul_right (val (l.drop r)) hp
  omega

def numV (neg : Bool) (X : Nat) : Int := if 9000000000000000000 < X then 0 else if neg then -(X : Int) else X
def numE (X : Nat) : Int := if 9000000000000000000 < X then 5 else 0

/-- What stands in the array of a difference behind i places. -/
structure Sb (a b o : List Nat) (i t : Nat) : Prop where
  len : o.length = a.length
  ten : ∀ d ∈ o, d < 10
  v : val (a.take i) + t * 10 ^ i = val (o.take i) + val (b.take i)
  t1 : t ≤ 1

theorem val_take_succ' (l : List Nat) (j : Nat) : val (l.take (j + 1)) = val (l.take j) + l.getD j 0 * 10 ^ j := by
  by_cases hj : j < l.length
  · exact val_take_succ l j hj
  · rw [List.take_of_length_le (by omega), List.take_of_length_le (by omega), List.getD_eq_getElem?_getD, List.getElem?_eq_none (by omega)]
    simp
theorem take_set (o : List Nat) (i x : Nat) (hi : i < o.length) : val ((o.set i x).take (i + 1)) = val (o.take i) + x * 10 ^ i := by
  rw [val_take_succ' (o.set i x) i, getD_set o i i x hi, if_pos rfl]
  congr 2
  rw [List.take_set_of_le (Nat.le_refl i)]

theorem Sb.step {a b o : List Nat} {i t : Nat} (h : Sb a b o i t) (hi : i < a.length) (x t' : Nat) (hx : x < 10) (ht : t' ≤ 1) (he : x + t + b.getD i 0 = a.getD i 0 + 10 * t') : Sb a b (o.set i x) (i + 1) t' := by
  refine ⟨by simp [h.len], ?_, ?_, ht⟩
  · intro d hd
    rcases List.mem_or_eq_of_mem_set hd with e | e
    · exact h.ten d e
    · omega
  · rw [take_set o i x (by rw [h.len]; exact hi), val_take_succ' a i, val_take_succ' b i, Nat.pow_succ]
    have hv := h.v
    have e2 : (x + t + b.getD i 0) * 10 ^ i = (a.getD i 0 + 10 * t') * 10 ^ i := by rw [he]
    rw [Nat.add_mul, Nat.add_mul, Nat.add_mul, Nat.mul_assoc] at e2
    rw [Nat.mul_comm (10 ^ i) 10, Nat.mul_left_comm]
    omega

theorem Sb.done {a b o : List Nat} {t : Nat} (h : Sb a b o a.length t) (nb : Norm b) (na : Norm a) (hle : val b ≤ val a) : val o = val a - val b := by
  have hl : b.length ≤ a.length := by
    rcases Nat.lt_or_ge a.length b.length with e | e
    · have := val_len_lt a b na nb e
      omega
    · exact e
  have hv := h.v
  rw [List.take_of_length_le (Nat.le_refl _), List.take_of_length_le (by rw [h.len]; exact Nat.le_refl _), List.take_of_length_le hl] at hv
  have ho := val_lt o h.ten
  rw [h.len] at ho
  have ht := h.t1
  generalize 10 ^ a.length = P at *
  rcases (show t = 0 ∨ t = 1 by omega) with e | e
  · subst e; omega
  · subst e; omega

end Go.Proofs.YthahgablbdfodaaDoor
/- The walk of the reference's division of digits. -/
set_option maxRecDepth 100000
namespace Go.Proofs.YthahgablbdfodaaDoor
open Go.RowKit Go.Lat

/-- What is reckoned when m places of the dividend are left. -/
structure Ov (a qs : List Nat) (V m R : Nat) : Prop where
  len : qs.length = a.length
  ten : ∀ d ∈ qs, d < 10
  v : val (a.drop m) = val (qs.drop m) * V + R
  lt : R < V
  zero : ∀ k, k < m → qs.getD k 0 = 0

theorem Ov.step {a qs : List Nat} {V j R : Nat} (h : Ov a qs V (j + 1) R) (hj : j < a.length) (t R2 : Nat) (he : R2 + t * V = a.getD j 0 + 10 * R) (hlt : R2 < V) (ht : t ≤ 9) : Ov a (qs.set j t) V j R2 := by
  refine ⟨by simp [h.len], ?_, ?_, hlt, fun k hk => by rw [getD_set qs j k t (by rw [h.len]; exact hj), if_neg (by omega)]; exact h.zero k (by omega)⟩
  · intro d hd
    rcases List.mem_or_eq_of_mem_set hd with e | e
    · exact h.ten d e
    · omega
  · have hv := h.v
    rw [val_drop a j hj, val_drop (qs.set j t) j (by simp [h.len]; exact hj), getD_set qs j j t (by rw [h.len]; exact hj), if_pos rfl, List.drop_set_of_lt (by omega), hv, Nat.add_mul, Nat.mul_assoc]
    omega

theorem set_zero (l : List Nat) (j : Nat) (hj : j < l.length) (h : l.getD j 0 = 0) : l.set j 0 = l := by
  rw [List.getD_eq_getElem?_getD, List.getElem?_eq_getElem hj] at h
  simp only [Option.getD_some] at h
  have e := List.set_getElem_self hj
  rw [h] at e
  exact e

theorem mul_le9 (t V X : Nat) (h : t * V ≤ X) (hX : X < 10 * V) : t ≤ 9 := by
  rcases Nat.lt_or_ge 9 t with e | e
  · have := Nat.mul_le_mul_right V (show 10 ≤ t from e)
    omega
  · exact e

end Go.Proofs.YthahgablbdfodaaDoor
/- The walk of the reference's sum of digits. -/
set_option maxRecDepth 100000
namespace Go.Proofs.YthahgablbdfodaaDoor
open Go.RowKit Go.Lat

theorem dg_ge (n : Nat) (h : n ≠ 0) : 10 ^ ((dg n).length - 1) ≤ n := by
  induction n using Nat.strongRecOn with
  | ind n ih =>
    rw [dg_pos h]
    by_cases h3 : n / 10 = 0
    · rw [h3, dg_zero]; simp; omega
    · have := ih (n / 10) (by omega) h3
      have hl : 1 ≤ (dg (n / 10)).length := by rw [dg_pos h3]; simp
      simp only [List.length_cons, Nat.add_sub_cancel]
      have e : 10 ^ (dg (n / 10)).length = 10 * 10 ^ ((dg (n / 10)).length - 1) := by
        rw [← Nat.pow_succ']; congr 1; omega
      omega
theorem norm_ge (l : List Nat) (h : Norm l) (hl : l ≠ []) : 10 ^ (l.length - 1) ≤ val l := by
  have e := norm_dg l h
  have h0 : val l ≠ 0 := by
    intro h0
    rw [h0, dg_zero] at e
    exact hl e
  have := dg_ge (val l) h0
  rw [← e] at this
  exact this

theorem val_take_congr (o o' : List Nat) (i : Nat) (h : ∀ j, j < i → o'.getD j 0 = o.getD j 0) : val (o'.take i) = val (o.take i) := by
  induction i with
  | zero => simp [val]
  | succ i ih => rw [val_take_succ', val_take_succ', ih (fun j hj => h j (by omega)), h i (by omega)]

/-- What stands in the array of a sum behind i places. -/
structure Ad (a b o : List Nat) (n i c : Nat) : Prop where
  len : o.length = n + 1
  ten : ∀ j, j < i → o.getD j 0 < 10
  cur : o.getD i 0 = c
  c1 : c ≤ 1
  rest : ∀ j, i < j → o.getD j 0 = 0
  v : val (o.take i) + c * 10 ^ i = val (a.take i) + val (b.take i)

theorem Ad.step {a b o : List Nat} {n i c : Nat} (h : Ad a b o n i c) (na : Norm a) (nb : Norm b) (o' : List Nat) (q r : Nat) (hl : o'.length = n + 1) (hq : o'.getD (i + 1) 0 = q) (hr : o'.getD i 0 = r)
    (ho : ∀ j, j ≠ i → j ≠ i + 1 → o'.getD j 0 = o.getD j 0) (hs : c + a.getD i 0 + b.getD i 0 = r + 10 * q) (hr10 : r < 10) : Ad a b o' n (i + 1) q := by
  have h1 := dgs_le a na i
  have h2 := dgs_le b nb i
  have h3 := h.c1
  refine ⟨hl, ?_, hq, by omega, ?_, ?_⟩
  · intro j hj
    by_cases e : j = i
    · rw [e, hr]; exact hr10
    · rw [ho j e (by omega)]; exact h.ten j (by omega)
  · intro j hj
    rw [ho j (by omega) (by omega)]; exact h.rest j (by omega)
  · rw [val_take_succ' o' i, val_take_succ' a i, val_take_succ' b i, hr, val_take_congr o o' i (fun j hj => ho j (by omega) (by omega)), Nat.pow_succ]
    have hv := h.v
    have e2 : (c + a.getD i 0 + b.getD i 0) * 10 ^ i = (r + 10 * q) * 10 ^ i := by rw [hs]
    rw [Nat.add_mul, Nat.add_mul, Nat.add_mul, Nat.mul_assoc] at e2
    rw [Nat.mul_comm (10 ^ i) 10, Nat.mul_left_comm]
    omega

theorem Ad.start (a b : List Nat) (n : Nat) : Ad a b (List.replicate (n + 1) 0) n 0 0 := by
  have g : ∀ j, (List.replicate (n + 1) 0).getD j 0 = 0 := by
    intro j
    rw [List.getD_eq_getElem?_getD]
    by_cases h : j < n + 1
    · rw [List.getElem?_replicate, if_pos h]; rfl
    · rw [List.getElem?_replicate, if_neg h]; rfl
  exact ⟨by simp, by omega, g 0, by omega, fun j _ => g j, by simp [val]⟩

theorem Ad.whole {a b o : List Nat} {n c : Nat} (h : Ad a b o n n c) (hA : a.length ≤ n) (hB : b.length ≤ n) : val o = val a + val b ∧ ∀ d ∈ o, d < 10 := by
  have hv := h.v
  rw [List.take_of_length_le hA, List.take_of_length_le hB] at hv
  refine ⟨?_, ?_⟩
  · have e1 := val_take_succ' o n
    rw [h.cur, List.take_of_length_le (by rw [h.len]; exact Nat.le_refl _)] at e1
    omega
  · intro d hd
    obtain ⟨j, hj, e⟩ := List.mem_iff_getElem.1 hd
    have hg : o.getD j 0 = d := by
      rw [List.getD_eq_getElem?_getD, List.getElem?_eq_getElem hj, e]; rfl
    rw [← hg]
    by_cases hjn : j < n
    · exact h.ten j hjn
    · have hjn : j = n := by have := h.len; omega
      rw [hjn, h.cur]
      have := h.c1
      omega

end Go.Proofs.YthahgablbdfodaaDoor
