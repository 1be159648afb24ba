/- The walk of the reference's Place. -/
import Derived.Test.YtdjpkkgcoainhaaGreatDoorJ05
import Derived.Test.YtdjpkkgcoainhaaGreatDoorJ20
import Derived.Test.YtdjpkkgcoainhaaGreatDoorJ21
/- The walk of the reference's Place. -/
set_option maxRecDepth 100000
namespace Go.Proofs.YtdjpkkgcoainhaaGreatDoor
open Go.RowKit Go.Lat Go.Lib

theorem place_cases2 (m k yk o ef : Int) (at0 : Nat) (ho : o = -1 ∨ o = 0 ∨ o = 1) :
    ((ef != 0) = true ∧ fitF m k yk o ef = false) ∨ ((ef != 0) = false ∧ (yk != k) = true ∧ fitF m k yk o ef = false) ∨
    ((ef != 0) = false ∧ (yk != k) = false ∧ (m == 0) = true ∧ (o == 0) = false ∧ fitF m k yk o ef = false) ∨
    ((ef != 0) = false ∧ (yk != k) = false ∧ (m == 0) = true ∧ (o == 0) = true ∧ ((at0 : Int) == 0) = false ∧ fitF m k yk o ef = true) ∨
    ((ef != 0) = false ∧ (yk != k) = false ∧ (m == 0) = true ∧ (o == 0) = true ∧ ((at0 : Int) == 0) = true ∧ fitF m k yk o ef = true) ∨
    ((ef != 0) = false ∧ (yk != k) = false ∧ (m == 0) = false ∧ 0 < m ∧ (o != 1) = true ∧ fitF m k yk o ef = true) ∨
    ((ef != 0) = false ∧ (yk != k) = false ∧ (m == 0) = false ∧ 0 < m ∧ (o != 1) = false ∧ fitF m k yk o ef = false) ∨
    ((ef != 0) = false ∧ (yk != k) = false ∧ (m == 0) = false ∧ m < 0 ∧ (o != -1) = true ∧ fitF m k yk o ef = true) ∨
    ((ef != 0) = false ∧ (yk != k) = false ∧ (m == 0) = false ∧ m < 0 ∧ (o != -1) = false ∧ fitF m k yk o ef = false) := by
  unfold fitF
  by_cases h2 : ef = 0
  · by_cases h1 : yk = k
    · rcases Int.lt_trichotomy m 0 with h | h | h
      · rcases ho with rfl | rfl | rfl <;> simp [h1, h2, h, show ¬ m = 0 by omega, show ¬ 0 < m by omega]
      · rcases ho with rfl | rfl | rfl <;> simp [h1, h2, h] <;> omega
      · rcases ho with rfl | rfl | rfl <;> simp [h1, h2, h, show ¬ m = 0 by omega]
    · simp [h1, h2]
  · simp [h2]
theorem pl_keep {m : Int} {x y : Vl} {l : List Vl} {j : Nat} (h : l[j]? = some y) (hm : m = 0) (hp : plA m x l j ≠ 0) : plA m x l (j + 1) = plA m x l j := by
  rw [plA_in h]
  simp [hm]
  rw [hm] at hp
  simp [hp]
theorem pl_set {m : Int} {x y : Vl} {l : List Vl} {j : Nat} (h : l[j]? = some y) (hf : fitV m x y = true) (hp : m ≠ 0 ∨ plA m x l j = 0) : plA m x l (j + 1) = j + 1 := by
  rw [plA_in h, hf]
  rcases hp with hp | hp
  · simp [hp]
  · simp [hp]

set_option maxHeartbeats 6400000 in
theorem RPlace_any (w : World) (x : Vl) (l : List Vl) (va : Option Addr) (vc : Nat) (m : Int) (hxt : x.t.length ≤ 1000000) (hl : oksV l) (hn : l.length ≤ 1000000) (hr : RdV w va l) :
    Calls Tryz.prog 11 #[x.val, .slice va l.length vc, .int .i64 m] w fun e w' => e = .returned (.int .i64 ((placeV m x l : Nat) : Int)) ∧ Upd w w' (fun _ => False) := by
  have GA := fun w => RGood_any w x
  have OA := fun (y : Vl) (hy : y ∈ l) w => ROrder_any w y x (hl y hy).2 hxt
  have hpl : ¬ (goodV x = true ∧ x.k ≠ 4) → placeV m x l = 0 := fun h => by unfold placeV; rw [if_neg h]
  have hplc : (goodV x = true ∧ x.k ≠ 4) → placeV m x l = plA m x l l.length := fun h => by unfold placeV; rw [if_pos h]
  obtain ⟨N, hN⟩ : ∃ N, l.length = N := ⟨_, rfl⟩
  obtain ⟨R, hR⟩ : ∃ R, placeV m x l = R := ⟨_, rfl⟩
  rw [hN] at hn hplc ⊢
  rw [hR] at hpl hplc ⊢
  obtain ⟨C, hC⟩ : ∃ C, w.heap.size = C := ⟨_, rfl⟩
  obtain ⟨X, hX⟩ : ∃ X, X = x := ⟨_, rfl⟩
  rw [← hX] at hpl hplc OA hR
  have HN := hide hN
  have HR := hide hr
  have HC := hide hC
  have HP := hide hpl
  have HPC := hide hplc
  have HOA := hide OA
  have HX : Hid (X = x) := hide hX
  clear hN hr hC hpl hplc OA hR hxt hl
  cases hg : goodV x with
  | false =>
    rw [hg] at GA
    have hR0 : R = 0 := HP.out (by rw [HX.out, hg]; simp)
    subst hR0
    obtain ⟨k, n, t, b, f⟩ := x
    unfold Vl.val at GA ⊢
    simp only at GA ⊢
    clear hg hX
    go_enter Tryz.func11, Tryz.ntmps11
    go_wp2_with (go_at_call 26; refine Calls.mono (GA _) ?_; rintro e w1 ⟨rfl, u1⟩)
    go_ret
    exact ⟨rfl, ((Upd.refl w _).alloc _).then u1 (fun _ _ => id)⟩
  | true =>
    rw [hg] at GA
    by_cases h4 : x.k = 4
    · have hR0 : R = 0 := HP.out (fun h => h.2 (by rw [HX.out]; exact h4))
      subst hR0
      obtain ⟨k, n, t, b, f⟩ := x
      obtain rfl : k = 4 := h4
      unfold Vl.val at GA ⊢
      simp only at GA ⊢
      clear hg hX
      go_enter Tryz.func11, Tryz.ntmps11
      go_wp2_with (go_at_call 26; refine Calls.mono (GA _) ?_; rintro e w1 ⟨rfl, u1⟩
                   have bX := u1.get (Vnew1 w (.cells (Vl.mk 4 n t b f).cs 30)) id
                   obtain ⟨c0, c1, c2, c3, c4⟩ := cells5 bX
                   have xl := lt_at bX
                   have HU := hide u1
                   clear bX u1)
      go_ret
      exact ⟨rfl, ((Upd.refl w _).alloc _).then HU.out (fun _ _ => id)⟩
    · have HRp : Hid (R = plA m X l N) := hide (HPC.out ⟨by rw [HX.out]; exact hg, by rw [HX.out]; exact h4⟩)
      have b4 : (x.k == 4) = false := by simpa using h4
      have HE0 : Hid (X.cs = x.cs) := hide (by rw [HX.out])
      obtain ⟨k, n, t, b, f⟩ := x
      unfold Vl.val at GA ⊢
      simp only at GA b4 ⊢
      clear hg hX h4
      go_enter Tryz.func11, Tryz.ntmps11
      go_wp2_with (go_at_call 26; refine Calls.mono (GA _) ?_; rintro e w1 ⟨rfl, u1⟩
                   have bX := u1.get (Vnew1 w (.cells (Vl.mk k n t b f).cs 30)) id
                   obtain ⟨c0, c1, c2, c3, c4⟩ := cells5 bX
                   have xl := lt_at bX
                   have HBX := hide bX
                   have HU := hide u1
                   clear bX u1)
      rw [HC.out]
      go_loopg [8, 9] N (fun q av iv wr => ∃ j : Nat, j + q = N ∧ iv = .int .i64 j ∧ av = .int .i64 ((plA m X l j : Nat) : Int) ∧ wr.heap[C]? = some (.cells X.cs 30 (0, 0)) ∧ Upd w wr (fun _ => False))
      case atStart => exact ⟨0, by omega, rfl, rfl, by rw [HE0.out, ← HC.out]; exact HBX.out, ((Upd.refl w _).alloc _).then HU.out (fun _ _ => id)⟩
      case round =>
        obtain ⟨j, hj, rfl, rfl, hb, hu⟩ := hrel
        clear c0 c1 c2 c3 c4 xl
        have HB := hide hb
        have HUR := hide hu
        clear hb hu
        by_cases hjN : j < N
        · obtain ⟨y, hy⟩ : ∃ y, l[j]? = some y := ⟨_, List.getElem?_eq_getElem (by rw [HN.out]; exact hjN)⟩
          have OY := HOA.out y (List.mem_of_getElem? hy)
          have GY := fun w => RGood_any w y
          obtain ⟨g, off, rfl, hg, d0, d1, d2, d3, d4⟩ := rdV_at (HR.out.upd HUR.out) hy
          have hj0 : (0 : Int) ≤ (j : Int) := by omega
          have hj1 : (j : Int) < (N : Int) := by omega
          have hb := HB.out
          rw [HE0.out] at hb
          obtain ⟨e0, e1, e2, e3, e4⟩ := cells5 hb
          have xl := lt_at hb
          obtain ⟨⟨o, ef⟩, ho⟩ : ∃ p, orderV y X = p := ⟨_, rfl⟩
          obtain ⟨gy, hgy⟩ : ∃ q, goodV y = q := ⟨_, rfl⟩
          rw [ho] at OY
          rw [hgy] at GY
          have HO1 : Hid ((orderV y X).1 = o) := hide (by rw [ho])
          have HO2 : Hid ((orderV y X).2 = ef) := hide (by rw [ho])
          have HG : Hid (ef = 0 → gy = true) := hide (fun h => by rw [← hgy]; exact ord_good (by rw [ho]; exact h))
          have HXK' : Hid (X.k = k) := hide (by have := congrArg (fun a => a[0]?) HE0.out; simp [Vl.cs] at this; exact this)
          obtain ⟨Y, hYe⟩ : ∃ Y, Y = y := ⟨_, rfl⟩
          have HY : Hid (l[j]? = some Y) := hide (by rw [hYe]; exact hy)
          rw [← hYe] at HO1 HO2
          have HYK : Hid (Y.k = y.k) := hide (by rw [hYe])
          obtain ⟨yk, yn, yt, yb, yf⟩ := y
          have hOX : ∀ W, Calls Tryz.prog 27 #[.agg #[.int .i64 yk, .int .i64 yn, enS yt, .bool yb, .int .i64 yf], .agg #[.int .i64 k, .int .i64 n, enS t, .bool b, .int .i64 f]] W (OrdPost W (o, ef)) := by
            intro W
            have := OY W
            have e5 : X.val = .agg #[.int .i64 k, .int .i64 n, enS t, .bool b, .int .i64 f] := by
              have := HE0.out
              unfold Vl.cs at this
              unfold Vl.val
              rw [this]
            rw [e5] at this
            exact this
          unfold Vl.val at GY
          simp only at d0 d1 d2 d3 d4 HYK GY
          have hbx := hb
          have ocs := HO1.out ▸ ord_rng Y X
          have rc := place_cases2 m k yk o ef (plA m X l j) ocs
          obtain ⟨A, hA⟩ : ∃ A, plA m X l j = A := ⟨_, rfl⟩
          rw [hA] at rc
          rw [hA]
          have HA := hide hA
          clear OY ho hYe hb hy hgy ocs hA
          rcases rc with ⟨f1, hf⟩ | ⟨f1, f2, hf⟩ | ⟨f1, f2, f3, f4, hf⟩ | ⟨f1, f2, f3, f4, f5, hf⟩ | ⟨f1, f2, f3, f4, f5, hf⟩ | ⟨f1, f2, f3, f4, f5, hf⟩ | ⟨f1, f2, f3, f4, f5, hf⟩ | ⟨f1, f2, f3, f4, f5, hf⟩ | ⟨f1, f2, f3, f4, f5, hf⟩
          · have HF := hide (fitF_eq hf HXK'.out HYK.out HO1.out HO2.out)
            clear hf
            go_wp2_with fail
            go_region_held3 (fun w' => w'.cell? ⟨g, off + j * 5, none⟩ = some (.int .i64 yk) ∧ w'.cell? ⟨g, off + j * 5 + 1, none⟩ = some (.int .i64 yn) ∧ w'.cell? ⟨g, off + j * 5 + 2, none⟩ = some (enS yt) ∧ w'.cell? ⟨g, off + j * 5 + 3, none⟩ = some (.bool yb) ∧ w'.cell? ⟨g, off + j * 5 + 4, none⟩ = some (.int .i64 yf) ∧ w'.cell? ⟨C, 0, none⟩ = some (.int .i64 k) ∧ w'.cell? ⟨C, 1, none⟩ = some (.int .i64 n) ∧ w'.cell? ⟨C, 2, none⟩ = some (enS t) ∧ w'.cell? ⟨C, 3, none⟩ = some (.bool b) ∧ w'.cell? ⟨C, 4, none⟩ = some (.int .i64 f))
              (first | (go_keep; done) | exact ⟨d0, d1, d2, d3, d4, e0, e1, e2, e3, e4⟩ | (exact ⟨(u2.cell g _ hg id).trans d0, (u2.cell g _ hg id).trans d1, (u2.cell g _ hg id).trans d2, (u2.cell g _ hg id).trans d3, (u2.cell g _ hg id).trans d4, (u2.cell C _ xl id).trans e0, (u2.cell C _ xl id).trans e1, (u2.cell C _ xl id).trans e2, (u2.cell C _ xl id).trans e3, (u2.cell C _ xl id).trans e4⟩))
              (first | (go_at_call 27; refine Calls.mono (hOX _) ?_; rintro e w2 ⟨rfl, u2⟩))
            have D0 := (u2.cell g _ hg id).trans d0
            have D1 := (u2.cell g _ hg id).trans d1
            have D2 := (u2.cell g _ hg id).trans d2
            have D3 := (u2.cell g _ hg id).trans d3
            have D4 := (u2.cell g _ hg id).trans d4
            have hg2 : g < w2.heap.size := Nat.lt_of_lt_of_le hg u2.size
            have HB2 := hide (u2.get hbx id)
            have HU2 := hide (HUR.out.drew.then u2 (fun _ _ => id))
            clear d0 d1 d2 d3 d4 e0 e1 e2 e3 e4 xl hg u2 hbx hOX
            go_wp2_with fail
            refine Calls.mono (GY _) ?_
            rintro e w3 ⟨rfl, u3⟩
            have d0 := (u3.cell g _ hg2 id).trans D0
            have hg3 : g < w3.heap.size := Nat.lt_of_lt_of_le hg2 u3.size
            have hb3 := u3.get HB2.out id
            obtain ⟨e0, e1, e2, e3, e4⟩ := cells5 hb3
            have xl := lt_at hb3
            have HB3 := hide hb3
            have HU3 := hide (HU2.out.then u3 (fun _ _ => id))
            clear D0 D1 D2 D3 D4 hb3 u3 GY
            go_wp2_with fail
            go_quiet (fail)
            go_wp2_with fail
            go_roundg (gk - 1)
            case measure => omega
            case rel => exact ⟨j + 1, by omega, by go_num, by rw [pl_stay HY.out HF.out, HA.out], by rw [HE0.out]; exact HB3.out, HU3.out.drewN _⟩
          · have HF := hide (fitF_eq hf HXK'.out HYK.out HO1.out HO2.out)
            have hg1 : gy = true := HG.out (by simpa using f1)
            subst hg1
            clear hf
            go_wp2_with fail
            go_region_held3 (fun w' => w'.cell? ⟨g, off + j * 5, none⟩ = some (.int .i64 yk) ∧ w'.cell? ⟨g, off + j * 5 + 1, none⟩ = some (.int .i64 yn) ∧ w'.cell? ⟨g, off + j * 5 + 2, none⟩ = some (enS yt) ∧ w'.cell? ⟨g, off + j * 5 + 3, none⟩ = some (.bool yb) ∧ w'.cell? ⟨g, off + j * 5 + 4, none⟩ = some (.int .i64 yf) ∧ w'.cell? ⟨C, 0, none⟩ = some (.int .i64 k) ∧ w'.cell? ⟨C, 1, none⟩ = some (.int .i64 n) ∧ w'.cell? ⟨C, 2, none⟩ = some (enS t) ∧ w'.cell? ⟨C, 3, none⟩ = some (.bool b) ∧ w'.cell? ⟨C, 4, none⟩ = some (.int .i64 f))
              (first | (go_keep; done) | exact ⟨d0, d1, d2, d3, d4, e0, e1, e2, e3, e4⟩ | (exact ⟨(u2.cell g _ hg id).trans d0, (u2.cell g _ hg id).trans d1, (u2.cell g _ hg id).trans d2, (u2.cell g _ hg id).trans d3, (u2.cell g _ hg id).trans d4, (u2.cell C _ xl id).trans e0, (u2.cell C _ xl id).trans e1, (u2.cell C _ xl id).trans e2, (u2.cell C _ xl id).trans e3, (u2.cell C _ xl id).trans e4⟩))
              (first | (go_at_call 27; refine Calls.mono (hOX _) ?_; rintro e w2 ⟨rfl, u2⟩))
            have D0 := (u2.cell g _ hg id).trans d0
            have D1 := (u2.cell g _ hg id).trans d1
            have D2 := (u2.cell g _ hg id).trans d2
            have D3 := (u2.cell g _ hg id).trans d3
            have D4 := (u2.cell g _ hg id).trans d4
            have hg2 : g < w2.heap.size := Nat.lt_of_lt_of_le hg u2.size
            have HB2 := hide (u2.get hbx id)
            have HU2 := hide (HUR.out.drew.then u2 (fun _ _ => id))
            clear d0 d1 d2 d3 d4 e0 e1 e2 e3 e4 xl hg u2 hbx hOX
            go_wp2_with fail
            refine Calls.mono (GY _) ?_
            rintro e w3 ⟨rfl, u3⟩
            have d0 := (u3.cell g _ hg2 id).trans D0
            have hg3 : g < w3.heap.size := Nat.lt_of_lt_of_le hg2 u3.size
            have hb3 := u3.get HB2.out id
            obtain ⟨e0, e1, e2, e3, e4⟩ := cells5 hb3
            have xl := lt_at hb3
            have HB3 := hide hb3
            have HU3 := hide (HU2.out.then u3 (fun _ _ => id))
            clear D0 D1 D2 D3 D4 hb3 u3 GY
            go_wp2_with fail
            go_quiet (fail)
            go_wp2_with fail
            go_roundg (gk - 1)
            case measure => omega
            case rel => exact ⟨j + 1, by omega, by go_num, by rw [pl_stay HY.out HF.out, HA.out], by rw [HE0.out]; exact HB3.out, HU3.out.drewN _⟩
          · have HF := hide (fitF_eq hf HXK'.out HYK.out HO1.out HO2.out)
            have hg1 : gy = true := HG.out (by simpa using f1)
            subst hg1
            clear hf
            go_wp2_with fail
            go_region_held3 (fun w' => w'.cell? ⟨g, off + j * 5, none⟩ = some (.int .i64 yk) ∧ w'.cell? ⟨g, off + j * 5 + 1, none⟩ = some (.int .i64 yn) ∧ w'.cell? ⟨g, off + j * 5 + 2, none⟩ = some (enS yt) ∧ w'.cell? ⟨g, off + j * 5 + 3, none⟩ = some (.bool yb) ∧ w'.cell? ⟨g, off + j * 5 + 4, none⟩ = some (.int .i64 yf) ∧ w'.cell? ⟨C, 0, none⟩ = some (.int .i64 k) ∧ w'.cell? ⟨C, 1, none⟩ = some (.int .i64 n) ∧ w'.cell? ⟨C, 2, none⟩ = some (enS t) ∧ w'.cell? ⟨C, 3, none⟩ = some (.bool b) ∧ w'.cell? ⟨C, 4, none⟩ = some (.int .i64 f))
              (first | (go_keep; done) | exact ⟨d0, d1, d2, d3, d4, e0, e1, e2, e3, e4⟩ | (exact ⟨(u2.cell g _ hg id).trans d0, (u2.cell g _ hg id).trans d1, (u2.cell g _ hg id).trans d2, (u2.cell g _ hg id).trans d3, (u2.cell g _ hg id).trans d4, (u2.cell C _ xl id).trans e0, (u2.cell C _ xl id).trans e1, (u2.cell C _ xl id).trans e2, (u2.cell C _ xl id).trans e3, (u2.cell C _ xl id).trans e4⟩))
              (first | (go_at_call 27; refine Calls.mono (hOX _) ?_; rintro e w2 ⟨rfl, u2⟩))
            have D0 := (u2.cell g _ hg id).trans d0
            have D1 := (u2.cell g _ hg id).trans d1
            have D2 := (u2.cell g _ hg id).trans d2
            have D3 := (u2.cell g _ hg id).trans d3
            have D4 := (u2.cell g _ hg id).trans d4
            have hg2 : g < w2.heap.size := Nat.lt_of_lt_of_le hg u2.size
            have HB2 := hide (u2.get hbx id)
            have HU2 := hide (HUR.out.drew.then u2 (fun _ _ => id))
            clear d0 d1 d2 d3 d4 e0 e1 e2 e3 e4 xl hg u2 hbx hOX
            go_wp2_with fail
            refine Calls.mono (GY _) ?_
            rintro e w3 ⟨rfl, u3⟩
            have d0 := (u3.cell g _ hg2 id).trans D0
            have hg3 : g < w3.heap.size := Nat.lt_of_lt_of_le hg2 u3.size
            have hb3 := u3.get HB2.out id
            obtain ⟨e0, e1, e2, e3, e4⟩ := cells5 hb3
            have xl := lt_at hb3
            have HB3 := hide hb3
            have HU3 := hide (HU2.out.then u3 (fun _ _ => id))
            clear D0 D1 D2 D3 D4 hb3 u3 GY
            go_wp2_with fail
            go_quiet (fail)
            go_wp2_with fail
            go_roundg (gk - 1)
            case measure => omega
            case rel => exact ⟨j + 1, by omega, by go_num, by rw [pl_stay HY.out HF.out, HA.out], by rw [HE0.out]; exact HB3.out, HU3.out.drewN _⟩
          · have HF := hide (fitF_eq hf HXK'.out HYK.out HO1.out HO2.out)
            have hg1 : gy = true := HG.out (by simpa using f1)
            subst hg1
            clear hf
            go_wp2_with fail
            go_region_held3 (fun w' => w'.cell? ⟨g, off + j * 5, none⟩ = some (.int .i64 yk) ∧ w'.cell? ⟨g, off + j * 5 + 1, none⟩ = some (.int .i64 yn) ∧ w'.cell? ⟨g, off + j * 5 + 2, none⟩ = some (enS yt) ∧ w'.cell? ⟨g, off + j * 5 + 3, none⟩ = some (.bool yb) ∧ w'.cell? ⟨g, off + j * 5 + 4, none⟩ = some (.int .i64 yf) ∧ w'.cell? ⟨C, 0, none⟩ = some (.int .i64 k) ∧ w'.cell? ⟨C, 1, none⟩ = some (.int .i64 n) ∧ w'.cell? ⟨C, 2, none⟩ = some (enS t) ∧ w'.cell? ⟨C, 3, none⟩ = some (.bool b) ∧ w'.cell? ⟨C, 4, none⟩ = some (.int .i64 f))
              (first | (go_keep; done) | exact ⟨d0, d1, d2, d3, d4, e0, e1, e2, e3, e4⟩ | (exact ⟨(u2.cell g _ hg id).trans d0, (u2.cell g _ hg id).trans d1, (u2.cell g _ hg id).trans d2, (u2.cell g _ hg id).trans d3, (u2.cell g _ hg id).trans d4, (u2.cell C _ xl id).trans e0, (u2.cell C _ xl id).trans e1, (u2.cell C _ xl id).trans e2, (u2.cell C _ xl id).trans e3, (u2.cell C _ xl id).trans e4⟩))
              (first | (go_at_call 27; refine Calls.mono (hOX _) ?_; rintro e w2 ⟨rfl, u2⟩))
            have D0 := (u2.cell g _ hg id).trans d0
            have D1 := (u2.cell g _ hg id).trans d1
            have D2 := (u2.cell g _ hg id).trans d2
            have D3 := (u2.cell g _ hg id).trans d3
            have D4 := (u2.cell g _ hg id).trans d4
            have hg2 : g < w2.heap.size := Nat.lt_of_lt_of_le hg u2.size
            have HB2 := hide (u2.get hbx id)
            have HU2 := hide (HUR.out.drew.then u2 (fun _ _ => id))
            clear d0 d1 d2 d3 d4 e0 e1 e2 e3 e4 xl hg u2 hbx hOX
            go_wp2_with fail
            refine Calls.mono (GY _) ?_
            rintro e w3 ⟨rfl, u3⟩
            have d0 := (u3.cell g _ hg2 id).trans D0
            have hg3 : g < w3.heap.size := Nat.lt_of_lt_of_le hg2 u3.size
            have hb3 := u3.get HB2.out id
            obtain ⟨e0, e1, e2, e3, e4⟩ := cells5 hb3
            have xl := lt_at hb3
            have HB3 := hide hb3
            have HU3 := hide (HU2.out.then u3 (fun _ _ => id))
            clear D0 D1 D2 D3 D4 hb3 u3 GY
            go_wp2_with fail
            go_quiet (fail)
            go_wp2_with fail
            go_roundg (gk - 1)
            case measure => omega
            case rel => exact ⟨j + 1, by omega, by go_num, by rw [pl_keep HY.out (by simpa using f3) (by rw [HA.out]; simpa using f5), HA.out], by rw [HE0.out]; exact HB3.out, HU3.out.drewN _⟩
          · have HF := hide (fitF_eq hf HXK'.out HYK.out HO1.out HO2.out)
            have hg1 : gy = true := HG.out (by simpa using f1)
            subst hg1
            clear hf
            go_wp2_with fail
            go_region_held3 (fun w' => w'.cell? ⟨g, off + j * 5, none⟩ = some (.int .i64 yk) ∧ w'.cell? ⟨g, off + j * 5 + 1, none⟩ = some (.int .i64 yn) ∧ w'.cell? ⟨g, off + j * 5 + 2, none⟩ = some (enS yt) ∧ w'.cell? ⟨g, off + j * 5 + 3, none⟩ = some (.bool yb) ∧ w'.cell? ⟨g, off + j * 5 + 4, none⟩ = some (.int .i64 yf) ∧ w'.cell? ⟨C, 0, none⟩ = some (.int .i64 k) ∧ w'.cell? ⟨C, 1, none⟩ = some (.int .i64 n) ∧ w'.cell? ⟨C, 2, none⟩ = some (enS t) ∧ w'.cell? ⟨C, 3, none⟩ = some (.bool b) ∧ w'.cell? ⟨C, 4, none⟩ = some (.int .i64 f))
              (first | (go_keep; done) | exact ⟨d0, d1, d2, d3, d4, e0, e1, e2, e3, e4⟩ | (exact ⟨(u2.cell g _ hg id).trans d0, (u2.cell g _ hg id).trans d1, (u2.cell g _ hg id).trans d2, (u2.cell g _ hg id).trans d3, (u2.cell g _ hg id).trans d4, (u2.cell C _ xl id).trans e0, (u2.cell C _ xl id).trans e1, (u2.cell C _ xl id).trans e2, (u2.cell C _ xl id).trans e3, (u2.cell C _ xl id).trans e4⟩))
              (first | (go_at_call 27; refine Calls.mono (hOX _) ?_; rintro e w2 ⟨rfl, u2⟩))
            have D0 := (u2.cell g _ hg id).trans d0
            have D1 := (u2.cell g _ hg id).trans d1
            have D2 := (u2.cell g _ hg id).trans d2
            have D3 := (u2.cell g _ hg id).trans d3
            have D4 := (u2.cell g _ hg id).trans d4
            have hg2 : g < w2.heap.size := Nat.lt_of_lt_of_le hg u2.size
            have HB2 := hide (u2.get hbx id)
            have HU2 := hide (HUR.out.drew.then u2 (fun _ _ => id))
            clear d0 d1 d2 d3 d4 e0 e1 e2 e3 e4 xl hg u2 hbx hOX
            go_wp2_with fail
            refine Calls.mono (GY _) ?_
            rintro e w3 ⟨rfl, u3⟩
            have d0 := (u3.cell g _ hg2 id).trans D0
            have hg3 : g < w3.heap.size := Nat.lt_of_lt_of_le hg2 u3.size
            have hb3 := u3.get HB2.out id
            obtain ⟨e0, e1, e2, e3, e4⟩ := cells5 hb3
            have xl := lt_at hb3
            have HB3 := hide hb3
            have HU3 := hide (HU2.out.then u3 (fun _ _ => id))
            clear D0 D1 D2 D3 D4 hb3 u3 GY
            go_wp2_with fail
            go_quiet (fail)
            go_wp2_with fail
            go_roundg (gk - 1)
            case measure => omega
            case rel => exact ⟨j + 1, by omega, by go_num, by rw [pl_set HY.out HF.out (.inr (by rw [HA.out]; simpa using f5))]; go_num, by rw [HE0.out]; exact HB3.out, HU3.out.drewN _⟩
          · have HF := hide (fitF_eq hf HXK'.out HYK.out HO1.out HO2.out)
            have hg1 : gy = true := HG.out (by simpa using f1)
            subst hg1
            have g5 : ¬ m < 0 := by omega
            clear hf
            go_wp2_with fail
            go_region_held3 (fun w' => w'.cell? ⟨g, off + j * 5, none⟩ = some (.int .i64 yk) ∧ w'.cell? ⟨g, off + j * 5 + 1, none⟩ = some (.int .i64 yn) ∧ w'.cell? ⟨g, off + j * 5 + 2, none⟩ = some (enS yt) ∧ w'.cell? ⟨g, off + j * 5 + 3, none⟩ = some (.bool yb) ∧ w'.cell? ⟨g, off + j * 5 + 4, none⟩ = some (.int .i64 yf) ∧ w'.cell? ⟨C, 0, none⟩ = some (.int .i64 k) ∧ w'.cell? ⟨C, 1, none⟩ = some (.int .i64 n) ∧ w'.cell? ⟨C, 2, none⟩ = some (enS t) ∧ w'.cell? ⟨C, 3, none⟩ = some (.bool b) ∧ w'.cell? ⟨C, 4, none⟩ = some (.int .i64 f))
              (first | (go_keep; done) | exact ⟨d0, d1, d2, d3, d4, e0, e1, e2, e3, e4⟩ | (exact ⟨(u2.cell g _ hg id).trans d0, (u2.cell g _ hg id).trans d1, (u2.cell g _ hg id).trans d2, (u2.cell g _ hg id).trans d3, (u2.cell g _ hg id).trans d4, (u2.cell C _ xl id).trans e0, (u2.cell C _ xl id).trans e1, (u2.cell C _ xl id).trans e2, (u2.cell C _ xl id).trans e3, (u2.cell C _ xl id).trans e4⟩))
              (first | (go_at_call 27; refine Calls.mono (hOX _) ?_; rintro e w2 ⟨rfl, u2⟩))
            have D0 := (u2.cell g _ hg id).trans d0
            have D1 := (u2.cell g _ hg id).trans d1
            have D2 := (u2.cell g _ hg id).trans d2
            have D3 := (u2.cell g _ hg id).trans d3
            have D4 := (u2.cell g _ hg id).trans d4
            have hg2 : g < w2.heap.size := Nat.lt_of_lt_of_le hg u2.size
            have HB2 := hide (u2.get hbx id)
            have HU2 := hide (HUR.out.drew.then u2 (fun _ _ => id))
            clear d0 d1 d2 d3 d4 e0 e1 e2 e3 e4 xl hg u2 hbx hOX
            go_wp2_with fail
            refine Calls.mono (GY _) ?_
            rintro e w3 ⟨rfl, u3⟩
            have d0 := (u3.cell g _ hg2 id).trans D0
            have hg3 : g < w3.heap.size := Nat.lt_of_lt_of_le hg2 u3.size
            have hb3 := u3.get HB2.out id
            obtain ⟨e0, e1, e2, e3, e4⟩ := cells5 hb3
            have xl := lt_at hb3
            have HB3 := hide hb3
            have HU3 := hide (HU2.out.then u3 (fun _ _ => id))
            clear D0 D1 D2 D3 D4 hb3 u3 GY
            go_wp2_with fail
            go_quiet (fail)
            go_wp2_with fail
            go_roundg (gk - 1)
            case measure => omega
            case rel => exact ⟨j + 1, by omega, by go_num, by rw [pl_set HY.out HF.out (.inl (by simpa using f3))]; go_num, by rw [HE0.out]; exact HB3.out, HU3.out.drewN _⟩
          · have HF := hide (fitF_eq hf HXK'.out HYK.out HO1.out HO2.out)
            have hg1 : gy = true := HG.out (by simpa using f1)
            subst hg1
            have g5 : ¬ m < 0 := by omega
            clear hf
            go_wp2_with fail
            go_region_held3 (fun w' => w'.cell? ⟨g, off + j * 5, none⟩ = some (.int .i64 yk) ∧ w'.cell? ⟨g, off + j * 5 + 1, none⟩ = some (.int .i64 yn) ∧ w'.cell? ⟨g, off + j * 5 + 2, none⟩ = some (enS yt) ∧ w'.cell? ⟨g, off + j * 5 + 3, none⟩ = some (.bool yb) ∧ w'.cell? ⟨g, off + j * 5 + 4, none⟩ = some (.int .i64 yf) ∧ w'.cell? ⟨C, 0, none⟩ = some (.int .i64 k) ∧ w'.cell? ⟨C, 1, none⟩ = some (.int .i64 n) ∧ w'.cell? ⟨C, 2, none⟩ = some (enS t) ∧ w'.cell? ⟨C, 3, none⟩ = some (.bool b) ∧ w'.cell? ⟨C, 4, none⟩ = some (.int .i64 f))
              (first | (go_keep; done) | exact ⟨d0, d1, d2, d3, d4, e0, e1, e2, e3, e4⟩ | (exact ⟨(u2.cell g _ hg id).trans d0, (u2.cell g _ hg id).trans d1, (u2.cell g _ hg id).trans d2, (u2.cell g _ hg id).trans d3, (u2.cell g _ hg id).trans d4, (u2.cell C _ xl id).trans e0, (u2.cell C _ xl id).trans e1, (u2.cell C _ xl id).trans e2, (u2.cell C _ xl id).trans e3, (u2.cell C _ xl id).trans e4⟩))
              (first | (go_at_call 27; refine Calls.mono (hOX _) ?_; rintro e w2 ⟨rfl, u2⟩))
            have D0 := (u2.cell g _ hg id).trans d0
            have D1 := (u2.cell g _ hg id).trans d1
            have D2 := (u2.cell g _ hg id).trans d2
            have D3 := (u2.cell g _ hg id).trans d3
            have D4 := (u2.cell g _ hg id).trans d4
            have hg2 : g < w2.heap.size := Nat.lt_of_lt_of_le hg u2.size
            have HB2 := hide (u2.get hbx id)
            have HU2 := hide (HUR.out.drew.then u2 (fun _ _ => id))
            clear d0 d1 d2 d3 d4 e0 e1 e2 e3 e4 xl hg u2 hbx hOX
            go_wp2_with fail
            refine Calls.mono (GY _) ?_
            rintro e w3 ⟨rfl, u3⟩
            have d0 := (u3.cell g _ hg2 id).trans D0
            have hg3 : g < w3.heap.size := Nat.lt_of_lt_of_le hg2 u3.size
            have hb3 := u3.get HB2.out id
            obtain ⟨e0, e1, e2, e3, e4⟩ := cells5 hb3
            have xl := lt_at hb3
            have HB3 := hide hb3
            have HU3 := hide (HU2.out.then u3 (fun _ _ => id))
            clear D0 D1 D2 D3 D4 hb3 u3 GY
            go_wp2_with fail
            go_quiet (fail)
            go_wp2_with fail
            go_roundg (gk - 1)
            case measure => omega
            case rel => exact ⟨j + 1, by omega, by go_num, by rw [pl_stay HY.out HF.out, HA.out], by rw [HE0.out]; exact HB3.out, HU3.out.drewN _⟩
          · have HF := hide (fitF_eq hf HXK'.out HYK.out HO1.out HO2.out)
            have hg1 : gy = true := HG.out (by simpa using f1)
            subst hg1
            have g5 : ¬ 0 < m := by omega
            clear hf
            go_wp2_with fail
            go_region_held3 (fun w' => w'.cell? ⟨g, off + j * 5, none⟩ = some (.int .i64 yk) ∧ w'.cell? ⟨g, off + j * 5 + 1, none⟩ = some (.int .i64 yn) ∧ w'.cell? ⟨g, off + j * 5 + 2, none⟩ = some (enS yt) ∧ w'.cell? ⟨g, off + j * 5 + 3, none⟩ = some (.bool yb) ∧ w'.cell? ⟨g, off + j * 5 + 4, none⟩ = some (.int .i64 yf) ∧ w'.cell? ⟨C, 0, none⟩ = some (.int .i64 k) ∧ w'.cell? ⟨C, 1, none⟩ = some (.int .i64 n) ∧ w'.cell? ⟨C, 2, none⟩ = some (enS t) ∧ w'.cell? ⟨C, 3, none⟩ = some (.bool b) ∧ w'.cell? ⟨C, 4, none⟩ = some (.int .i64 f))
              (first | (go_keep; done) | exact ⟨d0, d1, d2, d3, d4, e0, e1, e2, e3, e4⟩ | (exact ⟨(u2.cell g _ hg id).trans d0, (u2.cell g _ hg id).trans d1, (u2.cell g _ hg id).trans d2, (u2.cell g _ hg id).trans d3, (u2.cell g _ hg id).trans d4, (u2.cell C _ xl id).trans e0, (u2.cell C _ xl id).trans e1, (u2.cell C _ xl id).trans e2, (u2.cell C _ xl id).trans e3, (u2.cell C _ xl id).trans e4⟩))
              (first | (go_at_call 27; refine Calls.mono (hOX _) ?_; rintro e w2 ⟨rfl, u2⟩))
            have D0 := (u2.cell g _ hg id).trans d0
            have D1 := (u2.cell g _ hg id).trans d1
            have D2 := (u2.cell g _ hg id).trans d2
            have D3 := (u2.cell g _ hg id).trans d3
            have D4 := (u2.cell g _ hg id).trans d4
            have hg2 : g < w2.heap.size := Nat.lt_of_lt_of_le hg u2.size
            have HB2 := hide (u2.get hbx id)
            have HU2 := hide (HUR.out.drew.then u2 (fun _ _ => id))
            clear d0 d1 d2 d3 d4 e0 e1 e2 e3 e4 xl hg u2 hbx hOX
            go_wp2_with fail
            refine Calls.mono (GY _) ?_
            rintro e w3 ⟨rfl, u3⟩
            have d0 := (u3.cell g _ hg2 id).trans D0
            have hg3 : g < w3.heap.size := Nat.lt_of_lt_of_le hg2 u3.size
            have hb3 := u3.get HB2.out id
            obtain ⟨e0, e1, e2, e3, e4⟩ := cells5 hb3
            have xl := lt_at hb3
            have HB3 := hide hb3
            have HU3 := hide (HU2.out.then u3 (fun _ _ => id))
            clear D0 D1 D2 D3 D4 hb3 u3 GY
            go_wp2_with fail
            go_quiet (fail)
            go_wp2_with fail
            go_roundg (gk - 1)
            case measure => omega
            case rel => exact ⟨j + 1, by omega, by go_num, by rw [pl_set HY.out HF.out (.inl (by simpa using f3))]; go_num, by rw [HE0.out]; exact HB3.out, HU3.out.drewN _⟩
          · have HF := hide (fitF_eq hf HXK'.out HYK.out HO1.out HO2.out)
            have hg1 : gy = true := HG.out (by simpa using f1)
            subst hg1
            have g5 : ¬ 0 < m := by omega
            clear hf
            go_wp2_with fail
            go_region_held3 (fun w' => w'.cell? ⟨g, off + j * 5, none⟩ = some (.int .i64 yk) ∧ w'.cell? ⟨g, off + j * 5 + 1, none⟩ = some (.int .i64 yn) ∧ w'.cell? ⟨g, off + j * 5 + 2, none⟩ = some (enS yt) ∧ w'.cell? ⟨g, off + j * 5 + 3, none⟩ = some (.bool yb) ∧ w'.cell? ⟨g, off + j * 5 + 4, none⟩ = some (.int .i64 yf) ∧ w'.cell? ⟨C, 0, none⟩ = some (.int .i64 k) ∧ w'.cell? ⟨C, 1, none⟩ = some (.int .i64 n) ∧ w'.cell? ⟨C, 2, none⟩ = some (enS t) ∧ w'.cell? ⟨C, 3, none⟩ = some (.bool b) ∧ w'.cell? ⟨C, 4, none⟩ = some (.int .i64 f))
              (first | (go_keep; done) | exact ⟨d0, d1, d2, d3, d4, e0, e1, e2, e3, e4⟩ | (exact ⟨(u2.cell g _ hg id).trans d0, (u2.cell g _ hg id).trans d1, (u2.cell g _ hg id).trans d2, (u2.cell g _ hg id).trans d3, (u2.cell g _ hg id).trans d4, (u2.cell C _ xl id).trans e0, (u2.cell C _ xl id).trans e1, (u2.cell C _ xl id).trans e2, (u2.cell C _ xl id).trans e3, (u2.cell C _ xl id).trans e4⟩))
              (first | (go_at_call 27; refine Calls.mono (hOX _) ?_; rintro e w2 ⟨rfl, u2⟩))
            have D0 := (u2.cell g _ hg id).trans d0
            have D1 := (u2.cell g _ hg id).trans d1
            have D2 := (u2.cell g _ hg id).trans d2
            have D3 := (u2.cell g _ hg id).trans d3
            have D4 := (u2.cell g _ hg id).trans d4
            have hg2 : g < w2.heap.size := Nat.lt_of_lt_of_le hg u2.size
            have HB2 := hide (u2.get hbx id)
            have HU2 := hide (HUR.out.drew.then u2 (fun _ _ => id))
            clear d0 d1 d2 d3 d4 e0 e1 e2 e3 e4 xl hg u2 hbx hOX
            go_wp2_with fail
            refine Calls.mono (GY _) ?_
            rintro e w3 ⟨rfl, u3⟩
            have d0 := (u3.cell g _ hg2 id).trans D0
            have hg3 : g < w3.heap.size := Nat.lt_of_lt_of_le hg2 u3.size
            have hb3 := u3.get HB2.out id
            obtain ⟨e0, e1, e2, e3, e4⟩ := cells5 hb3
            have xl := lt_at hb3
            have HB3 := hide hb3
            have HU3 := hide (HU2.out.then u3 (fun _ _ => id))
            clear D0 D1 D2 D3 D4 hb3 u3 GY
            go_wp2_with fail
            go_quiet (fail)
            go_wp2_with fail
            go_roundg (gk - 1)
            case measure => omega
            case rel => exact ⟨j + 1, by omega, by go_num, by rw [pl_stay HY.out HF.out, HA.out], by rw [HE0.out]; exact HB3.out, HU3.out.drewN _⟩
        · have hjN' : j = N := by omega
          subst hjN'
          go_wp2_with fail
          go_ret
          exact ⟨by rw [HRp.out]; rfl, HUR.out⟩
end Go.Proofs.YtdjpkkgcoainhaaGreatDoor
/- The walks of the reference's Shape, E, Good of an argument, size, sign, whole, fault, at. -/
set_option maxRecDepth 100000
namespace Go.Proofs.YtdjpkkgcoainhaaGreatDoor
open Go.RowKit Go.Lat Go.Lib

theorem RShape_any (w : World) (n : List UInt8) : Calls Tryz.prog 18 #[enS n] w fun e w' => e = .returned (enS (shapeF n)) ∧ w' = w := by
  rcases name_cases n with ⟨hn, b1, b2, b3, b4, b5, b6, b7, b8⟩ | ⟨hn, b1, b2, b3, b4, b5, b6, b7, b8⟩ | ⟨hn, b1, b2, b3, b4, b5, b6, b7, b8⟩ | ⟨hn, b1, b2, b3, b4, b5, b6, b7, b8⟩ | ⟨hn, b1, b2, b3, b4, b5, b6, b7, b8⟩ | ⟨hn, b1, b2, b3, b4, b5, b6, b7, b8⟩ | ⟨hn, b1, b2, b3, b4, b5, b6, b7, b8⟩ | ⟨hn, b1, b2, b3, b4, b5, b6, b7, b8⟩ | ⟨n1, n2, n3, n4, n5, n6, n7, n8, b1, b2, b3, b4, b5, b6, b7, b8⟩
  · have et : shapeF n = [116] := by rw [hn]; decide
    rw [et]
    clear hn et
    go_enter Tryz.func18, Tryz.ntmps18
    go_wp2_with fail
    go_ret
    exact ⟨rfl, rfl⟩
  · have et : shapeF n = [116] := by rw [hn]; decide
    rw [et]
    clear hn et
    go_enter Tryz.func18, Tryz.ntmps18
    go_wp2_with fail
    go_ret
    exact ⟨rfl, rfl⟩
  · have et : shapeF n = [120, 108, 78] := by rw [hn]; decide
    rw [et]
    clear hn et
    go_enter Tryz.func18, Tryz.ntmps18
    go_wp2_with fail
    go_ret
    exact ⟨rfl, rfl⟩
  · have et : shapeF n = [116, 110, 78] := by rw [hn]; decide
    rw [et]
    clear hn et
    go_enter Tryz.func18, Tryz.ntmps18
    go_wp2_with fail
    go_ret
    exact ⟨rfl, rfl⟩
  · have et : shapeF n = [120, 108, 108] := by rw [hn]; decide
    rw [et]
    clear hn et
    go_enter Tryz.func18, Tryz.ntmps18
    go_wp2_with fail
    go_ret
    exact ⟨rfl, rfl⟩
  · have et : shapeF n = [120, 116, 110, 78] := by rw [hn]; decide
    rw [et]
    clear hn et
    go_enter Tryz.func18, Tryz.ntmps18
    go_wp2_with fail
    go_ret
    exact ⟨rfl, rfl⟩
  · have et : shapeF n = [120, 116, 110, 78] := by rw [hn]; decide
    rw [et]
    clear hn et
    go_enter Tryz.func18, Tryz.ntmps18
    go_wp2_with fail
    go_ret
    exact ⟨rfl, rfl⟩
  · have et : shapeF n = [110] := by rw [hn]; decide
    rw [et]
    clear hn et
    go_enter Tryz.func18, Tryz.ntmps18
    go_wp2_with fail
    go_ret
    exact ⟨rfl, rfl⟩
  · have et : shapeF n = [] := by unfold shapeF; rw [if_neg n1, if_neg n2, if_neg n3, if_neg n4, if_neg n5, if_neg n6, if_neg n7, if_neg n8]
    rw [et]
    clear n1 n2 n3 n4 n5 n6 n7 n8 et
    go_enter Tryz.func18, Tryz.ntmps18
    go_wp2_with fail
    go_ret
    exact ⟨rfl, rfl⟩
set_option maxHeartbeats 1600000 in
theorem RAGood_any (w : World) (a : Ar) (va : Option Addr) (vc : Nat) (hn : a.v.length ≤ 1000000) (hc : i64ok a.c) : Calls Tryz.prog 36 #[.agg #[.slice va a.v.length vc, .int .i64 a.c, .bool a.w]] w fun e w' => e = .returned (.bool (goodA a)) ∧ Upd w w' (fun _ => False) := by
  have bX := Vnew1 w (.cells #[.slice va a.v.length vc, .int .i64 a.c, .bool a.w] 81)
  obtain ⟨c0, c1, c2⟩ := cells3 bX
  have xl := lt_at bX
  unfold goodA
  obtain ⟨v, c, wd⟩ := a
  simp only at hn hc c0 c1 c2 ⊢
  obtain ⟨N, hN⟩ : ∃ N, v.length = N := ⟨_, rfl⟩
  rw [hN] at hn c0 ⊢
  clear hN bX
  cases wd with
  | false =>
    by_cases h1 : N = 1
    · have e1 : ((N : Int) == 1) = true := by simp; omega
      go_enter Tryz.func36, Tryz.ntmps36
      go_wp2_with fail
      all_goals go_ret
      all_goals refine ⟨?_, (Upd.refl w _).alloc _⟩
      all_goals first | (simp_all; done) | (simp_all; exact beq0 _)
    · have e1 : ((N : Int) == 1) = false := by simp; omega
      go_enter Tryz.func36, Tryz.ntmps36
      go_wp2_with fail
      all_goals go_ret
      all_goals refine ⟨?_, (Upd.refl w _).alloc _⟩
      all_goals first | (simp_all; done) | (simp_all; exact beq0 _)
  | true =>
    by_cases h1 : 0 < c
    · by_cases h2 : 1 ≤ N
      · by_cases h3 : N ≤ 4096
        · have h2' : (1 : Int) ≤ (N : Int) := by omega
          have h3' : (N : Int) ≤ 4096 := by omega
          have hc0 : c ≠ 0 := by omega
          have hc1 : (c == 0) = false := by simpa using hc0
          obtain ⟨R, hR⟩ : ∃ R, (N : Int).tmod c = R := ⟨_, rfl⟩
          have hR1 : -9223372036854775808 ≤ R ∧ R ≤ 9223372036854775807 := by
            rw [← hR, Int.tmod_eq_emod_of_nonneg (by omega)]
            have h5 := Int.emod_nonneg (N : Int) hc0
            have h6 := Int.emod_lt_of_pos (N : Int) h1
            obtain ⟨q1, q2⟩ := hc
            constructor <;> omega
          obtain ⟨hR1, hR2⟩ := hR1
          clear hc
          rw [hR]
          go_enter Tryz.func36, Tryz.ntmps36
          go_wp2_with fail
          all_goals go_ret
          all_goals refine ⟨?_, (Upd.refl w _).alloc _⟩
          all_goals first | (simp_all; done) | (simp_all; exact beq0 _) | (simp [h1, h2, h3]; exact beq0 _)
        · have h2' : (1 : Int) ≤ (N : Int) := by omega
          have h3' : ¬ (N : Int) ≤ 4096 := by omega
          go_enter Tryz.func36, Tryz.ntmps36
          go_wp2_with fail
          all_goals go_ret
          all_goals refine ⟨?_, (Upd.refl w _).alloc _⟩
          all_goals simp
      · have h2' : ¬ (1 : Int) ≤ (N : Int) := by omega
        go_enter Tryz.func36, Tryz.ntmps36
        go_wp2_with fail
        all_goals go_ret
        all_goals refine ⟨?_, (Upd.refl w _).alloc _⟩
        all_goals simp
        all_goals omega
    · go_enter Tryz.func36, Tryz.ntmps36
      go_wp2_with fail
      all_goals go_ret
      all_goals refine ⟨?_, (Upd.refl w _).alloc _⟩
      all_goals simp
      all_goals omega
theorem Rsign_any (w : World) (m : Int) : Calls Tryz.prog 68 #[.int .i64 m] w fun e w' => e = .returned (.int .i64 (wayI m)) ∧ w' = w := by
  unfold wayI
  by_cases h1 : 0 < m
  · rw [if_pos h1]
    go_enter Tryz.func68, Tryz.ntmps68
    go_wp2_with fail
    go_ret
    exact ⟨rfl, rfl⟩
  · rw [if_neg h1]
    by_cases h2 : m < 0
    · rw [if_pos h2]
      go_enter Tryz.func68, Tryz.ntmps68
      go_wp2_with fail
      go_ret
      exact ⟨rfl, rfl⟩
    · rw [if_neg h2]
      go_enter Tryz.func68, Tryz.ntmps68
      go_wp2_with fail
      go_ret
      exact ⟨rfl, rfl⟩
def rawE (f : Int) : Vl := ⟨4, 0, [], false, f⟩
theorem rawE_ok {f : Int} (h : okFail f = true) : rawE f = mkE f := by unfold rawE mkE; rw [if_pos h]
theorem RE12_any (w : World) (f : Int) : Calls Tryz.prog 35 #[.int .i64 f] w fun e w' => e = .returned (rawE f).val ∧ Upd w w' (fun _ => False) := by
  unfold rawE Vl.val
  simp only
  go_enter Tryz.func35, Tryz.ntmps35
  go_wp2_with fail
  (try simp only [Exit.inBlock, Exit.then])
  refine bodyPost_ret (ret_rv rfl _ _ w.heap.size ⟨4, 0, [], false, f⟩ rfl (Vnew1 w _)) rfl ?_
  exact ⟨rfl, (Upd.refl w _).alloc _⟩
set_option maxHeartbeats 800000 in
theorem Rsize_any (w : World) (a : Ar) (va : Option Addr) (vc : Nat) (hg : goodA a = true) : Calls Tryz.prog 63 #[.agg #[.slice va a.v.length vc, .int .i64 a.c, .bool a.w]] w fun e w' => e = .returned (.tuple #[.int .i64 (rowsA a), .int .i64 (colsA a)]) ∧ Upd w w' (fun _ => False) := by
  have bA := Vnew1 w (.cells #[.slice va a.v.length vc, .int .i64 a.c, .bool a.w] 81)
  obtain ⟨R, C, hR, hC, hm, h1, h2, h3⟩ := goodA_dims hg
  unfold rowsA colsA at *
  obtain ⟨v, c, wd⟩ := a
  simp only at bA hm h3 hR hC ⊢
  obtain ⟨a0, a1, a2⟩ := cells3 bA
  have al := lt_at bA
  clear bA
  cases wd with
  | false =>
    simp only [Bool.false_eq_true, if_false]
    clear hR hC hg
    go_enter Tryz.func63, Tryz.ntmps63
    go_wp2_with fail
    go_ret2
    exact ⟨rfl, (Upd.refl w _).alloc _⟩
  | true =>
    simp only [if_true] at hR hC ⊢
    have hc0 : c ≠ 0 := by omega
    have hc1 : (c == 0) = false := by simpa using hc0
    obtain ⟨D, hD⟩ : ∃ D, (v.length : Int).tdiv c = D := ⟨_, rfl⟩
    rw [hD] at hR ⊢
    have hR1 : -9223372036854775808 ≤ D ∧ D ≤ 9223372036854775807 := by
      have : R ≤ R * C := Nat.le_mul_of_pos_right R (by omega)
      omega
    obtain ⟨hR1, hR2⟩ := hR1
    clear hR hC hg
    go_enter Tryz.func63, Tryz.ntmps63
    go_wp2_with fail
    go_quiet (fail)
    go_wp2_with fail
    go_ret2
    exact ⟨rfl, ((Upd.refl w _).alloc _).drewN _⟩
/-- An argument of one value, at least: its first one. -/
theorem head_at {w : World} {va : Option Addr} {a : Ar} (h : RdV w va a.v) (hg : goodA a = true) : ∃ g off x, a.v.getD 0 vZero = x ∧ va = some ⟨g, off, none⟩ ∧ g < w.heap.size ∧ w.cell? ⟨g, off, none⟩ = some (.int .i64 x.k) ∧ w.cell? ⟨g, off + 1, none⟩ = some (.int .i64 x.n) ∧ w.cell? ⟨g, off + 2, none⟩ = some (enS x.t) ∧ w.cell? ⟨g, off + 3, none⟩ = some (.bool x.b) ∧ w.cell? ⟨g, off + 4, none⟩ = some (.int .i64 x.f) ∧ 0 < a.v.length := by
  obtain ⟨R, C, -, -, hm, h1, h2, -⟩ := goodA_dims hg
  have hl : 0 < a.v.length := by
    rw [← hm]
    exact Nat.mul_pos h1 h2
  have hx : a.v[0]? = some (a.v[0]'hl) := List.getElem?_eq_getElem hl
  obtain ⟨g, off, e, hg', c0, c1, c2, c3, c4⟩ := rdV_at h hx
  refine ⟨g, off, a.v[0]'hl, by rw [List.getD_eq_getElem?_getD, hx]; rfl, e, hg', ?_, ?_, ?_, ?_, ?_, hl⟩
  all_goals simpa using ‹_›
theorem head_ok {a : Ar} (ho : oksV a.v) : (a.v.getD 0 vZero).ok ∧ (a.v.getD 0 vZero).t.length ≤ 1000000 := by
  rw [List.getD_eq_getElem?_getD]
  cases hq : a.v[0]? with
  | none => exact ⟨vZero_ok, by decide⟩
  | some y => exact ho y (List.mem_of_getElem? hq)
set_option maxHeartbeats 1600000 in
theorem Rwhole_any (w : World) (p : Option Addr) (pc : Nat) (aa : List Ar) (i : Nat) (o : Int) (hr : RdA w p aa) (A : ArgsOk aa) :
    Calls Tryz.prog 38 #[.slice p aa.length pc, .int .i64 (i : Int), .int .i64 o] w fun e w' => e = .returned (.int .i64 (wholeA aa i o)) ∧ Upd w w' (fun _ => False) := by
  have hl := A.len
  unfold wholeA
  cases ha : aa[i]? with
  | none =>
    have h1 := List.getElem?_eq_none_iff.1 ha
    have q1 : (aa.length : Int) ≤ (i : Int) := by omega
    clear hr ha
    simp only
    go_enter Tryz.func38, Tryz.ntmps38
    go_wp2_with fail
    go_ret
    exact ⟨rfl, Upd.refl w _⟩
  | some a =>
    have h1 := (List.getElem?_eq_some_iff.1 ha).1
    have q1 : ¬ (aa.length : Int) ≤ (i : Int) := by omega
    have q2 : (0 : Int) ≤ (i : Int) := by omega
    have q3 : (i : Int) < (aa.length : Int) := by omega
    have hm := List.mem_of_getElem? ha
    obtain ⟨g, off, va, vc, rfl, hg, d0, d1, d2, hv⟩ := hr i a ha
    obtain ⟨gv, ov, x, hx, rfl, hgv, x0, x1, x2, x3, x4, hlen⟩ := head_at hv (A.good a hm)
    have hok := head_ok (A.oks a hm).1
    have NX := fun w => numR_any w (a.v.getD 0 vZero) hok.2
    simp only
    rw [hx] at NX ⊢
    obtain ⟨⟨z, fz⟩, hz⟩ : ∃ z, numF x = z := ⟨_, rfl⟩
    rw [hz] at NX ⊢
    have WX := fun w => wholeR_any w z
    simp only at NX ⊢
    obtain ⟨u, hu⟩ : ∃ u, wholeF z = u := ⟨_, rfl⟩
    rw [hu] at WX ⊢
    have hl0 : (0 : Int) < (a.v.length : Int) := by omega
    clear hr ha hm hv hx hok hz hu
    obtain ⟨xk, xn, xt, xb, xf⟩ := x
    unfold Vl.val at NX
    simp only at NX x0 x1 x2 x3 x4
    go_enter Tryz.func38, Tryz.ntmps38
    go_wp2_with fail
    refine Calls.mono (NX _) ?_
    rintro e w1 ⟨rfl, u1⟩
    go_wp2_with fail
    refine Calls.mono (WX _) ?_
    rintro e w2 ⟨rfl, u2⟩
    go_wp2_with fail
    go_ret
    exact ⟨rfl, u1.then u2 (fun _ _ => id)⟩
end Go.Proofs.YtdjpkkgcoainhaaGreatDoor
