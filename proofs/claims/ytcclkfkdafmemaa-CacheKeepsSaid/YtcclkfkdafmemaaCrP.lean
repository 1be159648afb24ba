/- The walk of CacheKeeps. -/
import Derived.Test.YtcclkfkdafmemaaCrN
set_option maxRecDepth 100000
namespace Go.Proofs.Ytcclkfkdafmemaa
open Go.RowKit Go.Lat

theorem Want_nil (w : World) (v : Value) : Calls Try.prog 9 #[.pointer none, v] w fun e w' => e = .returned (.tuple #[.slice none 0 0, .slice none 0 0]) ∧ w' = w := by
  go_enter Try.func9, Try.ntmps9
  go_wp2
  go_ret2
  exact ⟨rfl, rfl⟩
theorem vK6_ok : (Vl.mk 4 0 [] false 6).ok := by constructor <;> first | decide | (unfold i64ok; decide)
def vT : Vl := ⟨3, 0, [], true, 0⟩
theorem vT_ok : vT.ok := by constructor <;> first | decide | (unfold i64ok; decide)
def enT : En := ⟨vT, 1, 1, true, false, false⟩
theorem cuts_ok {W : World} {v : Value} {l : List Lk} (h : PlArg W v l) : ∀ x ∈ cuts l, x.ok := by
  intro x hx
  unfold cuts at hx
  obtain ⟨y, hy, rfl⟩ := List.mem_map.1 hx
  obtain ⟨a, cap, _, _, _, _, hr⟩ := h
  obtain ⟨i, hi⟩ := List.mem_iff_getElem?.1 (List.mem_of_mem_take hy)
  obtain ⟨_, _, _, _, _, _, _, _, ok⟩ := hr i y hi
  exact Lk.cut_ok ok
theorem cuts_len (l : List Lk) : (cuts l).length ≤ 20 := by
  unfold cuts
  simp
  omega

set_option maxHeartbeats 12800000 in
theorem CacheKeeps_walk (w : World) (v0 v1 : Value) (l m : List Lk) (h0 : PlArg w v0 l) (h1 : PlArg w v1 m) (z : Int) (hz0 : 0 ≤ z) (hz1 : z ≤ 255) :
    Calls Try.prog 5 #[v0, v1, .int .u8 z] w fun e w' => e = .returned (.bool true) ∧ Upd w w' (fun _ => False) := by
  have okA := cuts_ok h0
  have okB := cuts_ok h1
  have lnA := cuts_len l
  have lnB := cuts_len m
  have LA := fun W (u : Upd w W (fun _ => False)) => links_any W v0 l (h0.upd u (fun _ _ => id))
  have LB := fun W (u : Upd w W (fun _ => False)) => links_any W v1 m (h1.upd u (fun _ _ => id))
  obtain ⟨A, hA⟩ : ∃ A, cuts l = A := ⟨_, rfl⟩
  obtain ⟨B, hB⟩ : ∃ B, cuts m = B := ⟨_, rfl⟩
  rw [hA] at LA okA lnA
  rw [hB] at LB okB lnB
  have HLA := hide LA
  have HLB := hide LB
  have HOA := hide okA
  have HOB := hide okB
  obtain ⟨N, hN⟩ : ∃ N, A.length = N := ⟨_, rfl⟩
  obtain ⟨K, hK⟩ : ∃ N, B.length = N := ⟨_, rfl⟩
  have HN := hide hN
  have HK := hide hK
  rw [hN] at lnA
  rw [hK] at lnB
  have HV0 := hide h0
  have HV1 := hide h1
  clear LA LB okA okB hA hB hN hK h0 h1
  go_enter Try.func5, Try.ntmps5
  go_upto_region 4 with (first
    | (go_at_call 7; refine Calls.mono (New_any _) ?_; rintro e w3 ⟨b, bm, rfl, hc3, hb3, hbm3, u3⟩; have HC3 := hide hc3; have HU3 := hide u3; have HBB := hide hb3; have HBM := hide hbm3; clear hc3 hb3 hbm3 u3)
    | (go_at_call 23; with_reducible refine Calls.mono (HLA.out _ HU3.out) ?_; rintro e w4 ⟨a1, a2, rfl, r1, r2, o1, o2, u4⟩; have HR1 := hide r1; have HU4 := hide (HU3.out.then u4 (fun _ _ => id)); have HC4 := hide (HC3.out.upd u4 id id); clear r1 r2 o1 o2 u4)
    | (go_at_call 23; with_reducible refine Calls.mono (HLB.out _ HU4.out) ?_; rintro e w5 ⟨b1, b2, rfl, r3, r4, o3, o4, u5⟩; have HR3 := hide r3; have HR5 := hide (u5.rw HR1.out (fun _ _ => id)); have HU5 := hide (HU4.out.then u5 (fun _ _ => id)); have HC5 := hide (HC4.out.upd u5 id id); clear r3 r4 o3 o4 u5))
  obtain ⟨aa, ac, rfl, -⟩ := Rw.form HR5.out
  obtain ⟨ba, bc, rfl, -⟩ := Rw.form HR3.out
  rw [HN.out] at HR5 ⊢
  rw [HK.out] at HR3 ⊢
  by_cases hN0 : N = 0
  · subst hN0
    clear HC4 HC3 HU3 HU4
    go_wp2_with fail
    refine Calls.mono (wakes_any _) ?_
    rintro e w6 ⟨rfl, u6⟩
    go_wp2_with fail
    refine Calls.mono (wakes_any _) ?_
    rintro e w7 ⟨rfl, u7⟩
    go_wp2_with fail
    go_ret
    exact ⟨rfl, (HU5.out.then u6 (fun _ _ => id)).then u7 (fun _ _ => id)⟩
  · have hNN : ((N : Int) == 0) = false := by simpa using hN0
    have hNN' : (N == 0) = false := by simpa using hN0
    have hNI : ¬ (N : Int) = 0 := by omega
    obtain ⟨i, hi⟩ : ∃ i : Nat, z.tmod (N : Int) = (i : Int) := ⟨(z.tmod (N : Int)).toNat, by
      have : 0 ≤ z.tmod (N : Int) := Int.tmod_nonneg _ hz0
      omega⟩
    have hiN : i < N := by
      have h1 := Int.tmod_lt_of_pos z (show (0 : Int) < (N : Int) by omega)
      omega
    have hw0 : IntKind.i64.wrap z = z := IntWalk.i64_in _ (by omega)
    have hw1 : IntKind.i64.wrap (i : Int) = (i : Int) := IntWalk.i64_in _ (by omega)
    have hi0 : (0 : Int) ≤ (i : Int) := by omega
    have hi1 : (i : Int) < (N : Int) := by omega
    obtain ⟨x, hx⟩ : ∃ x, A[i]? = some x := ⟨_, List.getElem?_eq_getElem (by rw [HN.out]; exact hiN)⟩
    have xok := HOA.out x (List.mem_of_getElem? hx)
    have hxA : x ∈ A := List.mem_of_getElem? hx
    obtain ⟨g, off, rfl, hg, d0, d1, d2, d3⟩ := row_at HR5.out i x hx hiN
    obtain ⟨PX, hPX⟩ : ∃ P, P = x := ⟨_, rfl⟩
    have HPX := hide hPX
    have HXA := hide hxA
    have HXO := hide xok
    rw [← hPX] at HXA HXO
    clear hx xok hxA hPX HC4 HC3 HU3 HU4
    obtain ⟨xb, xs, xc, xr⟩ := x
    simp only at d0 d1 d2 d3
    go_wp2_with fail
    refine Calls.mono (wakes_any _) ?_
    rintro e w6 ⟨rfl, u6⟩
    have e0 := (u6.cell g _ hg id).trans d0
    have e1 := (u6.cell g _ hg id).trans d1
    have e2 := (u6.cell g _ hg id).trans d2
    have e3 := (u6.cell g _ hg id).trans d3
    have gl6 : g < w6.heap.size := Nat.lt_of_lt_of_le hg u6.size
    obtain ⟨W7, hW7⟩ : ∃ W, w6.alloc (.cells #[.string ⟨xb.toArray⟩, .string ⟨xs.toArray⟩, .int .i64 xc, .int .i64 xr] 30) = W := ⟨_, rfl⟩
    have u7 : Upd w5 W7 (fun _ => False) := hW7 ▸ u6.alloc (.cells #[.string ⟨xb.toArray⟩, .string ⟨xs.toArray⟩, .int .i64 xc, .int .i64 xr] 30)
    have bX : W7.heap[w6.heap.size]? = some (.cells #[.string ⟨xb.toArray⟩, .string ⟨xs.toArray⟩, .int .i64 xc, .int .i64 xr] 30 (0, 0)) := hW7 ▸ Vnew1 w6 (.cells #[.string ⟨xb.toArray⟩, .string ⟨xs.toArray⟩, .int .i64 xc, .int .i64 xr] 30)
    have c7 := HC5.out.upd u7 id id
    have rA := u7.rw HR5.out (fun _ _ => id)
    have rB := u7.rw HR3.out (fun _ _ => id)
    have WT := Want_any W7 b bm 0 _ _ c7 _ ac A (by rw [HN.out]; exact rA) HOA.out (by rw [HN.out]; omega)
    rw [HN.out] at WT
    have HWT := hide WT
    have HRA := hide rA
    have HRB := hide rB
    have HBX := hide bX
    have HC7 := hide c7
    have HU7 := hide (HU5.out.then u7 (fun _ _ => id))
    have HW7 := hide hW7
    have nA : Hid (∀ k, (Value.slice (some ⟨g, off, none⟩) N ac).ownBlock = some k → ¬ k = bm) := hide (fun k hk e => by obtain ⟨cur, hc⟩ := Rw.kind rA hk; exact c7.nbm hc e)
    have nB : Hid (∀ k, (Value.slice ba K bc).ownBlock = some k → ¬ k = bm) := hide (fun k hk e => by obtain ⟨cur, hc⟩ := Rw.kind rB hk; exact c7.nbm hc e)
    have nX := c7.nbm bX
    clear u6 u7 bX c7 rA rB WT hW7 d0 d1 d2 d3
    go_wp2_with fail
    rw [HW7.out]
    refine Calls.mono HWT.out ?_
    rintro e w8 ⟨_, _, _, _, _, _, rfl, -, -, -, -, ⟨n8, D8, hn8, hc8⟩, u8⟩
    have hTK := fun W (u : Upd w8 W (fun _ => False)) => Take_any W b bm n8 D8 _ (hc8.upd u id id) (by omega) PX vT 1 1 HXO.out vT_ok
    have hM1 : wantM (fun _ => none) A PX = some enZero := by unfold wantM; rw [if_pos HXA.out]; rfl
    have eTK : takeOk (wantM (fun _ => none) A PX) vT 1 1 = true := by rw [hM1]; decide
    have eTM : takeM (wantM (fun _ => none) A) PX vT 1 1 = setF (wantM (fun _ => none) A) PX (some enT) := by
      unfold takeM
      rw [if_pos eTK]
      rfl
    rw [eTK, eTM] at hTK
    have b8 := u8.get HBX.out nX
    obtain ⟨x0, x1, x2, x3⟩ := cells4 b8
    have xl := lt_at b8
    have HU8 := hide (HU7.out.then u8 (fun i hi e => by have := HBM.out; omega))
    have HRA8 := hide (u8.rw HRA.out nA.out)
    have HRB8 := hide (u8.rw HRB.out nB.out)
    have hn8' : n8 ≤ 20 := by omega
    rw [HPX.out] at hTK
    unfold Lk.val Vl.val vT at hTK
    simp only at hTK
    have HTK := hide hTK
    have HB8 := hide b8
    have BA : ∀ W, Calls Try.prog 24 #[.bool true] W fun e w' => e = .returned (.agg #[.int .i64 3, .int .i64 0, .string ⟨#[]⟩, .bool true, .int .i64 0]) ∧ Upd W w' (fun _ => False) := fun W => B_any W true
    clear u8 b8 hTK hM1 eTK eTM hc8 hn8 e0 e1 e2 e3 HWT
    go_wp2_with fail
    go_region_held3 (fun w' => w'.cell? ⟨w6.heap.size, 0, none⟩ = some (.string ⟨xb.toArray⟩) ∧ w'.cell? ⟨w6.heap.size, 1, none⟩ = some (.string ⟨xs.toArray⟩) ∧ w'.cell? ⟨w6.heap.size, 2, none⟩ = some (.int .i64 xc) ∧ w'.cell? ⟨w6.heap.size, 3, none⟩ = some (.int .i64 xr))
      (first | (go_split_ands; first | exact ⟨(u10.cell _ _ xl9 nX).trans y0, (u10.cell _ _ xl9 nX).trans y1, (u10.cell _ _ xl9 nX).trans y2, (u10.cell _ _ xl9 nX).trans y3⟩ | exact ⟨y0, y1, y2, y3⟩) | go_keep)
      (first
      | (go_at_call 24; with_reducible refine Calls.mono (BA _) ?_; rintro e w9 ⟨rfl, u9⟩; have hz : Upd w8 w9 (fun _ => False) := ((Upd.refl w8 (fun _ => False)).drew).then u9 (fun _ _ => id); have y0 := (hz.cell _ _ xl id).trans x0; have y1 := (hz.cell _ _ xl id).trans x1; have y2 := (hz.cell _ _ xl id).trans x2; have y3 := (hz.cell _ _ xl id).trans x3; have xl9 := Nat.lt_of_lt_of_le xl hz.size)
      | (go_at_call 11; refine Calls.mono (HTK.out _ hz) ?_; rintro e w10 ⟨rfl, ⟨n10, D10, hn10, hc10⟩, u10⟩))
    have HU10 := hide ((HU8.out.then hz (fun _ _ => id)).then u10 (fun i hi e => by have := HBM.out; omega))
    have rB10 := u10.rw (hz.rw HRB8.out (fun _ _ => id)) nB.out
    have rA10 := u10.rw (hz.rw HRA8.out (fun _ _ => id)) nA.out
    have bX10 := u10.get (hz.get HB8.out id) nX
    have WT2 := Want_any w10 b bm n10 D10 _ hc10 ba bc B (by rw [HK.out]; exact rB10) HOB.out (by rw [HK.out]; omega)
    rw [HK.out] at WT2
    have HWT2 := hide WT2
    have HRA10 := hide rA10
    have HRB10 := hide rB10
    have HBX10 := hide bX10
    clear rA10 rB10 bX10 WT2 u9 u10 hz y0 y1 y2 y3 x0 x1 x2 x3 xl xl9 hc10 HTK
    go_wp2_with fail
    refine Calls.mono HWT2.out ?_
    rintro e w11 ⟨_, _, _, _, _, _, rfl, -, -, -, -, ⟨n11, D11, hn11, hc11⟩, u11⟩
    have HU11 := hide (HU10.out.then u11 (fun i hi e => by have := HBM.out; omega))
    have HRA11 := hide (u11.rw HRA10.out nA.out)
    have HRB11 := hide (u11.rw HRB10.out nB.out)
    have HBX11 := hide (u11.get HBX10.out nX)
    have HC11 := hide hc11
    have hn11' : n11 ≤ 100 := by omega
    clear u11 hc11 HWT2 HRA10 HRB10 HBX10 hn11 hn10
    go_wp2_with fail
    go_loopg [13, 60] K (fun q sv iv wr => ∃ j : Nat, j + q = K ∧ iv = .int .i64 j ∧ sv = .bool (decide (PX ∈ B.take j)) ∧ Upd w11 wr (fun _ => False))
    case atStart => exact ⟨0, by omega, rfl, by simp, Upd.refl _ _⟩
    case round =>
      obtain ⟨j, hj, rfl, rfl, hu⟩ := hrel
      by_cases hjK : j < K
      · obtain ⟨y, hy⟩ : ∃ y, B[j]? = some y := ⟨_, List.getElem?_eq_getElem (by rw [HK.out]; exact hjK)⟩
        have yok := HOB.out y (List.mem_of_getElem? hy)
        have rB := hu.rw HRB11.out (fun _ _ => id)
        obtain ⟨g2, off2, rfl, hg2, d0, d1, d2, d3⟩ := row_at rB j y hy hjK
        have bX := hu.get HBX11.out id
        obtain ⟨x0, x1, x2, x3⟩ := cells4 bX
        have xl := lt_at bX
        have hj0 : (0 : Int) ≤ (j : Int) := by omega
        have hj1 : (j : Int) < (K : Int) := by omega
        have htk := take_next' hy
        have EQ := fun w => eq_lk w yok HXO.out
        obtain ⟨qq, hqq⟩ : ∃ q, decide (y = PX) = q := ⟨_, rfl⟩
        rw [hqq, HPX.out] at EQ
        have hnx : decide (PX ∈ B.take (j + 1)) = (decide (PX ∈ B.take j) || qq) := by
          rw [htk, ← hqq]
          rw [Bool.eq_iff_iff]
          simp only [decide_eq_true_iff, List.mem_append, List.mem_singleton, Bool.or_eq_true]
          constructor
          · rintro (h | h)
            · exact .inl h
            · exact .inr h.symm
          · rintro (h | h)
            · exact .inl h
            · exact .inr h.symm
        have HNX := hide hnx
        have HUI := hide hu
        obtain ⟨st, hst⟩ : ∃ q, decide (PX ∈ B.take j) = q := ⟨_, rfl⟩
        rw [hst] at HNX ⊢
        clear hy yok rB bX htk hqq hnx hu hst
        obtain ⟨yb, ys, yc, yr⟩ := y
        unfold Lk.val at EQ
        simp only at EQ d0 d1 d2 d3
        cases st with
        | true =>
          go_wp2_with fail
          go_roundg (gk - 1)
          case measure => omega
          case rel => exact ⟨j + 1, by omega, by go_num, by rw [HNX.out]; rfl, HUI.out.alloc _⟩
        | false =>
          go_wp2_with fail
          go_roundg (gk - 1)
          case measure => omega
          case rel => exact ⟨j + 1, by omega, by go_num, by rw [HNX.out]; rfl, HUI.out.alloc _⟩
      · have hj1 : ¬ (j : Int) < (K : Int) := by omega
        have htk : B.take j = B := List.take_of_length_le (by rw [HK.out]; omega)
        rw [htk]
        have rA := hu.rw HRA11.out (fun _ _ => id)
        have bX := hu.get HBX11.out id
        have WT3 := Want_any wr b bm n11 D11 _ (HC11.out.upd hu id id) _ ac A (by rw [HN.out]; exact rA) HOA.out (by rw [HN.out]; omega)
        rw [HN.out] at WT3
        have HWT3 := hide WT3
        have HUI := hide (HU11.out.then hu (fun _ _ => id))
        have HBX := hide bX
        obtain ⟨st, hst⟩ : ∃ q, decide (PX ∈ B) = q := ⟨_, rfl⟩
        rw [hst]
        clear rA bX WT3 hu htk
        go_wp2_with fail
        refine Calls.mono HWT3.out ?_
        rintro e w13 ⟨_, _, _, _, _, _, rfl, -, -, -, -, ⟨n13, D13, hn13, hc13⟩, u13⟩
        have HU13 := hide (HUI.out.then u13 (fun i hi e => by have := HBM.out; omega))
        have HBX13 := hide (u13.get HBX.out nX)
        obtain ⟨x0, x1, x2, x3⟩ := cells4 HBX13.out
        have xl := lt_at HBX13.out
        clear u13 HBX HWT3
        cases st with
        | true =>
          have hin : PX ∈ B := by simpa using hst
          clear hst
          have hM4 : wantM (wantM (setF (wantM (fun _ => none) A) PX (some enT)) B) A PX = some enT := by
            unfold wantM
            simp only [HXA.out, hin, if_true, setF_same, Option.getD_some, Option.getD_none]
          rw [HPX.out] at hM4
          have GT := Get_any w13 b bm n13 D13 _ hc13 ⟨xb, xs, xc, xr⟩ (by have := HXO.out; rwa [HPX.out] at this)
          have SEE := fun W (u : Upd w13 W (fun _ => False)) => Seen_any W b bm n13 D13 _ (hc13.upd u id id) ⟨xb, xs, xc, xr⟩ (by have := HXO.out; rwa [HPX.out] at this)
          rw [hM4] at GT SEE
          unfold GetPost Lk.val En.val enT vT at GT
          simp only [Option.getD_some, Option.isSome_some] at GT
          have SE : ∀ W, Upd w13 W (fun _ => False) → Calls Try.prog 14 #[.pointer (some ⟨b, 0, none⟩), .agg #[.string ⟨xb.toArray⟩, .string ⟨xs.toArray⟩, .int .i64 xc, .int .i64 xr]] W fun e w' => e = .returned (.agg #[.int .i64 3, .int .i64 0, .string ⟨#[]⟩, .bool true, .int .i64 0]) ∧ Upd W w' (fun _ => False) := SEE
          have SN : ∀ W, Calls Try.prog 14 #[.pointer none, .agg #[.string ⟨xb.toArray⟩, .string ⟨xs.toArray⟩, .int .i64 xc, .int .i64 xr]] W fun e w' => e = .returned (.agg #[.int .i64 4, .int .i64 0, .string ⟨#[]⟩, .bool false, .int .i64 6]) ∧ Upd W w' (fun _ => False) := fun W => Seen_nil W ⟨xb, xs, xc, xr⟩
          have TN : ∀ W, Calls Try.prog 11 #[.pointer none, .agg #[.string ⟨xb.toArray⟩, .string ⟨xs.toArray⟩, .int .i64 xc, .int .i64 xr], .int .i64 1, .agg #[.int .i64 3, .int .i64 0, .string ⟨#[]⟩, .bool true, .int .i64 0], .int .i64 1] W fun e w' => e = .returned (.bool false) ∧ Upd W w' (fun _ => False) := fun W => Take_no W _ none rfl ⟨xb, xs, xc, xr⟩ vT 1 1 (fun w' _ => Get_nil w' _)
          have PN : ∀ W, Calls Try.prog 26 #[.pointer none, .agg #[.string ⟨xb.toArray⟩, .string ⟨xs.toArray⟩, .int .i64 xc, .int .i64 xr], .agg #[.int .i64 3, .int .i64 0, .string ⟨#[]⟩, .bool true, .int .i64 0, .int .i64 1, .int .i64 1, .bool true, .bool false, .bool false]] W fun e w' => e = .returned (.bool false) ∧ Upd W w' (fun _ => False) := fun W => Put_nil W ⟨xb, xs, xc, xr⟩ enT
          have LN : ∀ W, Calls Try.prog 18 #[.pointer none] W fun e w' => e = .returned (.slice none 0 0) ∧ Upd W w' (fun _ => False) := fun W => Calls.mono (Links_nil W) (fun e w' h => ⟨h.1, by rw [h.2]; exact Upd.refl _ _⟩)
          have E6 : ∀ W, Calls Try.prog 15 #[.int .i64 6] W fun e w' => e = .returned (.agg #[.int .i64 4, .int .i64 0, .string ⟨#[]⟩, .bool false, .int .i64 6]) ∧ Upd W w' (fun _ => False) := fun W => E_any W 6
          have Q1 : ∀ w, (binOp .eql 46 (.agg #[.int .i64 3, .int .i64 0, .string ⟨#[]⟩, .bool true, .int .i64 0]) (.agg #[.int .i64 3, .int .i64 0, .string ⟨#[]⟩, .bool true, .int .i64 0])).run Try.prog w = .ok (.bool true) w := fun w => eq_at vT vT vT_ok vT_ok (q := true) rfl w
          have Q2 : ∀ w, (binOp .eql 46 (.agg #[.int .i64 4, .int .i64 0, .string ⟨#[]⟩, .bool false, .int .i64 6]) (.agg #[.int .i64 4, .int .i64 0, .string ⟨#[]⟩, .bool false, .int .i64 6])).run Try.prog w = .ok (.bool true) w := fun w => eq_at ⟨4, 0, [], false, 6⟩ ⟨4, 0, [], false, 6⟩ vK6_ok vK6_ok (q := true) rfl w
          have HGT := hide GT
          have HSE := hide SE
          clear GT SE SEE hM4 hc13 hin
          go_upto_region 21 with (first
            | (go_at_call 22; refine Calls.mono HGT.out ?_; rintro e w14 ⟨rfl, u14⟩; have HU14 := hide u14; clear u14)
            | (go_at_call 9; with_reducible refine Calls.mono (Want_nil _ _) ?_; rintro e wn ⟨rfl, rfl⟩)
            | (go_at_call 25; refine Calls.mono (Stale_nil _ [66]) ?_; rintro e ws ⟨rfl, rfl⟩))
          obtain ⟨w15, hw15⟩ : ∃ w15, w14.alloc (.cells #[.int .i64 3, .int .i64 0, .string ⟨#[]⟩, .bool true, .int .i64 0, .int .i64 1, .int .i64 1, .bool true, .bool false, .bool false] 67) = w15 := ⟨_, rfl⟩
          have u15 : Upd w13 w15 (fun _ => False) := hw15 ▸ HU14.out.alloc (.cells #[.int .i64 3, .int .i64 0, .string ⟨#[]⟩, .bool true, .int .i64 0, .int .i64 1, .int .i64 1, .bool true, .bool false, .bool false] 67)
          have bO : w15.heap[w14.heap.size]? = some (.cells #[.int .i64 3, .int .i64 0, .string ⟨#[]⟩, .bool true, .int .i64 0, .int .i64 1, .int .i64 1, .bool true, .bool false, .bool false] 67 (0, 0)) := hw15 ▸ Vnew1 w14 (.cells #[.int .i64 3, .int .i64 0, .string ⟨#[]⟩, .bool true, .int .i64 0, .int .i64 1, .int .i64 1, .bool true, .bool false, .bool false] 67)
          have bX15 := u15.get HBX13.out id
          obtain ⟨x0, x1, x2, x3⟩ := cells4 bX15
          obtain ⟨o0, o1, o2, o3, o4, o5, o6, o7, o8, o9⟩ := cells10 bO
          have xl := lt_at bX15
          have ol := lt_at bO
          have HU15 := hide u15
          have HW15 := hide hw15
          rw [HW15.out]
          clear u15 bO bX15 hw15 HGT
          go_region_held3 (fun w' => w'.cell? ⟨w6.heap.size, 0, none⟩ = some (.string ⟨xb.toArray⟩) ∧ w'.cell? ⟨w6.heap.size, 1, none⟩ = some (.string ⟨xs.toArray⟩) ∧ w'.cell? ⟨w6.heap.size, 2, none⟩ = some (.int .i64 xc) ∧ w'.cell? ⟨w6.heap.size, 3, none⟩ = some (.int .i64 xr) ∧ w'.cell? ⟨w14.heap.size, 0, none⟩ = some (.int .i64 3) ∧ w'.cell? ⟨w14.heap.size, 1, none⟩ = some (.int .i64 0) ∧ w'.cell? ⟨w14.heap.size, 2, none⟩ = some (.string ⟨#[]⟩) ∧ w'.cell? ⟨w14.heap.size, 3, none⟩ = some (.bool true) ∧ w'.cell? ⟨w14.heap.size, 4, none⟩ = some (.int .i64 0) ∧ w'.cell? ⟨w14.heap.size, 5, none⟩ = some (.int .i64 1) ∧ w'.cell? ⟨w14.heap.size, 6, none⟩ = some (.int .i64 1) ∧ w'.cell? ⟨w14.heap.size, 7, none⟩ = some (.bool true) ∧ w'.cell? ⟨w14.heap.size, 8, none⟩ = some (.bool false) ∧ w'.cell? ⟨w14.heap.size, 9, none⟩ = some (.bool false) ∧ Upd w15 w' (fun _ => False))
            (first | (go_keep; done) | exact ⟨x0, x1, x2, x3, o0, o1, o2, o3, o4, o5, o6, o7, o8, o9, (Upd.refl w15 _).drew⟩ | (have hz : Upd w15 _ (fun _ => False) := Upd.then (And.right (And.right (And.right (And.right (And.right (And.right (And.right (And.right (And.right (And.right (And.right (And.right (And.right (And.right (by assumption))))))))))))))) u23 (fun _ _ => id); exact ⟨(hz.cell (w6.heap.size) 0 xl id).trans x0, (hz.cell (w6.heap.size) 1 xl id).trans x1, (hz.cell (w6.heap.size) 2 xl id).trans x2, (hz.cell (w6.heap.size) 3 xl id).trans x3, (hz.cell (w14.heap.size) 0 ol id).trans o0, (hz.cell (w14.heap.size) 1 ol id).trans o1, (hz.cell (w14.heap.size) 2 ol id).trans o2, (hz.cell (w14.heap.size) 3 ol id).trans o3, (hz.cell (w14.heap.size) 4 ol id).trans o4, (hz.cell (w14.heap.size) 5 ol id).trans o5, (hz.cell (w14.heap.size) 6 ol id).trans o6, (hz.cell (w14.heap.size) 7 ol id).trans o7, (hz.cell (w14.heap.size) 8 ol id).trans o8, (hz.cell (w14.heap.size) 9 ol id).trans o9, hz⟩) | (have hz : Upd w15 _ (fun _ => False) := Upd.then (And.right (And.right (And.right (And.right (And.right (And.right (And.right (And.right (And.right (And.right (And.right (And.right (And.right (And.right (by assumption))))))))))))))) u22 (fun _ _ => id); exact ⟨(hz.cell (w6.heap.size) 0 xl id).trans x0, (hz.cell (w6.heap.size) 1 xl id).trans x1, (hz.cell (w6.heap.size) 2 xl id).trans x2, (hz.cell (w6.heap.size) 3 xl id).trans x3, (hz.cell (w14.heap.size) 0 ol id).trans o0, (hz.cell (w14.heap.size) 1 ol id).trans o1, (hz.cell (w14.heap.size) 2 ol id).trans o2, (hz.cell (w14.heap.size) 3 ol id).trans o3, (hz.cell (w14.heap.size) 4 ol id).trans o4, (hz.cell (w14.heap.size) 5 ol id).trans o5, (hz.cell (w14.heap.size) 6 ol id).trans o6, (hz.cell (w14.heap.size) 7 ol id).trans o7, (hz.cell (w14.heap.size) 8 ol id).trans o8, (hz.cell (w14.heap.size) 9 ol id).trans o9, hz⟩) | (have hz : Upd w15 _ (fun _ => False) := Upd.then (And.right (And.right (And.right (And.right (And.right (And.right (And.right (And.right (And.right (And.right (And.right (And.right (And.right (And.right (by assumption))))))))))))))) u21 (fun _ _ => id); exact ⟨(hz.cell (w6.heap.size) 0 xl id).trans x0, (hz.cell (w6.heap.size) 1 xl id).trans x1, (hz.cell (w6.heap.size) 2 xl id).trans x2, (hz.cell (w6.heap.size) 3 xl id).trans x3, (hz.cell (w14.heap.size) 0 ol id).trans o0, (hz.cell (w14.heap.size) 1 ol id).trans o1, (hz.cell (w14.heap.size) 2 ol id).trans o2, (hz.cell (w14.heap.size) 3 ol id).trans o3, (hz.cell (w14.heap.size) 4 ol id).trans o4, (hz.cell (w14.heap.size) 5 ol id).trans o5, (hz.cell (w14.heap.size) 6 ol id).trans o6, (hz.cell (w14.heap.size) 7 ol id).trans o7, (hz.cell (w14.heap.size) 8 ol id).trans o8, (hz.cell (w14.heap.size) 9 ol id).trans o9, hz⟩) | (have hz : Upd w15 _ (fun _ => False) := Upd.then (And.right (And.right (And.right (And.right (And.right (And.right (And.right (And.right (And.right (And.right (And.right (And.right (And.right (And.right (by assumption))))))))))))))) u20 (fun _ _ => id); exact ⟨(hz.cell (w6.heap.size) 0 xl id).trans x0, (hz.cell (w6.heap.size) 1 xl id).trans x1, (hz.cell (w6.heap.size) 2 xl id).trans x2, (hz.cell (w6.heap.size) 3 xl id).trans x3, (hz.cell (w14.heap.size) 0 ol id).trans o0, (hz.cell (w14.heap.size) 1 ol id).trans o1, (hz.cell (w14.heap.size) 2 ol id).trans o2, (hz.cell (w14.heap.size) 3 ol id).trans o3, (hz.cell (w14.heap.size) 4 ol id).trans o4, (hz.cell (w14.heap.size) 5 ol id).trans o5, (hz.cell (w14.heap.size) 6 ol id).trans o6, (hz.cell (w14.heap.size) 7 ol id).trans o7, (hz.cell (w14.heap.size) 8 ol id).trans o8, (hz.cell (w14.heap.size) 9 ol id).trans o9, hz⟩) | (have hz : Upd w15 _ (fun _ => False) := Upd.then (And.right (And.right (And.right (And.right (And.right (And.right (And.right (And.right (And.right (And.right (And.right (And.right (And.right (And.right (by assumption))))))))))))))) u19 (fun _ _ => id); exact ⟨(hz.cell (w6.heap.size) 0 xl id).trans x0, (hz.cell (w6.heap.size) 1 xl id).trans x1, (hz.cell (w6.heap.size) 2 xl id).trans x2, (hz.cell (w6.heap.size) 3 xl id).trans x3, (hz.cell (w14.heap.size) 0 ol id).trans o0, (hz.cell (w14.heap.size) 1 ol id).trans o1, (hz.cell (w14.heap.size) 2 ol id).trans o2, (hz.cell (w14.heap.size) 3 ol id).trans o3, (hz.cell (w14.heap.size) 4 ol id).trans o4, (hz.cell (w14.heap.size) 5 ol id).trans o5, (hz.cell (w14.heap.size) 6 ol id).trans o6, (hz.cell (w14.heap.size) 7 ol id).trans o7, (hz.cell (w14.heap.size) 8 ol id).trans o8, (hz.cell (w14.heap.size) 9 ol id).trans o9, hz⟩) | (have hz : Upd w15 _ (fun _ => False) := Upd.then (And.right (And.right (And.right (And.right (And.right (And.right (And.right (And.right (And.right (And.right (And.right (And.right (And.right (And.right (by assumption))))))))))))))) u18 (fun _ _ => id); exact ⟨(hz.cell (w6.heap.size) 0 xl id).trans x0, (hz.cell (w6.heap.size) 1 xl id).trans x1, (hz.cell (w6.heap.size) 2 xl id).trans x2, (hz.cell (w6.heap.size) 3 xl id).trans x3, (hz.cell (w14.heap.size) 0 ol id).trans o0, (hz.cell (w14.heap.size) 1 ol id).trans o1, (hz.cell (w14.heap.size) 2 ol id).trans o2, (hz.cell (w14.heap.size) 3 ol id).trans o3, (hz.cell (w14.heap.size) 4 ol id).trans o4, (hz.cell (w14.heap.size) 5 ol id).trans o5, (hz.cell (w14.heap.size) 6 ol id).trans o6, (hz.cell (w14.heap.size) 7 ol id).trans o7, (hz.cell (w14.heap.size) 8 ol id).trans o8, (hz.cell (w14.heap.size) 9 ol id).trans o9, hz⟩) | (have hz : Upd w15 _ (fun _ => False) := Upd.then (And.right (And.right (And.right (And.right (And.right (And.right (And.right (And.right (And.right (And.right (And.right (And.right (And.right (And.right (by assumption))))))))))))))) u17 (fun _ _ => id); exact ⟨(hz.cell (w6.heap.size) 0 xl id).trans x0, (hz.cell (w6.heap.size) 1 xl id).trans x1, (hz.cell (w6.heap.size) 2 xl id).trans x2, (hz.cell (w6.heap.size) 3 xl id).trans x3, (hz.cell (w14.heap.size) 0 ol id).trans o0, (hz.cell (w14.heap.size) 1 ol id).trans o1, (hz.cell (w14.heap.size) 2 ol id).trans o2, (hz.cell (w14.heap.size) 3 ol id).trans o3, (hz.cell (w14.heap.size) 4 ol id).trans o4, (hz.cell (w14.heap.size) 5 ol id).trans o5, (hz.cell (w14.heap.size) 6 ol id).trans o6, (hz.cell (w14.heap.size) 7 ol id).trans o7, (hz.cell (w14.heap.size) 8 ol id).trans o8, (hz.cell (w14.heap.size) 9 ol id).trans o9, hz⟩))
            (first
            | (go_at_call 14; with_reducible refine Calls.mono (SN _) ?_; rintro e w17 ⟨rfl, u17⟩)
            | (go_at_call 14; refine Calls.mono (HSE.out _ (HU15.out.then (And.right (And.right (And.right (And.right (And.right (And.right (And.right (And.right (And.right (And.right (And.right (And.right (And.right (And.right (by assumption))))))))))))))) (fun _ _ => id))) ?_; rintro e w18 ⟨rfl, u18⟩)
            | (go_at_call 24; with_reducible refine Calls.mono (BA _) ?_; rintro e w19 ⟨rfl, u19⟩)
            | (go_at_call 11; with_reducible refine Calls.mono (TN _) ?_; rintro e w20 ⟨rfl, u20⟩)
            | (go_at_call 15; with_reducible refine Calls.mono (E6 _) ?_; rintro e w21 ⟨rfl, u21⟩)
            | (go_at_call 18; with_reducible refine Calls.mono (LN _) ?_; rintro e w22 ⟨rfl, u22⟩)
            | (go_at_call 26; with_reducible refine Calls.mono (PN _) ?_; rintro e w23 ⟨rfl, u23⟩))
          go_wp2_with fail
          go_ret
          exact ⟨rfl, (HU13.out.then HU15.out (fun _ _ => id)).then (And.right (And.right (And.right (And.right (And.right (And.right (And.right (And.right (And.right (And.right (And.right (And.right (And.right (And.right (by assumption))))))))))))))) (fun _ _ => id)⟩
        | false =>
          have hin : PX ∉ B := by simpa using hst
          clear hst
          have hM4 : wantM (wantM (setF (wantM (fun _ => none) A) PX (some enT)) B) A PX = some enZero := by
            unfold wantM
            simp only [HXA.out, hin, if_true, if_false, setF_same, Option.getD_some, Option.getD_none]
          rw [HPX.out] at hM4
          have GT := Get_any w13 b bm n13 D13 _ hc13 ⟨xb, xs, xc, xr⟩ (by have := HXO.out; rwa [HPX.out] at this)
          have SEE := fun W (u : Upd w13 W (fun _ => False)) => Seen_any W b bm n13 D13 _ (hc13.upd u id id) ⟨xb, xs, xc, xr⟩ (by have := HXO.out; rwa [HPX.out] at this)
          rw [hM4] at GT SEE
          unfold GetPost Lk.val En.val enZero at GT
          simp only [Option.getD_some, Option.isSome_some] at GT
          have SE : ∀ W, Upd w13 W (fun _ => False) → Calls Try.prog 14 #[.pointer (some ⟨b, 0, none⟩), .agg #[.string ⟨xb.toArray⟩, .string ⟨xs.toArray⟩, .int .i64 xc, .int .i64 xr]] W fun e w' => e = .returned (.agg #[.int .i64 4, .int .i64 0, .string ⟨#[]⟩, .bool false, .int .i64 6]) ∧ Upd W w' (fun _ => False) := SEE
          have SN : ∀ W, Calls Try.prog 14 #[.pointer none, .agg #[.string ⟨xb.toArray⟩, .string ⟨xs.toArray⟩, .int .i64 xc, .int .i64 xr]] W fun e w' => e = .returned (.agg #[.int .i64 4, .int .i64 0, .string ⟨#[]⟩, .bool false, .int .i64 6]) ∧ Upd W w' (fun _ => False) := fun W => Seen_nil W ⟨xb, xs, xc, xr⟩
          have TN : ∀ W, Calls Try.prog 11 #[.pointer none, .agg #[.string ⟨xb.toArray⟩, .string ⟨xs.toArray⟩, .int .i64 xc, .int .i64 xr], .int .i64 1, .agg #[.int .i64 3, .int .i64 0, .string ⟨#[]⟩, .bool true, .int .i64 0], .int .i64 1] W fun e w' => e = .returned (.bool false) ∧ Upd W w' (fun _ => False) := fun W => Take_no W _ none rfl ⟨xb, xs, xc, xr⟩ vT 1 1 (fun w' _ => Get_nil w' _)
          have PN : ∀ W, Calls Try.prog 26 #[.pointer none, .agg #[.string ⟨xb.toArray⟩, .string ⟨xs.toArray⟩, .int .i64 xc, .int .i64 xr], .agg #[.int .i64 0, .int .i64 0, .string ⟨#[]⟩, .bool false, .int .i64 0, .int .i64 0, .int .i64 0, .bool false, .bool false, .bool false]] W fun e w' => e = .returned (.bool false) ∧ Upd W w' (fun _ => False) := fun W => Put_nil W ⟨xb, xs, xc, xr⟩ enZero
          have LN : ∀ W, Calls Try.prog 18 #[.pointer none] W fun e w' => e = .returned (.slice none 0 0) ∧ Upd W w' (fun _ => False) := fun W => Calls.mono (Links_nil W) (fun e w' h => ⟨h.1, by rw [h.2]; exact Upd.refl _ _⟩)
          have E6 : ∀ W, Calls Try.prog 15 #[.int .i64 6] W fun e w' => e = .returned (.agg #[.int .i64 4, .int .i64 0, .string ⟨#[]⟩, .bool false, .int .i64 6]) ∧ Upd W w' (fun _ => False) := fun W => E_any W 6
          have Q1 : ∀ w, (binOp .eql 46 (.agg #[.int .i64 4, .int .i64 0, .string ⟨#[]⟩, .bool false, .int .i64 6]) (.agg #[.int .i64 3, .int .i64 0, .string ⟨#[]⟩, .bool true, .int .i64 0])).run Try.prog w = .ok (.bool false) w := fun w => eq_at ⟨4, 0, [], false, 6⟩ vT vK6_ok vT_ok (q := false) rfl w
          have Q2 : ∀ w, (binOp .eql 46 (.agg #[.int .i64 4, .int .i64 0, .string ⟨#[]⟩, .bool false, .int .i64 6]) (.agg #[.int .i64 4, .int .i64 0, .string ⟨#[]⟩, .bool false, .int .i64 6])).run Try.prog w = .ok (.bool true) w := fun w => eq_at ⟨4, 0, [], false, 6⟩ ⟨4, 0, [], false, 6⟩ vK6_ok vK6_ok (q := true) rfl w
          have HGT := hide GT
          have HSE := hide SE
          clear GT SE SEE hM4 hc13 hin
          go_upto_region 21 with (first
            | (go_at_call 22; refine Calls.mono HGT.out ?_; rintro e w14 ⟨rfl, u14⟩; have HU14 := hide u14; clear u14)
            | (go_at_call 9; with_reducible refine Calls.mono (Want_nil _ _) ?_; rintro e wn ⟨rfl, rfl⟩)
            | (go_at_call 25; refine Calls.mono (Stale_nil _ [66]) ?_; rintro e ws ⟨rfl, rfl⟩))
          obtain ⟨w15, hw15⟩ : ∃ w15, w14.alloc (.cells #[.int .i64 0, .int .i64 0, .string ⟨#[]⟩, .bool false, .int .i64 0, .int .i64 0, .int .i64 0, .bool false, .bool false, .bool false] 67) = w15 := ⟨_, rfl⟩
          have u15 : Upd w13 w15 (fun _ => False) := hw15 ▸ HU14.out.alloc (.cells #[.int .i64 0, .int .i64 0, .string ⟨#[]⟩, .bool false, .int .i64 0, .int .i64 0, .int .i64 0, .bool false, .bool false, .bool false] 67)
          have bO : w15.heap[w14.heap.size]? = some (.cells #[.int .i64 0, .int .i64 0, .string ⟨#[]⟩, .bool false, .int .i64 0, .int .i64 0, .int .i64 0, .bool false, .bool false, .bool false] 67 (0, 0)) := hw15 ▸ Vnew1 w14 (.cells #[.int .i64 0, .int .i64 0, .string ⟨#[]⟩, .bool false, .int .i64 0, .int .i64 0, .int .i64 0, .bool false, .bool false, .bool false] 67)
          have bX15 := u15.get HBX13.out id
          obtain ⟨x0, x1, x2, x3⟩ := cells4 bX15
          obtain ⟨o0, o1, o2, o3, o4, o5, o6, o7, o8, o9⟩ := cells10 bO
          have xl := lt_at bX15
          have ol := lt_at bO
          have HU15 := hide u15
          have HW15 := hide hw15
          rw [HW15.out]
          clear u15 bO bX15 hw15 HGT
          go_region_held3 (fun w' => w'.cell? ⟨w6.heap.size, 0, none⟩ = some (.string ⟨xb.toArray⟩) ∧ w'.cell? ⟨w6.heap.size, 1, none⟩ = some (.string ⟨xs.toArray⟩) ∧ w'.cell? ⟨w6.heap.size, 2, none⟩ = some (.int .i64 xc) ∧ w'.cell? ⟨w6.heap.size, 3, none⟩ = some (.int .i64 xr) ∧ w'.cell? ⟨w14.heap.size, 0, none⟩ = some (.int .i64 0) ∧ w'.cell? ⟨w14.heap.size, 1, none⟩ = some (.int .i64 0) ∧ w'.cell? ⟨w14.heap.size, 2, none⟩ = some (.string ⟨#[]⟩) ∧ w'.cell? ⟨w14.heap.size, 3, none⟩ = some (.bool false) ∧ w'.cell? ⟨w14.heap.size, 4, none⟩ = some (.int .i64 0) ∧ w'.cell? ⟨w14.heap.size, 5, none⟩ = some (.int .i64 0) ∧ w'.cell? ⟨w14.heap.size, 6, none⟩ = some (.int .i64 0) ∧ w'.cell? ⟨w14.heap.size, 7, none⟩ = some (.bool false) ∧ w'.cell? ⟨w14.heap.size, 8, none⟩ = some (.bool false) ∧ w'.cell? ⟨w14.heap.size, 9, none⟩ = some (.bool false) ∧ Upd w15 w' (fun _ => False))
            (first | (go_keep; done) | exact ⟨x0, x1, x2, x3, o0, o1, o2, o3, o4, o5, o6, o7, o8, o9, (Upd.refl w15 _).drew⟩ | (have hz : Upd w15 _ (fun _ => False) := Upd.then (And.right (And.right (And.right (And.right (And.right (And.right (And.right (And.right (And.right (And.right (And.right (And.right (And.right (And.right (by assumption))))))))))))))) u23 (fun _ _ => id); exact ⟨(hz.cell (w6.heap.size) 0 xl id).trans x0, (hz.cell (w6.heap.size) 1 xl id).trans x1, (hz.cell (w6.heap.size) 2 xl id).trans x2, (hz.cell (w6.heap.size) 3 xl id).trans x3, (hz.cell (w14.heap.size) 0 ol id).trans o0, (hz.cell (w14.heap.size) 1 ol id).trans o1, (hz.cell (w14.heap.size) 2 ol id).trans o2, (hz.cell (w14.heap.size) 3 ol id).trans o3, (hz.cell (w14.heap.size) 4 ol id).trans o4, (hz.cell (w14.heap.size) 5 ol id).trans o5, (hz.cell (w14.heap.size) 6 ol id).trans o6, (hz.cell (w14.heap.size) 7 ol id).trans o7, (hz.cell (w14.heap.size) 8 ol id).trans o8, (hz.cell (w14.heap.size) 9 ol id).trans o9, hz⟩) | (have hz : Upd w15 _ (fun _ => False) := Upd.then (And.right (And.right (And.right (And.right (And.right (And.right (And.right (And.right (And.right (And.right (And.right (And.right (And.right (And.right (by assumption))))))))))))))) u22 (fun _ _ => id); exact ⟨(hz.cell (w6.heap.size) 0 xl id).trans x0, (hz.cell (w6.heap.size) 1 xl id).trans x1, (hz.cell (w6.heap.size) 2 xl id).trans x2, (hz.cell (w6.heap.size) 3 xl id).trans x3, (hz.cell (w14.heap.size) 0 ol id).trans o0, (hz.cell (w14.heap.size) 1 ol id).trans o1, (hz.cell (w14.heap.size) 2 ol id).trans o2, (hz.cell (w14.heap.size) 3 ol id).trans o3, (hz.cell (w14.heap.size) 4 ol id).trans o4, (hz.cell (w14.heap.size) 5 ol id).trans o5, (hz.cell (w14.heap.size) 6 ol id).trans o6, (hz.cell (w14.heap.size) 7 ol id).trans o7, (hz.cell (w14.heap.size) 8 ol id).trans o8, (hz.cell (w14.heap.size) 9 ol id).trans o9, hz⟩) | (have hz : Upd w15 _ (fun _ => False) := Upd.then (And.right (And.right (And.right (And.right (And.right (And.right (And.right (And.right (And.right (And.right (And.right (And.right (And.right (And.right (by assumption))))))))))))))) u21 (fun _ _ => id); exact ⟨(hz.cell (w6.heap.size) 0 xl id).trans x0, (hz.cell (w6.heap.size) 1 xl id).trans x1, (hz.cell (w6.heap.size) 2 xl id).trans x2, (hz.cell (w6.heap.size) 3 xl id).trans x3, (hz.cell (w14.heap.size) 0 ol id).trans o0, (hz.cell (w14.heap.size) 1 ol id).trans o1, (hz.cell (w14.heap.size) 2 ol id).trans o2, (hz.cell (w14.heap.size) 3 ol id).trans o3, (hz.cell (w14.heap.size) 4 ol id).trans o4, (hz.cell (w14.heap.size) 5 ol id).trans o5, (hz.cell (w14.heap.size) 6 ol id).trans o6, (hz.cell (w14.heap.size) 7 ol id).trans o7, (hz.cell (w14.heap.size) 8 ol id).trans o8, (hz.cell (w14.heap.size) 9 ol id).trans o9, hz⟩) | (have hz : Upd w15 _ (fun _ => False) := Upd.then (And.right (And.right (And.right (And.right (And.right (And.right (And.right (And.right (And.right (And.right (And.right (And.right (And.right (And.right (by assumption))))))))))))))) u20 (fun _ _ => id); exact ⟨(hz.cell (w6.heap.size) 0 xl id).trans x0, (hz.cell (w6.heap.size) 1 xl id).trans x1, (hz.cell (w6.heap.size) 2 xl id).trans x2, (hz.cell (w6.heap.size) 3 xl id).trans x3, (hz.cell (w14.heap.size) 0 ol id).trans o0, (hz.cell (w14.heap.size) 1 ol id).trans o1, (hz.cell (w14.heap.size) 2 ol id).trans o2, (hz.cell (w14.heap.size) 3 ol id).trans o3, (hz.cell (w14.heap.size) 4 ol id).trans o4, (hz.cell (w14.heap.size) 5 ol id).trans o5, (hz.cell (w14.heap.size) 6 ol id).trans o6, (hz.cell (w14.heap.size) 7 ol id).trans o7, (hz.cell (w14.heap.size) 8 ol id).trans o8, (hz.cell (w14.heap.size) 9 ol id).trans o9, hz⟩) | (have hz : Upd w15 _ (fun _ => False) := Upd.then (And.right (And.right (And.right (And.right (And.right (And.right (And.right (And.right (And.right (And.right (And.right (And.right (And.right (And.right (by assumption))))))))))))))) u19 (fun _ _ => id); exact ⟨(hz.cell (w6.heap.size) 0 xl id).trans x0, (hz.cell (w6.heap.size) 1 xl id).trans x1, (hz.cell (w6.heap.size) 2 xl id).trans x2, (hz.cell (w6.heap.size) 3 xl id).trans x3, (hz.cell (w14.heap.size) 0 ol id).trans o0, (hz.cell (w14.heap.size) 1 ol id).trans o1, (hz.cell (w14.heap.size) 2 ol id).trans o2, (hz.cell (w14.heap.size) 3 ol id).trans o3, (hz.cell (w14.heap.size) 4 ol id).trans o4, (hz.cell (w14.heap.size) 5 ol id).trans o5, (hz.cell (w14.heap.size) 6 ol id).trans o6, (hz.cell (w14.heap.size) 7 ol id).trans o7, (hz.cell (w14.heap.size) 8 ol id).trans o8, (hz.cell (w14.heap.size) 9 ol id).trans o9, hz⟩) | (have hz : Upd w15 _ (fun _ => False) := Upd.then (And.right (And.right (And.right (And.right (And.right (And.right (And.right (And.right (And.right (And.right (And.right (And.right (And.right (And.right (by assumption))))))))))))))) u18 (fun _ _ => id); exact ⟨(hz.cell (w6.heap.size) 0 xl id).trans x0, (hz.cell (w6.heap.size) 1 xl id).trans x1, (hz.cell (w6.heap.size) 2 xl id).trans x2, (hz.cell (w6.heap.size) 3 xl id).trans x3, (hz.cell (w14.heap.size) 0 ol id).trans o0, (hz.cell (w14.heap.size) 1 ol id).trans o1, (hz.cell (w14.heap.size) 2 ol id).trans o2, (hz.cell (w14.heap.size) 3 ol id).trans o3, (hz.cell (w14.heap.size) 4 ol id).trans o4, (hz.cell (w14.heap.size) 5 ol id).trans o5, (hz.cell (w14.heap.size) 6 ol id).trans o6, (hz.cell (w14.heap.size) 7 ol id).trans o7, (hz.cell (w14.heap.size) 8 ol id).trans o8, (hz.cell (w14.heap.size) 9 ol id).trans o9, hz⟩) | (have hz : Upd w15 _ (fun _ => False) := Upd.then (And.right (And.right (And.right (And.right (And.right (And.right (And.right (And.right (And.right (And.right (And.right (And.right (And.right (And.right (by assumption))))))))))))))) u17 (fun _ _ => id); exact ⟨(hz.cell (w6.heap.size) 0 xl id).trans x0, (hz.cell (w6.heap.size) 1 xl id).trans x1, (hz.cell (w6.heap.size) 2 xl id).trans x2, (hz.cell (w6.heap.size) 3 xl id).trans x3, (hz.cell (w14.heap.size) 0 ol id).trans o0, (hz.cell (w14.heap.size) 1 ol id).trans o1, (hz.cell (w14.heap.size) 2 ol id).trans o2, (hz.cell (w14.heap.size) 3 ol id).trans o3, (hz.cell (w14.heap.size) 4 ol id).trans o4, (hz.cell (w14.heap.size) 5 ol id).trans o5, (hz.cell (w14.heap.size) 6 ol id).trans o6, (hz.cell (w14.heap.size) 7 ol id).trans o7, (hz.cell (w14.heap.size) 8 ol id).trans o8, (hz.cell (w14.heap.size) 9 ol id).trans o9, hz⟩))
            (first
            | (go_at_call 14; with_reducible refine Calls.mono (SN _) ?_; rintro e w17 ⟨rfl, u17⟩)
            | (go_at_call 14; refine Calls.mono (HSE.out _ (HU15.out.then (And.right (And.right (And.right (And.right (And.right (And.right (And.right (And.right (And.right (And.right (And.right (And.right (And.right (And.right (by assumption))))))))))))))) (fun _ _ => id))) ?_; rintro e w18 ⟨rfl, u18⟩)
            | (go_at_call 24; with_reducible refine Calls.mono (BA _) ?_; rintro e w19 ⟨rfl, u19⟩)
            | (go_at_call 11; with_reducible refine Calls.mono (TN _) ?_; rintro e w20 ⟨rfl, u20⟩)
            | (go_at_call 15; with_reducible refine Calls.mono (E6 _) ?_; rintro e w21 ⟨rfl, u21⟩)
            | (go_at_call 18; with_reducible refine Calls.mono (LN _) ?_; rintro e w22 ⟨rfl, u22⟩)
            | (go_at_call 26; with_reducible refine Calls.mono (PN _) ?_; rintro e w23 ⟨rfl, u23⟩))
          go_wp2_with fail
          go_ret
          exact ⟨rfl, (HU13.out.then HU15.out (fun _ _ => id)).then (And.right (And.right (And.right (And.right (And.right (And.right (And.right (And.right (And.right (And.right (And.right (And.right (And.right (And.right (by assumption))))))))))))))) (fun _ _ => id)⟩
end Go.Proofs.Ytcclkfkdafmemaa

