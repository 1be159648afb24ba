/- What stands at the place that is told (plain). -/
import Derived.Test.YtdjpkkgcoainhaaGreatDoorJ26
/- What stands at the place that is told (plain). -/
set_option maxRecDepth 100000
namespace Go.Proofs.YtdjpkkgcoainhaaGreatDoor
open Go.RowKit Go.Lat Go.Lib

theorem fit_good {m : Int} {x y : Vl} (h : fitV m x y = true) : goodV x = true ∧ x.k ≠ 4 := by
  unfold fitV at h
  simp only [Bool.and_eq_true, decide_eq_true_eq] at h
  have hf := h.2.1
  unfold orderV at hf
  split at hf
  · rename_i h4
    exfalso
    have hg : goodV (soundV y) = true := by unfold soundV; split; assumption; exact good_mkE 3
    exact good_f4 hg h4 hf
  · split at hf
    · rename_i h4
      exfalso
      have hg : goodV (soundV x) = true := by unfold soundV; split; assumption; exact good_mkE 3
      exact good_f4 hg h4 hf
    · rename_i h4
      cases hg : goodV x with
      | false => rw [sound_bad hg] at h4; exact absurd rfl h4
      | true => rw [sound_good hg] at h4; exact ⟨rfl, h4⟩
theorem plA0 {x : Vl} {l : List Vl} : ∀ i, i ≤ l.length → (plA 0 x l i = 0 → ∀ j v, j < i → l[j]? = some v → fitV 0 x v = false) ∧ (∀ n, plA 0 x l i = n + 1 → (∀ j v, j < n → l[j]? = some v → fitV 0 x v = false) ∧ ∀ v, l[n]? = some v → fitV 0 x v = true)
  | 0, _ => ⟨fun _ j v hj => by omega, fun n h => by cases h⟩
  | i + 1, hi => by
    obtain ⟨h1, h2⟩ := plA0 (x := x) (l := l) i (by omega)
    obtain ⟨y, hy⟩ : ∃ y, l[i]? = some y := ⟨_, List.getElem?_eq_getElem (by omega)⟩
    have e := plA_in (m := 0) (x := x) hy
    by_cases hf : fitV 0 x y = true
    · by_cases h0 : plA 0 x l i = 0
      · rw [hf, h0] at e
        simp at e
        refine ⟨fun h => by omega, fun n hn => ?_⟩
        have : n = i := by omega
        subst this
        exact ⟨fun j v hj hv => h1 h0 j v hj hv, fun v hv => by rw [hy] at hv; cases hv; exact hf⟩
      · rw [hf] at e
        simp [h0] at e
        refine ⟨fun h => by omega, fun n hn => ?_⟩
        have := h2 n (by omega)
        exact this
    · have hf' : fitV 0 x y = false := by simpa using hf
      rw [hf'] at e
      simp at e
      refine ⟨fun h j v hj hv => ?_, fun n hn => h2 n (by omega)⟩
      by_cases hji : j = i
      · subst hji
        rw [hy] at hv
        cases hv
        exact hf'
      · exact h1 (by omega) j v (by omega) hv
/-- Nothing ahead of the place is alike, and what stands there is. -/
theorem place_spec {x : Vl} {l : List Vl} {i : Nat} {v : Vl} (hv : l[i]? = some v) :
    (placeV 0 x l = 0 ∧ fitV 0 x v = false) ∨ (placeV 0 x l ≠ 0 ∧ i + 1 < placeV 0 x l ∧ fitV 0 x v = false) ∨ (placeV 0 x l ≠ 0 ∧ i + 1 = placeV 0 x l ∧ fitV 0 x v = true) ∨ (placeV 0 x l ≠ 0 ∧ placeV 0 x l < i + 1) := by
  have hi := (List.getElem?_eq_some_iff.1 hv).1
  by_cases hg : goodV x = true ∧ x.k ≠ 4
  · have e : placeV 0 x l = plA 0 x l l.length := by unfold placeV; rw [if_pos hg]
    obtain ⟨h1, h2⟩ := plA0 (x := x) l.length (Nat.le_refl _)
    rw [e]
    by_cases h0 : plA 0 x l l.length = 0
    · exact .inl ⟨h0, h1 h0 i v hi hv⟩
    · obtain ⟨n, hn⟩ : ∃ n, plA 0 x l l.length = n + 1 := ⟨plA 0 x l l.length - 1, by omega⟩
      obtain ⟨h3, h4⟩ := h2 n hn
      rw [hn]
      by_cases hlt : i < n
      · exact .inr (.inl ⟨by omega, by omega, h3 i v hlt hv⟩)
      · by_cases hin : i = n
        · subst hin
          exact .inr (.inr (.inl ⟨by omega, rfl, h4 v hv⟩))
        · exact .inr (.inr (.inr ⟨by omega, by omega⟩))
  · have e : placeV 0 x l = 0 := by unfold placeV; rw [if_neg hg]
    refine .inl ⟨e, ?_⟩
    cases hf : fitV 0 x v with
    | false => rfl
    | true => exact absurd (fit_good hf) hg
theorem fit0 {x v : Vl} : fitV 0 x v = (decide (v.k = x.k) && (decide ((orderV v x).2 = 0) && decide ((orderV v x).1 = 0))) := by
  unfold fitV
  simp
/-- The value of a row and a column. -/
theorem at_div {l : List Vl} {c i : Nat} {v : Vl} (hc : 0 < c) (hm : l.length = l.length / c * c) (hv : l[i]? = some v) : atV l ((l.length / c : Nat) : Int) (c : Int) (1 + ((i / c : Nat) : Int)) (1 + ((i % c : Nat) : Int)) = v := by
  have hi := (List.getElem?_eq_some_iff.1 hv).1
  have h1 : i / c < l.length / c := by
    rw [Nat.div_lt_iff_lt_mul hc]
    omega
  have h2 := Nat.mod_lt i hc
  have h3 := Nat.div_add_mod i c
  generalize i / c = q at *
  generalize i % c = z at *
  generalize l.length / c = R at *
  unfold atV
  rw [if_neg (by omega)]
  have e : ((1 + (q : Int) - 1) * (c : Int) + (1 + (z : Int)) - 1).toNat = i := by
    have e1 : (1 + (q : Int) - 1) = (q : Int) := by omega
    have e2 : (1 + (q : Int) - 1) * (c : Int) + (1 + (z : Int)) - 1 = ((c * q + z : Nat) : Int) := by
      rw [e1]
      simp [Int.mul_comm]
      omega
    rw [e2, h3]
    rfl
  rw [e, List.getD_eq_getElem?_getD, hv]
  rfl
theorem at_out {l : List Vl} {c : Nat} : atV l ((l.length / c : Nat) : Int) (c : Int) (1 + ((l.length / c : Nat) : Int)) 1 = mkE 4 := by
  generalize l.length / c = R
  unfold atV
  rw [if_pos (by omega)]
theorem lawn_of {R N : Int} (h : R * 10000 = N) (h1 : -1000000 ≤ R) (h2 : R ≤ 1000000) (w : World) : Calls Tryz.prog 23 #[.int .i64 R] w fun e w' => e = .returned (.agg #[.int .i64 1, .int .i64 N, .string ⟨#[]⟩, .bool false, .int .i64 0]) ∧ Upd w w' (fun _ => False) := by
  have k := lawn_any w R h1 h2
  rw [mkN_num h1 h2] at k
  subst h
  exact k
theorem one_of {R N : Int} (h : R * 10000 = N) (w : World) : Calls Tryz.prog 22 #[.agg #[.int .i64 1, .int .i64 N, .string ⟨#[]⟩, .bool false, .int .i64 0]] w fun e w' => ∃ g, e = .returned (.agg #[.slice (some ⟨g, 0, none⟩) 1 1, .int .i64 0, .bool false]) ∧ RdV w' (some ⟨g, 0, none⟩) [cntW R] ∧ Upd w w' (fun _ => False) := by
  subst h
  exact One_any w (cntW R)
theorem new_drew (w : World) (A : Obj) : (w.alloc A).drew.heap[w.heap.size]? = some A := Vnew1 w A
theorem upd_drew (w : World) (A : Obj) : Upd w (w.alloc A).drew (fun _ => False) := ((Upd.refl w _).alloc _).drew
theorem neq_at (x y : Vl) (hx : x.ok) (hy : y.ok) {q : Bool} (hq : eqV x y = q) : ∀ w, (binOp .neq 29 (.agg #[.int .i64 x.k, .int .i64 x.n, .string ⟨x.t.toArray⟩, .bool x.b, .int .i64 x.f]) (.agg #[.int .i64 y.k, .int .i64 y.n, .string ⟨y.t.toArray⟩, .bool y.b, .int .i64 y.f])).run Tryz.prog w = .ok (.bool (!q)) w := fun w => by
  have := neq_vl w hx hy
  rw [hq] at this
  exact this
end Go.Proofs.YtdjpkkgcoainhaaGreatDoor
/- The walk of LooksFinds. -/
set_option maxRecDepth 100000
namespace Go.Proofs.YtdjpkkgcoainhaaGreatDoor
open Go.RowKit Go.Lat Go.Lib

set_option maxHeartbeats 12800000 in
theorem LooksFinds_any (w : World) (x : Vl) (hx : okK x) (a : Option Addr) (cap : Nat) (l : List Vl) (hlc : l.length ≤ cap) (hl : ∀ x ∈ l, okK x) (hr : RdV w a l) (k : Nat) (hk : k ≤ 255) :
    Calls Tryz.prog 6 #[x.val, .slice a l.length cap, .int .u8 (k : Int)] w fun e w' => e = .returned (.bool true) ∧ Upd w w' (fun _ => False) := by
  have hxo := cutV_ok hx
  have hlo := cutL_oks hl
  have hll := cutL_len l
  obtain ⟨L, hL⟩ : ∃ L, cutL l = L := ⟨_, rfl⟩
  obtain ⟨xk, xn, xt0, xb, xf⟩ := x
  obtain ⟨xt, hxt⟩ : ∃ t, xt0.take 300 = t := ⟨_, rfl⟩
  have hcv : cutV ⟨xk, xn, xt0, xb, xf⟩ = ⟨xk, xn, xt, xb, xf⟩ := by unfold cutV; rw [hxt]
  rw [hcv] at hxo
  have VA := fun w => lawvals_any w xk xn xt0 xt xb xf hxt
  have LI := fun W h => list12_any W a cap l hlc h
  rw [hL] at LI hlo hll
  have HR := hide hr
  obtain ⟨LL, hLL⟩ : ∃ n, L.length = n := ⟨_, rfl⟩
  rw [hLL] at LI hll
  unfold Vl.val
  simp only
  have HLL := hide hLL
  have HXO := hide hxo
  have HLO := hide hlo
  obtain ⟨C, hC⟩ : ∃ C : Nat, 1 + k % 3 = C := ⟨_, rfl⟩
  have hCi : (1 : Int) + (k : Int) % 3 = (C : Int) := by omega
  have hC1 : 1 ≤ C := by omega
  have hC3 : C ≤ 3 := by omega
  have hc0 : (C : Int) ≠ 0 := by omega
  have hc1 : ((C : Int) == 0) = false := by simpa using hc0
  obtain ⟨Q, hQ⟩ : ∃ Q : Nat, LL / C = Q := ⟨_, rfl⟩
  have hQi : (LL : Int).tdiv (C : Int) = (Q : Int) := by rw [Int.tdiv_eq_ediv_of_nonneg (by omega), ← hQ]; rfl
  obtain ⟨M, hM⟩ : ∃ M : Nat, Q * C = M := ⟨_, rfl⟩
  have hMi : IntKind.i64.wrap ((Q : Int) * (C : Int)) = (M : Int) := by
    have : (Q : Int) * (C : Int) = (M : Int) := by rw [← hM]; simp
    have h2 : M ≤ LL := by rw [← hM, ← hQ]; exact Nat.div_mul_le_self _ _
    rw [this]; exact IntWalk.i64_in _ (by omega)
  have hQ40 : Q ≤ 40 := by rw [← hQ]; exact Nat.le_trans (Nat.div_le_self _ _) hll
  have hML : M ≤ LL := by rw [← hM, ← hQ]; exact Nat.div_mul_le_self _ _
  have hQM : M / C = Q := by rw [← hM]; exact Nat.mul_div_cancel _ (by omega)
  have hMl : (L.take M).length = M := by rw [List.length_take, hLL]; omega
  obtain ⟨i0, hi, hz0, hz1, hz2⟩ := info_p Tryz.infoVl
  have HU0 : Hid (Upd w (w.alloc (.cells #[.int .i64 xk, .int .i64 xn, enS xt0, .bool xb, .int .i64 xf] 23)) (fun _ => False)) := hide ((Upd.refl w _).alloc _)
  clear hxt hcv hxo hlo hL hl hr hlc hx hLL hC
  go_enter Tryz.func6, Tryz.ntmps6
  go_wp2_with fail
  refine Calls.mono (VA _) ?_
  rintro e w1 ⟨rfl, u1⟩
  have HA1 := hide (block_alloc (Vnew1 w1 (.cells #[.int .i64 xk, .int .i64 xn, enS xt, .bool xb, .int .i64 xf] 29)) (.cells #[.int .i64 xk, .int .i64 xn, enS xt, .bool xb, .int .i64 xf] 30))
  have HU1 := hide (((HU0.out.then u1 (fun _ _ => id)).alloc (.cells #[.int .i64 xk, .int .i64 xn, enS xt, .bool xb, .int .i64 xf] 29)).alloc (.cells #[.int .i64 xk, .int .i64 xn, enS xt, .bool xb, .int .i64 xf] 30))
  clear u1 VA
  go_wp2_with fail
  refine Calls.mono (LI _ (HR.out.upd HU1.out)) ?_
  rintro e w2 ⟨v1, v2, rfl, r1, r2, o1, o2, u2⟩
  obtain ⟨va, vac, rfl, -⟩ := Rw.form r1
  obtain ⟨pa, pc, hs, hrw, -⟩ := Rw.slice_to (P := Tryz.prog) r1 33 i0 Tryz.underlying33 hi hz1 M hML
  obtain ⟨X, hX⟩ : ∃ g, w1.heap.size = g := ⟨_, rfl⟩
  rw [hX] at HA1
  have HXS := hide hX
  have HA2 := hide (u2.get HA1.out id)
  have HU2 := hide (HU1.out.then u2 (fun _ _ => id))
  have HP2 : Hid (RdV w2 pa (L.take M)) := hide (rdV_of (n := M) hMl (by rw [← vlCells_take]; exact hrw))
  have hMp : (M : Int) ≤ (LL : Int) := by omega
  clear u2 r1 r2 o1 o2 LI HA1 HU0 hX hrw
  go_upto_region 5 with fail
  rw [HXS.out]
  go_wp2_with fail
  refine Calls.mono (wakes12_any _) ?_
  rintro e w3 ⟨rfl, u3⟩
  have HA3 := hide (HA2.out |> fun h => u3.get h id)
  have HU3 := hide (HU2.out.then u3 (fun _ _ => id))
  have HP3 := hide (HP2.out.upd u3)
  clear u3 HA2 HP2 hs
  by_cases hM0 : M = 0
  · have bM : ((M : Int) == 0) = true := by simp; omega
    go_wp2_with fail
    refine Calls.mono (wakes12_any _) ?_
    rintro e w4 ⟨rfl, u4⟩
    go_wp2_with fail
    go_ret
    exact ⟨rfl, HU3.out.then u4 (fun _ _ => id)⟩
  · have bM : ((M : Int) == 0) = false := by simp; omega
    obtain ⟨K, hK⟩ : ∃ K, L.take M = K := ⟨_, rfl⟩
    rw [hK] at HP3 hMl
    have hKo : oksV K := fun y hy => HLO.out y (List.mem_of_mem_take (hK ▸ hy))
    have PL := fun W va vc h => Place_any W ⟨xk, xn, xt, xb, xf⟩ K va vc 0 HXO.out.1 HXO.out.2 hKo (by omega) h
    obtain ⟨N, hN⟩ : ∃ N, placeV 0 ⟨xk, xn, xt, xb, xf⟩ K = N := ⟨_, rfl⟩
    rw [hMl, hN] at PL
    have hNM : N ≤ M := by rw [← hN, ← hMl]; exact placeV_le _ _ _
    have hgA : goodA ⟨K, (C : Int), true⟩ = true := by
      unfold goodA
      simp only [if_true, hMl]
      have e : (M : Int).tmod (C : Int) = 0 := by rw [← hM]; simp
      rw [e]
      simp
      omega
    have hrA : rowsA ⟨K, (C : Int), true⟩ = (Q : Int) := by
      unfold rowsA
      simp only [if_true, hMl]
      rw [Int.tdiv_eq_ediv_of_nonneg (by omega), ← hQM]
      rfl
    have hcA : colsA ⟨K, (C : Int), true⟩ = (C : Int) := rfl
    have hokA : okA ⟨K, (C : Int), true⟩ := ⟨hKo, by show K.length ≤ 1000000; omega, ⟨by show -9223372036854775808 ≤ (C : Int); omega, by show (C : Int) ≤ 9223372036854775807; omega⟩⟩
    have TB : ∀ w, Calls Tryz.prog 21 #[.int .i64 (C : Int), .slice pa M pc] w (fun e w' => e = .returned (.agg #[.slice pa M pc, .int .i64 (C : Int), .bool true]) ∧ Upd w w' (fun _ => False)) := fun w => lawtable_any w (C : Int) pa M pc
    have AX : ∀ (r c : Int) (got : Vl), -1000 ≤ r → r ≤ 1000 → -1000 ≤ c → c ≤ 1000 → soundV (atV K (Q : Int) (C : Int) r c) = got → ∀ (w : World) (g o q : Nat), w.heap[g]? = some (.cells #[.slice pa M pc, .int .i64 (C : Int), .bool true, .slice (some ⟨o, 0, none⟩) 1 1, .int .i64 0, .bool false, .slice (some ⟨q, 0, none⟩) 1 1, .int .i64 0, .bool false] 67 (0, 0)) → RdV w pa K → RdV w (some ⟨o, 0, none⟩) [cntW r] → RdV w (some ⟨q, 0, none⟩) [cntW c] →
        Calls Tryz.prog 20 #[.string ⟨#[73, 78, 68, 69, 88]⟩, .slice (some ⟨g, 0, none⟩) 3 3] w (fun e w' => e = .returned got.val ∧ Upd w w' (fun _ => False)) := by
      intro r c got hr1 hr2 hc1 hc2 hgot w g o q h r0 r1 r2
      refine ask_of w nINDEX g 67 [(⟨K, (C : Int), true⟩, pa, pc), (oneA (cntW r), some ⟨o, 0, none⟩, 1), (oneA (cntW c), some ⟨q, 0, none⟩, 1)] (by simpa [hMl, oneA] using h) (fun x hx => ?_) (by simp) got ?_
      · simp only [List.mem_cons, List.not_mem_nil, or_false] at hx
        rcases hx with rfl | rfl | rfl
        · exact ⟨r0, hokA⟩
        · exact ⟨r1, okA_one ⟨cnt_ok (by omega) (by omega), by simp [cntW]⟩⟩
        · exact ⟨r2, okA_one ⟨cnt_ok (by omega) (by omega), by simp [cntW]⟩⟩
      · have e := call_index (t := ⟨K, (C : Int), true⟩) hgA (r := r) (c := c) (by omega) (by omega) (by omega) (by omega)
        rw [hrA, hcA, hgot] at e
        exact e
    have HPL := hide PL
    have HAX := hide AX
    have HK := hide hN
    have hbX := HA3.out
    obtain ⟨x0, x1, x2, x3, x4⟩ := cells5 hbX
    have xl := lt_at hbX
    clear PL AX hgA hrA hcA hokA hN hK hbX
    go_wp2_with fail
    refine Calls.mono (HPL.out _ pa pc HP3.out) ?_
    rintro e w5 ⟨rfl, u5⟩
    have HA5 := hide (u5.get HA3.out id)
    have HU5 := hide (HU3.out.then u5 (fun _ _ => id))
    have HP5 := hide (HP3.out.upd u5)
    clear u5 HPL x0 x1 x2 x3 x4 xl HA3 HP3
    go_wp2_with fail
    go_loopg [54] M (fun q iv wr => ∃ j : Nat, j + q = M ∧ iv = .int .i64 j ∧ Upd w5 wr (fun _ => False))
    case atStart => exact ⟨0, by omega, rfl, Upd.refl _ _⟩
    case round =>
      obtain ⟨j, hj, rfl, hu⟩ := hrel
      have HUR := hide hu
      clear hu
      by_cases hjN : j < M
      · obtain ⟨y, hy⟩ : ∃ y, K[j]? = some y := ⟨_, List.getElem?_eq_getElem (by omega)⟩
        have hyo := hKo y (List.mem_of_getElem? hy)
        have PS := place_spec (x := ⟨xk, xn, xt, xb, xf⟩) hy
        rw [HK.out] at PS
        have hj0 : (0 : Int) ≤ (j : Int) := by omega
        have hj1 : (j : Int) < (M : Int) := by omega
        obtain ⟨g, off, rfl, hg, d0, d1, d2, d3, d4⟩ := rdV_at (HP5.out.upd HUR.out) hy
        have hbX := HUR.out.get HA5.out id
        obtain ⟨x0, x1, x2, x3, x4⟩ := cells5 hbX
        have xl := lt_at hbX
        have OX := fun w => Order_any w y ⟨xk, xn, xt, xb, xf⟩ hyo.1 HXO.out.1 hyo.2 HXO.out.2
        have hfe : fitV 0 ⟨xk, xn, xt, xb, xf⟩ y = (decide (y.k = xk) && (decide ((orderV y ⟨xk, xn, xt, xb, xf⟩).2 = 0) && decide ((orderV y ⟨xk, xn, xt, xb, xf⟩).1 = 0))) := fit0
        obtain ⟨⟨o, ef⟩, ho⟩ : ∃ p, orderV y ⟨xk, xn, xt, xb, xf⟩ = p := ⟨_, rfl⟩
        rw [ho] at OX hfe
        obtain ⟨q, hq⟩ : ∃ q, fitV 0 ⟨xk, xn, xt, xb, xf⟩ y = q := ⟨_, rfl⟩
        rw [hq] at PS hfe
        have HY := hide hy
        have HYO := hide hyo
        obtain ⟨Y, hY⟩ : ∃ Y, Y = y := ⟨_, rfl⟩
        rw [← hY] at HY HYO
        have HYE := hide hY
        obtain ⟨yk, yn, yt, yb, yf⟩ := y
        unfold Vl.val at OX
        simp only at OX hfe d0 d1 d2 d3 d4
        have HFE := hide hfe
        have HPS := hide PS
        clear hy hyo PS ho hfe hq hY hbX
        go_wp2_with fail
        refine Calls.mono (OX _) ?_
        rintro e w6 ⟨rfl, u6⟩
        obtain ⟨G, hG⟩ : ∃ g, wr.heap.size = g := ⟨_, rfl⟩
        have hbV := u6.get (Vnew1 wr (.cells #[.int .i64 yk, .int .i64 yn, enS yt, .bool yb, .int .i64 yf] 29)) id
        rw [hG] at hbV
        have HBV := hide hbV
        have HGE := hide hG
        have hbX := u6.get (block_alloc (HUR.out.get HA5.out id) (.cells #[.int .i64 yk, .int .i64 yn, enS yt, .bool yb, .int .i64 yf] 29)) id
        have HU6 := hide ((HUR.out.alloc (.cells #[.int .i64 yk, .int .i64 yn, enS yt, .bool yb, .int .i64 yf] 29)).then u6 (fun _ _ => id))
        clear x0 x1 x2 x3 x4 xl d0 d1 d2 d3 d4 u6 OX hG
        obtain ⟨x0, x1, x2, x3, x4⟩ := cells5 hbX
        have xl := lt_at hbX
        obtain ⟨y0, y1, y2, y3, y4⟩ := cells5 hbV
        have yl := lt_at hbV
        clear hbV hbX
        go_upto_region 12 with fail
        rw [HGE.out]
        go_cut [17] (fun s wx => s = .bool q ∧ wx = w6)
        case first =>
          have hc3 : (yk == xk) = false ∧ q = false ∨ (yk == xk) = true ∧ (ef == 0) = false ∧ q = false ∨ (yk == xk) = true ∧ (ef == 0) = true ∧ (o == 0) = q := by
            have := HFE.out
            by_cases e1 : yk = xk
            · by_cases e2 : ef = 0
              · right; right; refine ⟨by simpa using e1, by simpa using e2, ?_⟩
                rw [this]; simp [e1, e2]; exact beq0 _
              · right; left; exact ⟨by simpa using e1, by simpa using e2, by rw [this]; simp [e2]⟩
            · left; exact ⟨by simpa using e1, by rw [this]; simp [e1]⟩
          rcases hc3 with ⟨e1, rfl⟩ | ⟨e1, e2, rfl⟩ | ⟨e1, e2, e3⟩
          all_goals go_wp2_with fail
          all_goals go_meet
          all_goals exact ⟨rfl, rfl⟩
        case rest =>
          obtain ⟨rfl, rfl⟩ := hcut
          go_upto_region 13 with fail
          go_cut [105] (fun s wx => s = .bool false ∧ wx = wc)
          case first =>
            have hc4 : (((N : Int) == 0) = true ∧ ¬ (0 : Int) < (N : Int) ∧ q = false) ∨ (((N : Int) == 0) = false ∧ (0 : Int) < (N : Int) ∧ (j : Int) + 1 < (N : Int) ∧ q = false) ∨ (((N : Int) == 0) = false ∧ (0 : Int) < (N : Int) ∧ ¬ (j : Int) + 1 < (N : Int) ∧ ((j : Int) + 1 == (N : Int)) = true ∧ q = true) ∨ (((N : Int) == 0) = false ∧ (0 : Int) < (N : Int) ∧ ¬ (j : Int) + 1 < (N : Int) ∧ ((j : Int) + 1 == (N : Int)) = false) := by
              rcases HPS.out with ⟨h1, h2⟩ | ⟨h1, h2, h3⟩ | ⟨h1, h2, h3⟩ | ⟨h1, h2⟩
              · exact .inl ⟨by simp; omega, by omega, h2⟩
              · exact .inr (.inl ⟨by simp; omega, by omega, by omega, h3⟩)
              · exact .inr (.inr (.inl ⟨by simp; omega, by omega, by omega, by simp; omega, h3⟩))
              · exact .inr (.inr (.inr ⟨by simp; omega, by omega, by omega, by simp; omega⟩))
            rcases hc4 with ⟨e1, e2, rfl⟩ | ⟨e1, e2, e3, rfl⟩ | ⟨e1, e2, e3, e4, rfl⟩ | ⟨e1, e2, e3, e4⟩
            all_goals go_wp2_with fail
            all_goals go_meet
            all_goals exact ⟨rfl, rfl⟩
          case rest =>
            obtain ⟨rfl, rfl⟩ := hcut
            obtain ⟨Iq, hIq⟩ : ∃ I : Nat, j / C = I := ⟨_, rfl⟩
            obtain ⟨Ir, hIr⟩ : ∃ I : Nat, j % C = I := ⟨_, rfl⟩
            have dq : (j : Int) / (C : Int) = (Iq : Int) := by rw [← hIq]; rfl
            have dr : (j : Int) % (C : Int) = (Ir : Int) := by rw [← hIr]; rfl
            have tq : (j : Int).tdiv (C : Int) = (Iq : Int) := by rw [Int.tdiv_eq_ediv_of_nonneg (by omega), ← hIq]; rfl
            have tr : (j : Int).tmod (C : Int) = (Ir : Int) := by rw [Int.tmod_eq_emod_of_nonneg (by omega), ← hIr]; rfl
            have hIqb : Iq ≤ 40 := by rw [← hIq]; exact Nat.le_trans (Nat.div_le_self _ _) (by omega)
            have hIrb : Ir ≤ 3 := by have := Nat.mod_lt j (show C > 0 by omega); omega
            obtain ⟨R, hR⟩ : ∃ R : Int, 1 + (Iq : Int) = R := ⟨_, rfl⟩
            obtain ⟨Z, hZ⟩ : ∃ Z : Int, 1 + (Ir : Int) = Z := ⟨_, rfl⟩
            have hWR : IntKind.i64.wrap (1 + (Iq : Int)) = R := by rw [hR]; exact IntWalk.i64_in _ (by omega)
            have hWZ : IntKind.i64.wrap (1 + (Ir : Int)) = Z := by rw [hZ]; exact IntWalk.i64_in _ (by omega)
            obtain ⟨NR, hNR⟩ : ∃ n : Int, R * 10000 = n := ⟨_, rfl⟩
            obtain ⟨NZ, hNZ⟩ : ∃ n : Int, Z * 10000 = n := ⟨_, rfl⟩
            have wq : IntKind.i64.wrap ((j : Int).tdiv (C : Int)) = (Iq : Int) := by rw [tq]; exact IntWalk.i64_in _ (by omega)
            have hCn : ¬ C = 0 := by omega
            have wI : IntKind.i64.wrap (Iq : Int) = (Iq : Int) := IntWalk.i64_in _ (by omega)
            have wJ : IntKind.i64.wrap (Ir : Int) = (Ir : Int) := IntWalk.i64_in _ (by omega)
            have CR := lawn_of hNR (by omega) (by omega)
            have CZ := lawn_of hNZ (by omega) (by omega)
            have OR := one_of hNR
            have OZ := one_of hNZ
            obtain ⟨⟨sk, sn, st, sb, sf⟩, hgot⟩ : ∃ g, soundV ⟨yk, yn, yt, yb, yf⟩ = g := ⟨_, rfl⟩
            have hat : atV K (Q : Int) (C : Int) R Z = ⟨yk, yn, yt, yb, yf⟩ := by
              have k := at_div (l := K) (c := C) (i := j) (by omega) (by rw [hMl, hQM, hM]) HY.out
              rw [hMl, hQM, hIq, hIr, hR, hZ] at k
              rw [k]; exact HYE.out
            have AR := HAX.out R Z ⟨sk, sn, st, sb, sf⟩ (by omega) (by omega) (by omega) (by omega) (by rw [hat]; exact hgot)
            unfold Vl.val at AR
            simp only at AR
            have HGOT := hide hgot
            have HPW := hide ((HP5.out.upd HUR.out).upd ((Upd.alloc (Upd.refl wr (fun _ => False)) (.cells #[.int .i64 yk, .int .i64 yn, enS yt, .bool yb, .int .i64 yf] 29))))
            have HPC := hide (HP5.out.upd HU6.out)
            have HYG := hide hgot
            clear hR hZ hat hgot tq HPW HAX HPS HFE
            go_upto_region 15 with fail
            go_cut [18] (fun s wx => ∃ h, s = .pointer (some ⟨h, 0, none⟩) ∧ wx.heap[h]? = some (.cells #[.int .i64 sk, .int .i64 sn, enS st, .bool sb, .int .i64 sf] 29 (0, 0)) ∧ Upd wc wx (fun _ => False))
            case first =>
              clear x0 x1 x2 x3 x4 xl y0 y1 y2 y3 y4 yl
              rename_i J0 K0 hJ hK
              have UT := (Upd.refl wc (fun _ => False)).drew
              go_region_law (go_simp; first | (go_at_call 21; with_reducible refine Calls.mono (TB _) ?_; rintro e w7 ⟨rfl, uTB⟩; (first | with_reducible (first | (replace UT := Upd.then UT uTB (fun _ _ => id); (try replace bT := uTB.get bT id)) | (have hsz := UT.size; replace UT := Upd.then (Upd.alloc UT _) uTB (fun _ _ => id); have bT := uTB.get (Vnew1 _ _) id)) | (have hsz := Nat.le_refl wc.heap.size; replace UT := Upd.then (upd_drew wc _) uTB (fun _ _ => id); have bT := uTB.get (new_drew wc _) id))) | (go_at_call 23; with_reducible refine Calls.mono (CR _) ?_; rintro e w8 ⟨rfl, uNR⟩; with_reducible (first | (replace UT := Upd.then UT uNR (fun _ _ => id); (try replace bT := uNR.get bT id)) | (have hsz := UT.size; replace UT := Upd.then (Upd.alloc UT _) uNR (fun _ _ => id); have bT := uNR.get (Vnew1 _ _) id))) | (go_at_call 22; with_reducible refine Calls.mono (OR _) ?_; rintro e w9 ⟨o1, rfl, r1, uO1⟩; with_reducible (first | (replace UT := Upd.then UT uO1 (fun _ _ => id); (try replace bT := uO1.get bT id)) | (have hsz := UT.size; replace UT := Upd.then (Upd.alloc UT _) uO1 (fun _ _ => id); have bT := uO1.get (Vnew1 _ _) id))) | (go_at_call 23; with_reducible refine Calls.mono (CZ _) ?_; rintro e w10 ⟨rfl, uNZ⟩; with_reducible (first | (replace UT := Upd.then UT uNZ (fun _ _ => id); (try replace bT := uNZ.get bT id); replace r1 := r1.upd uNZ) | (have hsz := UT.size; replace UT := Upd.then (Upd.alloc UT _) uNZ (fun _ _ => id); have bT := uNZ.get (Vnew1 _ _) id; replace r1 := (r1.upd ((Upd.refl _ (fun _ => False)).alloc _)).upd uNZ))) | (go_at_call 22; with_reducible refine Calls.mono (OZ _) ?_; rintro e w11 ⟨o2, rfl, r2, uO2⟩; with_reducible (first | (replace UT := Upd.then UT uO2 (fun _ _ => id); (try replace bT := uO2.get bT id); replace r1 := r1.upd uO2) | (have hsz := UT.size; replace UT := Upd.then (Upd.alloc UT _) uO2 (fun _ _ => id); have bT := uO2.get (Vnew1 _ _) id; replace r1 := (r1.upd ((Upd.refl _ (fun _ => False)).alloc _)).upd uO2))) | (go_at_call 20; with_reducible refine Calls.mono (AR _ _ o1 o2 (Vnew1 _ _) (HPC.out.upd (Upd.alloc UT _)) (r1.upd ((Upd.refl _ (fun _ => False)).alloc _)) (r2.upd ((Upd.refl _ (fun _ => False)).alloc _))) ?_; rintro e w12 ⟨rfl, uA⟩; (try (replace bT := uA.get (block_alloc bT _) id; obtain ⟨c0, c1, c2, c3, c4⟩ := cells5 bT; have cl := lt_at bT; have f0 := free_at bT 0; have f1 := free_at bT 1; have f2 := free_at bT 2; have f3 := free_at bT 3; have f4 := free_at bT 4)); replace UT := Upd.then (Upd.alloc UT _) uA (fun _ _ => id)) | (go_at_call 20; with_reducible refine Calls.mono (AR _ _ o1 o2 (Vnew2 _ _ _) (HPC.out.upd (Upd.alloc (Upd.alloc UT _) _)) (r1.upd (((Upd.refl _ (fun _ => False)).alloc _).alloc _)) (r2.upd (((Upd.refl _ (fun _ => False)).alloc _).alloc _))) ?_; rintro e w12 ⟨rfl, uA⟩; have hsz := UT.size; have bT := uA.get (block_alloc (Vnew1 _ _) _) id; obtain ⟨c0, c1, c2, c3, c4⟩ := cells5 bT; have cl := lt_at bT; have f0 := free_at bT 0; have f1 := free_at bT 1; have f2 := free_at bT 2; have f3 := free_at bT 3; have f4 := free_at bT 4; replace UT := Upd.then (Upd.alloc (Upd.alloc UT _) _) uA (fun _ _ => id)) | (go_at_call 20; with_reducible refine Calls.mono (AR _ _ o1 o2 (block_alloc (Vnew1 _ _) _) (HPC.out.upd (Upd.alloc (Upd.alloc UT _) _)) (r1.upd (((Upd.refl _ (fun _ => False)).alloc _).alloc _)) (r2.upd (((Upd.refl _ (fun _ => False)).alloc _).alloc _))) ?_; rintro e w12 ⟨rfl, uA⟩; have hsz := UT.size; have bT := uA.get (Vnew2 _ _ _) id; obtain ⟨c0, c1, c2, c3, c4⟩ := cells5 bT; have cl := lt_at bT; have f0 := free_at bT 0; have f1 := free_at bT 1; have f2 := free_at bT 2; have f3 := free_at bT 3; have f4 := free_at bT 4; replace UT := Upd.then (Upd.alloc (Upd.alloc UT _) _) uA (fun _ _ => id)))
              all_goals clear CR CZ OR OZ AR TB
              all_goals (refine hK _ _ (Met.intro (hJ _ _ ?_)); (repeat apply Exists.intro); refine ⟨?_, rfl⟩)
              all_goals first
                | with_reducible exact ⟨_, rfl, Vnew1 _ _, Upd.alloc UT _⟩
                | (have b5 := block5 (x := ⟨0, 0, [], false, 0⟩) bT; with_reducible exact ⟨_, rfl, b5 _ _ _ _ _, upd5 UT (by omega) _ _ _ _ _⟩)
            case rest =>
              obtain ⟨h, hs, hbZ, hux⟩ := hcut
              subst hs
              have hbV := hux.get HBV.out id
              have HUX := hide (HU6.out.then hux (fun _ _ => id))
              clear x0 x1 x2 x3 x4 xl y0 y1 y2 y3 y4 yl hux
              obtain ⟨y0, y1, y2, y3, y4⟩ := cells5 hbV
              have yl := lt_at hbV
              obtain ⟨z0, z1, z2, z3, z4⟩ := cells5 hbZ
              have zl := lt_at hbZ
              clear hbV hbZ
              have hyo := HYO.out
              rw [HYE.out] at hyo
              have hgo : (Vl.mk sk sn st sb sf).ok := by rw [← HYG.out]; exact soundV_ok hyo.1
              obtain ⟨E3, hE3⟩ : ∃ v, mkE 3 = v := ⟨_, rfl⟩
              have EA := fun w => E_any w 3
              have GA := fun w => Good_any w ⟨yk, yn, yt, yb, yf⟩ hyo.1
              go_upto_region 16 with fail
              go_cut [134] (fun s wy => s = .bool false ∧ Upd wc wy (fun _ => False))
              case first =>
                rename_i J0 K0 hJ hK
                clear HPC
                have e1 := HYG.out
                obtain ⟨q1, hq1⟩ : ∃ q, eqV ⟨sk, sn, st, sb, sf⟩ ⟨yk, yn, yt, yb, yf⟩ = q := ⟨_, rfl⟩
                have NE := neq_at ⟨sk, sn, st, sb, sf⟩ ⟨yk, yn, yt, yb, yf⟩ hgo hyo.1 (q := q1) hq1
                cases q1 with
                | true =>
                  simp only [Bool.not_true] at NE
                  clear e1 hq1
                  clear GA EA
                  go_quiet (fail)
                  refine hK _ _ (Met.intro (hJ _ _ ?_))
                  (repeat apply Exists.intro)
                  refine ⟨?_, rfl⟩
                  exact ⟨rfl, (Upd.refl wc _).drewN _⟩
                | false =>
                  have hg : goodV ⟨yk, yn, yt, yb, yf⟩ = false := by
                    cases h9 : goodV ⟨yk, yn, yt, yb, yf⟩ with
                    | false => rfl
                    | true =>
                      rw [sound_good h9] at e1
                      rw [e1, eqV_iff.2 rfl] at hq1
                      cases hq1
                  rw [sound_bad hg] at e1
                  have NE2 := neq_at ⟨sk, sn, st, sb, sf⟩ ⟨sk, sn, st, sb, sf⟩ hgo hgo (q := true) (eqV_iff.2 rfl)
                  simp only [Bool.not_true, Bool.not_false] at NE NE2
                  rw [e1] at EA
                  rw [hg] at GA
                  unfold Vl.val at EA GA
                  simp only at EA GA
                  clear e1 hq1 hg hE3
                  go_region_held3 (fun w' => w'.cell? ⟨h, 0, none⟩ = some (.int .i64 sk) ∧ w'.cell? ⟨h, 1, none⟩ = some (.int .i64 sn) ∧ w'.cell? ⟨h, 2, none⟩ = some (enS st) ∧ w'.cell? ⟨h, 3, none⟩ = some (.bool sb) ∧ w'.cell? ⟨h, 4, none⟩ = some (.int .i64 sf) ∧ w'.cell? ⟨G, 0, none⟩ = some (.int .i64 yk) ∧ w'.cell? ⟨G, 1, none⟩ = some (.int .i64 yn) ∧ w'.cell? ⟨G, 2, none⟩ = some (enS yt) ∧ w'.cell? ⟨G, 3, none⟩ = some (.bool yb) ∧ w'.cell? ⟨G, 4, none⟩ = some (.int .i64 yf) ∧ Upd wc w' (fun _ => False))
                    (first | (go_keep; done) | exact ⟨z0, z1, z2, z3, z4, y0, y1, y2, y3, y4, (Upd.refl wc _).drew⟩ | (have hz : Upd wc _ (fun _ => False) := Upd.then (And.right (And.right (And.right (And.right (And.right (And.right (And.right (And.right (And.right (And.right (by assumption))))))))))) uGA (fun _ _ => id); with_reducible exact ⟨(hz.cell h 0 zl id).trans z0, (hz.cell h 1 zl id).trans z1, (hz.cell h 2 zl id).trans z2, (hz.cell h 3 zl id).trans z3, (hz.cell h 4 zl id).trans z4, (hz.cell G 0 yl id).trans y0, (hz.cell G 1 yl id).trans y1, (hz.cell G 2 yl id).trans y2, (hz.cell G 3 yl id).trans y3, (hz.cell G 4 yl id).trans y4, hz⟩) | (have hz : Upd wc _ (fun _ => False) := Upd.then (And.right (And.right (And.right (And.right (And.right (And.right (And.right (And.right (And.right (And.right (by assumption))))))))))) uEA (fun _ _ => id); with_reducible exact ⟨(hz.cell h 0 zl id).trans z0, (hz.cell h 1 zl id).trans z1, (hz.cell h 2 zl id).trans z2, (hz.cell h 3 zl id).trans z3, (hz.cell h 4 zl id).trans z4, (hz.cell G 0 yl id).trans y0, (hz.cell G 1 yl id).trans y1, (hz.cell G 2 yl id).trans y2, (hz.cell G 3 yl id).trans y3, (hz.cell G 4 yl id).trans y4, hz⟩))
                    (first | (go_at_call 24; with_reducible refine Calls.mono (GA _) ?_; rintro e wz ⟨rfl, uGA⟩) | (go_at_call 25; with_reducible refine Calls.mono (EA _) ?_; rintro e wz ⟨rfl, uEA⟩))
                  all_goals (refine hK _ _ (Met.intro (hJ _ _ ?_)); (repeat apply Exists.intro); refine ⟨?_, rfl⟩)
                  all_goals exact ⟨rfl, And.right (And.right (And.right (And.right (And.right (And.right (And.right (And.right (And.right (And.right (by assumption))))))))))⟩
              case rest =>
                obtain ⟨rfl, huy⟩ := hcut
                go_wp2_with fail
                go_roundg (gk - 1)
                case' measure => omega
                exact ⟨j + 1, by omega, by go_num, HUX.out.then huy (fun _ _ => id)⟩
      · have hj1 : ¬ (j : Int) < (M : Int) := by omega
        have hNMi : (N : Int) ≤ (M : Int) := by omega
        have tM : (M : Int).tdiv (C : Int) = (Q : Int) := by rw [Int.tdiv_eq_ediv_of_nonneg (by omega), ← hQM]; rfl
        have dM : (M : Int) / (C : Int) = (Q : Int) := by rw [← hQM]; rfl
        have wQ : IntKind.i64.wrap (Q : Int) = (Q : Int) := IntWalk.i64_in _ (by omega)
        have hCn : ¬ C = 0 := by omega
        obtain ⟨R, hR⟩ : ∃ R : Int, 1 + (Q : Int) = R := ⟨_, rfl⟩
        have hWR : IntKind.i64.wrap (1 + (Q : Int)) = R := by rw [hR]; exact IntWalk.i64_in _ (by omega)
        obtain ⟨NR, hNR⟩ : ∃ n : Int, R * 10000 = n := ⟨_, rfl⟩
        have CR := lawn_of hNR (by omega) (by omega)
        have OR := one_of hNR
        have C1 := lawn_of (R := 1) (N := 10000) rfl (by omega) (by omega)
        have O1 := one_of (R := 1) (N := 10000) rfl
        have hat : atV K (Q : Int) (C : Int) R 1 = mkE 4 := by
          have k := at_out (l := K) (c := C)
          rw [hMl, hQM, hR] at k
          exact k
        have EA := fun w => E_any w 4
        have h4 := mkE_ok 4
        obtain ⟨⟨sk, sn, st, sb, sf⟩, hev⟩ : ∃ v, mkE 4 = v := ⟨_, rfl⟩
        have AR := HAX.out R 1 ⟨sk, sn, st, sb, sf⟩ (by omega) (by omega) (by omega) (by omega) (by rw [hat, sound_mkE]; exact hev)
        rw [hev] at EA h4
        have EQ := eq_at ⟨sk, sn, st, sb, sf⟩ ⟨sk, sn, st, sb, sf⟩ h4 h4 (q := true) (eqV_iff.2 rfl)
        unfold Vl.val at AR EA
        simp only at AR EA EQ
        have HPC := hide (HP5.out.upd HUR.out)
        have HU7 := hide (HU5.out.then HUR.out (fun _ _ => id))
        clear hat h4 hev hR hNR HAX HA5 HP5 HUR HU5
        go_wp2_with fail
        go_region_held3 (fun w' => Upd wr w' (fun _ => False))
          (first | (go_keep; done) | exact (Upd.refl wr _).drew | (with_reducible exact Upd.then (by assumption) uTB (fun _ _ => id)) | (with_reducible exact Upd.then (by assumption) uCR (fun _ _ => id)) | (with_reducible exact Upd.then (by assumption) uOR (fun _ _ => id)) | (with_reducible exact Upd.then (by assumption) uC1 (fun _ _ => id)) | (with_reducible exact Upd.then (by assumption) uO1 (fun _ _ => id)) | (with_reducible exact Upd.then (by assumption) uAR (fun _ _ => id)) | (with_reducible exact Upd.then (by assumption) uEA (fun _ _ => id)) | exact Upd.alloc (by assumption) _)
          (first | (go_at_call 21; with_reducible refine Calls.mono (TB _) ?_; rintro e wz ⟨rfl, uTB⟩) | (go_at_call 23; with_reducible refine Calls.mono (CR _) ?_; rintro e wz ⟨rfl, uCR⟩) | (go_at_call 22; with_reducible refine Calls.mono (OR _) ?_; rintro e wz ⟨oR, rfl, rR, uOR⟩) | (go_at_call 23; with_reducible refine Calls.mono (C1 _) ?_; rintro e wz ⟨rfl, uC1⟩) | (go_at_call 22; with_reducible refine Calls.mono (O1 _) ?_; rintro e wz ⟨o1, rfl, r1, uO1⟩) | (go_at_call 20; with_reducible refine Calls.mono (AR _ _ oR o1 (Vnew1 _ _) (HPC.out.upd (by assumption)) (((rR.upd uC1).upd uO1).upd ((Upd.refl _ (fun _ => False)).alloc _)) (r1.upd ((Upd.refl _ (fun _ => False)).alloc _))) ?_; rintro e wz ⟨rfl, uAR⟩) | (go_at_call 25; with_reducible refine Calls.mono (EA _) ?_; rintro e wz ⟨rfl, uEA⟩))
        all_goals go_wp2_with fail
        all_goals go_ret
        all_goals exact ⟨rfl, HU7.out.then (by assumption) (fun _ _ => id)⟩
end Go.Proofs.YtdjpkkgcoainhaaGreatDoor
/- Bytes and arrays of bytes and numbers among the arguments, opened. -/
set_option maxRecDepth 100000
namespace Go.Proofs.YtdjpkkgcoainhaaGreatDoor
open Go.ChangeShapes Go.WideShapes Go.ChangeAt Go.RowKit Go.Lat Go.Deep

theorem bounds_u8 {n : Int} (h : (Lit.int .u8 n).wf = true) : 0 ≤ n ∧ n < 256 := by
  have h' : IntKind.u8.min ≤ n ∧ n ≤ IntKind.u8.max := by simpa [Lit.wf] using h
  have e1 : IntKind.u8.min = 0 := by decide
  have e2 : IntKind.u8.max = 255 := by decide
  omega
theorem okWide_array {P : Program} {w : World} {r : Reach} {base : Nat} {t : TypeId} {v : Value} {n : Nat} {e : TypeId} (ht : P.underlying t = some (.array n e)) (h : Value.okWide P w r base t v) : ∃ cs, v = .agg cs ∧ cs.size = P.cellsOf t := by
  simp only [Value.okWide, ht] at h
  obtain ⟨cs, h1, h2, _⟩ := h
  exact ⟨cs, h1, h2⟩
theorem bytes2_open {H : Type} {enc : TypeId × Value → H} {W : World} {r : Reach} {base b : Nat} {sp : Nat → Bool} {held : Bool} {v : Value} {y : DataW H × List MemPlace} (hw : Value.okWide Tryz.prog W r base 73 v) (h : ∃ fuel, DataW.trod enc Tryz.prog W b sp held fuel 73 v.cells.toList = some y) :
    ∃ k k2 : Nat, v = .agg #[.int .u8 (k : Int), .int .u8 (k2 : Int)] ∧ k ≤ 255 ∧ k2 ≤ 255 := by
  obtain ⟨cs, rfl, hsz⟩ := okWide_array Tryz.underlying73 hw
  have h2 : Tryz.prog.cellsOf 73 = 2 := by kernel_rfl
  rw [h2] at hsz
  obtain ⟨fuel, h⟩ := h
  obtain ⟨xs, m', hm', hx', hcl, hxl, hat⟩ := DataW.trod_array Tryz.underlying73 h
  have hC1 : Tryz.prog.cellsOf 5 = 1 := by kernel_rfl
  rw [hC1] at hat
  have h0 := hat 0 (by omega)
  have h1 := hat 1 (by omega)
  obtain ⟨cl⟩ := cs
  match cl, hsz, h0, h1 with
  | [c0, c1], _, h0, h1 =>
    match xs, hxl, h0, h1 with
    | [x0, x1], _, h0, h1 =>
      obtain ⟨n0, e0, _, w0⟩ := DataW.trod_int Tryz.underlying5 h0
      obtain ⟨n1, e1, _, w1⟩ := DataW.trod_int Tryz.underlying5 h1
      simp [Value.cells] at e0 e1
      subst e0 e1
      obtain ⟨b0, b1⟩ := bounds_u8 w0
      obtain ⟨b2, b3⟩ := bounds_u8 w1
      obtain ⟨k, rfl⟩ := Int.eq_ofNat_of_zero_le b0
      obtain ⟨k2, rfl⟩ := Int.eq_ofNat_of_zero_le b2
      exact ⟨k, k2, rfl, by omega, by omega⟩
end Go.Proofs.YtdjpkkgcoainhaaGreatDoor
