/- A table of the rows and columns the other way round, made value by value; looking down it is looking across (plain). -/
import Derived.Test.YtdjpkkgcoainhaaGreatDoorJ27
import Derived.Test.YtdjpkkgcoainhaaGreatDoorJ20
import Derived.Test.YtdjpkkgcoainhaaGreatDoorJ18
/- A table of the rows and columns the other way round, made value by value; looking down it is looking across (plain). -/
set_option maxRecDepth 100000
namespace Go.Proofs.YtdjpkkgcoainhaaGreatDoor
open Go.RowKit Go.Lat Go.Lib

def qA (c R : Nat) (K : List Vl) : Nat → List Vl
  | 0 => List.replicate K.length vZero
  | i + 1 => (qA c R K i).set (i % c * R + i / c) (K.getD i vZero)
theorem qA_len (c R : Nat) (K : List Vl) : ∀ i, (qA c R K i).length = K.length
  | 0 => by simp [qA]
  | i + 1 => by simp [qA, qA_len c R K i]
theorem qA_get {c R : Nat} {K : List Vl} (hc : 0 < c) (hm : R * c = K.length) : ∀ i, i ≤ K.length → ∀ j, j < K.length → (qA c R K i)[j]? = some (if j % R * c + j / R < i then K.getD (j % R * c + j / R) vZero else vZero)
  | 0, _, j, hj => by simp [qA, hj]
  | i + 1, hi, j, hj => by
    have ih := qA_get hc hm i (by omega) j hj
    have hR : 0 < R := by
      rcases Nat.eq_zero_or_pos R with h | h
      · subst h; simp at hm; omega
      · exact h
    have hia : i / c < R := by rw [Nat.div_lt_iff_lt_mul hc]; omega
    have hib := Nat.mod_lt i hc
    have hie := Nat.div_add_mod i c
    have hja := Nat.mod_lt j hR
    have hjb : j / R < c := by rw [Nat.div_lt_iff_lt_mul hR, Nat.mul_comm]; omega
    have hje := Nat.div_add_mod j R
    unfold qA
    rw [List.getElem?_set]
    split
    · rename_i h
      have e1 : j % R = i / c := by
        rw [← h, Nat.add_comm, Nat.add_mul_mod_self_right]
        exact Nat.mod_eq_of_lt hia
      have e2 : j / R = i % c := by
        rw [← h, Nat.add_comm, Nat.add_mul_div_right _ _ hR, Nat.div_eq_of_lt hia]
        omega
      have e3 : j % R * c + j / R = i := by rw [e1, e2, Nat.mul_comm]; exact hie
      rw [if_pos (by rw [qA_len]; omega), if_pos (by omega), e3]
    · rename_i h
      have hne : j % R * c + j / R ≠ i := by
        intro e
        apply h
        have e1 : i / c = j % R := by
          rw [← e, Nat.add_comm, Nat.add_mul_div_right _ _ hc, Nat.div_eq_of_lt hjb]
          omega
        have e2 : i % c = j / R := by
          rw [← e, Nat.add_comm, Nat.add_mul_mod_self_right]
          exact Nat.mod_eq_of_lt hjb
        rw [e1, e2, Nat.mul_comm]
        exact hje
      rw [ih]
      congr 1
      by_cases hlt : j % R * c + j / R < i
      · rw [if_pos hlt, if_pos (by omega)]
      · rw [if_neg hlt, if_neg (by omega)]
theorem qA_all {c R : Nat} {K : List Vl} (hc : 0 < c) (hm : R * c = K.length) : qA c R K K.length = turnL R c K := by
  apply List.ext_getElem?
  intro j
  by_cases hj : j < K.length
  · have hR : 0 < R := by
      rcases Nat.eq_zero_or_pos R with h | h
      · subst h; simp at hm; omega
      · exact h
    have hja := Nat.mod_lt j hR
    have hjb : j / R < c := by rw [Nat.div_lt_iff_lt_mul hR, Nat.mul_comm]; omega
    have hlt : j % R * c + j / R < K.length := by
      have : (j % R + 1) * c ≤ R * c := Nat.mul_le_mul_right _ hja
      rw [Nat.add_mul] at this
      omega
    rw [qA_get hc hm _ (Nat.le_refl _) j hj, if_pos hlt]
    unfold turnL
    rw [List.getElem?_map, List.getElem?_range (by omega)]
    rfl
  · rw [List.getElem?_eq_none (by rw [qA_len]; omega), List.getElem?_eq_none (by rw [turnL_len]; omega)]
theorem vlCells_set5 : ∀ (l : List Vl) (k : Nat) (y : Vl), k < l.length → (((((vlCells l).set (k * 5) (.int .i64 y.k)).set (k * 5 + 1) (.int .i64 y.n)).set (k * 5 + 2) (enS y.t)).set (k * 5 + 3) (.bool y.b)).set (k * 5 + 4) (.int .i64 y.f) = vlCells (l.set k y)
  | [], k, y, h => by simp at h
  | x :: l, 0, y, _ => rfl
  | x :: l, k + 1, y, h => by
    have ih := vlCells_set5 l k y (by simpa using h)
    have e : (k + 1) * 5 = k * 5 + 5 := by omega
    rw [e, List.set_cons_succ]
    show _ = (y.cells.take 0 ++ x.cells) ++ vlCells (l.set k y)
    rw [← ih]
    rfl
theorem block_set5 {w : World} {g : Nat} {T : TypeId} {l : List Vl} {k : Nat} (y : Vl) (hk : k < l.length) (h : w.heap[g]? = some (.cells (vlCells l).toArray T (0, 0))) :
    (((((w.setCell ⟨g, k * 5, none⟩ (.int .i64 y.k)).setCell ⟨g, k * 5 + 1, none⟩ (.int .i64 y.n)).setCell ⟨g, k * 5 + 2, none⟩ (enS y.t)).setCell ⟨g, k * 5 + 3, none⟩ (.bool y.b)).setCell ⟨g, k * 5 + 4, none⟩ (.int .i64 y.f)).heap[g]? = some (.cells (vlCells (l.set k y)).toArray T (0, 0)) := by
  have k5 := block_setCell (block_setCell (block_setCell (block_setCell (block_setCell h (k * 5) (.int .i64 y.k)) (k * 5 + 1) (.int .i64 y.n)) (k * 5 + 2) (enS y.t)) (k * 5 + 3) (.bool y.b)) (k * 5 + 4) (.int .i64 y.f)
  rw [k5, ← vlCells_set5 l k y hk]
  simp
theorem rdV_block {w : World} {g : Nat} {T : TypeId} {l : List Vl} (h : w.heap[g]? = some (.cells (vlCells l).toArray T (0, 0))) : RdV w (some ⟨g, 0, none⟩) l := by
  have hs : ((vlCells l).toArray).size = l.length * 5 := by simpa using vlCells_len l
  refine rdV_of_rw (T := T) (c := l.length) ?_
  refine ⟨vlCells_len l, .inr ⟨g, 0, l.length, (vlCells l).toArray, rfl, h, Nat.le_refl _, by omega, ?_⟩⟩
  simp
  exact List.take_of_length_le (by rw [vlCells_len]; omega)
theorem good_tab {K : List Vl} {c : Nat} (hc : 0 < c) (h1 : 1 ≤ K.length) (h2 : K.length ≤ 4096) (hd : K.length % c = 0) : goodA ⟨K, (c : Int), true⟩ = true := by
  unfold goodA
  simp only [if_true]
  have e : (K.length : Int).tmod (c : Int) = 0 := by rw [Int.tmod_eq_emod_of_nonneg (by omega)]; omega
  rw [e]
  simp
  omega
theorem rows_tab {K : List Vl} {c R : Nat} (hc : 0 < c) (hm : R * c = K.length) : rowsA ⟨K, (c : Int), true⟩ = (R : Int) := by
  unfold rowsA
  simp only [if_true]
  rw [Int.tdiv_eq_ediv_of_nonneg (by omega), ← hm]
  have := Nat.mul_div_cancel R hc
  omega
theorem callP_ok (n : List UInt8) {aa : List Ar} (A : ArgsOk aa) : (callP n aa).1.ok := by
  unfold callP
  split
  · exact vZero_ok
  · split
    · exact mkE_ok 3
    · split
      · exact mkE_ok _
      · exact soundV_ok (toldP_ok n A)
theorem callP_tab (across : Bool) {x u : Ar} (hg : goodA u = true) (hgx : goodA x = true) {k m : Int} (hk1 : -1000000 ≤ k) (hk2 : k ≤ 1000000) (hm1 : -1000000 ≤ m) (hm2 : m ≤ 1000000) : (callP (nVH across) [x, u, oneA (cntW k), oneA (cntW m)]).2 = true := by
  rw [call_vh across hg hgx hk1 hk2 hm1 hm2]
theorem upd5d {a W : World} {S : Nat → Prop} (h : Upd a W S) {g : Nat} (hg : a.heap.size ≤ g) (o0 o1 o2 o3 o4 : Nat) (v0 v1 v2 v3 v4 : Value) :
    Upd a (((((W.setCell ⟨g, o0, none⟩ v0).setCell ⟨g, o1, none⟩ v1).setCell ⟨g, o2, none⟩ v2).setCell ⟨g, o3, none⟩ v3).setCell ⟨g, o4, none⟩ v4).drew S :=
  (((((h.setCell ⟨g, o0, none⟩ v0 (.inl hg)).setCell ⟨g, o1, none⟩ v1 (.inl hg)).setCell ⟨g, o2, none⟩ v2 (.inl hg)).setCell ⟨g, o3, none⟩ v3 (.inl hg)).setCell ⟨g, o4, none⟩ v4 (.inl hg)).drew
/-- Looking down a table is looking across the turned one. -/
theorem call_turn {x : Vl} {K : List Vl} {c R : Nat} (hc : 0 < c) (hR : 0 < R) (hm : R * c = K.length) (h2 : K.length ≤ 4096) {k m : Int} (hk1 : -1000000 ≤ k) (hk2 : k ≤ 1000000) (hm1 : -1000000 ≤ m) (hm2 : m ≤ 1000000) :
    callP nVLOOKUP [oneA x, ⟨K, (c : Int), true⟩, oneA (cntW k), oneA (cntW m)] = callP nHLOOKUP [oneA x, ⟨turnL R c K, (R : Int), true⟩, oneA (cntW k), oneA (cntW m)] := by
  have h1 : 1 ≤ K.length := by rw [← hm]; exact Nat.mul_pos hR hc
  have hl : (turnL R c K).length = K.length := by rw [turnL_len, hm]
  have hmt : c * R = (turnL R c K).length := by rw [hl, Nat.mul_comm]; exact hm
  have g1 : goodA ⟨K, (c : Int), true⟩ = true := good_tab hc h1 h2 (by rw [← hm]; exact Nat.mul_mod_left _ _)
  have g2 : goodA ⟨turnL R c K, (R : Int), true⟩ = true := good_tab hR (by omega) (by omega) (by rw [← hmt]; exact Nat.mul_mod_left _ _)
  have e1 := call_vh false (x := oneA x) (u := ⟨K, (c : Int), true⟩) g1 (good_one x) hk1 hk2 hm1 hm2
  have e2 := call_vh true (x := oneA x) (u := ⟨turnL R c K, (R : Int), true⟩) g2 (good_one x) hk1 hk2 hm1 hm2
  have n1 : nVH false = nVLOOKUP := rfl
  have n2 : nVH true = nHLOOKUP := rfl
  rw [n1] at e1
  rw [n2] at e2
  rw [e1, e2]
  have r1 : rowsA ⟨K, (c : Int), true⟩ = (R : Int) := rows_tab hc hm
  have r2 : rowsA ⟨turnL R c K, (R : Int), true⟩ = (c : Int) := rows_tab hR hmt
  have c1 : colsA ⟨K, (c : Int), true⟩ = (c : Int) := rfl
  have c2 : colsA ⟨turnL R c K, (R : Int), true⟩ = (R : Int) := rfl
  have f1 : firstL false c K = (turnL R c K).take R := first_down hm hc
  have f2 : firstL true R (turnL R c K) = (turnL R c K).take R := first_across (by rw [hl, ← hm]; exact Nat.le_mul_of_pos_right R hc)
  have at1 : ∀ p q : Int, atR ⟨turnL R c K, (R : Int), true⟩ q p = atR ⟨K, (c : Int), true⟩ p q := by
    intro p q
    have a1 := atV_turn (a := ⟨K, (c : Int), true⟩) g1 q p
    have a2 := atV_sound (a := ⟨turnL R c K, (R : Int), true⟩) q p
    rw [r1, c1] at a1
    rw [r2, c2] at a2
    rw [← a1, ← a2]
    rfl
  simp only [r1, r2, c1, c2, Int.toNat_natCast, f1, f2, at1]
  simp only [Bool.false_eq_true, if_false, if_true]
end Go.Proofs.YtdjpkkgcoainhaaGreatDoor
/- The walk of LooksTurned. -/
set_option maxRecDepth 100000
namespace Go.Proofs.YtdjpkkgcoainhaaGreatDoor
open Go.RowKit Go.Lat Go.Lib

theorem made_v : ∀ n, (List.range (n * 5)).map (fun i => zV.cells[i % 5]!) = vlCells (List.replicate n vZero)
  | 0 => rfl
  | n + 1 => by
    have ih := made_v n
    have hm : ∀ k, k < 5 → (n * 5 + k) % 5 = k := by intro k hk; omega
    have e : (n + 1) * 5 = n * 5 + 4 + 1 := by omega
    rw [List.replicate_succ', vlCells_app, ← ih, e]
    simp only [List.range_succ, show n * 5 + 4 = n * 5 + 3 + 1 from rfl, show n * 5 + 3 = n * 5 + 2 + 1 from rfl, show n * 5 + 2 = n * 5 + 1 + 1 from rfl, List.map_append, List.append_assoc, List.map_cons, List.map_nil]
    have h0 := hm 0 (by omega)
    have h1 := hm 1 (by omega)
    have h2 := hm 2 (by omega)
    have h3 := hm 3 (by omega)
    have h4 := hm 4 (by omega)
    simp only [Nat.add_assoc, Nat.add_zero] at h0 h1 h2 h3 h4 ⊢
    rw [h0, h1, h2, h3, h4]
    rfl
theorem mkV2 (n : Nat) (hn : n ≤ 4096) (w : World) : (Instr.makeSlice 33 (.int .i64 (n : Int)) (.int .i64 (n : Int))).run Tryz.prog w = .ok (.slice (some ⟨w.heap.size, 0, none⟩) n n) (w.alloc (.cells (vlCells (List.replicate n vZero)).toArray 29)) := by
  obtain ⟨i0, hi, hz0, hz1, hz2⟩ := info_p Tryz.infoVl
  have h := run_make (P := Tryz.prog) w 33 29 i0 _ Tryz.underlying33 hi hz0 .i64 .i64 (n : Int) (n : Int) (by omega) (by omega) (by rw [hz2]; omega) (by omega)
  simp only [Int.toNat_natCast, hz1] at h
  rw [h]
  have e : madeCells zV.cells (n * 5) = (vlCells (List.replicate n vZero)).toArray := by
    rw [← made_v n]
    unfold madeCells
    have : zV.cells.size = 5 := rfl
    rw [this]
    apply Array.ext'
    simp
  exact congrArg (fun z => Result.ok _ (w.alloc (.cells z 29))) e

set_option maxHeartbeats 12800000 in
theorem LooksTurned_any (w : World) (x : Vl) (hx : okK x) (a : Option Addr) (cap : Nat) (l : List Vl) (hlc : l.length ≤ cap) (hl : ∀ x ∈ l, okK x) (hr : RdV w a l) (k k2 : Nat) (hk : k ≤ 255) (hk2 : k2 ≤ 255) :
    Calls Tryz.prog 7 #[x.val, .slice a l.length cap, .agg #[.int .u8 (k : Int), .int .u8 (k2 : Int)]] w fun e w' => e = .returned (.bool true) ∧ Upd w w' (fun _ => False) := by
  have hxo := cutV_ok hx
  have hlo := cutL_oks hl
  have hll := cutL_len l
  obtain ⟨L, hL⟩ : ∃ L, cutL l = L := ⟨_, rfl⟩
  obtain ⟨xk, xn, xt0, xb, xf⟩ := x
  obtain ⟨xt, hxt⟩ : ∃ t, xt0.take 300 = t := ⟨_, rfl⟩
  have hcv : cutV ⟨xk, xn, xt0, xb, xf⟩ = ⟨xk, xn, xt, xb, xf⟩ := by unfold cutV; rw [hxt]
  rw [hcv] at hxo
  have VA := fun w => lawvals_any w xk xn xt0 xt xb xf hxt
  have LI := fun W h => list12_any W a cap l hlc h
  rw [hL] at LI hlo hll
  have HR := hide hr
  obtain ⟨LL, hLL⟩ : ∃ n, L.length = n := ⟨_, rfl⟩
  rw [hLL] at LI hll
  unfold Vl.val
  simp only
  have HLL := hide hLL
  have HXO := hide hxo
  have HLO := hide hlo
  obtain ⟨C, hC⟩ : ∃ C : Nat, 1 + k % 3 = C := ⟨_, rfl⟩
  have hCi : (1 : Int) + (k : Int) % 3 = (C : Int) := by omega
  have hC1 : 1 ≤ C := by omega
  have hC3 : C ≤ 3 := by omega
  have hc0 : (C : Int) ≠ 0 := by omega
  have hc1 : ((C : Int) == 0) = false := by simpa using hc0
  obtain ⟨Q, hQ⟩ : ∃ Q : Nat, LL / C = Q := ⟨_, rfl⟩
  have hQi : (LL : Int).tdiv (C : Int) = (Q : Int) := by rw [Int.tdiv_eq_ediv_of_nonneg (by omega), ← hQ]; rfl
  obtain ⟨M, hM⟩ : ∃ M : Nat, Q * C = M := ⟨_, rfl⟩
  have hMi : IntKind.i64.wrap ((Q : Int) * (C : Int)) = (M : Int) := by
    have : (Q : Int) * (C : Int) = (M : Int) := by rw [← hM]; simp
    have h2 : M ≤ LL := by rw [← hM, ← hQ]; exact Nat.div_mul_le_self _ _
    rw [this]; exact IntWalk.i64_in _ (by omega)
  have hQ40 : Q ≤ 40 := by rw [← hQ]; exact Nat.le_trans (Nat.div_le_self _ _) hll
  have hML : M ≤ LL := by rw [← hM, ← hQ]; exact Nat.div_mul_le_self _ _
  have hQM : M / C = Q := by rw [← hM]; exact Nat.mul_div_cancel _ (by omega)
  have hMl : (L.take M).length = M := by rw [List.length_take, hLL]; omega
  obtain ⟨i0, hi, hz0, hz1, hz2⟩ := info_p Tryz.infoVl
  have HU0 : Hid (Upd w ((w.alloc (.cells #[.int .i64 xk, .int .i64 xn, enS xt0, .bool xb, .int .i64 xf] 23)).alloc (.cells #[.int .u8 (k : Int), .int .u8 (k2 : Int)] 73)) (fun _ => False)) := hide (((Upd.refl w _).alloc _).alloc _)
  have HKB0 := hide (Vnew2 w (.cells #[.int .i64 xk, .int .i64 xn, enS xt0, .bool xb, .int .i64 xf] 23) (.cells #[.int .u8 (k : Int), .int .u8 (k2 : Int)] 73))
  clear hxt hcv hxo hlo hL hl hr hlc hx hLL hC
  go_enter Tryz.func7, Tryz.ntmps7
  go_wp2_with fail
  refine Calls.mono (VA _) ?_
  rintro e w1 ⟨rfl, u1⟩
  have HA1 := hide (block_alloc (Vnew1 w1 (.cells #[.int .i64 xk, .int .i64 xn, enS xt, .bool xb, .int .i64 xf] 29)) (.cells #[.int .i64 xk, .int .i64 xn, enS xt, .bool xb, .int .i64 xf] 30))
  have HU1 := hide (((HU0.out.then u1 (fun _ _ => id)).alloc (.cells #[.int .i64 xk, .int .i64 xn, enS xt, .bool xb, .int .i64 xf] 29)).alloc (.cells #[.int .i64 xk, .int .i64 xn, enS xt, .bool xb, .int .i64 xf] 30))
  have HKB1 := hide (block_alloc (block_alloc (u1.get HKB0.out id) (.cells #[.int .i64 xk, .int .i64 xn, enS xt, .bool xb, .int .i64 xf] 29)) (.cells #[.int .i64 xk, .int .i64 xn, enS xt, .bool xb, .int .i64 xf] 30))
  clear u1 VA HKB0
  go_wp2_with fail
  refine Calls.mono (LI _ (HR.out.upd HU1.out)) ?_
  rintro e w2 ⟨v1, v2, rfl, r1, r2, o1, o2, u2⟩
  obtain ⟨va, vac, rfl, -⟩ := Rw.form r1
  obtain ⟨pa, pc, hs, hrw, -⟩ := Rw.slice_to (P := Tryz.prog) r1 33 i0 Tryz.underlying33 hi hz1 M hML
  obtain ⟨X, hX⟩ : ∃ g, w1.heap.size = g := ⟨_, rfl⟩
  rw [hX] at HA1
  have HXS := hide hX
  have HA2 := hide (u2.get HA1.out id)
  have HU2 := hide (HU1.out.then u2 (fun _ _ => id))
  have HP2 : Hid (RdV w2 pa (L.take M)) := hide (rdV_of (n := M) hMl (by rw [← vlCells_take]; exact hrw))
  have hMp : (M : Int) ≤ (LL : Int) := by omega
  have bKB := u2.get HKB1.out id
  have HKB2 := hide bKB
  obtain ⟨kc0, kc1⟩ := cells2 bKB
  have kcl := lt_at bKB
  clear bKB HKB1
  clear u2 r1 r2 o1 o2 LI HA1 HU0 hX hrw
  go_upto_region 5 with fail
  rw [HXS.out]
  go_wp2_with fail
  refine Calls.mono (wakes12_any _) ?_
  rintro e w3 ⟨rfl, u3⟩
  have HA3 := hide (HA2.out |> fun h => u3.get h id)
  have HU3 := hide (HU2.out.then u3 (fun _ _ => id))
  have HP3 := hide (HP2.out.upd u3)
  have HKB3 := hide (u3.get HKB2.out id)
  clear u3 HA2 HP2 hs kc0 kc1 kcl HKB2
  by_cases hM0 : M = 0
  · have bM : ((M : Int) == 0) = true := by simp; omega
    go_wp2_with fail
    refine Calls.mono (wakes12_any _) ?_
    rintro e w4 ⟨rfl, u4⟩
    go_wp2_with fail
    go_ret
    exact ⟨rfl, HU3.out.then u4 (fun _ _ => id)⟩
  · have bM : ((M : Int) == 0) = false := by simp; omega
    obtain ⟨K, hK⟩ : ∃ K, L.take M = K := ⟨_, rfl⟩
    rw [hK] at HP3 hMl
    have hKo : oksV K := fun y hy => HLO.out y (List.mem_of_mem_take (hK ▸ hy))
    have HKO := hide hKo
    have HML := hide hMl
    have HM := hide hM
    have hQ0 : 0 < Q := by
      rcases Nat.eq_zero_or_pos Q with h | h
      · rw [h] at hM; simp at hM; omega
      · exact h
    have hMi2 : (M : Int).tdiv (C : Int) = (Q : Int) := by rw [Int.tdiv_eq_ediv_of_nonneg (by omega), ← hQM]; rfl
    have wQ : IntKind.i64.wrap (Q : Int) = (Q : Int) := IntWalk.i64_in _ (by omega)
    have MK := mkV2 M (by omega)
    clear hKo hMl hM hK
    go_upto_region 9 with fail
    have HQB := hide (Vnew1 w3 (.cells (vlCells (List.replicate M vZero)).toArray 29))
    have HU4 : Hid (Upd w3 (w3.alloc (.cells (vlCells (List.replicate M vZero)).toArray 29)) (fun _ => False)) := hide ((Upd.refl w3 _).alloc _)
    obtain ⟨W4, hW4⟩ : ∃ W, w3.alloc (.cells (vlCells (List.replicate M vZero)).toArray 29) = W := ⟨_, rfl⟩
    obtain ⟨QG, hQG⟩ : ∃ g, w3.heap.size = g := ⟨_, rfl⟩
    have HQG := hide (Nat.le_of_eq hQG)
    rw [hW4, hQG] at HQB
    rw [hW4] at HU4
    rw [hW4, hQG]
    clear hW4 hQG MK
    go_wp2_with fail
    go_loopg [57] M (fun q iv wr => ∃ i : Nat, i + q = M ∧ iv = .int .i64 i ∧ wr.heap[QG]? = some (.cells (vlCells (qA C Q K i)).toArray 29 (0, 0)) ∧ Upd w3 wr (fun _ => False))
    case atStart => exact ⟨0, by omega, rfl, by rw [show qA C Q K 0 = List.replicate M vZero from by unfold qA; rw [HML.out]]; exact HQB.out, HU4.out⟩
    case round =>
      obtain ⟨i, hj, rfl, hqb, hu⟩ := hrel
      have HUR := hide hu
      have HQR := hide hqb
      clear hu hqb
      by_cases hjN : i < M
      · obtain ⟨y, hy⟩ : ∃ y, K[i]? = some y := ⟨_, List.getElem?_eq_getElem (by rw [HML.out]; exact hjN)⟩
        have hj0 : (0 : Int) ≤ (i : Int) := by omega
        have hj1 : (i : Int) < (M : Int) := by omega
        obtain ⟨g, off, rfl, hg, d0, d1, d2, d3, d4⟩ := rdV_at (HP3.out.upd HUR.out) hy
        have ey : K.getD i vZero = y := by rw [List.getD_eq_getElem?_getD, hy]; rfl
        obtain ⟨Iq, hIq⟩ : ∃ I : Nat, i / C = I := ⟨_, rfl⟩
        obtain ⟨Ir, hIr⟩ : ∃ I : Nat, i % C = I := ⟨_, rfl⟩
        have hIqb : Iq < Q := by rw [← hIq, Nat.div_lt_iff_lt_mul (by omega), HM.out]; exact hjN
        have hIrb : Ir < C := by rw [← hIr]; exact Nat.mod_lt i (by omega)
        obtain ⟨IQ, hIQ⟩ : ∃ I : Nat, Ir * Q = I := ⟨_, rfl⟩
        obtain ⟨J, hJ⟩ : ∃ I : Nat, IQ + Iq = I := ⟨_, rfl⟩
        have hJM : J < M := by
          have : (Ir + 1) * Q ≤ C * Q := Nat.mul_le_mul_right _ hIrb
          rw [Nat.add_mul, hIQ, Nat.mul_comm C Q, HM.out] at this
          omega
        have eq : qA C Q K (i + 1) = (qA C Q K i).set J y := by
          show (qA C Q K i).set (i % C * Q + i / C) (K.getD i vZero) = _
          rw [hIq, hIr, hIQ, hJ, ey]
        have dq : (i : Int) / (C : Int) = (Iq : Int) := by rw [← hIq]; rfl
        have tq : (i : Int).tdiv (C : Int) = (Iq : Int) := by rw [Int.tdiv_eq_ediv_of_nonneg (by omega), ← hIq]; rfl
        have tr : (i : Int).tmod (C : Int) = (Ir : Int) := by rw [Int.tmod_eq_emod_of_nonneg (by omega), ← hIr]; rfl
        have wq : IntKind.i64.wrap ((i : Int).tdiv (C : Int)) = (Iq : Int) := by rw [tq]; exact IntWalk.i64_in _ (by omega)
        have hCn : ¬ C = 0 := by omega
        have wI : IntKind.i64.wrap (Iq : Int) = (Iq : Int) := IntWalk.i64_in _ (by omega)
        have wJ : IntKind.i64.wrap (Ir : Int) = (Ir : Int) := IntWalk.i64_in _ (by omega)
        have hIQi : (Ir : Int) * (Q : Int) = (IQ : Int) := by rw [← hIQ]; simp
        have wM1 : IntKind.i64.wrap ((Ir : Int) * (Q : Int)) = (IQ : Int) := by rw [hIQi]; exact IntWalk.i64_in _ (by omega)
        have wM2 : IntKind.i64.wrap ((IQ : Int) + (Iq : Int)) = (J : Int) := by
          have : (IQ : Int) + (Iq : Int) = (J : Int) := by omega
          rw [this]; exact IntWalk.i64_in _ (by omega)
        have hJ0 : (0 : Int) ≤ (J : Int) := by omega
        have hJ1 : (J : Int) < (M : Int) := by omega
        have bY := Vnew1 wr (.cells #[.int .i64 y.k, .int .i64 y.n, enS y.t, .bool y.b, .int .i64 y.f] 29)
        have bQ := block_alloc HQR.out (.cells #[.int .i64 y.k, .int .i64 y.n, enS y.t, .bool y.b, .int .i64 y.f] 29)
        have HEQ := hide eq
        have HBQ := hide bQ
        have HUA : Hid (Upd w3 (wr.alloc (.cells #[.int .i64 y.k, .int .i64 y.n, enS y.t, .bool y.b, .int .i64 y.f] 29)) (fun _ => False)) := hide (HUR.out.alloc _)
        have hql := lt_at bQ
        have hqf : ∀ t, (wr.alloc (.cells #[.int .i64 y.k, .int .i64 y.n, enS y.t, .bool y.b, .int .i64 y.f] 29)).frozen? ⟨QG, t, none⟩ = false := fun t => free_at bQ t
        obtain ⟨z, hz⟩ : ∃ z, (qA C Q K i)[J]? = some z := ⟨_, List.getElem?_eq_getElem (by rw [qA_len, HML.out]; exact hJM)⟩
        obtain ⟨g', off', e', -, q0, q1, q2, q3, q4⟩ := rdV_at (rdV_block bQ) hz
        simp only [Option.some.injEq, Addr.mk.injEq, and_true] at e'
        obtain ⟨rfl, rfl⟩ := e'
        simp only [Nat.zero_add] at q0 q1 q2 q3 q4
        clear bQ hz ey hIq hIr hIQ hJ eq hIQi tq hy
        go_upto_region 12 with fail
        obtain ⟨W5, hW5⟩ : ∃ W, wr.alloc (.cells #[.int .i64 y.k, .int .i64 y.n, enS y.t, .bool y.b, .int .i64 y.f] 29) = W := ⟨_, rfl⟩
        obtain ⟨YG, hYG⟩ : ∃ g, wr.heap.size = g := ⟨_, rfl⟩
        rw [hW5] at HBQ HUA hql hqf bY q0 q1 q2 q3 q4
        rw [hYG] at bY
        rw [hW5, hYG]
        obtain ⟨y0, y1, y2, y3, y4⟩ := cells5 bY
        have yl := lt_at bY
        clear hW5 hYG bY d0 d1 d2 d3 d4
        go_region
        all_goals go_wp2_with fail
        go_roundg (gk - 1)
        case measure => omega
        case rel => exact ⟨i + 1, by omega, by go_num, by rw [HEQ.out]; exact block_set5 y (by rw [qA_len, HML.out]; exact hJM) HBQ.out, upd5d HUA.out HQG.out _ _ _ _ _ _ _ _ _ _⟩
      · have hiM : i = M := by omega
        subst hiM
        have eT : qA C Q K i = turnL Q C K := by
          have h := qA_all (c := C) (R := Q) (K := K) (by omega) (by rw [HM.out, HML.out])
          rw [HML.out] at h
          exact h
        have hb := HQR.out
        rw [eT] at hb
        have HPH0 := hide (rdV_block hb)
        have hTl : (turnL Q C K).length = i := by rw [turnL_len]; exact HM.out
        have HTL := hide hTl
        obtain ⟨W6, hW6⟩ : ∃ W, W = wr := ⟨_, rfl⟩
        subst hW6
        have hTo : oksV (turnL Q C K) := fun y hy => by
          unfold turnL at hy
          rw [List.mem_map] at hy
          obtain ⟨j, hj, rfl⟩ := hy
          rw [List.getD_eq_getElem?_getD]
          cases hq : K[j % Q * C + j / Q]? with
          | none => exact ⟨vZero_ok, by decide⟩
          | some y => exact HKO.out y (List.mem_of_getElem? hq)
        have HTO := hide hTo
        obtain ⟨TL, hTT⟩ : ∃ T, turnL Q C K = T := ⟨_, rfl⟩
        rw [hTT] at HPH0 HTL HTO
        have HTT := hide hTT
        have g1 : goodA ⟨K, (C : Int), true⟩ = true := good_tab (by omega) (by rw [HML.out]; omega) (by rw [HML.out]; omega) (by rw [HML.out, ← HM.out]; exact Nat.mul_mod_left _ _)
        have g2 : goodA ⟨TL, (Q : Int), true⟩ = true := good_tab hQ0 (by rw [HTL.out]; omega) (by rw [HTL.out]; omega) (by rw [HTL.out, ← HM.out]; exact Nat.mul_mod_right _ _)
        have G1 := hide g1
        have G2 := hide g2
        have O1 : Hid (okA ⟨K, (C : Int), true⟩) := hide ⟨HKO.out, by show K.length ≤ 1000000; rw [HML.out]; omega, ⟨by show -9223372036854775808 ≤ (C : Int); omega, by show (C : Int) ≤ 9223372036854775807; omega⟩⟩
        have O2 : Hid (okA ⟨TL, (Q : Int), true⟩) := hide ⟨HTO.out, by show TL.length ≤ 1000000; rw [HTL.out]; omega, ⟨by show -9223372036854775808 ≤ (Q : Int); omega, by show (Q : Int) ≤ 9223372036854775807; omega⟩⟩
        have HU6 := HUR
        have hnot : ¬ (i : Int) < (i : Int) := by omega
        clear hb eT hTl hTo hTT g1 g2 HQR HUR
        clear hjN
        obtain ⟨KK, hKK⟩ : ∃ z : Int, (k2 : Int) % 5 = z := ⟨_, rfl⟩
        have hK1 : 0 ≤ KK := by omega
        have hK2 : KK < 5 := by omega
        obtain ⟨NK, hNK⟩ : ∃ n : Int, KK * 10000 = n := ⟨_, rfl⟩
        have NKc := lawn_of hNK (by omega) (by omega)
        have OKc := one_of hNK
        have NKd := NKc
        have eK : IntKind.i64.wrap ((k2 : Int).tmod 5) = KK := by rw [Int.tmod_eq_emod_of_nonneg (by omega), hKK]; exact IntWalk.i64_in _ (by omega)
        rw [← eK] at NKd
        clear eK
        have OX := fun w => One_any w ⟨xk, xn, xt, xb, xf⟩
        unfold Vl.val at OX
        simp only at OX
        have TV : ∀ w, Calls Tryz.prog 21 #[.int .i64 (C : Int), .slice pa i pc] w (fun e w' => e = .returned (.agg #[.slice pa i pc, .int .i64 (C : Int), .bool true]) ∧ Upd w w' (fun _ => False)) := fun w => lawtable_any w (C : Int) pa i pc
        have TH : ∀ w, Calls Tryz.prog 21 #[.int .i64 (Q : Int), .slice (some ⟨QG, 0, none⟩) i i] w (fun e w' => e = .returned (.agg #[.slice (some ⟨QG, 0, none⟩) i i, .int .i64 (Q : Int), .bool true]) ∧ Upd w w' (fun _ => False)) := fun w => lawtable_any w (Q : Int) _ i i
        have HPV6 := hide (HP3.out.upd HU6.out)
        go_wp2_with fail
        go_loopg [16] 3 (fun q iv w7 => ∃ m : Int, m + (q : Int) = 2 ∧ iv = .int .i64 m ∧ -1 ≤ m ∧ Upd W6 w7 (fun _ => False))
        case atStart => exact ⟨-1, by omega, rfl, by omega, Upd.refl _ _⟩
        case round =>
          obtain ⟨m, hm, rfl, hm1, hu7⟩ := hrel
          have HU7 := hide (HU6.out.then hu7 (fun _ _ => id))
          have HPV := hide (HPV6.out.upd hu7)
          have HPH := hide (HPH0.out.upd hu7)
          have HW7 := hide hu7
          clear hu7
          by_cases hmN : m ≤ 1
          · obtain ⟨NM, hNM⟩ : ∃ n : Int, m * 10000 = n := ⟨_, rfl⟩
            have NMc := lawn_of hNM (by omega) (by omega)
            have OMc := one_of hNM
            obtain ⟨got, hgot⟩ : ∃ v, (callP nVLOOKUP [oneA ⟨xk, xn, xt, xb, xf⟩, ⟨K, (C : Int), true⟩, oneA (cntW KK), oneA (cntW m)]).1 = v := ⟨_, rfl⟩
            have e1 : callP nVLOOKUP [oneA ⟨xk, xn, xt, xb, xf⟩, ⟨K, (C : Int), true⟩, oneA (cntW KK), oneA (cntW m)] = (got, true) :=
              Prod.ext hgot (callP_tab false (x := oneA ⟨xk, xn, xt, xb, xf⟩) G1.out (good_one _) (by omega) (by omega) (by omega) (by omega))
            have e2 : callP nHLOOKUP [oneA ⟨xk, xn, xt, xb, xf⟩, ⟨TL, (Q : Int), true⟩, oneA (cntW KK), oneA (cntW m)] = (got, true) := by
              rw [← e1, ← HTT.out]
              exact (call_turn (x := ⟨xk, xn, xt, xb, xf⟩) (K := K) (c := C) (R := Q) (by omega) hQ0 (by rw [HM.out, HML.out]) (by rw [HML.out]; omega) (by omega) (by omega) (by omega) (by omega)).symm
            have hgo : got.ok := by
              rw [← hgot]
              refine callP_ok nVLOOKUP ⟨by simp, fun a ha => ?_, fun a ha => ?_⟩
              · simp only [List.mem_cons, List.not_mem_nil, or_false] at ha
                rcases ha with rfl | rfl | rfl | rfl
                · exact good_one _
                · exact G1.out
                · exact good_one _
                · exact good_one _
              · simp only [List.mem_cons, List.not_mem_nil, or_false] at ha
                rcases ha with rfl | rfl | rfl | rfl
                · exact okA_one HXO.out
                · exact O1.out
                · exact okA_one ⟨cnt_ok (by omega) (by omega), by simp [cntW]⟩
                · exact okA_one ⟨cnt_ok (by omega) (by omega), by simp [cntW]⟩
            have AV : ∀ (w : World) (g o1 o2 o3 : Nat), w.heap[g]? = some (.cells #[.slice (some ⟨o1, 0, none⟩) 1 1, .int .i64 0, .bool false, .slice pa i pc, .int .i64 (C : Int), .bool true, .slice (some ⟨o2, 0, none⟩) 1 1, .int .i64 0, .bool false, .slice (some ⟨o3, 0, none⟩) 1 1, .int .i64 0, .bool false] 67 (0, 0)) → RdV w (some ⟨o1, 0, none⟩) [⟨xk, xn, xt, xb, xf⟩] → RdV w pa K → RdV w (some ⟨o2, 0, none⟩) [cntW KK] → RdV w (some ⟨o3, 0, none⟩) [cntW m] →
                Calls Tryz.prog 20 #[.string ⟨#[86, 76, 79, 79, 75, 85, 80]⟩, .slice (some ⟨g, 0, none⟩) 4 4] w (fun e w' => e = .returned got.val ∧ Upd w w' (fun _ => False)) := by
              intro w g o1 o2 o3 h r0 r1 r2 r3
              refine ask_of w nVLOOKUP g 67 [(oneA ⟨xk, xn, xt, xb, xf⟩, some ⟨o1, 0, none⟩, 1), (⟨K, (C : Int), true⟩, pa, pc), (oneA (cntW KK), some ⟨o2, 0, none⟩, 1), (oneA (cntW m), some ⟨o3, 0, none⟩, 1)] (by simpa [HML.out, oneA] using h) (fun x hx => ?_) (by simp) got e1
              simp only [List.mem_cons, List.not_mem_nil, or_false] at hx
              rcases hx with rfl | rfl | rfl | rfl
              · exact ⟨r0, okA_one HXO.out⟩
              · exact ⟨r1, O1.out⟩
              · exact ⟨r2, okA_one ⟨cnt_ok (by omega) (by omega), by simp [cntW]⟩⟩
              · exact ⟨r3, okA_one ⟨cnt_ok (by omega) (by omega), by simp [cntW]⟩⟩
            have AH : ∀ (w : World) (g o1 o2 o3 : Nat), w.heap[g]? = some (.cells #[.slice (some ⟨o1, 0, none⟩) 1 1, .int .i64 0, .bool false, .slice (some ⟨QG, 0, none⟩) i i, .int .i64 (Q : Int), .bool true, .slice (some ⟨o2, 0, none⟩) 1 1, .int .i64 0, .bool false, .slice (some ⟨o3, 0, none⟩) 1 1, .int .i64 0, .bool false] 67 (0, 0)) → RdV w (some ⟨o1, 0, none⟩) [⟨xk, xn, xt, xb, xf⟩] → RdV w (some ⟨QG, 0, none⟩) TL → RdV w (some ⟨o2, 0, none⟩) [cntW KK] → RdV w (some ⟨o3, 0, none⟩) [cntW m] →
                Calls Tryz.prog 20 #[.string ⟨#[72, 76, 79, 79, 75, 85, 80]⟩, .slice (some ⟨g, 0, none⟩) 4 4] w (fun e w' => e = .returned got.val ∧ Upd w w' (fun _ => False)) := by
              intro w g o1 o2 o3 h r0 r1 r2 r3
              refine ask_of w nHLOOKUP g 67 [(oneA ⟨xk, xn, xt, xb, xf⟩, some ⟨o1, 0, none⟩, 1), (⟨TL, (Q : Int), true⟩, some ⟨QG, 0, none⟩, i), (oneA (cntW KK), some ⟨o2, 0, none⟩, 1), (oneA (cntW m), some ⟨o3, 0, none⟩, 1)] (by simpa [HTL.out, oneA] using h) (fun x hx => ?_) (by simp) got e2
              simp only [List.mem_cons, List.not_mem_nil, or_false] at hx
              rcases hx with rfl | rfl | rfl | rfl
              · exact ⟨r0, okA_one HXO.out⟩
              · exact ⟨r1, O2.out⟩
              · exact ⟨r2, okA_one ⟨cnt_ok (by omega) (by omega), by simp [cntW]⟩⟩
              · exact ⟨r3, okA_one ⟨cnt_ok (by omega) (by omega), by simp [cntW]⟩⟩
            have NE := neq_at got got hgo hgo (q := true) (eqV_iff.2 rfl)
            simp only [Bool.not_true] at NE
            have bX := HU7.out.get HA3.out id
            have bK := HU7.out.get HKB3.out id
            obtain ⟨x0, x1, x2, x3, x4⟩ := cells5 bX
            have xl := lt_at bX
            obtain ⟨kc0, kc1⟩ := cells2 bK
            have kcl := lt_at bK
            clear e1 e2 hgo hgot bX bK hNM hNK kc0
            obtain ⟨vk, vn, vt, vb, vf⟩ := got
            unfold Vl.val at AV AH
            simp only at AV AH NE
            go_wp2_with fail
            go_region_held3 (fun w' => w'.cell? ⟨X, 0, none⟩ = some (.int .i64 xk) ∧ w'.cell? ⟨X, 1, none⟩ = some (.int .i64 xn) ∧ w'.cell? ⟨X, 2, none⟩ = some (enS xt) ∧ w'.cell? ⟨X, 3, none⟩ = some (.bool xb) ∧ w'.cell? ⟨X, 4, none⟩ = some (.int .i64 xf) ∧ w'.cell? ⟨w.heap.size + 1, 1, none⟩ = some (.int .u8 (k2 : Int)) ∧ Upd wr w' (fun _ => False))
              (first | (go_keep; done) | exact ⟨x0, x1, x2, x3, x4, kc1, (Upd.refl wr _).drew⟩ | (have hz : Upd wr _ (fun _ => False) := Upd.then (And.right (And.right (And.right (And.right (And.right (And.right (by assumption))))))) uX (fun _ _ => id); with_reducible exact ⟨(hz.cell X 0 xl id).trans x0, (hz.cell X 1 xl id).trans x1, (hz.cell X 2 xl id).trans x2, (hz.cell X 3 xl id).trans x3, (hz.cell X 4 xl id).trans x4, (hz.cell (w.heap.size + 1) 1 kcl id).trans kc1, hz⟩) | (have hz : Upd wr _ (fun _ => False) := Upd.then (And.right (And.right (And.right (And.right (And.right (And.right (by assumption))))))) uTV (fun _ _ => id); with_reducible exact ⟨(hz.cell X 0 xl id).trans x0, (hz.cell X 1 xl id).trans x1, (hz.cell X 2 xl id).trans x2, (hz.cell X 3 xl id).trans x3, (hz.cell X 4 xl id).trans x4, (hz.cell (w.heap.size + 1) 1 kcl id).trans kc1, hz⟩) | (have hz : Upd wr _ (fun _ => False) := Upd.then (And.right (And.right (And.right (And.right (And.right (And.right (by assumption))))))) uTH (fun _ _ => id); with_reducible exact ⟨(hz.cell X 0 xl id).trans x0, (hz.cell X 1 xl id).trans x1, (hz.cell X 2 xl id).trans x2, (hz.cell X 3 xl id).trans x3, (hz.cell X 4 xl id).trans x4, (hz.cell (w.heap.size + 1) 1 kcl id).trans kc1, hz⟩) | (have hz : Upd wr _ (fun _ => False) := Upd.then (And.right (And.right (And.right (And.right (And.right (And.right (by assumption))))))) uNK (fun _ _ => id); with_reducible exact ⟨(hz.cell X 0 xl id).trans x0, (hz.cell X 1 xl id).trans x1, (hz.cell X 2 xl id).trans x2, (hz.cell X 3 xl id).trans x3, (hz.cell X 4 xl id).trans x4, (hz.cell (w.heap.size + 1) 1 kcl id).trans kc1, hz⟩) | (have hz : Upd wr _ (fun _ => False) := Upd.then (And.right (And.right (And.right (And.right (And.right (And.right (by assumption))))))) uOK (fun _ _ => id); with_reducible exact ⟨(hz.cell X 0 xl id).trans x0, (hz.cell X 1 xl id).trans x1, (hz.cell X 2 xl id).trans x2, (hz.cell X 3 xl id).trans x3, (hz.cell X 4 xl id).trans x4, (hz.cell (w.heap.size + 1) 1 kcl id).trans kc1, hz⟩) | (have hz : Upd wr _ (fun _ => False) := Upd.then (And.right (And.right (And.right (And.right (And.right (And.right (by assumption))))))) uNM (fun _ _ => id); with_reducible exact ⟨(hz.cell X 0 xl id).trans x0, (hz.cell X 1 xl id).trans x1, (hz.cell X 2 xl id).trans x2, (hz.cell X 3 xl id).trans x3, (hz.cell X 4 xl id).trans x4, (hz.cell (w.heap.size + 1) 1 kcl id).trans kc1, hz⟩) | (have hz : Upd wr _ (fun _ => False) := Upd.then (And.right (And.right (And.right (And.right (And.right (And.right (by assumption))))))) uOM (fun _ _ => id); with_reducible exact ⟨(hz.cell X 0 xl id).trans x0, (hz.cell X 1 xl id).trans x1, (hz.cell X 2 xl id).trans x2, (hz.cell X 3 xl id).trans x3, (hz.cell X 4 xl id).trans x4, (hz.cell (w.heap.size + 1) 1 kcl id).trans kc1, hz⟩) | (have hz : Upd wr _ (fun _ => False) := Upd.then (And.right (And.right (And.right (And.right (And.right (And.right (by assumption))))))) uAV (fun _ _ => id); with_reducible exact ⟨(hz.cell X 0 xl id).trans x0, (hz.cell X 1 xl id).trans x1, (hz.cell X 2 xl id).trans x2, (hz.cell X 3 xl id).trans x3, (hz.cell X 4 xl id).trans x4, (hz.cell (w.heap.size + 1) 1 kcl id).trans kc1, hz⟩) | (have hz : Upd wr _ (fun _ => False) := Upd.then (And.right (And.right (And.right (And.right (And.right (And.right (by assumption))))))) uAH (fun _ _ => id); with_reducible exact ⟨(hz.cell X 0 xl id).trans x0, (hz.cell X 1 xl id).trans x1, (hz.cell X 2 xl id).trans x2, (hz.cell X 3 xl id).trans x3, (hz.cell X 4 xl id).trans x4, (hz.cell (w.heap.size + 1) 1 kcl id).trans kc1, hz⟩) | (refine ⟨?_, ?_, ?_, ?_, ?_, ?_, Upd.alloc (And.right (And.right (And.right (And.right (And.right (And.right (by assumption))))))) _⟩ <;> (go_keep; done)))
              (first
    | (go_at_call 22; with_reducible refine Calls.mono (OX _) ?_; rintro e wz ⟨oX, rfl, rX, uX⟩)
    | (go_at_call 21; with_reducible refine Calls.mono (TV _) ?_; rintro e wz ⟨rfl, uTV⟩)
    | (go_at_call 21; with_reducible refine Calls.mono (TH _) ?_; rintro e wz ⟨rfl, uTH⟩)
    | (go_at_call 23; with_reducible refine Calls.mono (NKc _) ?_; rintro e wz ⟨rfl, uNK⟩)
    | (go_at_call 23; with_reducible refine Calls.mono (NKd _) ?_; rintro e wz ⟨rfl, uNK⟩)
    | (go_at_call 22; with_reducible refine Calls.mono (OKc _) ?_; rintro e wz ⟨oK, rfl, rK, uOK⟩)
    | (go_at_call 23; with_reducible refine Calls.mono (NMc _) ?_; rintro e wz ⟨rfl, uNM⟩)
    | (go_at_call 22; with_reducible refine Calls.mono (OMc _) ?_; rintro e wz ⟨oM, rfl, rM, uOM⟩)
    | (go_at_call 20; with_reducible refine Calls.mono (AV _ _ oX oK oM (Vnew1 _ _) ((((((rX.upd uTV).upd uNK).upd uOK).upd uNM).upd uOM).upd ((Upd.refl _ (fun _ => False)).alloc _)) ((HPV.out).upd (And.right (And.right (And.right (And.right (And.right (And.right (by assumption)))))))) (((rK.upd uNM).upd uOM).upd ((Upd.refl _ (fun _ => False)).alloc _)) (rM.upd ((Upd.refl _ (fun _ => False)).alloc _))) ?_; rintro e wz ⟨rfl, uAV⟩)
    | (go_at_call 20; with_reducible refine Calls.mono (AH _ _ oX oK oM (Vnew1 _ _) ((((((rX.upd uTH).upd uNK).upd uOK).upd uNM).upd uOM).upd ((Upd.refl _ (fun _ => False)).alloc _)) ((HPH.out).upd (And.right (And.right (And.right (And.right (And.right (And.right (by assumption)))))))) (((rK.upd uNM).upd uOM).upd ((Upd.refl _ (fun _ => False)).alloc _)) (rM.upd ((Upd.refl _ (fun _ => False)).alloc _))) ?_; rintro e wz ⟨rfl, uAH⟩))
            all_goals go_wp2_with fail
            go_roundg (gk - 1)
            case measure => omega
            case rel => exact ⟨m + 1, by omega, by go_num, by omega, HW7.out.then (And.right (And.right (And.right (And.right (And.right (And.right (by assumption))))))) (fun _ _ => id)⟩
          · have hm2 : ¬ m ≤ 1 := hmN
            obtain ⟨got, hgot⟩ : ∃ v, mkN ((Q : Int) * 10000) = v := ⟨_, rfl⟩
            have e1 : callP nROWS [⟨K, (C : Int), true⟩] = (got, true) := by rw [call_rows G1.out, rows_tab (by omega) (by rw [HM.out, HML.out]), hgot]
            have e2 : callP nCOLUMNS [⟨TL, (Q : Int), true⟩] = (got, true) := by rw [call_cols G2.out, ← hgot]; rfl
            have hgo : got.ok := by rw [← hgot]; exact mkN_ok _
            have EQ := eq_at got got hgo hgo (q := true) (eqV_iff.2 rfl)
            have AV : ∀ (w : World) (g : Nat), w.heap[g]? = some (.cells #[.slice pa i pc, .int .i64 (C : Int), .bool true] 67 (0, 0)) → RdV w pa K →
                Calls Tryz.prog 20 #[.string ⟨#[82, 79, 87, 83]⟩, .slice (some ⟨g, 0, none⟩) 1 1] w (fun e w' => e = .returned got.val ∧ Upd w w' (fun _ => False)) := by
              intro w g h r1
              refine ask_of w nROWS g 67 [(⟨K, (C : Int), true⟩, pa, pc)] (by simpa [HML.out] using h) (fun x hx => ?_) (by simp) got e1
              simp only [List.mem_cons, List.not_mem_nil, or_false] at hx
              rcases hx with rfl
              exact ⟨r1, O1.out⟩
            have AH : ∀ (w : World) (g : Nat), w.heap[g]? = some (.cells #[.slice (some ⟨QG, 0, none⟩) i i, .int .i64 (Q : Int), .bool true] 67 (0, 0)) → RdV w (some ⟨QG, 0, none⟩) TL →
                Calls Tryz.prog 20 #[.string ⟨#[67, 79, 76, 85, 77, 78, 83]⟩, .slice (some ⟨g, 0, none⟩) 1 1] w (fun e w' => e = .returned got.val ∧ Upd w w' (fun _ => False)) := by
              intro w g h r1
              refine ask_of w nCOLUMNS g 67 [(⟨TL, (Q : Int), true⟩, some ⟨QG, 0, none⟩, i)] (by simpa [HTL.out] using h) (fun x hx => ?_) (by simp) got e2
              simp only [List.mem_cons, List.not_mem_nil, or_false] at hx
              rcases hx with rfl
              exact ⟨r1, O2.out⟩
            clear e1 e2 hgo hgot
            obtain ⟨vk, vn, vt, vb, vf⟩ := got
            unfold Vl.val at AV AH
            simp only at AV AH EQ
            have HU9 := hide (HU3.out.then HU7.out (fun _ _ => id))
            go_wp2_with fail
            refine Calls.mono (TV _) ?_
            rintro e w8 ⟨rfl, u8⟩
            have HU8 := hide (u8.alloc (.cells #[.slice pa i pc, .int .i64 (C : Int), .bool true] 67))
            clear u8
            go_wp2_with fail
            refine Calls.mono (AV _ _ (Vnew1 _ _) (HPV.out.upd HU8.out)) ?_
            rintro e w10 ⟨rfl, u10⟩
            have HU10 := hide (HU8.out.then u10 (fun _ _ => id))
            clear u10
            go_wp2_with fail
            refine Calls.mono (TH _) ?_
            rintro e w11 ⟨rfl, u11⟩
            have HU11 := hide ((HU10.out.then u11 (fun _ _ => id)).alloc (.cells #[.slice (some ⟨QG, 0, none⟩) i i, .int .i64 (Q : Int), .bool true] 67))
            clear u11
            go_wp2_with fail
            refine Calls.mono (AH _ _ (Vnew1 _ _) (HPH.out.upd HU11.out)) ?_
            rintro e w12 ⟨rfl, u12⟩
            have HU12 := hide (HU11.out.then u12 (fun _ _ => id))
            clear u12
            go_wp2_with fail
            go_ret
            exact ⟨rfl, HU9.out.then HU12.out (fun _ _ => id)⟩
end Go.Proofs.YtdjpkkgcoainhaaGreatDoor
