/- What the program tells of arguments is what the reference tells (plain). -/
import Derived.Test.YtdjpkkgcoainhaaGreatDoorJ15
/- What the program tells of arguments is what the reference tells (plain). -/
set_option maxRecDepth 100000
namespace Go.Proofs.YtdjpkkgcoainhaaGreatDoor
open Go.RowKit Go.Lat Go.Lib

theorem good_mkE (f : Int) : goodV (mkE f) = true := by
  rw [← rgood_eq]
  unfold rgoodV mkE
  cases h : okFail f with
  | true => simp [okFail] at h; simp; omega
  | false => simp
theorem good_mkN (n : Int) : goodV (mkN n) = true := by
  unfold mkN
  cases h : okNum n with
  | true => rw [← rgood_eq]; simp [rgoodV, h]
  | false => simpa using good_mkE 2
theorem sound_good {x : Vl} (h : goodV x = true) : soundV x = x := by unfold soundV; rw [if_pos h]
theorem sound_bad {x : Vl} (h : goodV x = false) : soundV x = mkE 3 := by unfold soundV; rw [h]; rfl
theorem sound_mkE (f : Int) : soundV (mkE f) = mkE f := sound_good (good_mkE f)
theorem sound_mkN (n : Int) : soundV (mkN n) = mkN n := sound_good (good_mkN n)
theorem mkE3f : (mkE 3).f = 3 := by rfl
theorem good_f0 {x : Vl} (h : goodV x = true) (h4 : x.k ≠ 4) : x.f = 0 := by
  rw [← rgood_eq] at h
  obtain ⟨k, n, t, b, f⟩ := x
  unfold rgoodV at h
  simp only at h h4 ⊢
  split at h
  · simp at h; exact h.2
  · split at h
    · simp at h; exact h.2
    · split at h
      · simp at h; exact h.2
      · split at h
        · simp at h; exact h.2
        · first | (rw [if_neg h4] at h; cases h) | cases h
theorem good_f4 {x : Vl} (h : goodV x = true) (h4 : x.k = 4) : x.f ≠ 0 := by
  rw [← rgood_eq] at h
  obtain ⟨k, n, t, b, f⟩ := x
  simp only at h4
  subst h4
  simp [rgoodV] at h
  simp only
  omega
theorem badF0 (x : Int) : badF 0 x = x := rfl
theorem badF_0 (x : Int) : badF x 0 = x := by unfold badF; split <;> simp_all
theorem badF_ne {x y : Int} (h : x ≠ 0) : badF x y = x := by unfold badF; rw [if_neg h]
theorem thg_at {aa : List Ar} {k : Nat} {f : Int} {a : Ar} (h : aa[k]? = some a) : thgS aa (k, f) = (k + 1, badF f (faultA a 120)) := by
  have e1 : sglV aa (k, f) = if a.w then vZero else a.v.getD 0 vZero := by unfold sglV; simp only [h]
  have e2 : sglS aa (k, f) = (k + 1, if a.w then badF f 3 else f) := by unfold sglS; simp only [h]
  unfold thgS
  rw [e1, e2]
  unfold faultA
  simp only [if_true]
  cases hw : a.w with
  | true =>
    have g : goodV vZero = true := by rfl
    have g2 : vZero.k ≠ 4 := by decide
    simp only [if_true]
    rw [if_pos g, if_neg g2]
  | false =>
    simp only [Bool.false_eq_true, if_false]
    cases hg : goodV (a.v.getD 0 vZero) with
    | false => rw [sound_bad hg, mkE3f]; simp
    | true =>
      rw [sound_good hg]
      simp only [if_true]
      split
      · rfl
      · rename_i h4
        rw [good_f0 hg h4, badF_0]
theorem cnt_at {aa : List Ar} {k : Nat} {f : Int} {a : Ar} (h : aa[k]? = some a) : cntS aa (k, f) = (k + 1, badF f (faultA a 110)) := by
  have e1 : sglV aa (k, f) = if a.w then vZero else a.v.getD 0 vZero := by unfold sglV; simp only [h]
  have e2 : sglS aa (k, f) = (k + 1, if a.w then badF f 3 else f) := by unfold sglS; simp only [h]
  have e3 : sglB aa (k, f) = !a.w := by unfold sglB; simp only [h]
  unfold cntS
  rw [e1, e2, e3]
  unfold faultA
  cases hw : a.w <;> simp
theorem cnt_no {aa : List Ar} {k : Nat} {f : Int} (h : aa[k]? = none) : cntS aa (k, f) = (k, f) := by
  have e2 : sglS aa (k, f) = (k, f) := by unfold sglS; simp only [h]
  have e3 : sglB aa (k, f) = false := by unfold sglB; simp only [h]
  unfold cntS
  rw [e2, e3]
  simp
theorem cntV_at {aa : List Ar} {k : Nat} {f o : Int} {a : Ar} (h : aa[k]? = some a) : cntV aa (k, f) o = if a.w then o else wholeF (numF (a.v.getD 0 vZero)).1 := by
  have e1 : sglV aa (k, f) = if a.w then vZero else a.v.getD 0 vZero := by unfold sglV; simp only [h]
  have e3 : sglB aa (k, f) = !a.w := by unfold sglB; simp only [h]
  unfold cntV
  rw [e1, e3]
  cases hw : a.w <;> simp
theorem cntV_no {aa : List Ar} {k : Nat} {f o : Int} (h : aa[k]? = none) : cntV aa (k, f) o = o := by
  have e3 : sglB aa (k, f) = false := by unfold sglB; simp only [h]
  unfold cntV
  rw [e3]
  simp
theorem sglB_at {aa : List Ar} {k : Nat} {f : Int} {a : Ar} (h : aa[k]? = some a) : sglB aa (k, f) = !a.w := by unfold sglB; simp only [h]
theorem sglB_no {aa : List Ar} {k : Nat} {f : Int} (h : aa[k]? = none) : sglB aa (k, f) = false := by unfold sglB; simp only [h]
theorem sglV_at {aa : List Ar} {k : Nat} {f : Int} {a : Ar} (h : aa[k]? = some a) : sglV aa (k, f) = if a.w then vZero else a.v.getD 0 vZero := by unfold sglV; simp only [h]
theorem lst_at {aa : List Ar} {k : Nat} {f : Int} {a : Ar} (h : aa[k]? = some a) : lstS aa (k, f) = (k + 1, badF f (faultA a 108)) := by
  unfold lstS argA faultA
  have e : aa.getD k ⟨[], 0, false⟩ = a := by rw [List.getD_eq_getElem?_getD, h]; rfl
  simp only [e]
  split
  · rename_i h2
    simp
  · rename_i h2
    simp [badF_0]
theorem fault_x {a : Ar} (h : faultA a 120 = 0) : a.w = false ∧ goodV (a.v.getD 0 vZero) = true ∧ (a.v.getD 0 vZero).k ≠ 4 := by
  unfold faultA at h
  cases hw : a.w with
  | true => rw [hw] at h; simp at h
  | false =>
    rw [hw] at h
    simp only [if_true, Bool.false_eq_true, if_false] at h
    refine ⟨rfl, ?_⟩
    cases hg : goodV (a.v.getD 0 vZero) with
    | false => rw [sound_bad hg, mkE3f] at h; cases h
    | true =>
      rw [sound_good hg] at h
      exact ⟨rfl, fun h4 => good_f4 hg h4 h⟩
theorem fault_n {a : Ar} (h : faultA a 110 = 0) : a.w = false := by
  unfold faultA at h
  cases hw : a.w with
  | true => rw [hw] at h; simp at h
  | false => rfl
theorem fault_N (a : Ar) : faultA a 78 = faultA a 110 := by unfold faultA; simp
theorem turnL_get {R C : Nat} {l : List Vl} {r c : Nat} (hr : r < R) (hc : c < C) : (turnL R C l).getD (c * R + r) vZero = l.getD (r * C + c) vZero := by
  have h1 : c * R + r < R * C := by
    have : (c + 1) * R ≤ C * R := Nat.mul_le_mul_right _ hc
    rw [Nat.add_mul, Nat.mul_comm C R] at this
    omega
  unfold turnL
  rw [List.getD_eq_getElem?_getD, List.getElem?_map, List.getElem?_range h1]
  simp only [Option.map_some, Option.getD_some]
  have e1 : (c * R + r) % R = r := by rw [Nat.mul_comm, Nat.mul_add_mod, Nat.mod_eq_of_lt hr]
  have e2 : (c * R + r) / R = c := by
    rw [Nat.mul_comm, Nat.mul_add_div (by omega), Nat.div_eq_of_lt hr]
    rfl
  rw [e1, e2]
theorem turnL_turnL {R C : Nat} {l : List Vl} (h : R * C = l.length) : turnL C R (turnL R C l) = l := by
  apply List.ext_getElem?
  intro j
  by_cases hj : j < l.length
  · have hC : 0 < C := by
      rcases Nat.eq_zero_or_pos C with h0 | h0
      · subst h0; omega
      · exact h0
    have hm : j % C < C := Nat.mod_lt _ hC
    have hd : j / C < R := by
      rw [Nat.div_lt_iff_lt_mul hC, h]
      exact hj
    have k := turnL_get (l := l) hd hm
    have e : j / C * C + j % C = j := by rw [Nat.mul_comm]; exact Nat.div_add_mod j C
    rw [e] at k
    unfold turnL at k ⊢
    rw [List.getElem?_map, List.getElem?_range (by rw [Nat.mul_comm C R, h]; exact hj)]
    simp only [Option.map_some]
    rw [k, List.getD_eq_getElem?_getD, List.getElem?_eq_getElem hj]
    rfl
  · rw [List.getElem?_eq_none (by rw [turnL_len, Nat.mul_comm, h]; omega), List.getElem?_eq_none (by omega)]
theorem first_across {C : Nat} {l : List Vl} (h : C ≤ l.length) : firstL true C l = l.take C := by
  have key : ∀ k : Nat, k ≤ l.length → (List.range k).filterMap (fun i => if (true = true ∧ i < C ∨ true = false ∧ i % C = 0) then l[i]? else none) = l.take (min k C) := by
    intro k
    induction k with
    | zero => intro _; simp
    | succ k ih =>
      intro hk
      rw [List.range_succ, List.filterMap_append, ih (by omega)]
      by_cases hc : k < C
      · have e1 : min (k + 1) C = k + 1 := by omega
        have e2 : min k C = k := by omega
        rw [e1, e2]
        simp only [List.filterMap_cons, List.filterMap_nil, hc, true_and, Bool.true_eq_false, false_and, or_false, if_true]
        rw [List.getElem?_eq_getElem (by omega : k < l.length)]
        simp only
        rw [List.take_add_one, List.getElem?_eq_getElem (by omega : k < l.length)]
        rfl
      · have e1 : min (k + 1) C = C := by omega
        have e2 : min k C = C := by omega
        rw [e1, e2]
        simp [hc]
  unfold firstL
  rw [key _ (Nat.le_refl _)]
  congr 1
  omega
theorem first_down {R C : Nat} {l : List Vl} (h : R * C = l.length) (hC : 0 < C) : firstL false C l = (turnL R C l).take R := by
  have key : ∀ k : Nat, k ≤ l.length → (List.range k).filterMap (fun i => if (false = true ∧ i < C ∨ false = false ∧ i % C = 0) then l[i]? else none) = (List.range ((k + C - 1) / C)).map fun r => l.getD (r * C) vZero := by
    intro k
    induction k with
    | zero =>
      intro _
      have : (0 + C - 1) / C = 0 := Nat.div_eq_of_lt (by omega)
      rw [this]
      rfl
    | succ k ih =>
      intro hk
      rw [List.range_succ, List.filterMap_append, ih (by omega)]
      have hdm := Nat.div_add_mod k C
      have hml := Nat.mod_lt k hC
      by_cases hc : k % C = 0
      · have e0 : k = (k / C) * C := by rw [Nat.mul_comm]; omega
        have e1 : (k + C - 1) / C = k / C := by
          have : k + C - 1 = C * (k / C) + (C - 1) := by omega
          rw [this, Nat.mul_add_div hC, Nat.div_eq_of_lt (by omega : C - 1 < C)]
          omega
        have e2 : (k + 1 + C - 1) / C = k / C + 1 := by
          have : k + 1 + C - 1 = k + C := by omega
          rw [this, Nat.add_div_right _ hC]
        rw [e1, e2, List.range_succ, List.map_append]
        congr 1
        simp only [List.filterMap_cons, List.filterMap_nil, hc, and_self, Bool.false_eq_true, false_and, false_or, if_true]
        rw [List.getElem?_eq_getElem (by omega : k < l.length)]
        simp only [List.map_cons, List.map_nil]
        rw [← e0, List.getD_eq_getElem?_getD, List.getElem?_eq_getElem (by omega : k < l.length)]
        rfl
      · have e1 : (k + C - 1) / C = k / C + 1 := by
          have : k + C - 1 = (k % C - 1) + C * (k / C + 1) := by rw [Nat.mul_add]; omega
          rw [this, Nat.add_mul_div_left _ _ hC, Nat.div_eq_of_lt (by omega)]
          omega
        have e2 : (k + 1 + C - 1) / C = k / C + 1 := by
          have : k + 1 + C - 1 = k + C := by omega
          rw [this, Nat.add_div_right _ hC]
        rw [e1, e2]
        simp [hc]
  unfold firstL
  rw [key _ (Nat.le_refl _)]
  have e : (l.length + C - 1) / C = R := by
    have : l.length + C - 1 = C * R + (C - 1) := by rw [← h, Nat.mul_comm]; omega
    rw [this, Nat.mul_add_div hC, Nat.div_eq_of_lt (by omega : C - 1 < C)]
    omega
  rw [e]
  unfold turnL
  rw [← List.map_take, List.take_range]
  have e2 : min R (R * C) = R := Nat.min_eq_left (Nat.le_mul_of_pos_right R hC)
  rw [e2]
  apply List.map_congr_left
  intro r hr
  have hr' : r < R := by simpa using hr
  rw [Nat.mod_eq_of_lt hr', Nat.div_eq_of_lt hr']
  rfl
theorem atV_sound {a : Ar} (row col : Int) : soundV (atV a.v (rowsA a) (colsA a) row col) = atR a row col := by
  unfold atV atR
  split
  · exact sound_mkE 4
  · have e : (row - 1) * colsA a + col - 1 = (row - 1) * colsA a + (col - 1) := by omega
    rw [e]
theorem atV_turn {a : Ar} (hg : goodA a = true) (row col : Int) : soundV (atV (turnL (rowsA a).toNat (colsA a).toNat a.v) (colsA a) (rowsA a) row col) = atR a col row := by
  obtain ⟨R, C, hR, hC, hm, h1, h2, _⟩ := goodA_dims hg
  unfold atV atR
  rw [hR, hC]
  by_cases hb : row < 1 ∨ (C : Int) < row ∨ col < 1 ∨ (R : Int) < col
  · rw [if_pos hb, if_pos (by omega)]
    exact sound_mkE 4
  · rw [if_neg hb, if_neg (by omega)]
    obtain ⟨r, rfl⟩ : ∃ r : Nat, row = r + 1 := ⟨(row - 1).toNat, by omega⟩
    obtain ⟨c, rfl⟩ : ∃ c : Nat, col = c + 1 := ⟨(col - 1).toNat, by omega⟩
    have e1 : (((r : Int) + 1 - 1) * (R : Int) + ((c : Int) + 1) - 1).toNat = r * R + c := by
      have : ((r : Int) + 1 - 1) * (R : Int) + ((c : Int) + 1) - 1 = ((r * R + c : Nat) : Int) := by simp; omega
      rw [this]; rfl
    have e2 : (((c : Int) + 1 - 1) * (C : Int) + (((r : Int) + 1) - 1)).toNat = c * C + r := by
      have : ((c : Int) + 1 - 1) * (C : Int) + (((r : Int) + 1) - 1) = ((c * C + r : Nat) : Int) := by simp
      rw [this]; rfl
    rw [e1, e2]
    simp only [Int.toNat_natCast]
    rw [turnL_get (by omega) (by omega)]
end Go.Proofs.YtdjpkkgcoainhaaGreatDoor
/- The reader of arguments: the walks of tabled, bad, next, single. -/
set_option maxRecDepth 100000
namespace Go.Proofs.YtdjpkkgcoainhaaGreatDoor
open Go.RowKit Go.Lat Go.Lib

theorem Tryz.infoArg : (Tryz.prog.info? 67).map (·.size) = some 3 := by kernel_rfl
theorem Tryz.infoTab : (Tryz.prog.info? 110).map (·.size) = some 3 := by kernel_rfl
theorem block3 {W : World} {g : Nat} {a0 a1 a2 : Value} {T : TypeId} (h : W.heap[g]? = some (.cells #[a0, a1, a2] T (0, 0))) (v0 v1 v2 : Value) :
    (((W.setCell ⟨g, 0, none⟩ v0).setCell ⟨g, 1, none⟩ v1).setCell ⟨g, 2, none⟩ v2).heap[g]? = some (.cells #[v0, v1, v2] T (0, 0)) :=
  block_setCell (block_setCell (block_setCell h 0 v0) 1 v1) 2 v2
theorem upd3 {a W : World} {S : Nat → Prop} (h : Upd a W S) {g : Nat} (hg : a.heap.size ≤ g) (v0 v1 v2 : Value) : Upd a (((W.setCell ⟨g, 0, none⟩ v0).setCell ⟨g, 1, none⟩ v1).setCell ⟨g, 2, none⟩ v2) S :=
  ((h.setCell ⟨g, 0, none⟩ v0 (.inl hg)).setCell ⟨g, 1, none⟩ v1 (.inl hg)).setCell ⟨g, 2, none⟩ v2 (.inl hg)
theorem ret_tab {fn : Func} {p : Tmp} (h : fn.results = #[.cell p 110]) (tmps : Array Value) (W : World) (g : Nat) (v0 v1 v2 : Value) (hp : tmps.getD p undef = .pointer (some ⟨g, 0, none⟩)) (hg : W.heap[g]? = some (.cells #[v0, v1, v2] 110 (0, 0))) :
    (results fn tmps).run Tryz.prog W = .ok (.agg #[v0, v1, v2]) W :=
  results_cell_row h tmps W g 110 #[v0, v1, v2] (0, 0) _ hp hg Tryz.underlying110 rfl Tryz.infoTab
set_option maxHeartbeats 800000 in
theorem tabled_any (w : World) (a : Ar) (va : Option Addr) (vc : Nat) (hg : goodA a = true) : Calls Tryz.prog 84 #[.agg #[.slice va a.v.length vc, .int .i64 a.c, .bool a.w]] w fun e w' => e = .returned (.agg #[.slice va a.v.length vc, .int .i64 (rowsA a), .int .i64 (colsA a)]) ∧ Upd w w' (fun _ => False) := by
  have bA := block_alloc (Vnew1 w (.cells #[.slice va a.v.length vc, .int .i64 a.c, .bool a.w] 67)) (.cells #[.slice none 0 0, .int .i64 0, .int .i64 0] 110)
  have bT := Vnew2 w (.cells #[.slice va a.v.length vc, .int .i64 a.c, .bool a.w] 67) (.cells #[.slice none 0 0, .int .i64 0, .int .i64 0] 110)
  obtain ⟨R, C, hR, hC, hm, h1, h2, h3⟩ := goodA_dims hg
  unfold rowsA colsA at *
  obtain ⟨v, c, wd⟩ := a
  simp only at bA bT hm h3 hR hC ⊢
  have HT := hide bT
  obtain ⟨a0, a1, a2⟩ := cells3 bA
  have al := lt_at bA
  obtain ⟨t0, t1, t2⟩ := cells3 bT
  have tl := lt_at bT
  have f0 := free_at bT 0
  have f1 := free_at bT 1
  have f2 := free_at bT 2
  clear bA bT
  cases wd with
  | false =>
    simp only [Bool.false_eq_true, if_false]
    clear hR hC hg
    go_enter Tryz.func84, Tryz.ntmps84
    go_wp2_with fail
    (try simp only [Exit.inBlock, Exit.then])
    refine bodyPost_ret (ret_tab rfl _ _ (w.heap.size + 1) _ _ _ rfl (Vnew2 w _ _)) rfl ?_
    exact ⟨rfl, ((Upd.refl w _).alloc _).alloc _⟩
  | true =>
    simp only [if_true] at hR hC ⊢
    have hc0 : c ≠ 0 := by omega
    have hc1 : (c == 0) = false := by simpa using hc0
    obtain ⟨D, hD⟩ : ∃ D, (v.length : Int).tdiv c = D := ⟨_, rfl⟩
    rw [hD] at hR ⊢
    have hR1 : -9223372036854775808 ≤ D ∧ D ≤ 9223372036854775807 := by
      have : R ≤ R * C := Nat.le_mul_of_pos_right R (by omega)
      omega
    obtain ⟨hR1, hR2⟩ := hR1
    clear hR hC hg
    go_enter Tryz.func84, Tryz.ntmps84
    go_wp2_with fail
    obtain ⟨W, hW⟩ : ∃ W, (w.alloc (.cells #[.slice va v.length vc, .int .i64 c, .bool true] 67)).alloc (.cells #[.slice none 0 0, .int .i64 0, .int .i64 0] 110) = W := ⟨_, rfl⟩
    have HU : Hid (Upd w W (fun _ => False)) := hide (hW ▸ ((Upd.refl w _).alloc _).alloc _)
    rw [hW] at HT a0 a1 a2 al t0 t1 t2 tl f0 f1 f2 ⊢
    clear hW
    go_still_tail 11, (by kernel_rfl)
    change wpList _ _ _ _ _ W.drew
    go_wp2_with fail
    (try simp only [Exit.inBlock, Exit.then])
    refine bodyPost_ret (ret_tab rfl _ _ (w.heap.size + 1) _ _ _ rfl (block3 HT.out _ _ _)) rfl ?_
    exact ⟨rfl, (upd3 HU.out (by omega) _ _ _).drew⟩
end Go.Proofs.YtdjpkkgcoainhaaGreatDoor
/- The reader of arguments: the walks of bad, next, single. -/
set_option maxRecDepth 100000
namespace Go.Proofs.YtdjpkkgcoainhaaGreatDoor
open Go.RowKit Go.Lat Go.Lib

/-- The reader: its three cells, and what it reads, which lies beneath it. -/
structure RrAt (w0 w : World) (r : Nat) (p : Option Addr) (pc : Nat) (aa : List Ar) (s : Nat × Int) : Prop where
  blk : w.heap[r]? = some (.cells #[.slice p aa.length pc, .int .i64 (s.1 : Int), .int .i64 s.2] 87 (0, 0))
  le : w0.heap.size ≤ r
  upd : Upd w0 w (fun _ => False)
  rd : RdA w0 p aa
  pos : s.1 ≤ aa.length
structure ArgsOk (aa : List Ar) : Prop where
  len : aa.length ≤ 1000
  good : ∀ a ∈ aa, goodA a = true
  oks : oksA aa
theorem upd_r {w0 w w' : World} {r : Nat} (h : Upd w0 w (fun _ => False)) (hr : w0.heap.size ≤ r) (u : Upd w w' (fun k => k = r)) : Upd w0 w' (fun _ => False) :=
  h.then u (fun i hi e => by omega)
theorem RrAt.keep {w0 w w' : World} {r : Nat} {p : Option Addr} {pc : Nat} {aa : List Ar} {s : Nat × Int} (h : RrAt w0 w r p pc aa s) (u : Upd w w' (fun _ => False)) : RrAt w0 w' r p pc aa s :=
  ⟨u.get h.blk id, h.le, h.upd.then u (fun _ _ => id), h.rd, h.pos⟩
theorem RrAt.alloc {w0 w : World} {r : Nat} {p : Option Addr} {pc : Nat} {aa : List Ar} {s : Nat × Int} (h : RrAt w0 w r p pc aa s) (o : Obj) : RrAt w0 (w.alloc o) r p pc aa s :=
  h.keep ((Upd.refl w _).alloc o)

theorem bad_any (w : World) (r : Nat) (p : Option Addr) (n pc k : Nat) (f g : Int) (h : w.heap[r]? = some (.cells #[.slice p n pc, .int .i64 (k : Int), .int .i64 f] 87 (0, 0))) :
    Calls Tryz.prog 91 #[.pointer (some ⟨r, 0, none⟩), .int .i64 g] w fun e w' => e = .returned (.tuple #[]) ∧ w'.heap[r]? = some (.cells #[.slice p n pc, .int .i64 (k : Int), .int .i64 (badF f g)] 87 (0, 0)) ∧ Upd w w' (fun j => j = r) := by
  obtain ⟨c0, c1, c2⟩ := cells3 h
  have rl := lt_at h
  have f2 := free_at h 2
  have H := hide h
  clear h
  unfold badF
  by_cases hf : f = 0
  · subst hf
    rw [if_pos rfl]
    go_enter Tryz.func91, Tryz.ntmps91
    go_wp2_with fail
    go_end0
    exact ⟨rfl, block_setCell H.out 2 _, (Upd.refl w _).setCell _ _ (.inr rfl)⟩
  · have b : (f == 0) = false := by simpa using hf
    rw [if_neg hf]
    clear hf
    go_enter Tryz.func91, Tryz.ntmps91
    go_wp2_with fail
    go_end0
    exact ⟨rfl, H.out, Upd.refl w _⟩
theorem results_ct_row {P : Program} {fn : Func} {p q : Tmp} {ty : TypeId} (h : fn.results = #[.cell p ty, .tmp q]) (tmps : Array Value) (w : World) (g : Nat) (t : TypeId) (cs : Array Value) (fr : Nat × Nat) (d : TypeDesc)
    (hp : tmps.getD p undef = .pointer (some ⟨g, 0, none⟩)) (hg : w.heap[g]? = some (.cells cs t fr))
    (hu : P.underlying ty = some d) (hd : (match d with | .struct _ | .array _ _ => true | _ => false) = true) (hi : (P.info? ty).map (·.size) = some cs.size) :
    (results fn tmps).run P w = .ok (.tuple #[.agg cs, tmps.getD q undef]) w := by
  have hp' : tmps[p]?.getD undef = .pointer (some ⟨g, 0, none⟩) := by simpa using hp
  simp [results, h, hp', asAddr, run_loadVar_row w g t ty cs fr d hg hu hd hi, Result.andThen]
def arZero : Value := .agg #[.slice none 0 0, .int .i64 0, .bool false]
theorem ret_arb {fn : Func} {p q : Tmp} (h : fn.results = #[.cell p 67, .tmp q]) (tmps : Array Value) (W : World) (g : Nat) (v0 v1 v2 : Value) (hp : tmps.getD p undef = .pointer (some ⟨g, 0, none⟩)) (hg : W.heap[g]? = some (.cells #[v0, v1, v2] 67 (0, 0))) :
    (results fn tmps).run Tryz.prog W = .ok (.tuple #[.agg #[v0, v1, v2], tmps.getD q undef]) W :=
  results_ct_row h tmps W g 67 #[v0, v1, v2] (0, 0) _ hp hg Tryz.underlying67 rfl Tryz.infoArg
theorem next_no (w : World) (r : Nat) (p : Option Addr) (n pc : Nat) (f : Int) (h : w.heap[r]? = some (.cells #[.slice p n pc, .int .i64 (n : Int), .int .i64 f] 87 (0, 0))) :
    Calls Tryz.prog 83 #[.pointer (some ⟨r, 0, none⟩)] w fun e w' => e = .returned (.tuple #[arZero, .bool false]) ∧ Upd w w' (fun _ => False) := by
  have HH := hide h
  have h1 := block_alloc h (.cells #[.slice none 0 0, .int .i64 0, .bool false] 67)
  have hT := Vnew1 w (.cells #[.slice none 0 0, .int .i64 0, .bool false] 67)
  obtain ⟨W, hW⟩ : ∃ W, w.alloc (.cells #[.slice none 0 0, .int .i64 0, .bool false] 67) = W := ⟨_, rfl⟩
  have HU : Hid (Upd w W (fun _ => False)) := hide (hW ▸ (Upd.refl w _).alloc _)
  have HW := hide hW
  rw [hW] at h1 hT
  obtain ⟨c0, c1, c2⟩ := cells3 h1
  have rl := lt_at h1
  obtain ⟨t0, t1, t2⟩ := cells3 hT
  have tl := lt_at hT
  have f0 := free_at hT 0
  have f1 := free_at hT 1
  have f2 := free_at hT 2
  have HT := hide hT
  have hnn : ((n : Int) == (n : Int)) = true := by simp
  clear h h1 hT hW
  unfold arZero
  go_enter Tryz.func83, Tryz.ntmps83
  go_wp2_with fail
  rw [HW.out]
  go_quiet (fail)
  go_wp2_with fail
  (try simp only [Exit.inBlock, Exit.then])
  refine bodyPost_ret (ret_arb rfl _ _ w.heap.size _ _ _ rfl (block3 HT.out _ _ _)) rfl ?_
  exact ⟨rfl, upd3 (HU.out.drewN _) (by omega) _ _ _⟩
theorem next_at (w : World) (r g off : Nat) (n pc k : Nat) (f : Int) (a : Ar) (va : Option Addr) (vc : Nat) (h : w.heap[r]? = some (.cells #[.slice (some ⟨g, off, none⟩) n pc, .int .i64 (k : Int), .int .i64 f] 87 (0, 0)))
    (hk : k < n) (hn : n ≤ 1000) (hgr : g < r) (d0 : w.cell? ⟨g, off + k * 3, none⟩ = some (.slice va a.v.length vc)) (d1 : w.cell? ⟨g, off + k * 3 + 1, none⟩ = some (.int .i64 a.c)) (d2 : w.cell? ⟨g, off + k * 3 + 2, none⟩ = some (.bool a.w)) :
    Calls Tryz.prog 83 #[.pointer (some ⟨r, 0, none⟩)] w fun e w' => e = .returned (.tuple #[.agg #[.slice va a.v.length vc, .int .i64 a.c, .bool a.w], .bool true]) ∧
      w'.heap[r]? = some (.cells #[.slice (some ⟨g, off, none⟩) n pc, .int .i64 ((k + 1 : Nat) : Int), .int .i64 f] 87 (0, 0)) ∧ Upd w w' (fun j => j = r) := by
  have hrl : r < w.heap.size := lt_at h
  have h1 := block_alloc h (.cells #[.slice none 0 0, .int .i64 0, .bool false] 67)
  have hT := Vnew1 w (.cells #[.slice none 0 0, .int .i64 0, .bool false] 67)
  have uA : Upd w (w.alloc (.cells #[.slice none 0 0, .int .i64 0, .bool false] 67)) (fun _ => False) := (Upd.refl w _).alloc _
  have D0 := (uA.cell g _ (by omega) id).trans d0
  have D1 := (uA.cell g _ (by omega) id).trans d1
  have D2 := (uA.cell g _ (by omega) id).trans d2
  obtain ⟨W, hW⟩ : ∃ W, w.alloc (.cells #[.slice none 0 0, .int .i64 0, .bool false] 67) = W := ⟨_, rfl⟩
  have HW := hide hW
  rw [hW] at h1 hT D0 D1 D2 uA
  obtain ⟨c0, c1, c2⟩ := cells3 h1
  have rl := lt_at h1
  have fr := free_at h1 1
  have HT := hide hT
  have H1 := hide h1
  have HU := hide uA
  have hnn : ((k : Int) == (n : Int)) = false := by simp; omega
  have hk0 : (0 : Int) ≤ (k : Int) := by omega
  have hk1 : (k : Int) < (n : Int) := by omega
  clear h h1 hT hW uA d0 d1 d2
  obtain ⟨v, c, wd⟩ := a
  simp only at D0 D1 D2 ⊢
  go_enter Tryz.func83, Tryz.ntmps83
  go_wp2_with fail
  rw [HW.out]
  go_quiet (fail)
  go_wp2_with fail
  obtain ⟨W2, hW2⟩ : ∃ W2, (W.drewN nq).setCell ⟨r, 1, none⟩ (.int .i64 ((k : Int) + 1)) = W2 := ⟨_, rfl⟩
  have u2 : Upd W W2 (fun j => j = r) := hW2 ▸ ((Upd.refl W (fun j => j = r)).drewN nq).setCell _ _ (.inr rfl)
  have hR2 : W2.heap[r]? = some (.cells #[.slice (some ⟨g, off, none⟩) n pc, .int .i64 ((k : Int) + 1), .int .i64 f] 87 (0, 0)) := hW2 ▸ block_setCell (w := W.drewN nq) H1.out 1 _
  have hT2 := u2.get HT.out (by omega)
  have d0 := (u2.cell g _ (by omega) (by omega)).trans D0
  have d1 := (u2.cell g _ (by omega) (by omega)).trans D1
  have d2 := (u2.cell g _ (by omega) (by omega)).trans D2
  rw [hW2]
  have HW2 := hide hW2
  clear c0 c1 c2 rl fr D0 D1 D2 hW2
  obtain ⟨c0, c1, c2⟩ := cells3 hR2
  have rl := lt_at hR2
  obtain ⟨t0, t1, t2⟩ := cells3 hT2
  have tl := lt_at hT2
  have f0 := free_at hT2 0
  have f1 := free_at hT2 1
  have f2 := free_at hT2 2
  have gl : g < W2.heap.size := by omega
  have HT2 := hide hT2
  have HR2 := hide hR2
  have HU2 := hide u2
  clear hT2 hR2 u2
  have hwk : IntKind.i64.wrap (k : Int) = (k : Int) := IntWalk.i64_in _ (by omega)
  go_still_tail 11, (by kernel_rfl)
  change wpList _ _ _ _ _ W2.drew
  go_wp2_with fail
  (try simp only [Exit.inBlock, Exit.then])
  refine bodyPost_ret (ret_arb rfl _ _ w.heap.size _ _ _ rfl (block3 (W := W2.drew) HT2.out _ _ _)) rfl ?_
  have u3 : Upd W2 (((W2.setCell ⟨w.heap.size, 0, none⟩ (.slice va v.length vc)).setCell ⟨w.heap.size, 1, none⟩ (.int .i64 c)).setCell ⟨w.heap.size, 2, none⟩ (.bool wd)) (fun j => j = w.heap.size) :=
    (((Upd.refl W2 (fun j => j = w.heap.size)).setCell _ _ (.inr rfl)).setCell _ _ (.inr rfl)).setCell _ _ (.inr rfl)
  refine ⟨rfl, ?_, ?_⟩
  · have := u3.get HR2.out (show ¬ r = w.heap.size by omega)
    have e : ((k + 1 : Nat) : Int) = (k : Int) + 1 := by omega
    rw [e]
    exact this
  · exact (((HU.out.weaken (T := fun j => j = r) (fun _ _ h => h.elim)).then HU2.out (fun _ _ h => h)).then u3 (fun i hi h => by omega)).drew
end Go.Proofs.YtdjpkkgcoainhaaGreatDoor
/- The reader of arguments: the walk of single. -/
set_option maxRecDepth 100000
namespace Go.Proofs.YtdjpkkgcoainhaaGreatDoor
open Go.RowKit Go.Lat Go.Lib

theorem ret_vlb {fn : Func} {p q : Tmp} (h : fn.results = #[.cell p 29, .tmp q]) (tmps : Array Value) (W : World) (g : Nat) (x : Vl) (hp : tmps.getD p undef = .pointer (some ⟨g, 0, none⟩)) (hg : W.heap[g]? = some (.cells x.cs 29 (0, 0))) :
    (results fn tmps).run Tryz.prog W = .ok (.tuple #[x.val, tmps.getD q undef]) W :=
  results_ct_row h tmps W g 29 x.cs (0, 0) _ hp hg Tryz.underlying29 rfl Tryz.infoV
theorem set5_get {W : World} {r g : Nat} {o : Obj} (h : W.heap[r]? = some o) (hne : r ≠ g) (v0 v1 v2 v3 v4 : Value) : (((((W.setCell ⟨g, 0, none⟩ v0).setCell ⟨g, 1, none⟩ v1).setCell ⟨g, 2, none⟩ v2).setCell ⟨g, 3, none⟩ v3).setCell ⟨g, 4, none⟩ v4).heap[r]? = some o :=
  ((((((Upd.refl W (fun j => j = g)).setCell ⟨g, 0, none⟩ v0 (.inr rfl)).setCell ⟨g, 1, none⟩ v1 (.inr rfl)).setCell ⟨g, 2, none⟩ v2 (.inr rfl)).setCell ⟨g, 3, none⟩ v3 (.inr rfl)).setCell ⟨g, 4, none⟩ v4 (.inr rfl)).get h hne
set_option maxHeartbeats 1600000 in
theorem single_any (w0 w : World) (r : Nat) (p : Option Addr) (pc : Nat) (aa : List Ar) (s : Nat × Int) (H : RrAt w0 w r p pc aa s) (A : ArgsOk aa) :
    Calls Tryz.prog 90 #[.pointer (some ⟨r, 0, none⟩)] w fun e w' => e = .returned (.tuple #[(sglV aa s).val, .bool (sglB aa s)]) ∧ RrAt w0 w' r p pc aa (sglS aa s) ∧ Upd w w' (fun j => j = r) := by
  have hrl := lt_at H.blk
  have hle := H.le
  have hV := Vnew1 w (.cells vZero.cs 29)
  have hR := block_alloc H.blk (.cells vZero.cs 29)
  have uV : Upd w (w.alloc (.cells vZero.cs 29)) (fun j => j = r) := (Upd.refl w _).alloc _
  have HV := hide hV
  have HUV := hide uV
  have HS := hide H
  obtain ⟨k, f⟩ := s
  simp only at hR
  clear hV uV
  cases ha : aa[k]? with
  | none =>
    have hkn : k = aa.length := by
      have h1 := List.getElem?_eq_none_iff.1 ha
      have h2 : k ≤ aa.length := H.pos
      omega
    have e1 : sglV aa (k, f) = vZero := by unfold sglV; simp only [ha]
    have e2 : sglS aa (k, f) = (k, f) := by unfold sglS; simp only [ha]
    have e3 : sglB aa (k, f) = false := by unfold sglB; simp only [ha]
    rw [e1, e2, e3]
    have NX := fun W (hW : W.heap[r]? = _) => next_no W r p aa.length pc f hW
    rw [hkn] at hR
    have HR := hide hR
    unfold vZero Vl.val
    unfold arZero at NX
    clear e1 e2 e3 ha H A hR
    simp only
    go_enter Tryz.func90, Tryz.ntmps90
    go_wp2_with fail
    refine Calls.mono (NX _ HR.out) ?_
    rintro e w1 ⟨rfl, u1⟩
    have bV := block_alloc (u1.get HV.out id) (.cells #[.slice none 0 0, .int .i64 0, .bool false] 67)
    obtain ⟨v0, v1, v2, v3, v4⟩ := cells5 bV
    have vl := lt_at bV
    have fv0 := free_at bV 0
    have fv1 := free_at bV 1
    have fv2 := free_at bV 2
    have fv3 := free_at bV 3
    have fv4 := free_at bV 4
    have HBV := hide bV
    have HU1 := hide ((HUV.out.then u1 (fun _ _ h => h.elim)).alloc (.cells #[.slice none 0 0, .int .i64 0, .bool false] 67))
    have HR1 := hide (block_alloc (u1.get HR.out id) (.cells #[.slice none 0 0, .int .i64 0, .bool false] 67))
    clear bV u1 NX
    go_wp2_with fail
    (try simp only [Exit.inBlock, Exit.then])
    refine bodyPost_ret (ret_vlb rfl _ _ w.heap.size vZero rfl (block5 HBV.out _ _ _ _ _)) rfl ?_
    have uu := upd5 HU1.out (Nat.le_refl _) (.int .i64 0) (.int .i64 0) (.string ⟨#[]⟩) (.bool false) (.int .i64 0)
    refine ⟨rfl, ⟨?_, hle, upd_r HS.out.upd hle uu, HS.out.rd, HS.out.pos⟩, uu⟩
    simp only [hkn]
    exact set5_get HR1.out (by omega) _ _ _ _ _
  | some a =>
    have ham := List.mem_of_getElem? ha
    have hga := A.good a ham
    have hkl := (List.getElem?_eq_some_iff.1 ha).1
    obtain ⟨g, off, va, vc, rfl, hg0, q0, q1, q2, hv⟩ := H.rd k a ha
    have hg : g < w.heap.size := Nat.lt_of_lt_of_le hg0 H.upd.size
    have d0 := (H.upd.cell g _ hg0 id).trans q0
    have d1 := (H.upd.cell g _ hg0 id).trans q1
    have d2 := (H.upd.cell g _ hg0 id).trans q2
    clear q0 q1 q2
    have uV0 : Upd w (w.alloc (.cells vZero.cs 29)) (fun _ => False) := (Upd.refl w _).alloc _
    have NX := next_at _ r g off aa.length pc k f a va vc hR hkl A.len (by omega) ((uV0.cell g _ hg id).trans d0) ((uV0.cell g _ hg id).trans d1) ((uV0.cell g _ hg id).trans d2)
    have HRV := hide hv
    have hgr : g < r := by omega
    have e1 : sglV aa (k, f) = if a.w then vZero else a.v.getD 0 vZero := by unfold sglV; simp only [ha]
    have e2 : sglS aa (k, f) = (k + 1, if a.w then badF f 3 else f) := by unfold sglS; simp only [ha]
    have e3 : sglB aa (k, f) = !a.w := by unfold sglB; simp only [ha]
    rw [e1, e2, e3]
    have hpos : k + 1 ≤ aa.length := hkl
    have hlen : a.w = false → a.v.length = 1 := by
      intro h
      unfold goodA at hga
      rw [h] at hga
      simp at hga
      exact hga.1
    obtain ⟨va', c, wd⟩ := a
    simp only at NX hlen HRV ⊢
    clear e1 e2 e3 ha H A hR d0 d1 d2 uV0 hga ham
    cases wd with
    | true =>
      simp only [if_true, Bool.not_true]
      unfold vZero Vl.val
      simp only
      go_enter Tryz.func90, Tryz.ntmps90
      go_wp2_with fail
      refine Calls.mono NX ?_
      rintro e w1 ⟨rfl, h1, u1⟩
      have hR2 := block_alloc h1 (.cells #[.slice va va'.length vc, .int .i64 c, .bool true] 67)
      have BD := bad_any _ r _ _ _ _ f 3 hR2
      have bA := Vnew1 w1 (.cells #[.slice va va'.length vc, .int .i64 c, .bool true] 67)
      have bV := block_alloc (u1.get HV.out (show ¬ w.heap.size = r by omega)) (.cells #[.slice va va'.length vc, .int .i64 c, .bool true] 67)
      obtain ⟨a0, a1, a2⟩ := cells3 bA
      have al := lt_at bA
      have HU1 := hide ((HUV.out.then u1 (fun _ _ h => h)).alloc (.cells #[.slice va va'.length vc, .int .i64 c, .bool true] 67))
      have HBV := hide bV
      clear hR2 bA bV u1 NX h1
      go_wp2_with fail
      refine Calls.mono BD ?_
      rintro e w2 ⟨rfl, h2, u2⟩
      have bV := u2.get HBV.out (show ¬ w.heap.size = r by omega)
      obtain ⟨v0, v1, v2, v3, v4⟩ := cells5 bV
      have vl := lt_at bV
      have fv0 := free_at bV 0
      have fv1 := free_at bV 1
      have fv2 := free_at bV 2
      have fv3 := free_at bV 3
      have fv4 := free_at bV 4
      have HBV2 := hide bV
      have HU2 := hide (HU1.out.then u2 (fun _ _ h => h))
      have HR2 := hide h2
      clear bV u2 BD h2 a0 a1 a2 al
      go_wp2_with fail
      (try simp only [Exit.inBlock, Exit.then])
      refine bodyPost_ret (ret_vlb rfl _ _ w.heap.size vZero rfl (block5 HBV2.out _ _ _ _ _)) rfl ?_
      have uu := upd5 HU2.out (Nat.le_refl _) (.int .i64 0) (.int .i64 0) (.string ⟨#[]⟩) (.bool false) (.int .i64 0)
      exact ⟨rfl, ⟨set5_get HR2.out (by omega) _ _ _ _ _, hle, upd_r HS.out.upd hle uu, HS.out.rd, hpos⟩, uu⟩
    | false =>
      have hl1 := hlen rfl
      obtain ⟨x, rfl⟩ : ∃ x, va' = [x] := by
        match va', hl1 with
        | [x], _ => exact ⟨x, rfl⟩
      obtain ⟨gv, ov, rfl, hgv, x0, x1, x2, x3, x4⟩ := HRV.out 0 x rfl
      simp only [Bool.false_eq_true, if_false, Bool.not_false, List.getD_cons_zero, List.length_cons, List.length_nil, Nat.zero_add, Nat.zero_mul, Nat.add_zero] at NX x0 x1 x2 x3 x4 ⊢
      obtain ⟨xk, xn, xt, xb, xf⟩ := x
      unfold Vl.val
      simp only at x0 x1 x2 x3 x4 ⊢
      clear hlen hl1 HRV
      go_enter Tryz.func90, Tryz.ntmps90
      go_wp2_with fail
      refine Calls.mono NX ?_
      rintro e w1 ⟨rfl, h1, u1⟩
      have u01 : Upd w0 w1 (fun _ => False) := upd_r (HS.out.upd.alloc _) hle u1
      have bA := Vnew1 w1 (.cells #[.slice (some ⟨gv, ov, none⟩) 1 vc, .int .i64 c, .bool false] 67)
      have bV := block_alloc (u1.get HV.out (show ¬ w.heap.size = r by omega)) (.cells #[.slice (some ⟨gv, ov, none⟩) 1 vc, .int .i64 c, .bool false] 67)
      have u02 := u01.alloc (.cells #[.slice (some ⟨gv, ov, none⟩) 1 vc, .int .i64 c, .bool false] 67)
      have HU1 := hide ((HUV.out.then u1 (fun _ _ h => h)).alloc (.cells #[.slice (some ⟨gv, ov, none⟩) 1 vc, .int .i64 c, .bool false] 67))
      have HR1 := hide (block_alloc h1 (.cells #[.slice (some ⟨gv, ov, none⟩) 1 vc, .int .i64 c, .bool false] 67))
      have y0 := (u02.cell gv _ hgv id).trans x0
      have y1 := (u02.cell gv _ hgv id).trans x1
      have y2 := (u02.cell gv _ hgv id).trans x2
      have y3 := (u02.cell gv _ hgv id).trans x3
      have y4 := (u02.cell gv _ hgv id).trans x4
      have gl := Nat.lt_of_lt_of_le hgv u02.size
      obtain ⟨a0, a1, a2⟩ := cells3 bA
      have al := lt_at bA
      obtain ⟨v0, v1, v2, v3, v4⟩ := cells5 bV
      have vl := lt_at bV
      have fv0 := free_at bV 0
      have fv1 := free_at bV 1
      have fv2 := free_at bV 2
      have fv3 := free_at bV 3
      have fv4 := free_at bV 4
      have HBV := hide bV
      clear bA bV u1 NX h1 x0 x1 x2 x3 x4 u01 u02
      go_wp2_with fail
      (try simp only [Exit.inBlock, Exit.then])
      refine bodyPost_ret (ret_vlb rfl _ _ w.heap.size ⟨xk, xn, xt, xb, xf⟩ rfl (block5 HBV.out _ _ _ _ _)) rfl ?_
      have uu := upd5 HU1.out (Nat.le_refl _) (.int .i64 xk) (.int .i64 xn) (enS xt) (.bool xb) (.int .i64 xf)
      exact ⟨rfl, ⟨set5_get HR1.out (by omega) _ _ _ _ _, hle, upd_r HS.out.upd hle uu, HS.out.rd, hpos⟩, uu⟩
end Go.Proofs.YtdjpkkgcoainhaaGreatDoor
