/- What the program tells is what the reference tells (plain): the functions one by one, and the join. -/
import Derived.Test.YtdjpkkgcoainhaaGreatDoorJ16
import Derived.Test.YtdjpkkgcoainhaaGreatDoorJ20
/- What the program tells is what the reference tells (plain): the functions one by one, and the join. -/
set_option maxRecDepth 100000
namespace Go.Proofs.YtdjpkkgcoainhaaGreatDoor
open Go.RowKit Go.Lat Go.Lib

def finP (p : Vl × Int) : Vl := if p.2 ≠ 0 then mkE p.2 else soundV p.1
noncomputable def finR (n : List UInt8) (aa : List Ar) : Vl := if faultL aa (shapeF n) ≠ 0 then mkE (faultL aa (shapeF n)) else toldR n aa
theorem sh_match : shapeF nMATCH = [120, 108, 78] := by decide
theorem sh_index : shapeF nINDEX = [116, 110, 78] := by decide
theorem sh_lookup : shapeF nLOOKUP = [120, 108, 108] := by decide
theorem sh_v : shapeF nVLOOKUP = [120, 116, 110, 78] := by decide
theorem sh_h : shapeF nHLOOKUP = [120, 116, 110, 78] := by decide
theorem sh_choose : shapeF nCHOOSE = [110] := by decide
theorem sh_rows : shapeF nROWS = [116] := by decide
theorem sh_cols : shapeF nCOLUMNS = [116] := by decide
theorem told_match (aa : List Ar) : toldR nMATCH aa = (if placeV (wayI (wholeA aa 2 0)) ((argA aa 0).v.getD 0 vZero) (argA aa 1).v = 0 then mkE 6 else mkN (10000 * (placeV (wayI (wholeA aa 2 0)) ((argA aa 0).v.getD 0 vZero) (argA aa 1).v : Nat))) := by
  unfold toldR
  rw [if_neg (by decide), if_neg (by decide), if_neg (by decide), if_pos rfl]
theorem told_index (aa : List Ar) : toldR nINDEX aa = (if aa.length = 2 ∧ rowsA (argA aa 0) = 1 then atR (argA aa 0) 1 (wholeA aa 1 0) else atR (argA aa 0) (wholeA aa 1 0) (wholeA aa 2 1)) := by
  unfold toldR
  rw [if_neg (by decide), if_neg (by decide), if_pos rfl]
theorem told_lookup (aa : List Ar) : toldR nLOOKUP aa = (if placeV 1 ((argA aa 0).v.getD 0 vZero) (argA aa 1).v = 0 ∨ (argA aa 2).v.length < placeV 1 ((argA aa 0).v.getD 0 vZero) (argA aa 1).v then mkE 6 else soundV ((argA aa 2).v.getD (placeV 1 ((argA aa 0).v.getD 0 vZero) (argA aa 1).v - 1) vZero)) := by
  unfold toldR
  rw [if_neg (by decide), if_neg (by decide), if_neg (by decide), if_neg (by decide), if_pos rfl]
theorem fault_t (a : Ar) : faultA a 116 = 0 := by unfold faultA; simp
theorem match2 (x l : Ar) : finP (matchP [x, l]) = finR nMATCH [x, l] := by
  have t1 : ∀ f, thgS [x, l] (0, f) = (1, badF f (faultA x 120)) := fun f => thg_at rfl
  have t2 : ∀ f, lstS [x, l] (1, f) = (2, badF f (faultA l 108)) := fun f => lst_at rfl
  have t3 : ∀ f o, cntV [x, l] (2, f) o = o := fun f o => cntV_no rfl
  have t4 : ∀ f, cntS [x, l] (2, f) = (2, f) := fun f => cnt_no rfl
  have t5 : sglV [x, l] (0, 0) = if x.w then vZero else x.v.getD 0 vZero := sglV_at rfl
  unfold finP finR matchP
  simp only [t1, t2, t3, t4, t5, sh_match, faultL, told_match]
  by_cases hx : faultA x 120 = 0
  · obtain ⟨w1, w2, w3⟩ := fault_x hx
    rw [hx, w1]
    by_cases hl : faultA l 108 = 0
    · simp only [hl, badF0, ne_eq, not_true_eq_false, if_false, Bool.false_eq_true, argA, List.getD_cons_zero, List.getD_cons_succ, wholeA]
      simp only [List.getElem?_cons_succ, List.getElem?_nil]
      split
      · exact sound_mkE 6
      · rw [sound_mkN]; congr 1; omega
    · simp [hl, badF0]
  · simp [hx, badF0, badF_ne]
theorem match3 (x l m : Ar) : finP (matchP [x, l, m]) = finR nMATCH [x, l, m] := by
  have t1 : ∀ f, thgS [x, l, m] (0, f) = (1, badF f (faultA x 120)) := fun f => thg_at rfl
  have t2 : ∀ f, lstS [x, l, m] (1, f) = (2, badF f (faultA l 108)) := fun f => lst_at rfl
  have t3 : ∀ f o, cntV [x, l, m] (2, f) o = if m.w then o else wholeF (numF (m.v.getD 0 vZero)).1 := fun f o => cntV_at rfl
  have t4 : ∀ f, cntS [x, l, m] (2, f) = (3, badF f (faultA m 110)) := fun f => cnt_at rfl
  have t5 : sglV [x, l, m] (0, 0) = if x.w then vZero else x.v.getD 0 vZero := sglV_at rfl
  unfold finP finR matchP
  simp only [t1, t2, t3, t4, t5, sh_match, faultL, told_match, fault_N]
  by_cases hx : faultA x 120 = 0
  · obtain ⟨w1, w2, w3⟩ := fault_x hx
    rw [hx, w1]
    by_cases hl : faultA l 108 = 0
    · by_cases hm : faultA m 110 = 0
      · rw [fault_n hm]
        simp only [hl, hm, badF0, ne_eq, not_true_eq_false, if_false, Bool.false_eq_true, argA, List.getD_cons_zero, List.getD_cons_succ, wholeA]
        simp only [List.getElem?_cons_succ, List.getElem?_cons_zero]
        split
        · exact sound_mkE 6
        · rw [sound_mkN]; congr 1; omega
      · simp [hl, hm, badF0]
    · simp [hl, badF0, badF_ne]
  · simp [hx, badF0, badF_ne]
theorem index2 (t n : Ar) : finP (indexP [t, n]) = finR nINDEX [t, n] := by
  have t3 : ∀ f o, cntV [t, n] (1, f) o = if n.w then o else wholeF (numF (n.v.getD 0 vZero)).1 := fun f o => cntV_at rfl
  have t4 : ∀ f, cntS [t, n] (1, f) = (2, badF f (faultA n 110)) := fun f => cnt_at rfl
  have t5 : ∀ f o, cntV [t, n] (2, f) o = o := fun f o => cntV_no rfl
  have t6 : ∀ f, cntS [t, n] (2, f) = (2, f) := fun f => cnt_no rfl
  have t7 : ∀ f, sglB [t, n] (2, f) = false := fun f => sglB_no rfl
  unfold finP finR indexP
  simp only [t3, t4, t5, t6, t7, sh_index, faultL, told_index, fault_t]
  by_cases hn : faultA n 110 = 0
  · rw [fault_n hn, hn]
    simp only [badF0, ne_eq, not_true_eq_false, if_false, Bool.false_eq_true, argA, List.getD_cons_zero, wholeA, List.length_cons, List.length_nil, true_and]
    simp only [List.getElem?_cons_succ, List.getElem?_cons_zero, List.getElem?_nil]
    by_cases hr : rowsA t = 1
    · rw [if_pos hr, if_pos hr]
      exact atV_sound _ _
    · rw [if_neg hr, if_neg hr]
      exact atV_sound _ _
  · simp [hn, badF0]
theorem index3 (t n m : Ar) : finP (indexP [t, n, m]) = finR nINDEX [t, n, m] := by
  have t3 : ∀ f o, cntV [t, n, m] (1, f) o = if n.w then o else wholeF (numF (n.v.getD 0 vZero)).1 := fun f o => cntV_at rfl
  have t4 : ∀ f, cntS [t, n, m] (1, f) = (2, badF f (faultA n 110)) := fun f => cnt_at rfl
  have t5 : ∀ f o, cntV [t, n, m] (2, f) o = if m.w then o else wholeF (numF (m.v.getD 0 vZero)).1 := fun f o => cntV_at rfl
  have t6 : ∀ f, cntS [t, n, m] (2, f) = (3, badF f (faultA m 110)) := fun f => cnt_at rfl
  have t7 : ∀ f, sglB [t, n, m] (2, f) = !m.w := fun f => sglB_at rfl
  unfold finP finR indexP
  simp only [t3, t4, t5, t6, t7, sh_index, faultL, told_index, fault_t, fault_N]
  by_cases hn : faultA n 110 = 0
  · rw [fault_n hn, hn]
    by_cases hm : faultA m 110 = 0
    · rw [fault_n hm, hm]
      simp only [badF0, ne_eq, not_true_eq_false, if_false, Bool.false_eq_true, argA, List.getD_cons_zero, wholeA, List.length_cons, List.length_nil, Bool.not_false, Bool.true_eq_false, false_and]
      simp only [List.getElem?_cons_succ, List.getElem?_cons_zero]
      rw [if_neg (by omega)]
      exact atV_sound _ _
    · simp [hm, badF0]
  · simp [hn, badF0, badF_ne]
theorem beside3 (x l o : Ar) : finP (besideP [x, l, o]) = finR nLOOKUP [x, l, o] := by
  have t1 : ∀ f, thgS [x, l, o] (0, f) = (1, badF f (faultA x 120)) := fun f => thg_at rfl
  have t2 : ∀ f, lstS [x, l, o] (1, f) = (2, badF f (faultA l 108)) := fun f => lst_at rfl
  have t3 : ∀ f, lstS [x, l, o] (2, f) = (3, badF f (faultA o 108)) := fun f => lst_at rfl
  have t5 : sglV [x, l, o] (0, 0) = if x.w then vZero else x.v.getD 0 vZero := sglV_at rfl
  unfold finP finR besideP
  simp only [t1, t2, t3, t5, sh_lookup, faultL, told_lookup]
  by_cases hx : faultA x 120 = 0
  · obtain ⟨w1, w2, w3⟩ := fault_x hx
    rw [hx, w1]
    by_cases hl : faultA l 108 = 0
    · by_cases ho : faultA o 108 = 0
      · simp only [hl, ho, badF0, ne_eq, not_true_eq_false, if_false, Bool.false_eq_true, argA, List.getD_cons_zero, List.getD_cons_succ]
        split
        · exact sound_mkE 6
        · rfl
      · simp [hl, ho, badF0]
    · simp [hl, badF0, badF_ne]
  · simp [hx, badF0, badF_ne]
/-- Looking down, and across: behind the reading. -/
theorem lookup_core (u : Ar) (hg : goodA u = true) (x : Vl) (across : Bool) (k m : Int) :
    soundV (if (0 : Int) ≠ 0 ∨ k < 1 ∨ (if across = true ∧ (0 : Int) = 0 then (turnL (rowsA u).toNat (colsA u).toNat u.v, colsA u, rowsA u) else (u.v, rowsA u, colsA u)).2.2 < k then mkE 4 else
      if placeV (wayI m) x ((turnL (if across = true ∧ (0 : Int) = 0 then (turnL (rowsA u).toNat (colsA u).toNat u.v, colsA u, rowsA u) else (u.v, rowsA u, colsA u)).2.1.toNat (if across = true ∧ (0 : Int) = 0 then (turnL (rowsA u).toNat (colsA u).toNat u.v, colsA u, rowsA u) else (u.v, rowsA u, colsA u)).2.2.toNat (if across = true ∧ (0 : Int) = 0 then (turnL (rowsA u).toNat (colsA u).toNat u.v, colsA u, rowsA u) else (u.v, rowsA u, colsA u)).1).take (if across = true ∧ (0 : Int) = 0 then (turnL (rowsA u).toNat (colsA u).toNat u.v, colsA u, rowsA u) else (u.v, rowsA u, colsA u)).2.1.toNat) = 0 then mkE 6
      else atV (if across = true ∧ (0 : Int) = 0 then (turnL (rowsA u).toNat (colsA u).toNat u.v, colsA u, rowsA u) else (u.v, rowsA u, colsA u)).1 (if across = true ∧ (0 : Int) = 0 then (turnL (rowsA u).toNat (colsA u).toNat u.v, colsA u, rowsA u) else (u.v, rowsA u, colsA u)).2.1 (if across = true ∧ (0 : Int) = 0 then (turnL (rowsA u).toNat (colsA u).toNat u.v, colsA u, rowsA u) else (u.v, rowsA u, colsA u)).2.2 (placeV (wayI m) x ((turnL (if across = true ∧ (0 : Int) = 0 then (turnL (rowsA u).toNat (colsA u).toNat u.v, colsA u, rowsA u) else (u.v, rowsA u, colsA u)).2.1.toNat (if across = true ∧ (0 : Int) = 0 then (turnL (rowsA u).toNat (colsA u).toNat u.v, colsA u, rowsA u) else (u.v, rowsA u, colsA u)).2.2.toNat (if across = true ∧ (0 : Int) = 0 then (turnL (rowsA u).toNat (colsA u).toNat u.v, colsA u, rowsA u) else (u.v, rowsA u, colsA u)).1).take (if across = true ∧ (0 : Int) = 0 then (turnL (rowsA u).toNat (colsA u).toNat u.v, colsA u, rowsA u) else (u.v, rowsA u, colsA u)).2.1.toNat)) k)
    = (if k < 1 ∨ (if across = true then rowsA u else colsA u) < k then mkE 4 else if placeV (wayI m) x (firstL across (colsA u).toNat u.v) = 0 then mkE 6 else if across = true then atR u k (placeV (wayI m) x (firstL across (colsA u).toNat u.v)) else atR u (placeV (wayI m) x (firstL across (colsA u).toNat u.v)) k) := by
  obtain ⟨R, C, hR, hC, hm, h1, h2, _⟩ := goodA_dims hg
  cases across with
  | true =>
    simp only [true_and, if_true, ne_eq, not_true_eq_false, false_or]
    have e : (turnL (colsA u).toNat (rowsA u).toNat (turnL (rowsA u).toNat (colsA u).toNat u.v)).take (colsA u).toNat = firstL true (colsA u).toNat u.v := by
      rw [hR, hC]
      simp only [Int.toNat_natCast]
      rw [turnL_turnL hm, first_across (by rw [← hm]; exact Nat.le_mul_of_pos_left C h1)]
    rw [e]
    split
    · exact sound_mkE 4
    · split
      · exact sound_mkE 6
      · exact atV_turn hg _ _
  | false =>
    simp only [Bool.false_eq_true, false_and, if_false, ne_eq, not_true_eq_false, false_or]
    have e : (turnL (rowsA u).toNat (colsA u).toNat u.v).take (rowsA u).toNat = firstL false (colsA u).toNat u.v := by
      rw [hR, hC]
      simp only [Int.toNat_natCast]
      rw [first_down hm h2]
    rw [e]
    split
    · exact sound_mkE 4
    · split
      · exact sound_mkE 6
      · exact atV_sound _ _
theorem told_v (aa : List Ar) : toldR nVLOOKUP aa = (if wholeA aa 2 0 < 1 ∨ (if false = true then rowsA (argA aa 1) else colsA (argA aa 1)) < wholeA aa 2 0 then mkE 4 else if placeV (wayI (wholeA aa 3 0)) ((argA aa 0).v.getD 0 vZero) (firstL false (colsA (argA aa 1)).toNat (argA aa 1).v) = 0 then mkE 6 else if false = true then atR (argA aa 1) (wholeA aa 2 0) (placeV (wayI (wholeA aa 3 0)) ((argA aa 0).v.getD 0 vZero) (firstL false (colsA (argA aa 1)).toNat (argA aa 1).v)) else atR (argA aa 1) (placeV (wayI (wholeA aa 3 0)) ((argA aa 0).v.getD 0 vZero) (firstL false (colsA (argA aa 1)).toNat (argA aa 1).v)) (wholeA aa 2 0)) := by
  have e : decide (nVLOOKUP = nHLOOKUP) = false := by decide
  unfold toldR
  rw [if_neg (by decide), if_neg (by decide), if_neg (by decide), if_neg (by decide), if_neg (by decide)]
  simp only [e]
theorem told_h (aa : List Ar) : toldR nHLOOKUP aa = (if wholeA aa 2 0 < 1 ∨ (if true = true then rowsA (argA aa 1) else colsA (argA aa 1)) < wholeA aa 2 0 then mkE 4 else if placeV (wayI (wholeA aa 3 0)) ((argA aa 0).v.getD 0 vZero) (firstL true (colsA (argA aa 1)).toNat (argA aa 1).v) = 0 then mkE 6 else if true = true then atR (argA aa 1) (wholeA aa 2 0) (placeV (wayI (wholeA aa 3 0)) ((argA aa 0).v.getD 0 vZero) (firstL true (colsA (argA aa 1)).toNat (argA aa 1).v)) else atR (argA aa 1) (placeV (wayI (wholeA aa 3 0)) ((argA aa 0).v.getD 0 vZero) (firstL true (colsA (argA aa 1)).toNat (argA aa 1).v)) (wholeA aa 2 0)) := by
  unfold toldR
  rw [if_neg (by decide), if_neg (by decide), if_neg (by decide), if_neg (by decide), if_neg (by decide)]
  simp only [decide_true, if_true]
def nVH (across : Bool) : List UInt8 := if across then nHLOOKUP else nVLOOKUP
theorem told_vh (across : Bool) (aa : List Ar) : toldR (nVH across) aa = (if wholeA aa 2 0 < 1 ∨ (if across = true then rowsA (argA aa 1) else colsA (argA aa 1)) < wholeA aa 2 0 then mkE 4 else if placeV (wayI (wholeA aa 3 0)) ((argA aa 0).v.getD 0 vZero) (firstL across (colsA (argA aa 1)).toNat (argA aa 1).v) = 0 then mkE 6 else if across = true then atR (argA aa 1) (wholeA aa 2 0) (placeV (wayI (wholeA aa 3 0)) ((argA aa 0).v.getD 0 vZero) (firstL across (colsA (argA aa 1)).toNat (argA aa 1).v)) else atR (argA aa 1) (placeV (wayI (wholeA aa 3 0)) ((argA aa 0).v.getD 0 vZero) (firstL across (colsA (argA aa 1)).toNat (argA aa 1).v)) (wholeA aa 2 0)) := by
  cases across with
  | true => exact told_h aa
  | false => exact told_v aa
theorem sh_vh (across : Bool) : shapeF (nVH across) = [120, 116, 110, 78] := by cases across <;> decide
theorem lookup3 (x u n : Ar) (hg : goodA u = true) (across : Bool) : finP (lookupP [x, u, n] across) = finR (nVH across) [x, u, n] := by
  have t1 : ∀ f, thgS [x, u, n] (0, f) = (1, badF f (faultA x 120)) := fun f => thg_at rfl
  have t3 : ∀ f o, cntV [x, u, n] (2, f) o = if n.w then o else wholeF (numF (n.v.getD 0 vZero)).1 := fun f o => cntV_at rfl
  have t4 : ∀ f, cntS [x, u, n] (2, f) = (3, badF f (faultA n 110)) := fun f => cnt_at rfl
  have t5 : ∀ f o, cntV [x, u, n] (3, f) o = o := fun f o => cntV_no rfl
  have t6 : ∀ f, cntS [x, u, n] (3, f) = (3, f) := fun f => cnt_no rfl
  have t7 : sglV [x, u, n] (0, 0) = if x.w then vZero else x.v.getD 0 vZero := sglV_at rfl
  have t8 : argA [x, u, n] 1 = u := rfl
  unfold finP finR lookupP
  simp only [t1, t3, t4, t5, t6, t7, t8, sh_vh, faultL, told_vh, fault_t]
  by_cases hx : faultA x 120 = 0
  · obtain ⟨w1, w2, w3⟩ := fault_x hx
    rw [hx, w1]
    by_cases hn : faultA n 110 = 0
    · rw [fault_n hn, hn]
      have e1 : wholeA [x, u, n] 2 0 = wholeF (numF (n.v.getD 0 vZero)).1 := rfl
      have e2 : wholeA [x, u, n] 3 0 = 0 := rfl
      have e3 : argA [x, u, n] 0 = x := rfl
      rw [e1, e2, e3]
      have key := lookup_core u hg (x.v.getD 0 vZero) across (wholeF (numF (n.v.getD 0 vZero)).1) 0
      simp only [badF0, ne_eq, not_true_eq_false, if_false, false_or, and_true, Bool.false_eq_true] at key ⊢
      exact key
    · simp [hn, badF0]
  · simp [hx, badF0, badF_ne]
theorem lookup4 (x u n m : Ar) (hg : goodA u = true) (across : Bool) : finP (lookupP [x, u, n, m] across) = finR (nVH across) [x, u, n, m] := by
  have t1 : ∀ f, thgS [x, u, n, m] (0, f) = (1, badF f (faultA x 120)) := fun f => thg_at rfl
  have t3 : ∀ f o, cntV [x, u, n, m] (2, f) o = if n.w then o else wholeF (numF (n.v.getD 0 vZero)).1 := fun f o => cntV_at rfl
  have t4 : ∀ f, cntS [x, u, n, m] (2, f) = (3, badF f (faultA n 110)) := fun f => cnt_at rfl
  have t5 : ∀ f o, cntV [x, u, n, m] (3, f) o = if m.w then o else wholeF (numF (m.v.getD 0 vZero)).1 := fun f o => cntV_at rfl
  have t6 : ∀ f, cntS [x, u, n, m] (3, f) = (4, badF f (faultA m 110)) := fun f => cnt_at rfl
  have t7 : sglV [x, u, n, m] (0, 0) = if x.w then vZero else x.v.getD 0 vZero := sglV_at rfl
  have t8 : argA [x, u, n, m] 1 = u := rfl
  unfold finP finR lookupP
  simp only [t1, t3, t4, t5, t6, t7, t8, sh_vh, faultL, told_vh, fault_t, fault_N]
  by_cases hx : faultA x 120 = 0
  · obtain ⟨w1, w2, w3⟩ := fault_x hx
    rw [hx, w1]
    by_cases hn : faultA n 110 = 0
    · rw [fault_n hn, hn]
      by_cases hm : faultA m 110 = 0
      · rw [fault_n hm, hm]
        have e1 : wholeA [x, u, n, m] 2 0 = wholeF (numF (n.v.getD 0 vZero)).1 := rfl
        have e2 : wholeA [x, u, n, m] 3 0 = wholeF (numF (m.v.getD 0 vZero)).1 := rfl
        have e3 : argA [x, u, n, m] 0 = x := rfl
        rw [e1, e2, e3]
        have key := lookup_core u hg (x.v.getD 0 vZero) across (wholeF (numF (n.v.getD 0 vZero)).1) (wholeF (numF (m.v.getD 0 vZero)).1)
        simp only [badF0, ne_eq, not_true_eq_false, if_false, false_or, and_true, Bool.false_eq_true] at key ⊢
        exact key
      · simp [hm, badF0]
    · simp [hn, badF0, badF_ne]
  · simp [hx, badF0, badF_ne]
theorem choose_eq (a : Ar) (rest : List Ar) : finP (chooseP (a :: rest)) = (if faultA a 110 ≠ 0 then mkE (faultA a 110) else if wholeA (a :: rest) 0 0 < 1 ∨ ((a :: rest).length : Int) ≤ wholeA (a :: rest) 0 0 then mkE 3
    else if faultA (argA (a :: rest) (wholeA (a :: rest) 0 0).toNat) 120 ≠ 0 then mkE (faultA (argA (a :: rest) (wholeA (a :: rest) 0 0).toNat) 120) else (argA (a :: rest) (wholeA (a :: rest) 0 0).toNat).v.getD 0 vZero) := by
  have t3 : ∀ f o, cntV (a :: rest) (0, f) o = if a.w then o else wholeF (numF (a.v.getD 0 vZero)).1 := fun f o => cntV_at rfl
  have t4 : ∀ f, cntS (a :: rest) (0, f) = (1, badF f (faultA a 110)) := fun f => cnt_at rfl
  unfold finP chooseP
  simp only [t3, t4, badF0]
  by_cases hn : faultA a 110 = 0
  · rw [fault_n hn, hn]
    have e1 : wholeA (a :: rest) 0 0 = wholeF (numF (a.v.getD 0 vZero)).1 := rfl
    rw [e1]
    generalize wholeF (numF (a.v.getD 0 vZero)).1 = k
    simp only [ne_eq, not_true_eq_false, Bool.false_eq_true, if_false, List.drop_succ_cons, List.drop_zero, List.length_cons]
    by_cases hk : k < 1 ∨ (rest.length : Int) < k
    · rw [if_pos hk, if_pos (show k < 1 ∨ ((rest.length + 1 : Nat) : Int) ≤ k by omega)]
      exact sound_mkE 3
    · rw [if_neg hk, if_neg (show ¬ (k < 1 ∨ ((rest.length + 1 : Nat) : Int) ≤ k) by omega)]
      obtain ⟨j, rfl⟩ : ∃ j : Nat, k = j + 1 := ⟨(k - 1).toNat, by omega⟩
      have e2 : ((j : Int) + 1 - 1).toNat = j := by omega
      have e3 : ((j : Int) + 1).toNat = j + 1 := by omega
      rw [e2, e3]
      have e4 : argA (a :: rest) (j + 1) = argA rest j := by unfold argA; rfl
      rw [e4]
      generalize argA rest j = b
      have t1 : thgS [b] (0, 0) = (1, faultA b 120) := thg_at rfl
      have t2 : sglV [b] (0, 0) = if b.w then vZero else b.v.getD 0 vZero := sglV_at rfl
      rw [t1, t2]
      simp only
      by_cases hb : faultA b 120 = 0
      · obtain ⟨w1, w2, w3⟩ := fault_x hb
        rw [hb, w1]
        simp only [not_true_eq_false, Bool.false_eq_true, if_false]
        exact sound_good w2
      · simp only [hb, not_false_eq_true, if_true]
        exact sound_mkE _
  · rw [if_pos hn, if_pos hn]
theorem callP_fin {n : List UInt8} {aa : List Ar} (h0 : (takesF n).2 ≠ 0) (h1 : ¬ ((aa.length : Int) < (takesF n).1 ∨ (takesF n).2 < aa.length)) (hg : aa.all goodA = true) : callP n aa = (finP (toldP n aa), true) := by
  unfold callP finP
  rw [if_neg h0, if_neg (by rw [hg]; simp; omega)]
  split <;> rfl
theorem callP_few {n : List UInt8} {aa : List Ar} (h0 : (takesF n).2 ≠ 0) (h1 : (aa.length : Int) < (takesF n).1 ∨ (takesF n).2 < aa.length ∨ aa.all goodA = false) : callP n aa = (mkE 3, true) := by
  unfold callP
  rw [if_neg h0, if_pos h1]
theorem callR_fin {n : List UInt8} {aa : List Ar} (h0 : shapeF n ≠ []) (hn : n ≠ nCHOOSE) (h1 : ¬ (aa.length < (shapeF n).length ∧ (shapeF n).getD aa.length 0 ≠ 78) ∧ ¬ (shapeF n).length < aa.length) (hg : aa.all goodA = true) : callR n aa = (finR n aa, true) := by
  unfold callR finR
  rw [if_neg h0, if_neg (by rw [if_neg hn]; simp only [Bool.or_eq_true, Bool.and_eq_true, decide_eq_true_eq]; exact fun h => h.elim h1.1 h1.2), if_neg (by rw [hg]; simp), if_neg hn]
  split <;> rfl
theorem callR_few {n : List UInt8} {aa : List Ar} (h0 : shapeF n ≠ []) (hn : n ≠ nCHOOSE) (h1 : (aa.length < (shapeF n).length ∧ (shapeF n).getD aa.length 0 ≠ 78) ∨ (shapeF n).length < aa.length ∨ aa.all goodA = false) : callR n aa = (mkE 3, true) := by
  unfold callR
  rw [if_neg h0]
  by_cases h2 : (aa.length < (shapeF n).length ∧ (shapeF n).getD aa.length 0 ≠ 78) ∨ (shapeF n).length < aa.length
  · rw [if_pos (by rw [if_neg hn]; simp only [Bool.or_eq_true, Bool.and_eq_true, decide_eq_true_eq]; exact h2)]
  · rw [if_neg (by rw [if_neg hn]; simp only [Bool.or_eq_true, Bool.and_eq_true, decide_eq_true_eq]; exact h2), if_pos (by rcases h1 with h | h | h; exact absurd (.inl h) h2; exact absurd (.inr h) h2; exact h)]
/-- Whatever is called with whatever arguments. -/
theorem call_eq (n : List UInt8) (aa : List Ar) : callP n aa = callR n aa := by
  by_cases hg : aa.all goodA = false
  · by_cases ht : (takesF n).2 = 0
    · have hs : shapeF n = [] := by
        unfold takesF at ht
        unfold shapeF
        repeat' split at ht
        all_goals first | (cases ht; done) | simp_all
      unfold callP callR
      rw [if_pos ht, if_pos hs]
    · have hs : shapeF n ≠ [] := by
        unfold takesF at ht
        unfold shapeF
        repeat' split
        all_goals first | (simp; done) | simp_all
      rw [callP_few ht (.inr (.inr hg))]
      by_cases hc : n = nCHOOSE
      · unfold callR
        rw [if_neg hs, if_pos hg]
        exact (ite_self _).symm
      · rw [callR_few hs hc (.inr (.inr hg))]
  · have hg : aa.all goodA = true := by simpa using hg
    by_cases e1 : n = nMATCH
    · subst e1
      have et : takesF nMATCH = (2, 3) := by decide
      match aa, hg with
      | [], _ => rw [callP_few (by rw [et]; decide) (by rw [et]; exact .inl (by decide)), callR_few (by rw [sh_match]; decide) (by decide) (by rw [sh_match]; exact .inl (by simp))]
      | [a], _ => rw [callP_few (by rw [et]; decide) (by rw [et]; exact .inl (by simp)), callR_few (by rw [sh_match]; decide) (by decide) (by rw [sh_match]; exact .inl (by simp))]
      | [a, b], hg => rw [callP_fin (by rw [et]; decide) (by rw [et]; simp) hg, callR_fin (by rw [sh_match]; decide) (by decide) (by rw [sh_match]; simp) hg, ← match2]; rfl
      | [a, b, c], hg => rw [callP_fin (by rw [et]; decide) (by rw [et]; simp) hg, callR_fin (by rw [sh_match]; decide) (by decide) (by rw [sh_match]; simp) hg, ← match3]; rfl
      | a :: b :: c :: d :: r, _ => rw [callP_few (by rw [et]; decide) (by rw [et]; exact .inr (.inl (by simp; omega))), callR_few (by rw [sh_match]; decide) (by decide) (by rw [sh_match]; exact .inr (.inl (by simp)))]
    · by_cases e2 : n = nINDEX
      · subst e2
        have et : takesF nINDEX = (2, 3) := by decide
        match aa, hg with
        | [], _ => rw [callP_few (by rw [et]; decide) (by rw [et]; exact .inl (by decide)), callR_few (by rw [sh_index]; decide) (by decide) (by rw [sh_index]; exact .inl (by simp))]
        | [a], _ => rw [callP_few (by rw [et]; decide) (by rw [et]; exact .inl (by simp)), callR_few (by rw [sh_index]; decide) (by decide) (by rw [sh_index]; exact .inl (by simp))]
        | [a, b], hg => rw [callP_fin (by rw [et]; decide) (by rw [et]; simp) hg, callR_fin (by rw [sh_index]; decide) (by decide) (by rw [sh_index]; simp) hg, ← index2]; rfl
        | [a, b, c], hg => rw [callP_fin (by rw [et]; decide) (by rw [et]; simp) hg, callR_fin (by rw [sh_index]; decide) (by decide) (by rw [sh_index]; simp) hg, ← index3]; rfl
        | a :: b :: c :: d :: r, _ => rw [callP_few (by rw [et]; decide) (by rw [et]; exact .inr (.inl (by simp; omega))), callR_few (by rw [sh_index]; decide) (by decide) (by rw [sh_index]; exact .inr (.inl (by simp)))]
      · by_cases e3 : n = nLOOKUP
        · subst e3
          have et : takesF nLOOKUP = (3, 3) := by decide
          match aa, hg with
          | [], _ => rw [callP_few (by rw [et]; decide) (by rw [et]; exact .inl (by decide)), callR_few (by rw [sh_lookup]; decide) (by decide) (by rw [sh_lookup]; exact .inl (by simp))]
          | [a], _ => rw [callP_few (by rw [et]; decide) (by rw [et]; exact .inl (by simp)), callR_few (by rw [sh_lookup]; decide) (by decide) (by rw [sh_lookup]; exact .inl (by simp))]
          | [a, b], _ => rw [callP_few (by rw [et]; decide) (by rw [et]; exact .inl (by simp)), callR_few (by rw [sh_lookup]; decide) (by decide) (by rw [sh_lookup]; exact .inl (by simp))]
          | [a, b, c], hg => rw [callP_fin (by rw [et]; decide) (by rw [et]; simp) hg, callR_fin (by rw [sh_lookup]; decide) (by decide) (by rw [sh_lookup]; simp) hg, ← beside3]; rfl
          | a :: b :: c :: d :: r, _ => rw [callP_few (by rw [et]; decide) (by rw [et]; exact .inr (.inl (by simp; omega))), callR_few (by rw [sh_lookup]; decide) (by decide) (by rw [sh_lookup]; exact .inr (.inl (by simp)))]
        · by_cases e4 : n = nVLOOKUP ∨ n = nHLOOKUP
          · obtain ⟨ac, rfl⟩ : ∃ ac, n = nVH ac := by
              rcases e4 with rfl | rfl
              · exact ⟨false, rfl⟩
              · exact ⟨true, rfl⟩
            have et : takesF (nVH ac) = (3, 4) := by cases ac <;> decide
            have hc : nVH ac ≠ nCHOOSE := by cases ac <;> decide
            have tp : ∀ aa, toldP (nVH ac) aa = lookupP aa ac := by
              intro aa
              cases ac
              · rfl
              · rfl
            match aa, hg with
            | [], _ => rw [callP_few (by rw [et]; decide) (by rw [et]; exact .inl (by decide)), callR_few (by rw [sh_vh]; decide) hc (by rw [sh_vh]; exact .inl (by simp))]
            | [a], _ => rw [callP_few (by rw [et]; decide) (by rw [et]; exact .inl (by simp)), callR_few (by rw [sh_vh]; decide) hc (by rw [sh_vh]; exact .inl (by simp))]
            | [a, b], _ => rw [callP_few (by rw [et]; decide) (by rw [et]; exact .inl (by simp)), callR_few (by rw [sh_vh]; decide) hc (by rw [sh_vh]; exact .inl (by simp))]
            | [a, b, c], hg =>
              have hb : goodA b = true := by simp at hg; exact hg.2.1
              rw [callP_fin (by rw [et]; decide) (by rw [et]; simp) hg, callR_fin (by rw [sh_vh]; decide) hc (by rw [sh_vh]; simp) hg, ← lookup3 _ _ _ hb, tp]
            | [a, b, c, d], hg =>
              have hb : goodA b = true := by simp at hg; exact hg.2.1
              rw [callP_fin (by rw [et]; decide) (by rw [et]; simp) hg, callR_fin (by rw [sh_vh]; decide) hc (by rw [sh_vh]; simp) hg, ← lookup4 _ _ _ _ hb, tp]
            | a :: b :: c :: d :: e :: r, _ => rw [callP_few (by rw [et]; decide) (by rw [et]; exact .inr (.inl (by simp; omega))), callR_few (by rw [sh_vh]; decide) hc (by rw [sh_vh]; exact .inr (.inl (by simp)))]
          · by_cases e5 : n = nCHOOSE
            · subst e5
              have et : takesF nCHOOSE = (2, 32) := by decide
              by_cases hl : aa.length < 2 ∨ 32 < aa.length
              · rw [callP_few (by rw [et]; decide) (by rw [et]; simp only; omega)]
                unfold callR
                rw [if_neg (by rw [sh_choose]; decide), if_pos (by rw [if_pos rfl]; simpa using hl)]
              · match aa, hg, hl with
                | [], _, hl => simp at hl
                | a :: r, hg, hl =>
                  rw [callP_fin (by rw [et]; decide) (by rw [et]; simp only; omega) hg]
                  have e : toldP nCHOOSE (a :: r) = chooseP (a :: r) := by rfl
                  have ef : faultL (a :: r) [110] = faultA a 110 := by
                    have : faultL r [] = 0 := by cases r <;> rfl
                    simp only [faultL, this]
                    split
                    · rfl
                    · rename_i h; simp at h; exact h.symm
                  have hR : callR nCHOOSE (a :: r) = ((if faultA a 110 ≠ 0 then mkE (faultA a 110) else if wholeA (a :: r) 0 0 < 1 ∨ ((a :: r).length : Int) ≤ wholeA (a :: r) 0 0 then mkE 3
                      else if faultA (argA (a :: r) (wholeA (a :: r) 0 0).toNat) 120 ≠ 0 then mkE (faultA (argA (a :: r) (wholeA (a :: r) 0 0).toNat) 120) else (argA (a :: r) (wholeA (a :: r) 0 0).toNat).v.getD 0 vZero), true) := by
                    unfold callR
                    rw [if_neg (by rw [sh_choose]; decide), if_neg (by rw [if_pos rfl]; simpa using hl), if_neg (by rw [hg]; simp), sh_choose, if_pos rfl, ef]
                    split
                    · rfl
                    · simp only
                      split
                      · rfl
                      · split
                        · rfl
                        · rfl
                  rw [e, choose_eq, hR]
            · by_cases e6 : n = nROWS
              · subst e6
                have et : takesF nROWS = (1, 1) := by decide
                match aa, hg with
                | [], _ => rw [callP_few (by rw [et]; decide) (by rw [et]; exact .inl (by decide)), callR_few (by rw [sh_rows]; decide) (by decide) (by rw [sh_rows]; exact .inl (by simp))]
                | [a], hg =>
                  rw [callP_fin (by rw [et]; decide) (by rw [et]; simp) hg, callR_fin (by rw [sh_rows]; decide) (by decide) (by rw [sh_rows]; simp) hg]
                  have e1 : toldP nROWS [a] = (mkN (rowsA a * 10000), 0) := by rfl
                  have e2 : toldR nROWS [a] = mkN (10000 * rowsA a) := by rfl
                  unfold finP finR
                  rw [e1, e2, sh_rows]
                  simp only [faultL, fault_t]
                  rw [if_neg (by decide), if_neg (by decide), sound_mkN, Int.mul_comm]
                | a :: b :: r, _ => rw [callP_few (by rw [et]; decide) (by rw [et]; exact .inr (.inl (by simp; omega))), callR_few (by rw [sh_rows]; decide) (by decide) (by rw [sh_rows]; exact .inr (.inl (by simp)))]
              · by_cases e7 : n = nCOLUMNS
                · subst e7
                  have et : takesF nCOLUMNS = (1, 1) := by decide
                  match aa, hg with
                  | [], _ => rw [callP_few (by rw [et]; decide) (by rw [et]; exact .inl (by decide)), callR_few (by rw [sh_cols]; decide) (by decide) (by rw [sh_cols]; exact .inl (by simp))]
                  | [a], hg =>
                    rw [callP_fin (by rw [et]; decide) (by rw [et]; simp) hg, callR_fin (by rw [sh_cols]; decide) (by decide) (by rw [sh_cols]; simp) hg]
                    have e1 : toldP nCOLUMNS [a] = (mkN (colsA a * 10000), 0) := by rfl
                    have e2 : toldR nCOLUMNS [a] = mkN (10000 * colsA a) := by rfl
                    unfold finP finR
                    rw [e1, e2, sh_cols]
                    simp only [faultL, fault_t]
                    rw [if_neg (by decide), if_neg (by decide), sound_mkN, Int.mul_comm]
                  | a :: b :: r, _ => rw [callP_few (by rw [et]; decide) (by rw [et]; exact .inr (.inl (by simp; omega))), callR_few (by rw [sh_cols]; decide) (by decide) (by rw [sh_cols]; exact .inr (.inl (by simp)))]
                · have h4 : n ≠ nVLOOKUP ∧ n ≠ nHLOOKUP := ⟨fun h => e4 (.inl h), fun h => e4 (.inr h)⟩
                  have ht : (takesF n).2 = 0 := by
                    unfold takesF
                    rw [if_neg e6, if_neg e7, if_neg e1, if_neg e2, if_neg e3, if_neg h4.1, if_neg h4.2, if_neg e5]
                  have hs : shapeF n = [] := by
                    unfold shapeF
                    rw [if_neg e6, if_neg e7, if_neg e1, if_neg e2, if_neg e3, if_neg h4.1, if_neg h4.2, if_neg e5]
                  unfold callP callR
                  rw [if_pos ht, if_pos hs]
end Go.Proofs.YtdjpkkgcoainhaaGreatDoor
/- The walk of looks.Call. -/
set_option maxRecDepth 100000
namespace Go.Proofs.YtdjpkkgcoainhaaGreatDoor
open Go.RowKit Go.Lat Go.Lib

set_option maxHeartbeats 6400000 in
theorem Call_any (w : World) (n : List UInt8) (p : Option Addr) (pc : Nat) (aa : List Ar) (hr : RdA w p aa) (ho : oksA aa) (hl : aa.length ≤ 1000) (hpc : aa.length ≤ pc) :
    Calls Tryz.prog 14 #[enS n, .slice p aa.length pc] w fun e w' => e = .returned (.tuple #[(callP n aa).1.val, .bool (callP n aa).2]) ∧ Upd w w' (fun _ => False) := by
  have TK := fun w => takes_any w n
  have HU0 : Hid (Upd w (w.alloc (.cells #[.int .i64 0, .int .i64 0, .string ⟨#[]⟩, .bool false, .int .i64 0] 29)) (fun _ => False)) := hide ((Upd.refl w _).alloc _)
  have HV0 := hide (Vnew1 w (.cells #[.int .i64 0, .int .i64 0, .string ⟨#[]⟩, .bool false, .int .i64 0] 29))
  by_cases h0 : (takesF n).2 = 0
  · have e0 : callP n aa = (⟨0, 0, [], false, 0⟩, false) := by unfold callP; rw [if_pos h0]; rfl
    rw [e0]
    unfold Vl.val
    simp only
    obtain ⟨⟨a, b⟩, ht⟩ : ∃ t, takesF n = t := ⟨_, rfl⟩
    rw [ht] at TK h0
    obtain rfl : b = 0 := h0
    simp only at TK
    clear ht e0 hr ho
    go_enter Tryz.func14, Tryz.ntmps14
    go_wp2_with fail
    refine Calls.mono (TK _) ?_
    rintro e w1 ⟨rfl, hw⟩
    obtain rfl := hw.symm
    clear hw TK
    go_wp2_with fail
    (try simp only [Exit.inBlock, Exit.then])
    refine bodyPost_ret (ret_vlb rfl _ _ w.heap.size ⟨0, 0, [], false, 0⟩ rfl (Vnew1 w _)) rfl ?_
    exact ⟨rfl, HU0.out⟩
  · by_cases hbad : (aa.length : Int) < (takesF n).1 ∨ (takesF n).2 < aa.length ∨ aa.all goodA = false
    · rw [callP_few h0 hbad]
      have EA := fun w => E_any w 3
      have CG := fun W h => ContG_any W p pc aa h ho hl
      obtain ⟨⟨k0, n0, t0, b0, e0'⟩, hev⟩ : ∃ v, mkE 3 = v := ⟨_, rfl⟩
      rw [hev] at EA
      simp only [hev]
      unfold Vl.val at EA ⊢
      simp only at EA ⊢
      obtain ⟨⟨a, b⟩, ht⟩ : ∃ t, takesF n = t := ⟨_, rfl⟩
      rw [ht] at TK h0 hbad
      simp only at TK h0 hbad
      obtain ⟨q, hq⟩ : ∃ q, aa.all goodA = q := ⟨_, rfl⟩
      rw [hq] at CG hbad
      have b1 : (b == 0) = false := by simpa using h0
      have hcc : (aa.length : Int) < a ∨ ¬ (aa.length : Int) < a ∧ b < (aa.length : Int) ∨ ¬ (aa.length : Int) < a ∧ ¬ b < (aa.length : Int) ∧ q = false := by
        by_cases q1 : (aa.length : Int) < a
        · exact .inl q1
        · by_cases q2 : b < (aa.length : Int)
          · exact .inr (.inl ⟨q1, q2⟩)
          · exact .inr (.inr ⟨q1, q2, hbad.elim (fun h => absurd h q1) (fun h => h.elim (fun h => absurd h q2) id)⟩)
      have HR := hide hr
      clear ht hev h0 hq hbad hr ho
      rcases hcc with q1 | ⟨q1, q2⟩ | ⟨q1, q2, rfl⟩
      · go_enter Tryz.func14, Tryz.ntmps14
        go_wp2_with fail
        refine Calls.mono (TK _) ?_
        rintro e w1 ⟨rfl, hw⟩
        obtain rfl := hw.symm
        clear hw TK
        go_wp2_with fail
        refine Calls.mono (EA _) ?_
        rintro e w7 ⟨rfl, u7⟩
        have bV := u7.get HV0.out id
        have HU7 := hide (HU0.out.then u7 (fun _ _ => id))
        obtain ⟨v0, v1, v2, v3, v4⟩ := cells5 bV
        have vl := lt_at bV
        have fv0 := free_at bV 0
        have fv1 := free_at bV 1
        have fv2 := free_at bV 2
        have fv3 := free_at bV 3
        have fv4 := free_at bV 4
        have HBV := hide bV
        clear bV u7 EA
        go_wp2_with fail
        (try simp only [Exit.inBlock, Exit.then])
        refine bodyPost_ret (ret_vlb rfl _ _ w.heap.size ⟨k0, n0, t0, b0, e0'⟩ rfl (block5 (x := vZero) HBV.out _ _ _ _ _)) rfl ?_
        exact ⟨rfl, upd5 HU7.out (Nat.le_refl _) _ _ _ _ _⟩
      · go_enter Tryz.func14, Tryz.ntmps14
        go_wp2_with fail
        refine Calls.mono (TK _) ?_
        rintro e w1 ⟨rfl, hw⟩
        obtain rfl := hw.symm
        clear hw TK
        go_wp2_with fail
        refine Calls.mono (EA _) ?_
        rintro e w7 ⟨rfl, u7⟩
        have bV := u7.get HV0.out id
        have HU7 := hide (HU0.out.then u7 (fun _ _ => id))
        obtain ⟨v0, v1, v2, v3, v4⟩ := cells5 bV
        have vl := lt_at bV
        have fv0 := free_at bV 0
        have fv1 := free_at bV 1
        have fv2 := free_at bV 2
        have fv3 := free_at bV 3
        have fv4 := free_at bV 4
        have HBV := hide bV
        clear bV u7 EA
        go_wp2_with fail
        (try simp only [Exit.inBlock, Exit.then])
        refine bodyPost_ret (ret_vlb rfl _ _ w.heap.size ⟨k0, n0, t0, b0, e0'⟩ rfl (block5 (x := vZero) HBV.out _ _ _ _ _)) rfl ?_
        exact ⟨rfl, upd5 HU7.out (Nat.le_refl _) _ _ _ _ _⟩
      · go_enter Tryz.func14, Tryz.ntmps14
        go_wp2_with fail
        refine Calls.mono (TK _) ?_
        rintro e w1 ⟨rfl, hw⟩
        obtain rfl := hw.symm
        clear hw TK
        go_wp2_with fail
        refine Calls.mono (CG _ (HR.out.upd HU0.out)) ?_
        rintro e w2 ⟨rfl, u2⟩
        have HU2 := hide (HU0.out.then u2 (fun _ _ => id))
        have HV2 := hide (u2.get HV0.out id)
        clear u2 CG
        go_wp2_with fail
        refine Calls.mono (EA _) ?_
        rintro e w7 ⟨rfl, u7⟩
        have bV := u7.get HV2.out id
        have HU7 := hide (HU2.out.then u7 (fun _ _ => id))
        obtain ⟨v0, v1, v2, v3, v4⟩ := cells5 bV
        have vl := lt_at bV
        have fv0 := free_at bV 0
        have fv1 := free_at bV 1
        have fv2 := free_at bV 2
        have fv3 := free_at bV 3
        have fv4 := free_at bV 4
        have HBV := hide bV
        clear bV u7 EA
        go_wp2_with fail
        (try simp only [Exit.inBlock, Exit.then])
        refine bodyPost_ret (ret_vlb rfl _ _ w.heap.size ⟨k0, n0, t0, b0, e0'⟩ rfl (block5 (x := vZero) HBV.out _ _ _ _ _)) rfl ?_
        exact ⟨rfl, upd5 HU7.out (Nat.le_refl _) _ _ _ _ _⟩
    · have hall : aa.all goodA = true := by
        cases h : aa.all goodA with
        | true => rfl
        | false => exact absurd (.inr (.inr h)) hbad
      have hcnt : ¬ ((aa.length : Int) < (takesF n).1 ∨ (takesF n).2 < aa.length) := fun h => hbad (h.elim .inl (fun h => .inr (.inl h)))
      rw [callP_fin h0 hcnt hall]
      have A : ArgsOk aa := ⟨hl, fun x hx => by rw [List.all_eq_true] at hall; exact hall x hx, ho⟩
      have CG := fun W h => ContG_any W p pc aa h ho hl
      rw [hall] at CG
      have TO := fun w0 W r h => toldL_any w0 W r p pc aa n h A hpc h0 (by omega)
      obtain ⟨⟨y, f⟩, hy⟩ : ∃ y, toldP n aa = y := ⟨_, rfl⟩
      rw [hy] at TO ⊢
      obtain ⟨⟨k0, n0, t0, b0, e0'⟩, hres⟩ : ∃ v, finP (y, f) = v := ⟨_, rfl⟩
      rw [hres]
      have HRES := hide hres
      have hyo : Hid (y.ok) := hide (by have := toldP_ok n A; rw [hy] at this; exact this)
      obtain ⟨⟨a, b⟩, ht⟩ : ∃ t, takesF n = t := ⟨_, rfl⟩
      rw [ht] at TK h0 hcnt
      simp only at TK h0 hcnt
      have b1 : (b == 0) = false := by simpa using h0
      have q1 : ¬ (aa.length : Int) < a := fun h => hcnt (.inl h)
      have q2 : ¬ b < (aa.length : Int) := fun h => hcnt (.inr h)
      have HR := hide hr
      unfold RdPost at TO
      unfold Vl.val at TO ⊢
      simp only [Bool.not_true] at TO CG ⊢
      obtain ⟨yk, yn, yt, yb, yf⟩ := y
      simp only at TO
      have HTO := hide TO
      clear hy hres ht h0 hcnt hbad hall A hr ho TO
      go_enter Tryz.func14, Tryz.ntmps14
      go_wp2_with fail
      refine Calls.mono (TK _) ?_
      rintro e w1 ⟨rfl, hw⟩
      obtain rfl := hw.symm
      clear hw TK
      go_wp2_with fail
      refine Calls.mono (CG _ (HR.out.upd HU0.out)) ?_
      rintro e w2 ⟨rfl, u2⟩
      have HU2 := hide (HU0.out.then u2 (fun _ _ => id))
      have HV2 := hide (u2.get HV0.out id)
      have hs2 : w.heap.size + 1 ≤ w2.heap.size := by have := u2.size; simpa using this
      clear u2 CG HU0 HV0
      go_wp2_with fail
      have HU3 := hide (HU2.out.alloc (.cells #[.slice p aa.length pc, .int .i64 0, .int .i64 0] 87))
      have HV3 := hide (block_alloc HV2.out (.cells #[.slice p aa.length pc, .int .i64 0, .int .i64 0] 87))
      refine Calls.mono (HTO.out w2 _ w2.heap.size ⟨Vnew1 w2 _, Nat.le_refl _, (Upd.refl w2 _).alloc _, HR.out.upd HU2.out, Nat.zero_le _⟩) ?_
      rintro e w4 ⟨rfl, ⟨k4, h4⟩, u4⟩
      have HU4 := hide ((HU3.out.then u4 (fun i hi h => by omega)).alloc (.cells #[.int .i64 yk, .int .i64 yn, enS yt, .bool yb, .int .i64 yf] 29))
      have HV4 := hide (block_alloc (u4.get HV3.out (show ¬ w.heap.size = w2.heap.size by omega)) (.cells #[.int .i64 yk, .int .i64 yn, enS yt, .bool yb, .int .i64 yf] 29))
      have bQ := block_alloc h4.blk (.cells #[.int .i64 yk, .int .i64 yn, enS yt, .bool yb, .int .i64 yf] 29)
      have bY := Vnew1 w4 (.cells #[.int .i64 yk, .int .i64 yn, enS yt, .bool yb, .int .i64 yf] 29)
      simp only at bQ
      obtain ⟨q0, q1, q2⟩ := cells3 bQ
      have ql := lt_at bQ
      obtain ⟨y0, y1, y2, y3, y4⟩ := cells5 bY
      have yl := lt_at bY
      have HY4 := hide bY
      clear h4 bQ bY u4 HTO HU2 HU3 HV2 HV3
      by_cases hf : f ≠ 0
      · have bf : (f != 0) = true := by simpa using hf
        have hev : mkE f = ⟨k0, n0, t0, b0, e0'⟩ := by have := HRES.out; unfold finP at this; rwa [if_pos hf] at this
        have EA := fun w => E_any w f
        rw [hev] at EA
        unfold Vl.val at EA
        simp only at EA
        clear hev hf
        go_wp2_with fail
        refine Calls.mono (EA _) ?_
        rintro e w7 ⟨rfl, u7⟩
        have bV := u7.get HV4.out id
        have HU7 := hide (HU4.out.then u7 (fun _ _ => id))
        obtain ⟨v0, v1, v2, v3, v4⟩ := cells5 bV
        have vl := lt_at bV
        have fv0 := free_at bV 0
        have fv1 := free_at bV 1
        have fv2 := free_at bV 2
        have fv3 := free_at bV 3
        have fv4 := free_at bV 4
        have HBV := hide bV
        clear bV u7 EA
        go_wp2_with fail
        (try simp only [Exit.inBlock, Exit.then])
        refine bodyPost_ret (ret_vlb rfl _ _ w.heap.size ⟨k0, n0, t0, b0, e0'⟩ rfl (block5 (x := vZero) HBV.out _ _ _ _ _)) rfl ?_
        exact ⟨rfl, upd5 HU7.out (Nat.le_refl _) _ _ _ _ _⟩
      · have bf : (f != 0) = false := by simpa using hf
        have hev : soundV ⟨yk, yn, yt, yb, yf⟩ = ⟨k0, n0, t0, b0, e0'⟩ := by have := HRES.out; unfold finP at this; rwa [if_neg hf] at this
        have GA := fun w => Good_any w ⟨yk, yn, yt, yb, yf⟩ hyo.out
        unfold Vl.val at GA
        simp only at GA
        cases hg : goodV ⟨yk, yn, yt, yb, yf⟩ with
        | false =>
          rw [hg] at GA
          rw [sound_bad hg] at hev
          have EA := fun w => E_any w 3
          rw [hev] at EA
          unfold Vl.val at EA
          simp only at EA
          clear hev hf hg hyo HRES
          go_wp2_with fail
          refine Calls.mono (GA _) ?_
          rintro e w5 ⟨rfl, u5⟩
          have HU5 := hide (HU4.out.then u5 (fun _ _ => id))
          have HV5 := hide (u5.get HV4.out id)
          clear u5 GA y0 y1 y2 y3 y4 yl
          go_wp2_with fail
          refine Calls.mono (EA _) ?_
          rintro e w7 ⟨rfl, u7⟩
          have bV := u7.get HV5.out id
          have HU7 := hide (HU5.out.then u7 (fun _ _ => id))
          obtain ⟨v0, v1, v2, v3, v4⟩ := cells5 bV
          have vl := lt_at bV
          have fv0 := free_at bV 0
          have fv1 := free_at bV 1
          have fv2 := free_at bV 2
          have fv3 := free_at bV 3
          have fv4 := free_at bV 4
          have HBV := hide bV
          clear bV u7 EA
          go_wp2_with fail
          (try simp only [Exit.inBlock, Exit.then])
          refine bodyPost_ret (ret_vlb rfl _ _ w.heap.size ⟨k0, n0, t0, b0, e0'⟩ rfl (block5 (x := vZero) HBV.out _ _ _ _ _)) rfl ?_
          exact ⟨rfl, upd5 HU7.out (Nat.le_refl _) _ _ _ _ _⟩
        | true =>
          rw [hg] at GA
          rw [sound_good hg] at hev
          obtain ⟨rfl, rfl, rfl, rfl, rfl⟩ := Vl.mk.inj hev
          clear hev hf hg hyo HRES
          go_wp2_with fail
          refine Calls.mono (GA _) ?_
          rintro e w5 ⟨rfl, u5⟩
          have HU5 := hide (HU4.out.then u5 (fun _ _ => id))
          have bV := u5.get HV4.out id
          have bY := u5.get HY4.out id
          clear y0 y1 y2 y3 y4 yl GA
          obtain ⟨y0, y1, y2, y3, y4⟩ := cells5 bY
          have yl := lt_at bY
          obtain ⟨v0, v1, v2, v3, v4⟩ := cells5 bV
          have vl := lt_at bV
          have fv0 := free_at bV 0
          have fv1 := free_at bV 1
          have fv2 := free_at bV 2
          have fv3 := free_at bV 3
          have fv4 := free_at bV 4
          have HBV := hide bV
          clear bV bY u5
          go_wp2_with fail
          (try simp only [Exit.inBlock, Exit.then])
          refine bodyPost_ret (ret_vlb rfl _ _ w.heap.size ⟨yk, yn, yt, yb, yf⟩ rfl (block5 (x := vZero) HBV.out _ _ _ _ _)) rfl ?_
          exact ⟨rfl, upd5 HU5.out (Nat.le_refl _) _ _ _ _ _⟩
end Go.Proofs.YtdjpkkgcoainhaaGreatDoor
