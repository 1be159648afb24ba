/- The fixed examples of the laws of nums (plain). -/
import Derived.Test.YtmfngdjhkpddoaaGreatDoorJ37
import Derived.Test.YtmfngdjhkpddoaaGreatDoorJ49
import Derived.Test.YtmfngdjhkpddoaaGreatDoorJX2
/- The fixed examples of the laws of nums (plain). -/
set_option maxRecDepth 100000
namespace Go.Proofs.YtmfngdjhkpddoaaGreatDoor
open Go.RowKit Go.Lat Go.Lib

theorem num_ok {a : Int} (h : okNum a = true) : (Vl.mk 1 a [] false 0).ok := ⟨i1, okNum_i64 h, Nat.zero_le _, i0⟩
theorem binV_num {n : List UInt8} (h38 : n ≠ [38]) (hc : isCmp n = false) {a b : Int} (ha : okNum a = true) (hb : okNum b = true) : binV n ⟨1, a, [], false, 0⟩ ⟨1, b, [], false, 0⟩ = reckV n a b := by
  unfold binV
  rw [if_neg h38, hc, if_neg (by simp), nums2, numF_n ha, numF_n hb]
  rfl
theorem callN_num2 {n : List UInt8} (h : takesN n = 2) {a b : Int} (ha : okNum a = true) (hb : okNum b = true) : callN n [⟨1, a, [], false, 0⟩, ⟨1, b, [], false, 0⟩] = (pairV n a b, true) := by
  unfold callN
  rw [h, if_neg (by decide), if_neg (show ¬ (([(⟨1, a, [], false, 0⟩ : Vl), ⟨1, b, [], false, 0⟩].length : Int) ≠ 2) from fun h => h rfl), nums2, numF_n ha, numF_n hb]
  simp only [numsN, List.map_cons, List.map_nil, numF_n ha, numF_n hb]
  rfl
theorem wk_pow : reckV [94] 20000 (-20000) = (⟨1, 2500, [], false, 0⟩, true) := by rfl
theorem wk_mod : pairV [77, 79, 68] (-70000) 30000 = ⟨1, 20000, [], false, 0⟩ := by rfl
theorem wk_up : pairV [82, 79, 85, 78, 68, 85, 80] 10100 10000 = ⟨1, 11000, [], false, 0⟩ := by rfl
end Go.Proofs.YtmfngdjhkpddoaaGreatDoor
/- The laws' values, same, list, num, wakes. -/
set_option maxRecDepth 100000
namespace Go.Proofs.YtmfngdjhkpddoaaGreatDoor
open Go.RowKit Go.Lat Go.Lib

set_option maxHeartbeats 1600000 in
theorem lawvals9_any (w : World) (k n : Int) (t ct : List UInt8) (b : Bool) (f : Int) (hct : t.take 300 = ct) : Calls Tryz.prog 14 #[.agg #[.int .i64 k, .int .i64 n, enS t, .bool b, .int .i64 f]] w fun e w' =>
    e = .returned (.tuple #[.agg #[.int .i64 k, .int .i64 n, enS ct, .bool b, .int .i64 f], .agg #[.int .i64 k, .int .i64 n, enS ct, .bool b, .int .i64 f]]) ∧ Upd w w' (fun _ => False) := by
  have n2 : ∀ (A B C : Obj), (((w.alloc A).alloc B).alloc C).heap[w.heap.size + 1]? = some B := fun A B C => block_alloc (Vnew2 w A B) C
  have n3 : ∀ (A B C : Obj), (((w.alloc A).alloc B).alloc C).heap[w.heap.size + 1 + 1]? = some C := fun A B C => by
    have := Vnew2 (w.alloc A) B C
    simpa using this
  have N2 := hide n2
  have N3 := hide n3
  have HC := hide hct
  clear n2 n3 hct
  go_enter Tryz.func14, Tryz.ntmps14
  go_wp2_with fail
  simp only [cut300, HC.out]
  go_wp2_with fail
  go_region_held3 (fun w' => w'.cell? ⟨w.heap.size, 0, none⟩ = some (.int .i64 k) ∧ w'.cell? ⟨w.heap.size, 1, none⟩ = some (.int .i64 n) ∧ w'.cell? ⟨w.heap.size, 2, none⟩ = some (.string ⟨ct.toArray⟩) ∧ w'.cell? ⟨w.heap.size, 3, none⟩ = some (.bool b) ∧ w'.cell? ⟨w.heap.size, 4, none⟩ = some (.int .i64 f)) (go_keep) (fail)
  go_wp2_with fail
  (try simp only [Exit.inBlock, Exit.then])
  refine bodyPost_ret (results_cc_row rfl _ _ (w.heap.size + 1) (w.heap.size + 1 + 1) _ _ _ _ _ _ _ _ rfl rfl (N2.out _ _ _) (N3.out _ _ _) Tryz.underlying26 rfl (by kernel_rfl) Tryz.underlying36 rfl (by kernel_rfl)) rfl ?_
  exact ⟨rfl, ((((Upd.refl w _).alloc _).alloc _).alloc _).drew⟩
set_option maxHeartbeats 1600000 in
theorem same9_any (w : World) (x : Vl) : Calls Tryz.prog 17 #[x.val, x.val] w fun e w' => e = .returned (.bool true) ∧ Upd w w' (fun _ => False) := by
  obtain ⟨k, n, t, b, f⟩ := x
  unfold Vl.val
  simp only
  go_enter Tryz.func17, Tryz.ntmps17
  go_wp2_with fail
  go_ret
  exact ⟨by simp, ((Upd.refl w _).alloc _).alloc _⟩
def cutL (l : List Vl) : List Vl := (l.take 40).map cutV
set_option maxHeartbeats 6400000 in
theorem list9_any (w : World) (a : Option Addr) (cap : Nat) (l : List Vl) (hlc : l.length ≤ cap) (hrow0 : RdV w a l) :
    Calls Tryz.prog 18 #[.slice a l.length cap] w fun e w' => ∃ v1 v2, e = .returned (.tuple #[v1, v2]) ∧ Rw w' 26 5 v1 (cutL l).length (vlCells (cutL l)) ∧ Rw w' 36 5 v2 (cutL l).length (vlCells (cutL l)) ∧ (∀ k, v1.ownBlock = some k → w.heap.size ≤ k) ∧ (∀ k, v2.ownBlock = some k → w.heap.size ≤ k) ∧ Upd w w' (fun _ => False) := by
  have hrow : ∀ i x, l[i]? = some x → _ := fun i x h => rdV_at hrow0 h
  obtain ⟨i1, hi1, hz1a, hz1b, hz1c⟩ := info_p Tryz.infoVl
  obtain ⟨i2, hi2, hz2a, hz2b, hz2c⟩ := info_p Tryz.infoRl
  obtain ⟨L, hL⟩ : ∃ L, l.length = L := ⟨_, rfl⟩
  rw [hL] at hlc ⊢
  obtain ⟨N, hN⟩ : ∃ N, min L 40 = N := ⟨_, rfl⟩
  have hN2 : (min (L : Int) 40) = (N : Int) := by omega
  have n0 : (0 : Int) ≤ (N : Int) := by omega
  have n40 : N ≤ 40 := by omega
  have n1 : (N : Int) ≤ (cap : Int) := by omega
  have HL := hide hL
  have HN := hide hN
  have HR := hide hrow
  clear hL hN hrow hrow0
  go_enter Tryz.func18, Tryz.ntmps18
  go_wp2_with fail
  go_loopg [4, 5, 16] N (fun q va vb iv wr => ∃ k : Nat, k + q = N ∧ iv = .int .i64 k ∧ Rw wr 26 5 va k (vlCells ((l.take k).map cutV)) ∧ Rw wr 36 5 vb k (vlCells ((l.take k).map cutV)) ∧ (∀ j, va.ownBlock = some j → w.heap.size ≤ j) ∧ (∀ j, vb.ownBlock = some j → w.heap.size ≤ j) ∧ Upd w wr (fun _ => False))
  case atStart => exact ⟨0, by omega, rfl, Rw.nil _ _ _, Rw.nil _ _ _, by simp [Value.ownBlock], by simp [Value.ownBlock], Upd.refl _ _⟩
  case round =>
    obtain ⟨k, hk, rfl, ra, rb, oa, ob, hu⟩ := hrel
    by_cases hkN : k < N
    · obtain ⟨x, hx⟩ : ∃ x, l[k]? = some x := ⟨_, List.getElem?_eq_getElem (by rw [HL.out]; have := HN.out; omega)⟩
      obtain ⟨g, off, rfl, hg, c0, c1, c2, c3, c4⟩ := HR.out k x hx
      have hE : (l.take (k + 1)).map cutV = (l.take k).map cutV ++ [cutV x] := by rw [List.take_add_one, hx]; simp
      obtain ⟨xk, xn, xt0, xb, xf⟩ := x
      simp only at c0 c1 c2 c3 c4
      obtain ⟨xt, hxt⟩ : ∃ t, xt0.take 300 = t := ⟨_, rfl⟩
      have d0 := (hu.cell g _ hg id).trans c0
      have d1 := (hu.cell g _ hg id).trans c1
      have d2 := (hu.cell g _ hg id).trans c2
      have d3 := (hu.cell g _ hg id).trans c3
      have d4 := (hu.cell g _ hg id).trans c4
      clear c0 c1 c2 c3 c4
      have LK := lawvals9_any (wr.alloc (.cells #[.int .i64 xk, .int .i64 xn, enS xt0, .bool xb, .int .i64 xf] 35)) xk xn xt0 xt xb xf hxt
      have hE2 : vlCells ((l.take (k + 1)).map cutV) = vlCells ((l.take k).map cutV) ++ [.int .i64 xk, .int .i64 xn, enS xt, .bool xb, .int .i64 xf] := by
        rw [hE, vlCells_app]
        simp [vlCells, Vl.cells, cutV, hxt]
      have HE2 := hide hE2
      have HU := hide hu
      have HA := hide ra
      have HB := hide rb
      have hk0 : (0 : Int) ≤ (k : Int) := by omega
      have hk1 : (k : Int) < (N : Int) := by omega
      clear hE hE2 hxt hu ra rb hx
      go_wp2_with fail
      refine Calls.mono LK ?_
      rintro e w2 ⟨rfl, u2⟩
      go_wp2_with fail
      obtain ⟨W, hW⟩ : ∃ W, (w2.alloc (.cells #[.int .i64 xk, .int .i64 xn, enS xt, .bool xb, .int .i64 xf] 26)).alloc (.cells #[.int .i64 xk, .int .i64 xn, enS xt, .bool xb, .int .i64 xf] 36) = W := ⟨_, rfl⟩
      obtain ⟨pA, hpA⟩ : ∃ p, w2.heap.size = p := ⟨_, rfl⟩
      have UW0 : Upd wr W (fun _ => False) := hW ▸ ((((Upd.refl wr _).alloc _).then u2 (fun _ _ => id)).alloc _).alloc _
      have hbA : W.heap[pA]? = some (.cells #[.int .i64 xk, .int .i64 xn, enS xt, .bool xb, .int .i64 xf] 26 (0, 0)) := by rw [← hW, ← hpA]; exact block_alloc (Vnew1 _ _) _
      have hbB : W.heap[pA + 1]? = some (.cells #[.int .i64 xk, .int .i64 xn, enS xt, .bool xb, .int .i64 xf] 36 (0, 0)) := by rw [← hW, ← hpA]; exact Vnew2 _ _ _
      have UD : Upd w W.drew (fun _ => False) := (HU.out.then UW0 (fun _ _ => id)).drew
      have HA0 : Rw W.drew 26 5 u4 k (vlCells ((l.take k).map cutV)) := UW0.rw HA.out (fun _ _ => id)
      have HB0 : Rw W.drew 36 5 u5 k (vlCells ((l.take k).map cutV)) := UW0.rw HB.out (fun _ _ => id)
      have hpw : wr.heap.size ≤ pA := by have := u2.size; simp at this; omega
      have naA : u4.ownBlock ≠ some pA := fun e => by have := HA.out.lt _ e; omega
      have naB : u4.ownBlock ≠ some (pA + 1) := fun e => by have := HA.out.lt _ e; omega
      have nbA : u5.ownBlock ≠ some pA := fun e => by have := HB.out.lt _ e; omega
      have nbB : u5.ownBlock ≠ some (pA + 1) := fun e => by have := HB.out.lt _ e; omega
      have hne : 26 ≠ 36 := by decide
      have RX1 : Rw (W.drew.alloc (.cells #[.int .i64 xk, .int .i64 xn, enS xt, .bool xb, .int .i64 xf] 26)) 26 5 (.slice (some ⟨W.heap.size, 0, none⟩) 1 1) 1 [.int .i64 xk, .int .i64 xn, enS xt, .bool xb, .int .i64 xf] := Rw.made W.drew _ _ _ 1 rfl
      have RY1 : Rw (W.drew.alloc (.cells #[.int .i64 xk, .int .i64 xn, enS xt, .bool xb, .int .i64 xf] 36)) 36 5 (.slice (some ⟨W.heap.size, 0, none⟩) 1 1) 1 [.int .i64 xk, .int .i64 xn, enS xt, .bool xb, .int .i64 xf] := Rw.made W.drew _ _ _ 1 rfl
      have RX2 : Rw ((W.drew.alloc (.cells #[.int .i64 xk, .int .i64 xn, enS xt, .bool xb, .int .i64 xf] 36)).alloc (.cells #[.int .i64 xk, .int .i64 xn, enS xt, .bool xb, .int .i64 xf] 26)) 26 5 (.slice (some ⟨W.heap.size + 1, 0, none⟩) 1 1) 1 [.int .i64 xk, .int .i64 xn, enS xt, .bool xb, .int .i64 xf] := made2 W _ _ _ _ 1 rfl
      have RY2 : Rw ((W.drew.alloc (.cells #[.int .i64 xk, .int .i64 xn, enS xt, .bool xb, .int .i64 xf] 26)).alloc (.cells #[.int .i64 xk, .int .i64 xn, enS xt, .bool xb, .int .i64 xf] 36)) 36 5 (.slice (some ⟨W.heap.size + 1, 0, none⟩) 1 1) 1 [.int .i64 xk, .int .i64 xn, enS xt, .bool xb, .int .i64 xf] := made2 W _ _ _ _ 1 rfl
      rw [hW, hpA]
      obtain ⟨x0, x1, x2, x3, x4⟩ := cells5 hbA
      obtain ⟨y0, y1, y2, y3, y4⟩ := cells5 hbB
      clear hW hpA u2 UW0 d0 d1 d2 d3 d4 HR LK
      go_region_held3 (fun w' => w'.cell? ⟨pA, 0, none⟩ = some (.int .i64 xk) ∧ w'.cell? ⟨pA, 1, none⟩ = some (.int .i64 xn) ∧ w'.cell? ⟨pA, 2, none⟩ = some (enS xt) ∧ w'.cell? ⟨pA, 3, none⟩ = some (.bool xb) ∧ w'.cell? ⟨pA, 4, none⟩ = some (.int .i64 xf) ∧ w'.cell? ⟨pA + 1, 0, none⟩ = some (.int .i64 xk) ∧ w'.cell? ⟨pA + 1, 1, none⟩ = some (.int .i64 xn) ∧ w'.cell? ⟨pA + 1, 2, none⟩ = some (enS xt) ∧ w'.cell? ⟨pA + 1, 3, none⟩ = some (.bool xb) ∧ w'.cell? ⟨pA + 1, 4, none⟩ = some (.int .i64 xf))
        (first | go_keep | (go_split_ands; first | exact ⟨hga.cell (by assumption) (Ne.symm naA), hga.cell (by assumption) (Ne.symm naA), hga.cell (by assumption) (Ne.symm naA), hga.cell (by assumption) (Ne.symm naA), hga.cell (by assumption) (Ne.symm naA), hga.cell (by assumption) (Ne.symm naB), hga.cell (by assumption) (Ne.symm naB), hga.cell (by assumption) (Ne.symm naB), hga.cell (by assumption) (Ne.symm naB), hga.cell (by assumption) (Ne.symm naB)⟩ | exact ⟨hgb.cell (by assumption) (Ne.symm nbA), hgb.cell (by assumption) (Ne.symm nbA), hgb.cell (by assumption) (Ne.symm nbA), hgb.cell (by assumption) (Ne.symm nbA), hgb.cell (by assumption) (Ne.symm nbA), hgb.cell (by assumption) (Ne.symm nbB), hgb.cell (by assumption) (Ne.symm nbB), hgb.cell (by assumption) (Ne.symm nbB), hgb.cell (by assumption) (Ne.symm nbB), hgb.cell (by assumption) (Ne.symm nbB)⟩))
        (first
          | (refine step_append_rw _ (by rfl) _ _ 30 30 (by rfl) 26 _ i1 _ 5 48 Tryz.underlying30 Tryz.underlying30 (by simp) hi1 hz1a hz1b hz1c rfl _ k (vlCells ((l.take k).map cutV)) (by rfl) (HA0.alloc _) _ 1 [.int .i64 xk, .int .i64 xn, enS xt, .bool xb, .int .i64 xf] (by rfl) (Rw.src RX1) rfl (by simp [Value.oneCell']) (by omega) (by omega) ?_; intro ga gca wa hva hga hoa; have oga := own_ge oa hoa (UD.alloc _); have ua := Upd.grown (UD.alloc _) hga (fun j hj => .inl (oa j hj)); have pa := Rw.past (HB0.alloc _) (HA0.alloc _) (Ne.symm hne) hga)
          | (refine step_append_rw _ (by rfl) _ _ 30 30 (by rfl) 26 _ i1 _ 5 48 Tryz.underlying30 Tryz.underlying30 (by simp) hi1 hz1a hz1b hz1c rfl _ k (vlCells ((l.take k).map cutV)) (by rfl) ((HA0.alloc _).alloc _) _ 1 [.int .i64 xk, .int .i64 xn, enS xt, .bool xb, .int .i64 xf] (by rfl) (Rw.src (RX1.alloc _)) rfl (by simp [Value.oneCell']) (by omega) (by omega) ?_; intro ga gca wa hva hga hoa; have oga := own_ge oa hoa ((UD.alloc _).alloc _); have ua := Upd.grown ((UD.alloc _).alloc _) hga (fun j hj => .inl (oa j hj)); have pa := Rw.past ((HB0.alloc _).alloc _) ((HA0.alloc _).alloc _) (Ne.symm hne) hga; have qa := Rw.past RY2 ((HA0.alloc _).alloc _) (Ne.symm hne) hga)
          | (refine step_append_rw _ (by rfl) _ _ 30 30 (by rfl) 26 _ i1 _ 5 48 Tryz.underlying30 Tryz.underlying30 (by simp) hi1 hz1a hz1b hz1c rfl _ k (vlCells ((l.take k).map cutV)) (by rfl) ((HA0.alloc _).alloc _) _ 1 [.int .i64 xk, .int .i64 xn, enS xt, .bool xb, .int .i64 xf] (by rfl) (Rw.src RX2) rfl (by simp [Value.oneCell']) (by omega) (by omega) ?_; intro ga gca wa hva hga hoa; have oga := own_ge oa hoa ((UD.alloc _).alloc _); have ua := Upd.grown ((UD.alloc _).alloc _) hga (fun j hj => .inl (oa j hj)); have pa := Rw.past ((HB0.alloc _).alloc _) ((HA0.alloc _).alloc _) (Ne.symm hne) hga; have qa := Rw.past (RY1.alloc _) ((HA0.alloc _).alloc _) (Ne.symm hne) hga)
          | (refine step_append_rw _ (by rfl) _ _ 30 30 (by rfl) 26 _ i1 _ 5 48 Tryz.underlying30 Tryz.underlying30 (by simp) hi1 hz1a hz1b hz1c rfl _ k (vlCells ((l.take k).map cutV)) (by rfl) pb _ 1 [.int .i64 xk, .int .i64 xn, enS xt, .bool xb, .int .i64 xf] (by rfl) (Rw.src qb) rfl (by simp [Value.oneCell']) (by omega) (by omega) ?_; intro ga gca wa hva hga hoa; have oga := own_ge oa hoa ub; have ua := Upd.grown ub hga (fun j hj => .inl (oa j hj)); have pa := Rw.past hvb pb (Ne.symm hne) hga)
          | (refine step_append_rw _ (by rfl) _ _ 30 30 (by rfl) 26 _ i1 _ 5 48 Tryz.underlying30 Tryz.underlying30 (by simp) hi1 hz1a hz1b hz1c rfl _ k (vlCells ((l.take k).map cutV)) (by rfl) (pb.alloc _) _ 1 [.int .i64 xk, .int .i64 xn, enS xt, .bool xb, .int .i64 xf] (by rfl) (Rw.src (Rw.made wb _ _ _ 1 rfl)) rfl (by simp [Value.oneCell']) (by omega) (by omega) ?_; intro ga gca wa hva hga hoa; have oga := own_ge oa hoa (ub.alloc _); have ua := Upd.grown (ub.alloc _) hga (fun j hj => .inl (oa j hj)); have pa := Rw.past (hvb.alloc _) (pb.alloc _) (Ne.symm hne) hga)
          | (refine step_append_rw _ (by rfl) _ _ 44 44 (by rfl) 36 _ i2 _ 5 48 Tryz.underlying44 Tryz.underlying44 (by simp) hi2 hz2a hz2b hz2c rfl _ k (vlCells ((l.take k).map cutV)) (by rfl) (HB0.alloc _) _ 1 [.int .i64 xk, .int .i64 xn, enS xt, .bool xb, .int .i64 xf] (by rfl) (Rw.src RY1) rfl (by simp [Value.oneCell']) (by omega) (by omega) ?_; intro gb gcb wb hvb hgb hob; have ogb := own_ge ob hob (UD.alloc _); have ub := Upd.grown (UD.alloc _) hgb (fun j hj => .inl (ob j hj)); have pb := Rw.past (HA0.alloc _) (HB0.alloc _) hne hgb)
          | (refine step_append_rw _ (by rfl) _ _ 44 44 (by rfl) 36 _ i2 _ 5 48 Tryz.underlying44 Tryz.underlying44 (by simp) hi2 hz2a hz2b hz2c rfl _ k (vlCells ((l.take k).map cutV)) (by rfl) ((HB0.alloc _).alloc _) _ 1 [.int .i64 xk, .int .i64 xn, enS xt, .bool xb, .int .i64 xf] (by rfl) (Rw.src (RY1.alloc _)) rfl (by simp [Value.oneCell']) (by omega) (by omega) ?_; intro gb gcb wb hvb hgb hob; have ogb := own_ge ob hob ((UD.alloc _).alloc _); have ub := Upd.grown ((UD.alloc _).alloc _) hgb (fun j hj => .inl (ob j hj)); have pb := Rw.past ((HA0.alloc _).alloc _) ((HB0.alloc _).alloc _) hne hgb; have qb := Rw.past RX2 ((HB0.alloc _).alloc _) hne hgb)
          | (refine step_append_rw _ (by rfl) _ _ 44 44 (by rfl) 36 _ i2 _ 5 48 Tryz.underlying44 Tryz.underlying44 (by simp) hi2 hz2a hz2b hz2c rfl _ k (vlCells ((l.take k).map cutV)) (by rfl) ((HB0.alloc _).alloc _) _ 1 [.int .i64 xk, .int .i64 xn, enS xt, .bool xb, .int .i64 xf] (by rfl) (Rw.src RY2) rfl (by simp [Value.oneCell']) (by omega) (by omega) ?_; intro gb gcb wb hvb hgb hob; have ogb := own_ge ob hob ((UD.alloc _).alloc _); have ub := Upd.grown ((UD.alloc _).alloc _) hgb (fun j hj => .inl (ob j hj)); have pb := Rw.past ((HA0.alloc _).alloc _) ((HB0.alloc _).alloc _) hne hgb; have qb := Rw.past (RX1.alloc _) ((HB0.alloc _).alloc _) hne hgb)
          | (refine step_append_rw _ (by rfl) _ _ 44 44 (by rfl) 36 _ i2 _ 5 48 Tryz.underlying44 Tryz.underlying44 (by simp) hi2 hz2a hz2b hz2c rfl _ k (vlCells ((l.take k).map cutV)) (by rfl) pa _ 1 [.int .i64 xk, .int .i64 xn, enS xt, .bool xb, .int .i64 xf] (by rfl) (Rw.src qa) rfl (by simp [Value.oneCell']) (by omega) (by omega) ?_; intro gb gcb wb hvb hgb hob; have ogb := own_ge ob hob ua; have ub := Upd.grown ua hgb (fun j hj => .inl (ob j hj)); have pb := Rw.past hva pa hne hgb)
          | (refine step_append_rw _ (by rfl) _ _ 44 44 (by rfl) 36 _ i2 _ 5 48 Tryz.underlying44 Tryz.underlying44 (by simp) hi2 hz2a hz2b hz2c rfl _ k (vlCells ((l.take k).map cutV)) (by rfl) (pa.alloc _) _ 1 [.int .i64 xk, .int .i64 xn, enS xt, .bool xb, .int .i64 xf] (by rfl) (Rw.src (Rw.made wa _ _ _ 1 rfl)) rfl (by simp [Value.oneCell']) (by omega) (by omega) ?_; intro gb gcb wb hvb hgb hob; have ogb := own_ge ob hob (ua.alloc _); have ub := Upd.grown (ua.alloc _) hgb (fun j hj => .inl (ob j hj)); have pb := Rw.past (hva.alloc _) (pa.alloc _) hne hgb))
      all_goals go_wp2_with fail
      all_goals go_roundg (gk - 1)
      case' measure => omega
      all_goals (first
        | exact ⟨k + 1, by omega, by go_num, by rw [HE2.out]; exact hva, by rw [HE2.out]; exact pa, oga, ogb, ua⟩
        | exact ⟨k + 1, by omega, by go_num, by rw [HE2.out]; exact pb, by rw [HE2.out]; exact hvb, oga, ogb, ub⟩
        | omega)
    · go_wp2_with fail
      go_ret2
      have e0 : k = N := by omega
      subst e0
      have e1 : cutL l = (l.take k).map cutV := by
        unfold cutL
        congr 1
        rw [← HN.out, ← HL.out]
        rw [List.take_eq_take_iff]
        omega
      have e2 : (cutL l).length = k := by rw [e1]; simp; rw [HL.out]; have := HN.out; omega
      exact ⟨_, _, rfl, by rw [e2, e1]; exact ra, by rw [e2, e1]; exact rb, oa, ob, hu⟩
theorem rdV_made {w : World} {T : TypeId} {l : List Vl} {cur : Array Value} (h : cur.toList = vlCells l) : RdV (w.alloc (.cells cur T)) (some ⟨w.heap.size, 0, none⟩) l := by
  have hs : cur.size = l.length * 5 := by rw [← Array.length_toList, h, vlCells_len]
  have k := Rw.made w cur T 5 l.length hs
  rw [h] at k
  exact rdV_of_rw k
theorem oks2 {a b : Int} (ha : okNum a = true) (hb : okNum b = true) : oksV [⟨1, a, [], false, 0⟩, ⟨1, b, [], false, 0⟩] := fun x hx => by
  simp only [List.mem_cons, List.not_mem_nil, or_false] at hx
  rcases hx with rfl | rfl
  · exact ⟨num_ok ha, Nat.zero_le _⟩
  · exact ⟨num_ok hb, Nat.zero_le _⟩
/-- A function of two numbers that lie side by side. -/
theorem call2_num (w : World) (n : List UInt8) (h : takesN n = 2) (g : Nat) {a b : Int} (ha : okNum a = true) (hb : okNum b = true) (v : Vl) (hv : pairV n a b = v) (hr : RdV w (some ⟨g, 0, none⟩) [⟨1, a, [], false, 0⟩, ⟨1, b, [], false, 0⟩]) :
    Calls Tryz.prog 11 #[enS n, .slice (some ⟨g, 0, none⟩) 2 2] w fun e w' => e = .returned (.tuple #[v.val, .bool true]) ∧ Upd w w' (fun _ => False) := by
  have k := nCall_any w n [⟨1, a, [], false, 0⟩, ⟨1, b, [], false, 0⟩] (some ⟨g, 0, none⟩) 2 hr (oks2 ha hb) (by show 2 ≤ 1000000; decide)
  rw [callN_num2 h ha hb, hv] at k
  exact k
set_option maxHeartbeats 6400000 in
theorem wakes9_any (w : World) (hg : Sig w) (hp : Pow w) : Calls Tryz.prog 16 #[] w fun e w' => e = .returned (.bool true) ∧ Upd w w' (fun _ => False) := by
  have N1 : ∀ w, Calls Tryz.prog 10 #[.int .i64 20000] w (fun e w' => e = .returned (.agg #[.int .i64 1, .int .i64 20000, .string ⟨#[]⟩, .bool false, .int .i64 0]) ∧ Upd w w' (fun _ => False)) := fun w => N_any w 20000
  have N2 : ∀ w, Calls Tryz.prog 10 #[.int .i64 (-20000)] w (fun e w' => e = .returned (.agg #[.int .i64 1, .int .i64 (-20000), .string ⟨#[]⟩, .bool false, .int .i64 0]) ∧ Upd w w' (fun _ => False)) := fun w => N_any w (-20000)
  have N3 : ∀ w, Calls Tryz.prog 10 #[.int .i64 (-70000)] w (fun e w' => e = .returned (.agg #[.int .i64 1, .int .i64 (-70000), .string ⟨#[]⟩, .bool false, .int .i64 0]) ∧ Upd w w' (fun _ => False)) := fun w => N_any w (-70000)
  have N4 : ∀ w, Calls Tryz.prog 10 #[.int .i64 30000] w (fun e w' => e = .returned (.agg #[.int .i64 1, .int .i64 30000, .string ⟨#[]⟩, .bool false, .int .i64 0]) ∧ Upd w w' (fun _ => False)) := fun w => N_any w 30000
  have N5 : ∀ w, Calls Tryz.prog 10 #[.int .i64 10100] w (fun e w' => e = .returned (.agg #[.int .i64 1, .int .i64 10100, .string ⟨#[]⟩, .bool false, .int .i64 0]) ∧ Upd w w' (fun _ => False)) := fun w => N_any w 10100
  have N6 : ∀ w, Calls Tryz.prog 10 #[.int .i64 10000] w (fun e w' => e = .returned (.agg #[.int .i64 1, .int .i64 10000, .string ⟨#[]⟩, .bool false, .int .i64 0]) ∧ Upd w w' (fun _ => False)) := fun w => N_any w 10000
  have N7 : ∀ w, Calls Tryz.prog 10 #[.int .i64 2500] w (fun e w' => e = .returned (.agg #[.int .i64 1, .int .i64 2500, .string ⟨#[]⟩, .bool false, .int .i64 0]) ∧ Upd w w' (fun _ => False)) := fun w => N_any w 2500
  have N8 : ∀ w, Calls Tryz.prog 10 #[.int .i64 11000] w (fun e w' => e = .returned (.agg #[.int .i64 1, .int .i64 11000, .string ⟨#[]⟩, .bool false, .int .i64 0]) ∧ Upd w w' (fun _ => False)) := fun w => N_any w 11000
  have N9 : ∀ w, Calls Tryz.prog 10 #[.int .i64 1] w (fun e w' => e = .returned (.agg #[.int .i64 1, .int .i64 1, .string ⟨#[]⟩, .bool false, .int .i64 0]) ∧ Upd w w' (fun _ => False)) := fun w => N_any w 1
  have NA : ∀ w, Calls Tryz.prog 10 #[.int .i64 (-1)] w (fun e w' => e = .returned (.agg #[.int .i64 1, .int .i64 (-1), .string ⟨#[]⟩, .bool false, .int .i64 0]) ∧ Upd w w' (fun _ => False)) := fun w => N_any w (-1)
  have NG : ∀ w, Calls Tryz.prog 25 #[.agg #[.int .i64 1, .int .i64 1, .string ⟨#[]⟩, .bool false, .int .i64 0]] w (fun e w' => e = .returned (.agg #[.int .i64 1, .int .i64 (-1), .string ⟨#[]⟩, .bool false, .int .i64 0]) ∧ Upd w w' (fun _ => False)) := fun w => by
    have k := Neg_any w ⟨1, 1, [], false, 0⟩ (num_ok (by decide)) (by decide)
    unfold negV at k
    rw [numF_n (by decide)] at k
    exact k
  have HS : ∀ w, Calls Tryz.prog 21 #[.string ⟨#[83, 81, 82, 84]⟩] w (fun e w' => e = .returned (.bool true) ∧ Upd w w' (fun _ => False)) := fun w => Calls.mono (nHas_any w [83, 81, 82, 84]) (fun e w' h => ⟨h.1, by rw [h.2]; exact Upd.refl _ _⟩)
  have BW : ∀ w, Sig w → Pow w → Calls Tryz.prog 12 #[.string ⟨#[94]⟩, .agg #[.int .i64 1, .int .i64 20000, .string ⟨#[]⟩, .bool false, .int .i64 0], .agg #[.int .i64 1, .int .i64 (-20000), .string ⟨#[]⟩, .bool false, .int .i64 0]] w (fun e w' => e = .returned (.tuple #[.agg #[.int .i64 1, .int .i64 2500, .string ⟨#[]⟩, .bool false, .int .i64 0], .bool true]) ∧ Upd w w' (fun _ => False)) := fun w h1 h2 => by
    have k := Bin_any w h1 h2 [94] ⟨1, 20000, [], false, 0⟩ ⟨1, -20000, [], false, 0⟩ (num_ok (by decide)) (num_ok (by decide)) (by decide) (by decide)
    rw [binV_num (by decide) (by decide) (by decide) (by decide), wk_pow] at k
    exact k
  have CM : ∀ w g, RdV w (some ⟨g, 0, none⟩) [⟨1, -70000, [], false, 0⟩, ⟨1, 30000, [], false, 0⟩] → Calls Tryz.prog 11 #[.string ⟨#[77, 79, 68]⟩, .slice (some ⟨g, 0, none⟩) 2 2] w (fun e w' => e = .returned (.tuple #[.agg #[.int .i64 1, .int .i64 20000, .string ⟨#[]⟩, .bool false, .int .i64 0], .bool true]) ∧ Upd w w' (fun _ => False)) := fun w g h => call2_num w [77, 79, 68] (by decide) g (by decide) (by decide) _ wk_mod h
  have CU : ∀ w g, RdV w (some ⟨g, 0, none⟩) [⟨1, 10100, [], false, 0⟩, ⟨1, 10000, [], false, 0⟩] → Calls Tryz.prog 11 #[.string ⟨#[82, 79, 85, 78, 68, 85, 80]⟩, .slice (some ⟨g, 0, none⟩) 2 2] w (fun e w' => e = .returned (.tuple #[.agg #[.int .i64 1, .int .i64 11000, .string ⟨#[]⟩, .bool false, .int .i64 0], .bool true]) ∧ Upd w w' (fun _ => False)) := fun w g h => call2_num w [82, 79, 85, 78, 68, 85, 80] (by decide) g (by decide) (by decide) _ wk_up h
  have EA : ∀ w, (binOp .eql 26 (.agg #[.int .i64 1, .int .i64 2500, .string ⟨#[]⟩, .bool false, .int .i64 0]) (.agg #[.int .i64 1, .int .i64 2500, .string ⟨#[]⟩, .bool false, .int .i64 0])).run Tryz.prog w = .ok (.bool true) w := eq_at ⟨1, 2500, [], false, 0⟩ ⟨1, 2500, [], false, 0⟩ (num_ok (by decide)) (num_ok (by decide)) (q := true) (by rw [eqV_iff])
  have EB : ∀ w, (binOp .eql 26 (.agg #[.int .i64 1, .int .i64 20000, .string ⟨#[]⟩, .bool false, .int .i64 0]) (.agg #[.int .i64 1, .int .i64 20000, .string ⟨#[]⟩, .bool false, .int .i64 0])).run Tryz.prog w = .ok (.bool true) w := eq_at ⟨1, 20000, [], false, 0⟩ ⟨1, 20000, [], false, 0⟩ (num_ok (by decide)) (num_ok (by decide)) (q := true) (by rw [eqV_iff])
  have EC : ∀ w, (binOp .eql 26 (.agg #[.int .i64 1, .int .i64 11000, .string ⟨#[]⟩, .bool false, .int .i64 0]) (.agg #[.int .i64 1, .int .i64 11000, .string ⟨#[]⟩, .bool false, .int .i64 0])).run Tryz.prog w = .ok (.bool true) w := eq_at ⟨1, 11000, [], false, 0⟩ ⟨1, 11000, [], false, 0⟩ (num_ok (by decide)) (num_ok (by decide)) (q := true) (by rw [eqV_iff])
  have ED : ∀ w, (binOp .eql 26 (.agg #[.int .i64 1, .int .i64 (-1), .string ⟨#[]⟩, .bool false, .int .i64 0]) (.agg #[.int .i64 1, .int .i64 (-1), .string ⟨#[]⟩, .bool false, .int .i64 0])).run Tryz.prog w = .ok (.bool true) w := eq_at ⟨1, (-1), [], false, 0⟩ ⟨1, (-1), [], false, 0⟩ (num_ok (by decide)) (num_ok (by decide)) (q := true) (by rw [eqV_iff])
  have HU0 : Hid (Upd w w (fun _ => False)) := hide (Upd.refl w _)
  have HG := hide hg
  have HP := hide hp
  clear hg hp
  go_enter Tryz.func16, Tryz.ntmps16
  go_wp2_with fail
  with_reducible refine Calls.mono (N1 _) ?_
  rintro e w1 ⟨rfl, u1⟩
  have HU1 := hide (HU0.out.then u1 (fun _ _ => id))
  clear u1
  go_wp2_with fail
  with_reducible refine Calls.mono (N2 _) ?_
  rintro e w2 ⟨rfl, u2⟩
  have HU2 := hide (HU1.out.then u2 (fun _ _ => id))
  clear u2
  go_wp2_with fail
  with_reducible refine Calls.mono (BW _ (HG.out.upd HU2.out id) (HP.out.upd HU2.out id)) ?_
  rintro e w3 ⟨rfl, u3⟩
  have HU3 := hide (HU2.out.then u3 (fun _ _ => id))
  clear u3
  have bA := Vnew1 w3 (.cells #[.int .i64 1, .int .i64 2500, .string ⟨#[]⟩, .bool false, .int .i64 0] 26)
  have HU3a := hide (HU3.out.alloc (.cells #[.int .i64 1, .int .i64 2500, .string ⟨#[]⟩, .bool false, .int .i64 0] 26))
  clear HU3
  have HU3 := HU3a
  have HA := hide bA
  clear bA
  go_wp2_with fail
  with_reducible refine Calls.mono (N3 _) ?_
  rintro e w4 ⟨rfl, u4⟩
  have HA := hide (u4.get HA.out id)
  have HU4 := hide (HU3.out.then u4 (fun _ _ => id))
  clear u4
  go_wp2_with fail
  with_reducible refine Calls.mono (N4 _) ?_
  rintro e w5 ⟨rfl, u5⟩
  have HA := hide (u5.get HA.out id)
  have HU5 := hide (HU4.out.then u5 (fun _ _ => id))
  clear u5
  go_wp2_with fail
  have HM := hide (rdV_made (w := w5) (T := 26) (l := [⟨1, (-70000), [], false, 0⟩, ⟨1, 30000, [], false, 0⟩]) (cur := #[.int .i64 1, .int .i64 (-70000), .string ⟨#[]⟩, .bool false, .int .i64 0, .int .i64 1, .int .i64 30000, .string ⟨#[]⟩, .bool false, .int .i64 0]) rfl)
  have HUm := hide (HU5.out.alloc (.cells #[.int .i64 1, .int .i64 (-70000), .string ⟨#[]⟩, .bool false, .int .i64 0, .int .i64 1, .int .i64 30000, .string ⟨#[]⟩, .bool false, .int .i64 0] 26))
  clear HU5
  have HU5 := HUm
  have HA := hide (block_alloc HA.out (.cells #[.int .i64 1, .int .i64 (-70000), .string ⟨#[]⟩, .bool false, .int .i64 0, .int .i64 1, .int .i64 30000, .string ⟨#[]⟩, .bool false, .int .i64 0] 26))
  with_reducible refine Calls.mono (CM _ _ HM.out) ?_
  rintro e w6 ⟨rfl, u6⟩
  have HA := hide (u6.get HA.out id)
  have HU6 := hide (HU5.out.then u6 (fun _ _ => id))
  clear u6
  clear HM
  have bX := Vnew1 w6 (.cells #[.int .i64 1, .int .i64 20000, .string ⟨#[]⟩, .bool false, .int .i64 0] 26)
  have HUx := hide (HU6.out.alloc (.cells #[.int .i64 1, .int .i64 20000, .string ⟨#[]⟩, .bool false, .int .i64 0] 26))
  have HA := hide (block_alloc HA.out (.cells #[.int .i64 1, .int .i64 20000, .string ⟨#[]⟩, .bool false, .int .i64 0] 26))
  clear HU6
  have HU6 := HUx
  have HB := hide bX
  clear bX
  go_wp2_with fail
  with_reducible refine Calls.mono (N5 _) ?_
  rintro e w7 ⟨rfl, u7⟩
  have HA := hide (u7.get HA.out id)
  have HB := hide (u7.get HB.out id)
  have HU7 := hide (HU6.out.then u7 (fun _ _ => id))
  clear u7
  go_wp2_with fail
  with_reducible refine Calls.mono (N6 _) ?_
  rintro e w8 ⟨rfl, u8⟩
  have HA := hide (u8.get HA.out id)
  have HB := hide (u8.get HB.out id)
  have HU8 := hide (HU7.out.then u8 (fun _ _ => id))
  clear u8
  go_wp2_with fail
  have HM := hide (rdV_made (w := w8) (T := 26) (l := [⟨1, 10100, [], false, 0⟩, ⟨1, 10000, [], false, 0⟩]) (cur := #[.int .i64 1, .int .i64 10100, .string ⟨#[]⟩, .bool false, .int .i64 0, .int .i64 1, .int .i64 10000, .string ⟨#[]⟩, .bool false, .int .i64 0]) rfl)
  have HUm := hide (HU8.out.alloc (.cells #[.int .i64 1, .int .i64 10100, .string ⟨#[]⟩, .bool false, .int .i64 0, .int .i64 1, .int .i64 10000, .string ⟨#[]⟩, .bool false, .int .i64 0] 26))
  clear HU8
  have HU8 := HUm
  have HA := hide (block_alloc HA.out (.cells #[.int .i64 1, .int .i64 10100, .string ⟨#[]⟩, .bool false, .int .i64 0, .int .i64 1, .int .i64 10000, .string ⟨#[]⟩, .bool false, .int .i64 0] 26))
  have HB := hide (block_alloc HB.out (.cells #[.int .i64 1, .int .i64 10100, .string ⟨#[]⟩, .bool false, .int .i64 0, .int .i64 1, .int .i64 10000, .string ⟨#[]⟩, .bool false, .int .i64 0] 26))
  with_reducible refine Calls.mono (CU _ _ HM.out) ?_
  rintro e w9 ⟨rfl, u9⟩
  have HA := hide (u9.get HA.out id)
  have HB := hide (u9.get HB.out id)
  have HU9 := hide (HU8.out.then u9 (fun _ _ => id))
  clear u9
  clear HM
  have bC := Vnew1 w9 (.cells #[.int .i64 1, .int .i64 11000, .string ⟨#[]⟩, .bool false, .int .i64 0] 26)
  have HUx := hide (HU9.out.alloc (.cells #[.int .i64 1, .int .i64 11000, .string ⟨#[]⟩, .bool false, .int .i64 0] 26))
  have bA := block_alloc HA.out (.cells #[.int .i64 1, .int .i64 11000, .string ⟨#[]⟩, .bool false, .int .i64 0] 26)
  have bB := block_alloc HB.out (.cells #[.int .i64 1, .int .i64 11000, .string ⟨#[]⟩, .bool false, .int .i64 0] 26)
  go_wp2_with fail
  obtain ⟨W, hW⟩ : ∃ W, w9.alloc (.cells #[.int .i64 1, .int .i64 11000, .string ⟨#[]⟩, .bool false, .int .i64 0] 26) = W := ⟨_, rfl⟩
  rw [hW] at bA bB bC HUx ⊢
  clear hW HA HB HU9
  obtain ⟨ga, hga⟩ : ∃ g, w3.heap.size = g := ⟨_, rfl⟩
  obtain ⟨gb, hgb⟩ : ∃ g, w6.heap.size = g := ⟨_, rfl⟩
  obtain ⟨gc, hgc⟩ : ∃ g, w9.heap.size = g := ⟨_, rfl⟩
  rw [hga] at bA ⊢
  rw [hgb] at bB ⊢
  rw [hgc] at bC ⊢
  obtain ⟨a0, a1, a2, a3, a4⟩ := cells5 bA
  have al := lt_at bA
  obtain ⟨b0, b1, b2, b3, b4⟩ := cells5 bB
  have bl := lt_at bB
  obtain ⟨c0, c1, c2, c3, c4⟩ := cells5 bC
  have cl := lt_at bC
  clear bA bB bC hga hgb hgc
  go_region_held3 (fun w' => w'.cell? ⟨ga, 0, none⟩ = some (.int .i64 1) ∧ w'.cell? ⟨ga, 1, none⟩ = some (.int .i64 2500) ∧ w'.cell? ⟨ga, 2, none⟩ = some (.string ⟨#[]⟩) ∧ w'.cell? ⟨ga, 3, none⟩ = some (.bool false) ∧ w'.cell? ⟨ga, 4, none⟩ = some (.int .i64 0) ∧ w'.cell? ⟨gb, 0, none⟩ = some (.int .i64 1) ∧ w'.cell? ⟨gb, 1, none⟩ = some (.int .i64 20000) ∧ w'.cell? ⟨gb, 2, none⟩ = some (.string ⟨#[]⟩) ∧ w'.cell? ⟨gb, 3, none⟩ = some (.bool false) ∧ w'.cell? ⟨gb, 4, none⟩ = some (.int .i64 0) ∧ w'.cell? ⟨gc, 0, none⟩ = some (.int .i64 1) ∧ w'.cell? ⟨gc, 1, none⟩ = some (.int .i64 11000) ∧ w'.cell? ⟨gc, 2, none⟩ = some (.string ⟨#[]⟩) ∧ w'.cell? ⟨gc, 3, none⟩ = some (.bool false) ∧ w'.cell? ⟨gc, 4, none⟩ = some (.int .i64 0) ∧ Upd W w' (fun _ => False))
    (first | (go_keep; done) | exact ⟨a0, a1, a2, a3, a4, b0, b1, b2, b3, b4, c0, c1, c2, c3, c4, (Upd.refl W _).drew⟩ | (have hz : Upd W _ (fun _ => False) := Upd.then (And.right (And.right (And.right (And.right (And.right (And.right (And.right (And.right (And.right (And.right (And.right (And.right (And.right (And.right (And.right (by assumption)))))))))))))))) uA (fun _ _ => id); with_reducible exact ⟨(hz.cell ga 0 al id).trans a0, (hz.cell ga 1 al id).trans a1, (hz.cell ga 2 al id).trans a2, (hz.cell ga 3 al id).trans a3, (hz.cell ga 4 al id).trans a4, (hz.cell gb 0 bl id).trans b0, (hz.cell gb 1 bl id).trans b1, (hz.cell gb 2 bl id).trans b2, (hz.cell gb 3 bl id).trans b3, (hz.cell gb 4 bl id).trans b4, (hz.cell gc 0 cl id).trans c0, (hz.cell gc 1 cl id).trans c1, (hz.cell gc 2 cl id).trans c2, (hz.cell gc 3 cl id).trans c3, (hz.cell gc 4 cl id).trans c4, hz⟩) | (have hz : Upd W _ (fun _ => False) := Upd.then (And.right (And.right (And.right (And.right (And.right (And.right (And.right (And.right (And.right (And.right (And.right (And.right (And.right (And.right (And.right (by assumption)))))))))))))))) uB (fun _ _ => id); with_reducible exact ⟨(hz.cell ga 0 al id).trans a0, (hz.cell ga 1 al id).trans a1, (hz.cell ga 2 al id).trans a2, (hz.cell ga 3 al id).trans a3, (hz.cell ga 4 al id).trans a4, (hz.cell gb 0 bl id).trans b0, (hz.cell gb 1 bl id).trans b1, (hz.cell gb 2 bl id).trans b2, (hz.cell gb 3 bl id).trans b3, (hz.cell gb 4 bl id).trans b4, (hz.cell gc 0 cl id).trans c0, (hz.cell gc 1 cl id).trans c1, (hz.cell gc 2 cl id).trans c2, (hz.cell gc 3 cl id).trans c3, (hz.cell gc 4 cl id).trans c4, hz⟩) | (have hz : Upd W _ (fun _ => False) := Upd.then (And.right (And.right (And.right (And.right (And.right (And.right (And.right (And.right (And.right (And.right (And.right (And.right (And.right (And.right (And.right (by assumption)))))))))))))))) uC (fun _ _ => id); with_reducible exact ⟨(hz.cell ga 0 al id).trans a0, (hz.cell ga 1 al id).trans a1, (hz.cell ga 2 al id).trans a2, (hz.cell ga 3 al id).trans a3, (hz.cell ga 4 al id).trans a4, (hz.cell gb 0 bl id).trans b0, (hz.cell gb 1 bl id).trans b1, (hz.cell gb 2 bl id).trans b2, (hz.cell gb 3 bl id).trans b3, (hz.cell gb 4 bl id).trans b4, (hz.cell gc 0 cl id).trans c0, (hz.cell gc 1 cl id).trans c1, (hz.cell gc 2 cl id).trans c2, (hz.cell gc 3 cl id).trans c3, (hz.cell gc 4 cl id).trans c4, hz⟩) | (have hz : Upd W _ (fun _ => False) := Upd.then (And.right (And.right (And.right (And.right (And.right (And.right (And.right (And.right (And.right (And.right (And.right (And.right (And.right (And.right (And.right (by assumption)))))))))))))))) uD (fun _ _ => id); with_reducible exact ⟨(hz.cell ga 0 al id).trans a0, (hz.cell ga 1 al id).trans a1, (hz.cell ga 2 al id).trans a2, (hz.cell ga 3 al id).trans a3, (hz.cell ga 4 al id).trans a4, (hz.cell gb 0 bl id).trans b0, (hz.cell gb 1 bl id).trans b1, (hz.cell gb 2 bl id).trans b2, (hz.cell gb 3 bl id).trans b3, (hz.cell gb 4 bl id).trans b4, (hz.cell gc 0 cl id).trans c0, (hz.cell gc 1 cl id).trans c1, (hz.cell gc 2 cl id).trans c2, (hz.cell gc 3 cl id).trans c3, (hz.cell gc 4 cl id).trans c4, hz⟩) | (have hz : Upd W _ (fun _ => False) := Upd.then (And.right (And.right (And.right (And.right (And.right (And.right (And.right (And.right (And.right (And.right (And.right (And.right (And.right (And.right (And.right (by assumption)))))))))))))))) uE (fun _ _ => id); with_reducible exact ⟨(hz.cell ga 0 al id).trans a0, (hz.cell ga 1 al id).trans a1, (hz.cell ga 2 al id).trans a2, (hz.cell ga 3 al id).trans a3, (hz.cell ga 4 al id).trans a4, (hz.cell gb 0 bl id).trans b0, (hz.cell gb 1 bl id).trans b1, (hz.cell gb 2 bl id).trans b2, (hz.cell gb 3 bl id).trans b3, (hz.cell gb 4 bl id).trans b4, (hz.cell gc 0 cl id).trans c0, (hz.cell gc 1 cl id).trans c1, (hz.cell gc 2 cl id).trans c2, (hz.cell gc 3 cl id).trans c3, (hz.cell gc 4 cl id).trans c4, hz⟩) | (have hz : Upd W _ (fun _ => False) := Upd.then (And.right (And.right (And.right (And.right (And.right (And.right (And.right (And.right (And.right (And.right (And.right (And.right (And.right (And.right (And.right (by assumption)))))))))))))))) uF (fun _ _ => id); with_reducible exact ⟨(hz.cell ga 0 al id).trans a0, (hz.cell ga 1 al id).trans a1, (hz.cell ga 2 al id).trans a2, (hz.cell ga 3 al id).trans a3, (hz.cell ga 4 al id).trans a4, (hz.cell gb 0 bl id).trans b0, (hz.cell gb 1 bl id).trans b1, (hz.cell gb 2 bl id).trans b2, (hz.cell gb 3 bl id).trans b3, (hz.cell gb 4 bl id).trans b4, (hz.cell gc 0 cl id).trans c0, (hz.cell gc 1 cl id).trans c1, (hz.cell gc 2 cl id).trans c2, (hz.cell gc 3 cl id).trans c3, (hz.cell gc 4 cl id).trans c4, hz⟩) | (have hz : Upd W _ (fun _ => False) := Upd.then (And.right (And.right (And.right (And.right (And.right (And.right (And.right (And.right (And.right (And.right (And.right (And.right (And.right (And.right (And.right (by assumption)))))))))))))))) uG (fun _ _ => id); with_reducible exact ⟨(hz.cell ga 0 al id).trans a0, (hz.cell ga 1 al id).trans a1, (hz.cell ga 2 al id).trans a2, (hz.cell ga 3 al id).trans a3, (hz.cell ga 4 al id).trans a4, (hz.cell gb 0 bl id).trans b0, (hz.cell gb 1 bl id).trans b1, (hz.cell gb 2 bl id).trans b2, (hz.cell gb 3 bl id).trans b3, (hz.cell gb 4 bl id).trans b4, (hz.cell gc 0 cl id).trans c0, (hz.cell gc 1 cl id).trans c1, (hz.cell gc 2 cl id).trans c2, (hz.cell gc 3 cl id).trans c3, (hz.cell gc 4 cl id).trans c4, hz⟩))
    (first | (go_at_call 10; with_reducible refine Calls.mono (N7 _) ?_; rintro e wz ⟨rfl, uA⟩) | (go_at_call 10; with_reducible refine Calls.mono (N1 _) ?_; rintro e wz ⟨rfl, uB⟩) | (go_at_call 10; with_reducible refine Calls.mono (N8 _) ?_; rintro e wz ⟨rfl, uC⟩) | (go_at_call 21; with_reducible refine Calls.mono (HS _) ?_; rintro e wz ⟨rfl, uD⟩) | (go_at_call 10; with_reducible refine Calls.mono (N9 _) ?_; rintro e wz ⟨rfl, uE⟩) | (go_at_call 25; with_reducible refine Calls.mono (NG _) ?_; rintro e wz ⟨rfl, uF⟩) | (go_at_call 10; with_reducible refine Calls.mono (NA _) ?_; rintro e wz ⟨rfl, uG⟩))
  all_goals go_wp2_with fail
  all_goals go_ret
  all_goals exact ⟨rfl, HUx.out.then (And.right (And.right (And.right (And.right (And.right (And.right (And.right (And.right (And.right (And.right (And.right (And.right (And.right (And.right (And.right (by assumption)))))))))))))))) (fun _ _ => id)⟩
end Go.Proofs.YtmfngdjhkpddoaaGreatDoor
