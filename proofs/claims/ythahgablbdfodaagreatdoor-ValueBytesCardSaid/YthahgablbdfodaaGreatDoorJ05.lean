/- Order: the statement with both 'beside' (some minutes: many orders). -/
import Derived.Test.YthahgablbdfodaaGreatDoorJ04
/- Order: the statement with both 'beside' (some minutes: many orders). -/
set_option maxRecDepth 1000000
namespace Go.Proofs.YthahgablbdfodaaGreatDoor
open Go.RowKit Go.Lat Go.Lib

theorem beside_t {x y : Vl} {n : Nat} (h : x.t.length ≤ n) : (besideV x y).t.length ≤ n := by
  unfold besideV
  split
  · exact Nat.zero_le _
  · exact h
set_option maxHeartbeats 12800000 in
theorem ord_b3 (w W : World) (X1 X2 : Nat) (hne : X1 ≠ X2) (g1 : w.heap.size ≤ X1) (g2 : w.heap.size ≤ X2) (a b : Vl) (z1 : W.heap[X1]? = some (.cells a.cs 28 (0, 0))) (z2 : W.heap[X2]? = some (.cells b.cs 28 (0, 0))) (u : Upd w W (fun _ => False)) (la : a.t.length ≤ 1000000) (lb : b.t.length ≤ 1000000) (c0 c1 c4 c5 c6 c7 c8 c9 c10 c11 c12 c13 c14 c15 c16 c17 c18 c19 c20 c21 c22 c23 c24 c25 c26 c27 c28 c29 c30 c31 c32 c33 c34 c35 c36 c37 c38 c39 c40 c41 c42 c43 c44 c45 c46 c47 c48 c49 c50 c51 c52 c53 c54 c55 c56 c57 c58 c59 c60 c61 c62 c63 c64 c65 c66 c67 : Value) (K : Act → World → Prop) (hK : ∀ a' w', Code.wp Tryz.prog ordC2 (bodyPost Tryz.prog Tryz.f26 (OrdPost w (ord2 (besideV a b) (besideV b a), 0))) a' w' → K a' w') :
    Code.wp Tryz.prog ordR8 (Exit.then K (bodyPost Tryz.prog Tryz.f26 (OrdPost w (ord2 (besideV a b) (besideV b a), 0)))) ⟨#[c0, c1, .pointer (some ⟨X1, 0, none⟩), .pointer (some ⟨X2, 0, none⟩), c4, c5, c6, c7, c8, c9, c10, c11, c12, c13, c14, c15, c16, c17, c18, c19, c20, c21, c22, c23, c24, c25, c26, c27, c28, c29, c30, c31, c32, c33, c34, c35, c36, c37, c38, c39, c40, c41, c42, c43, c44, c45, c46, c47, c48, c49, c50, c51, c52, c53, c54, c55, c56, c57, c58, c59, c60, c61, c62, c63, c64, c65, c66, c67], []⟩ W := by
  obtain ⟨c0, c1, c2, c3, c4⟩ := cells5 z1
  obtain ⟨e0, e1, e2, e3, e4⟩ := cells5 z2
  have l1 := lt_at z1
  have l2 := lt_at z2
  have BA := fun w => beside_any w a b
  have BB := fun w => beside_any w b a
  have HLA := hide (beside_t (y := b) la)
  have HLB := hide (beside_t (y := a) lb)
  have Y1 := hide z1
  have Y2 := hide z2
  have HU := hide u
  have HNE := hide hne
  have hne2 : ¬ X2 = X1 := fun e => hne e.symm
  have HG1 := hide g1
  have HG2 := hide g2
  clear z1 z2 u la lb g1 g2
  obtain ⟨a', ha'⟩ : ∃ v, besideV a b = v := ⟨_, rfl⟩
  obtain ⟨b', hb'⟩ : ∃ v, besideV b a = v := ⟨_, rfl⟩
  have HK := hide hK
  clear hK
  rw [ha'] at BA HLA HK ⊢
  rw [hb'] at BB HLB HK ⊢
  obtain ⟨ak, an, at', ab, af⟩ := a
  obtain ⟨bk, bn, bt, bb, bf⟩ := b
  obtain ⟨ak2, an2, at2, ab2, af2⟩ := a'
  obtain ⟨bk2, bn2, bt2, bb2, bf2⟩ := b'
  unfold Vl.val at BA BB
  simp only at BA BB c0 c1 c2 c3 c4 e0 e1 e2 e3 e4
  clear ha' hb'
  conv => arg 2; whnf
  dsimp only
  go_wp2_with fail
  go_region_law (go_simp; first
    | (go_at_call 47; refine Calls.mono (BA _) ?_; rintro e w3 ⟨rfl, u3⟩
       have z1 := u3.get Y1.out id
       have z2 := u3.get Y2.out id
       obtain ⟨c0, c1, c2, c3, c4⟩ := cells5 z1
       obtain ⟨e0, e1, e2, e3, e4⟩ := cells5 z2
       have l1 := lt_at z1
       have l2 := lt_at z2
       have X3 := hide z1
       have X4 := hide z2
       have HU3 := hide u3
       clear z1 z2 u3 BA)
    | (go_at_call 47; refine Calls.mono (BB _) ?_; rintro e w4 ⟨rfl, u4⟩
       have z1 := u4.get X3.out id
       have z2 := u4.get X4.out id
       clear c0 c1 c2 c3 c4 e0 e1 e2 e3 e4 l1 l2
       obtain ⟨c0, c1, c2, c3, c4⟩ := cells5 z1
       obtain ⟨e0, e1, e2, e3, e4⟩ := cells5 z2
       have l1 := lt_at z1
       have l2 := lt_at z2
       have f10 := free_at z1 0
       have f11 := free_at z1 1
       have f12 := free_at z1 2
       have f13 := free_at z1 3
       have f14 := free_at z1 4
       have f20 := free_at z2 0
       have f21 := free_at z2 1
       have f22 := free_at z2 2
       have f23 := free_at z2 3
       have f24 := free_at z2 4
       have X5 := hide z1
       have X6 := hide z2
       have HU4 := hide u4
       clear z1 z2 u4))
  all_goals (
    refine HK.out _ _ ?_
    obtain ⟨q1, q2, q3⟩ := set_two X5.out X6.out HNE.out ⟨ak2, an2, at2, ab2, af2⟩ ⟨bk2, bn2, bt2, bb2, bf2⟩
    exact ord_b2 w _ X1 X2 _ _ q1 q2 ((((HU.out.drew).then HU3.out (fun _ _ => id)).then HU4.out (fun _ _ => id)).then q3 (fun i hi e => by have := HG1.out; have := HG2.out; omega)) HLA.out HLB.out _ _ _ _ _ _ _ _ _ _ _ _ _ _ _ _ _ _ _ _ _ _ _ _ _ _ _ _ _ _ _ _ _ _ _ _ _ _ _ _ _ _ _ _ _ _ _ _ _ _ _ _ _ _ _ _ _ _ _ _ _ _ _ _ _ _)
end Go.Proofs.YthahgablbdfodaaGreatDoor
/- Order behind both 'sound'. -/
set_option maxRecDepth 1000000
namespace Go.Proofs.YthahgablbdfodaaGreatDoor
open Go.RowKit Go.Lat Go.Lib

set_option maxHeartbeats 3200000 in
theorem ord_b1 (w W : World) (X1 X2 : Nat) (hne : X1 ≠ X2) (g1 : w.heap.size ≤ X1) (g2 : w.heap.size ≤ X2) (a b : Vl) (z1 : W.heap[X1]? = some (.cells a.cs 28 (0, 0))) (z2 : W.heap[X2]? = some (.cells b.cs 28 (0, 0))) (u : Upd w W (fun _ => False)) (la : a.t.length ≤ 1000000) (lb : b.t.length ≤ 1000000) (c0 c1 c4 c5 c6 c7 c8 c9 c10 c11 c12 c13 c14 c15 c16 c17 c18 c19 c20 c21 c22 c23 c24 c25 c26 c27 c28 c29 c30 c31 c32 c33 c34 c35 c36 c37 c38 c39 c40 c41 c42 c43 c44 c45 c46 c47 c48 c49 c50 c51 c52 c53 c54 c55 c56 c57 c58 c59 c60 c61 c62 c63 c64 c65 c66 c67 : Value) :
    Code.wp Tryz.prog ordC1 (bodyPost Tryz.prog Tryz.f26 (OrdPost w (if a.k = 4 then (0, a.f) else if b.k = 4 then (0, b.f) else (ord2 (besideV a b) (besideV b a), 0)))) ⟨#[c0, c1, .pointer (some ⟨X1, 0, none⟩), .pointer (some ⟨X2, 0, none⟩), c4, c5, c6, c7, c8, c9, c10, c11, c12, c13, c14, c15, c16, c17, c18, c19, c20, c21, c22, c23, c24, c25, c26, c27, c28, c29, c30, c31, c32, c33, c34, c35, c36, c37, c38, c39, c40, c41, c42, c43, c44, c45, c46, c47, c48, c49, c50, c51, c52, c53, c54, c55, c56, c57, c58, c59, c60, c61, c62, c63, c64, c65, c66, c67], []⟩ W := by
  obtain ⟨c0, c1, c2, c3, c4⟩ := cells5 z1
  obtain ⟨e0, e1, e2, e3, e4⟩ := cells5 z2
  have l1 := lt_at z1
  have l2 := lt_at z2
  have Z1 := hide z1
  have Z2 := hide z2
  have HU := hide u
  have I0 : ∀ w, (Instr.index 82 (.agg #[.int .i64 a.k, .int .i64 a.n, enS a.t, .bool a.b, .int .i64 a.f, .int .i64 b.k, .int .i64 b.n, enS b.t, .bool b.b, .int .i64 b.f]) (.int .i64 0)).run Tryz.prog w = .ok (.agg #[.int .i64 a.k, .int .i64 a.n, enS a.t, .bool a.b, .int .i64 a.f]) w := fun _ => by kernel_rfl
  have I1 : ∀ w, (Instr.index 82 (.agg #[.int .i64 a.k, .int .i64 a.n, enS a.t, .bool a.b, .int .i64 a.f, .int .i64 b.k, .int .i64 b.n, enS b.t, .bool b.b, .int .i64 b.f]) (.int .i64 1)).run Tryz.prog w = .ok (.agg #[.int .i64 b.k, .int .i64 b.n, enS b.t, .bool b.b, .int .i64 b.f]) w := fun _ => by kernel_rfl
  have HLT := hide (And.intro la lb)
  clear z1 z2 u la lb
  by_cases h4 : a.k = 4
  · rw [if_pos h4]
    obtain ⟨ak, an, at', ab, af⟩ := a
    obtain rfl : ak = 4 := h4
    simp only at I0 I1
    conv => arg 2; whnf
    go_wp2_with fail
    refine wp_loop_rounds 1 ?_
    rw [rounds_succ]
    go_wp2_with fail
    go_quiet (fail)
    go_wp2_with fail
    go_ret2
    exact ⟨rfl, (HU.out.alloc _).drewN nq⟩
  · rw [if_neg h4]
    have b4 : (a.k == 4) = false := by simpa using h4
    by_cases h5 : b.k = 4
    · rw [if_pos h5]
      obtain ⟨ak, an, at', ab, af⟩ := a
      obtain ⟨bk, bn, bt, bb, bf⟩ := b
      obtain rfl : bk = 4 := h5
      simp only at I0 I1
      clear h4
      conv => arg 2; whnf
      go_wp2_with fail
      refine wp_loop_rounds 2 ?_
      rw [rounds_succ]
      go_wp2_with fail
      rw [rounds_succ]
      go_wp2_with fail
      go_quiet (fail)
      go_wp2_with fail
      go_ret2
      exact ⟨rfl, ((HU.out.alloc _).alloc _).drewN nq⟩
    · rw [if_neg h5]
      have b5 : (b.k == 4) = false := by simpa using h5
      obtain ⟨ak, an, at', ab, af⟩ := a
      obtain ⟨bk, bn, bt, bb, bf⟩ := b
      simp only at b4 b5 I0 I1
      have HUV := hide (((Upd.refl W (fun _ => False)).alloc (.cells (Vl.mk ak an at' ab af).cs 28)).alloc (.cells (Vl.mk bk bn bt bb bf).cs 28))
      clear h4 h5
      conv => arg 2; whnf
      go_wp2_with fail
      refine wp_loop_rounds 3 ?_
      rw [rounds_succ]
      go_wp2_with fail
      rw [rounds_succ]
      go_wp2_with fail
      rw [rounds_succ]
      go_wp2_with fail
      rename_i hK
      refine ord_b3 w _ X1 X2 hne g1 g2 ⟨ak, an, at', ab, af⟩ ⟨bk, bn, bt, bb, bf⟩ (HUV.out.get Z1.out id) (HUV.out.get Z2.out id) (HU.out.then HUV.out (fun _ _ => id)) HLT.out.1 HLT.out.2 _ _ _ _ _ _ _ _ _ _ _ _ _ _ _ _ _ _ _ _ _ _ _ _ _ _ _ _ _ _ _ _ _ _ _ _ _ _ _ _ _ _ _ _ _ _ _ _ _ _ _ _ _ _ _ _ _ _ _ _ _ _ _ _ _ _ _ hK
end Go.Proofs.YthahgablbdfodaaGreatDoor
/- The walk of package value's Order. -/
set_option maxRecDepth 1000000
namespace Go.Proofs.YthahgablbdfodaaGreatDoor
open Go.RowKit Go.Lat Go.Lib

theorem sound_t {x : Vl} {n : Nat} (h : x.t.length ≤ n) : (soundV x).t.length ≤ n := by
  unfold soundV
  split
  · exact h
  · exact Nat.zero_le _
set_option maxHeartbeats 6400000 in
theorem Order_any (w : World) (x y : Vl) (hx : x.ok) (hy : y.ok) (lx : x.t.length ≤ 1000000) (ly : y.t.length ≤ 1000000) : Calls Tryz.prog 26 #[x.val, y.val] w (OrdPost w (orderV x y)) := by
  have SX := fun w => sound_any w x hx
  have SY := fun w => sound_any w y hy
  have bX1 : ((w.alloc (.cells x.cs 28)).alloc (.cells y.cs 28)).heap[w.heap.size]? = some (.cells x.cs 28 (0, 0)) := block_alloc (Vnew1 w _) _
  have bX2 := Vnew2 w (.cells x.cs 28) (.cells y.cs 28)
  have HX1 := hide bX1
  have HX2 := hide bX2
  have HLX := hide (sound_t lx)
  have HLY := hide (sound_t ly)
  obtain ⟨a, ha⟩ : ∃ a, soundV x = a := ⟨_, rfl⟩
  obtain ⟨b, hb⟩ : ∃ b, soundV y = b := ⟨_, rfl⟩
  unfold orderV
  rw [ha] at SX HLX ⊢
  rw [hb] at SY HLY ⊢
  obtain ⟨xk, xn, xt, xb, xf⟩ := x
  obtain ⟨yk, yn, yt, yb, yf⟩ := y
  unfold Vl.val at SX SY ⊢
  simp only [Vl.cs] at SX SY HX1 HX2 ⊢
  obtain ⟨P, hP⟩ : ∃ P, OrdPost w (if a.k = 4 then (0, a.f) else if b.k = 4 then (0, b.f) else (ord2 (besideV a b) (besideV b a), 0)) = P := ⟨_, rfl⟩
  change Calls Tryz.prog 26 _ w (OrdPost w (if a.k = 4 then (0, a.f) else if b.k = 4 then (0, b.f) else (ord2 (besideV a b) (besideV b a), 0)))
  rw [hP]
  have HP := hide hP
  clear bX1 bX2 ha hb hx hy lx ly hP
  go_enter Tryz.func26, Tryz.ntmps26
  go_wp2_with fail
  go_region_law (go_simp; first
    | (go_at_call 46; refine Calls.mono (SX _) ?_; rintro e w2 ⟨rfl, u2⟩
       have z1 := u2.get HX1.out id
       have z2 := u2.get HX2.out id
       obtain ⟨c0, c1, c2, c3, c4⟩ := cells5 z1
       obtain ⟨e0, e1, e2, e3, e4⟩ := cells5 z2
       have l1 := lt_at z1
       have l2 := lt_at z2
       have Z1 := hide z1
       have Z2 := hide z2
       have HU2 := hide u2
       clear z1 z2 u2 SX)
    | (go_at_call 46; refine Calls.mono (SY _) ?_; rintro e w3 ⟨rfl, u3⟩
       have z1 := u3.get Z1.out id
       have z2 := u3.get Z2.out id
       clear c0 c1 c2 c3 c4 e0 e1 e2 e3 e4 l1 l2
       obtain ⟨c0, c1, c2, c3, c4⟩ := cells5 z1
       obtain ⟨e0, e1, e2, e3, e4⟩ := cells5 z2
       have l1 := lt_at z1
       have l2 := lt_at z2
       have f10 := free_at z1 0
       have f11 := free_at z1 1
       have f12 := free_at z1 2
       have f13 := free_at z1 3
       have f14 := free_at z1 4
       have f20 := free_at z2 0
       have f21 := free_at z2 1
       have f22 := free_at z2 2
       have f23 := free_at z2 3
       have f24 := free_at z2 4
       have Y1 := hide z1
       have Y2 := hide z2
       have HU3 := hide u3
       clear z1 z2 u3))
  all_goals (
    rename_i hK
    refine hK _ _ ?_
    obtain ⟨q1, q2, q3⟩ := set_two (x := ⟨xk, xn, xt, xb, xf⟩) (y := ⟨yk, yn, yt, yb, yf⟩) Y1.out Y2.out (by omega) a b
    have u0 : Upd w ((w.alloc (.cells #[.int .i64 xk, .int .i64 xn, enS xt, .bool xb, .int .i64 xf] 28)).alloc (.cells #[.int .i64 yk, .int .i64 yn, enS yt, .bool yb, .int .i64 yf] 28)) (fun _ => False) := ((Upd.refl w _).alloc _).alloc _
    rw [← HP.out]
    exact ord_b1 w _ w.heap.size (w.heap.size + 1) (by omega) (Nat.le_refl _) (by omega) a b q1 q2 ((((u0.drew).then HU2.out (fun _ _ => id)).then HU3.out (fun _ _ => id)).then q3 (fun i hi e => by omega)) HLX.out HLY.out _ _ _ _ _ _ _ _ _ _ _ _ _ _ _ _ _ _ _ _ _ _ _ _ _ _ _ _ _ _ _ _ _ _ _ _ _ _ _ _ _ _ _ _ _ _ _ _ _ _ _ _ _ _ _ _ _ _ _ _ _ _ _ _ _ _)
end Go.Proofs.YthahgablbdfodaaGreatDoor
/- The reference's Order is the program's. -/
set_option maxRecDepth 100000
namespace Go.Proofs.YthahgablbdfodaaGreatDoor
open Go.RowKit Go.Lat Go.Lib

theorem ROrder_any (w : World) (x y : Vl) (lx : x.t.length ≤ 1000000) (ly : y.t.length ≤ 1000000) : Calls Tryz.prog 27 #[x.val, y.val] w (OrdPost w (orderV x y)) := by
  have SX := fun w => RSound_any w x
  have SY := fun w => RSound_any w y
  have hlx := sound_t lx
  have hly := sound_t ly
  have px := soundV_plain (x := x)
  have py := soundV_plain (x := y)
  unfold orderV
  obtain ⟨a, ha⟩ : ∃ a, soundV x = a := ⟨_, rfl⟩
  obtain ⟨b, hb⟩ : ∃ b, soundV y = b := ⟨_, rfl⟩
  rw [ha] at SX hlx px
  rw [hb] at SY hly py
  rw [ha, hb]
  obtain ⟨ak, an, at', ab, af⟩ := a
  obtain ⟨bk, bn, bt, bb, bf⟩ := b
  obtain ⟨xk, xn, xt, xb, xf⟩ := x
  obtain ⟨yk, yn, yt, yb, yf⟩ := y
  unfold Vl.val at SX SY ⊢
  simp only at SX SY px py ⊢
  clear ha hb lx ly
  by_cases h4 : ak = 4
  · rw [if_pos h4]
    exact rordA w xk xn xt xb xf yk yn yt yb yf ak an at' ab af bk bn bt bb bf SX SY (by simpa using h4)
  · rw [if_neg h4]
    by_cases h5 : bk = 4
    · rw [if_pos h5]
      exact rordB w xk xn xt xb xf yk yn yt yb yf ak an at' ab af bk bn bt bb bf SX SY (by simpa using h4) (by simpa using h5)
    · rw [if_neg h5]
      have pa := px h4
      have pb := py h5
      have pa' := beside_plain pa pb
      have pb' := beside_plain pb pa
      have e4 : (ak == 4) = false := by simpa using h4
      have e5 : (bk == 4) = false := by simpa using h5
      by_cases h6 : ak = 0
      · have e6 : (ak == 0) = true := by simpa using h6
        have ea : besideV ⟨ak, an, at', ab, af⟩ ⟨bk, bn, bt, bb, bf⟩ = ⟨bk, 0, [], false, 0⟩ := by unfold besideV; rw [if_pos h6]
        rw [ea] at pa' ⊢
        by_cases h7 : bk = 0
        · have e7 : (bk == 0) = true := by simpa using h7
          have eb : besideV ⟨bk, bn, bt, bb, bf⟩ ⟨ak, an, at', ab, af⟩ = ⟨bk, 0, [], false, 0⟩ := by unfold besideV; rw [if_pos h7, h6, h7]
          rw [eb] at pb' ⊢
          exact rordC11 w xk xn xt xb xf yk yn yt yb yf ak an at' ab af bk bn bt bb bf SX SY e4 e5 e6 e7 hlx hly pa' pb'
        · have e7 : (bk == 0) = false := by simpa using h7
          have eb : besideV ⟨bk, bn, bt, bb, bf⟩ ⟨ak, an, at', ab, af⟩ = ⟨bk, bn, bt, bb, bf⟩ := by unfold besideV; rw [if_neg h7]
          rw [eb] at pb' ⊢
          exact rordC10 w xk xn xt xb xf yk yn yt yb yf ak an at' ab af bk bn bt bb bf SX SY e4 e5 e6 e7 hlx hly pa' pb'
      · have e6 : (ak == 0) = false := by simpa using h6
        have ea : besideV ⟨ak, an, at', ab, af⟩ ⟨bk, bn, bt, bb, bf⟩ = ⟨ak, an, at', ab, af⟩ := by unfold besideV; rw [if_neg h6]
        rw [ea] at pa' ⊢
        by_cases h7 : bk = 0
        · have e7 : (bk == 0) = true := by simpa using h7
          have eb : besideV ⟨bk, bn, bt, bb, bf⟩ ⟨ak, an, at', ab, af⟩ = ⟨ak, 0, [], false, 0⟩ := by unfold besideV; rw [if_pos h7]
          rw [eb] at pb' ⊢
          exact rordC01 w xk xn xt xb xf yk yn yt yb yf ak an at' ab af bk bn bt bb bf SX SY e4 e5 e6 e7 hlx hly pa' pb'
        · have e7 : (bk == 0) = false := by simpa using h7
          have eb : besideV ⟨bk, bn, bt, bb, bf⟩ ⟨ak, an, at', ab, af⟩ = ⟨bk, bn, bt, bb, bf⟩ := by unfold besideV; rw [if_neg h7]
          rw [eb] at pb' ⊢
          exact rordC00 w xk xn xt xb xf yk yn yt yb yf ak an at' ab af bk bn bt bb bf SX SY e4 e5 e6 e7 hlx hly pa' pb'
end Go.Proofs.YthahgablbdfodaaGreatDoor
/- The walks of the law's values, same; of package value's truth. -/
set_option maxRecDepth 100000
namespace Go.Lat
theorem results_cell2_row {P : Program} {fn : Func} {p q : Tmp} {ty uy : TypeId} (h : fn.results = #[.cell p ty, .cell q uy]) (tmps : Array Value) (w : World) (g g2 : Nat) (t t2 : TypeId) (cs cs2 : Array Value) (fr fr2 : Nat × Nat) (d d2 : TypeDesc)
    (hp : tmps.getD p undef = .pointer (some ⟨g, 0, none⟩)) (hq : tmps.getD q undef = .pointer (some ⟨g2, 0, none⟩)) (hg : w.heap[g]? = some (.cells cs t fr)) (hg2 : w.heap[g2]? = some (.cells cs2 t2 fr2))
    (hu : P.underlying ty = some d) (hd : (match d with | .struct _ | .array _ _ => true | _ => false) = true) (hi : (P.info? ty).map (·.size) = some cs.size)
    (hu2 : P.underlying uy = some d2) (hd2 : (match d2 with | .struct _ | .array _ _ => true | _ => false) = true) (hi2 : (P.info? uy).map (·.size) = some cs2.size) :
    (results fn tmps).run P w = .ok (.tuple #[.agg cs, .agg cs2]) w := by
  have hp' : tmps[p]?.getD undef = .pointer (some ⟨g, 0, none⟩) := by simpa using hp
  have hq' : tmps[q]?.getD undef = .pointer (some ⟨g2, 0, none⟩) := by simpa using hq
  simp [results, h, hp', hq', asAddr, run_loadVar_row w g t ty cs fr d hg hu hd hi, run_loadVar_row w g2 t2 uy cs2 fr2 d2 hg2 hu2 hd2 hi2, Result.andThen]
theorem results_cell_tmp_row {P : Program} {fn : Func} {p q : Tmp} {ty : TypeId} (h : fn.results = #[.cell p ty, .tmp q]) (tmps : Array Value) (w : World) (g : Nat) (t : TypeId) (cs : Array Value) (fr : Nat × Nat) (d : TypeDesc)
    (hp : tmps.getD p undef = .pointer (some ⟨g, 0, none⟩)) (hg : w.heap[g]? = some (.cells cs t fr))
    (hu : P.underlying ty = some d) (hd : (match d with | .struct _ | .array _ _ => true | _ => false) = true) (hi : (P.info? ty).map (·.size) = some cs.size) :
    (results fn tmps).run P w = .ok (.tuple #[.agg cs, tmps.getD q undef]) w := by
  have hp' : tmps[p]?.getD undef = .pointer (some ⟨g, 0, none⟩) := by simpa using hp
  simp [results, h, hp', asAddr, run_loadVar_row w g t ty cs fr d hg hu hd hi, Result.andThen]
end Go.Lat
namespace Go.Proofs.YthahgablbdfodaaGreatDoor
open Go.RowKit Go.Lat Go.Lib

theorem cut300 (l : List UInt8) : (⟨l.toArray⟩ : ByteArray).extract 0 (min (l.length : Int) 300).toNat = ⟨(l.take 300).toArray⟩ := by
  apply ByteArray.ext
  apply Array.ext'
  have e : (min (l.length : Int) 300).toNat = min l.length 300 := by omega
  rw [e, ByteArray.data_extract]
  simp only [Array.toList_extract, List.extract_eq_take_drop, Nat.sub_zero, List.drop_zero]
  rw [Nat.min_comm, ← List.take_eq_take_min]
/-- A value with its text cut. -/
def cutV (x : Vl) : Vl := ⟨x.k, x.n, x.t.take 300, x.b, x.f⟩

set_option maxHeartbeats 1600000 in
theorem values_any (w : World) (k n : Int) (t ct : List UInt8) (b : Bool) (f : Int) (hct : t.take 300 = ct) : Calls Tryz.prog 7 #[.agg #[.int .i64 k, .int .i64 n, enS t, .bool b, .int .i64 f]] w fun e w' =>
    e = .returned (.tuple #[.agg #[.int .i64 k, .int .i64 n, enS ct, .bool b, .int .i64 f], .agg #[.int .i64 k, .int .i64 n, enS ct, .bool b, .int .i64 f]]) ∧ Upd w w' (fun _ => False) := by
  have n2 : ∀ (A B C : Obj), (((w.alloc A).alloc B).alloc C).heap[w.heap.size + 1]? = some B := fun A B C => block_alloc (Vnew2 w A B) C
  have n3 : ∀ (A B C : Obj), (((w.alloc A).alloc B).alloc C).heap[w.heap.size + 1 + 1]? = some C := fun A B C => by
    have := Vnew2 (w.alloc A) B C
    simpa using this
  have N2 := hide n2
  have N3 := hide n3
  have HC := hide hct
  clear n2 n3 hct
  go_enter Tryz.func7, Tryz.ntmps7
  go_wp2_with fail
  simp only [cut300, HC.out]
  go_wp2_with fail
  go_region_held3 (fun w' => w'.cell? ⟨w.heap.size, 0, none⟩ = some (.int .i64 k) ∧ w'.cell? ⟨w.heap.size, 1, none⟩ = some (.int .i64 n) ∧ w'.cell? ⟨w.heap.size, 2, none⟩ = some (.string ⟨ct.toArray⟩) ∧ w'.cell? ⟨w.heap.size, 3, none⟩ = some (.bool b) ∧ w'.cell? ⟨w.heap.size, 4, none⟩ = some (.int .i64 f)) (go_keep) (fail)
  go_wp2_with fail
  (try simp only [Exit.inBlock, Exit.then])
  refine bodyPost_ret (results_cell2_row rfl _ _ (w.heap.size + 1) (w.heap.size + 1 + 1) _ _ _ _ _ _ _ _ rfl rfl (N2.out _ _ _) (N3.out _ _ _) Tryz.underlying28 rfl (by kernel_rfl) Tryz.underlying29 rfl (by kernel_rfl)) rfl ?_
  exact ⟨rfl, ((((Upd.refl w _).alloc _).alloc _).alloc _).drew⟩
end Go.Proofs.YthahgablbdfodaaGreatDoor
/- The signs of errors; the walks of package value's Fail.Text, truth. -/
set_option maxRecDepth 100000
namespace Go.Proofs.YthahgablbdfodaaGreatDoor
open Go.RowKit Go.Lat Go.Lib

def signL : List (List UInt8) := [[], [35, 68, 73, 86, 47, 48, 33], [35, 78, 85, 77, 33], [35, 86, 65, 76, 85, 69, 33], [35, 82, 69, 70, 33], [35, 78, 65, 77, 69, 63], [35, 78, 47, 65], [35, 67, 89, 67, 76, 69, 33], [35, 76, 73, 78, 75, 33]]
/-- The table of the errors in signs lies in the world. -/
def Sig (w : World) : Prop := 0 < w.heap.size ∧ ∀ (f : Nat) (x : List UInt8), signL[f]? = some x → w.cell? ⟨0, f, none⟩ = some (enS x)
theorem Sig.upd {w w' : World} {S : Nat → Prop} (h : Sig w) (u : Upd w w' S) (hn : ¬ S 0) : Sig w' :=
  ⟨Nat.lt_of_lt_of_le h.1 u.size, fun f x hx => (u.cell _ f h.1 hn).trans (h.2 f x hx)⟩
/-- An error in signs. -/
def signT (f : Int) : List UInt8 := if okFail f then signL.getD f.toNat [] else []
theorem FailText_any (w : World) (hs : Sig w) (f : Int) : Calls Tryz.prog 18 #[.int .i64 f] w fun e w' => e = .returned (enS (signT f)) ∧ w' = w := by
  have I := fun w => is_any w f
  unfold signT
  cases h : okFail f with
  | false =>
    rw [h] at I
    simp only [Bool.false_eq_true, if_false]
    clear h hs
    go_enter Tryz.func18, Tryz.ntmps18
    go_wp2_with fail
    refine Calls.mono (I _) ?_
    rintro e w1 ⟨rfl, rfl⟩
    go_wp2_with fail
    go_ret
    exact ⟨rfl, rfl⟩
  | true =>
    rw [h] at I
    simp only [if_true]
    have hf : 0 < f ∧ f < 9 := by simpa [okFail] using h
    obtain ⟨k, rfl⟩ : ∃ k : Nat, f = (k : Int) := ⟨f.toNat, by omega⟩
    have hk : k < signL.length := by have := hf.2; simp [signL]; omega
    obtain ⟨x, hx⟩ : ∃ x, signL[k]? = some x := ⟨_, List.getElem?_eq_getElem hk⟩
    have c0 := hs.2 k x hx
    have hgx : signL.getD (k : Int).toNat [] = x := by
      simp only [Int.toNat_natCast, List.getD]
      rw [hx]
      rfl
    have k0 : (0 : Int) ≤ (k : Int) := by omega
    have k1 : (k : Int) < 9 := hf.2
    rw [hgx]
    have HG := hide hs.1
    clear h hs hf hk hx hgx
    go_enter Tryz.func18, Tryz.ntmps18
    go_wp2_with fail
    refine Calls.mono (I _) ?_
    rintro e w1 ⟨rfl, rfl⟩
    go_wp2_with fail
    go_ret
    exact ⟨rfl, rfl⟩

def tTrue : List UInt8 := [84, 82, 85, 69]
def tFalse : List UInt8 := [70, 65, 76, 83, 69]
/-- Does a word say true, or false? -/
def truthV (s : List UInt8) : Bool × Bool := if upS s = tTrue then (true, true) else if upS s = tFalse then (false, true) else (false, false)
theorem truth_any (w : World) (s : List UInt8) (hs : s.length ≤ 1000000) : Calls Tryz.prog 59 #[enS s] w fun e w' => e = .returned (.tuple #[.bool (truthV s).1, .bool (truthV s).2]) ∧ Upd w w' (fun _ => False) := by
  have U := fun w => Upper_any w s hs
  unfold truthV
  obtain ⟨z, hz⟩ : ∃ z, upS s = z := ⟨_, rfl⟩
  rw [hz] at U ⊢
  clear hz
  by_cases h1 : z = tTrue
  · subst h1
    rw [if_pos rfl]
    unfold tTrue at U
    go_enter Tryz.func59, Tryz.ntmps59
    go_wp2_with fail
    refine Calls.mono (U _) ?_
    rintro e w1 ⟨rfl, u1⟩
    go_wp2_with fail
    go_ret2
    exact ⟨rfl, u1⟩
  · rw [if_neg h1]
    have b1 : (z == [84, 82, 85, 69]) = false := by simpa [tTrue] using h1
    by_cases h2 : z = tFalse
    · subst h2
      rw [if_pos rfl]
      unfold tFalse at U b1
      clear h1
      go_enter Tryz.func59, Tryz.ntmps59
      go_wp2_with fail
      refine Calls.mono (U _) ?_
      rintro e w1 ⟨rfl, u1⟩
      go_wp2_with fail
      go_ret2
      exact ⟨rfl, u1⟩
    · rw [if_neg h2]
      have b2 : (z == [70, 65, 76, 83, 69]) = false := by simpa [tFalse] using h2
      clear h1 h2
      go_enter Tryz.func59, Tryz.ntmps59
      go_wp2_with fail
      refine Calls.mono (U _) ?_
      rintro e w1 ⟨rfl, u1⟩
      go_wp2_with fail
      go_ret2
      exact ⟨rfl, u1⟩
end Go.Proofs.YthahgablbdfodaaGreatDoor
/- The walk of package value's Read, given what Parse answers. -/
set_option maxRecDepth 100000
namespace Go.Proofs.YthahgablbdfodaaGreatDoor
open Go.RowKit Go.Lat Go.Lib

/-- The first error whose signs a text is. -/
def signIs (s : List UInt8) : Option Nat := (List.range 8).find? fun i => decide (signT ((i + 1 : Nat) : Int) = s)
/-- What a text is read as, where Parse answers V, E. -/
def readV (s : List UInt8) (V E : Int) : Vl :=
  if s = [] then vZero else if E = 0 then mkN V else if (truthV s).2 = true then mkB (truthV s).1 else match signIs s with
    | some i => mkE ((i + 1 : Nat) : Int)
    | none => mkT s
theorem signIs_some {s : List UInt8} {f : Nat} (h1 : f < 8) (h2 : signT ((f + 1 : Nat) : Int) = s) (h3 : ∀ g : Nat, g < f → signT ((g + 1 : Nat) : Int) ≠ s) : signIs s = some f := by
  unfold signIs
  rw [List.find?_eq_some_iff_getElem]
  refine ⟨by simpa using h2, f, by simpa using h1, by simp, fun j hj => ?_⟩
  simpa using h3 j hj
theorem signIs_none {s : List UInt8} (h : ∀ g : Nat, g < 8 → signT ((g + 1 : Nat) : Int) ≠ s) : signIs s = none := by
  unfold signIs
  rw [List.find?_eq_none]
  intro g hg
  simpa using h g (by simpa using hg)

set_option maxHeartbeats 3200000 in
theorem Read_any (w : World) (hg : Sig w) (s : List UInt8) (hs : s.length ≤ 1000) (V E : Int) (PA : ∀ w, Calls Tryz.prog 55 #[enS s] w fun e w' => e = .returned (.tuple #[.int .i64 V, .int .i64 E]) ∧ Upd w w' (fun _ => False)) :
    Calls Tryz.prog 38 #[enS s] w fun e w' => e = .returned (readV s V E).val ∧ Upd w w' (fun _ => False) := by
  have HB := hide (Vnew1 w (.cells vZero.cs 28))
  unfold readV
  by_cases h0 : s = []
  · subst h0
    rw [if_pos rfl]
    clear PA hg
    go_enter Tryz.func38, Tryz.ntmps38
    go_wp2_with fail
    (try simp only [Exit.inBlock, Exit.then])
    refine bodyPost_ret (ret_vl rfl _ _ w.heap.size ⟨0, 0, [], false, 0⟩ rfl (Vnew1 w _)) rfl ?_
    exact ⟨rfl, (Upd.refl w _).alloc _⟩
  · rw [if_neg h0]
    have b0' : (s == []) = false := by simpa using h0
    by_cases h1 : E = 0
    · subst h1
      rw [if_pos rfl]
      have NA := fun w => N_any w V
      obtain ⟨ev, hev⟩ : ∃ v, mkN V = v := ⟨_, rfl⟩
      rw [hev] at NA ⊢
      obtain ⟨k0, n0, t0, b0, e0⟩ := ev
      unfold Vl.val at NA
      simp only at NA
      clear hev
      clear hg h0
      go_enter Tryz.func38, Tryz.ntmps38
      go_wp2_with fail
      refine Calls.mono (PA _) ?_
      rintro e w1 ⟨rfl, u1⟩
      have HX1 := hide (u1.get HB.out id)
      have HU1 := hide u1
      clear u1 PA
      go_wp2_with fail
      refine Calls.mono (NA _) ?_
      rintro e w2 ⟨rfl, u2⟩
      have bX2 := u2.get HX1.out id
      obtain ⟨c0, c1, c2, c3, c4⟩ := cells5 bX2
      have xl := lt_at bX2
      have f0 := free_at bX2 0
      have f1 := free_at bX2 1
      have f2 := free_at bX2 2
      have f3 := free_at bX2 3
      have f4 := free_at bX2 4
      have HX2 := hide bX2
      have HU2 := hide u2
      clear bX2 u2
      go_wp2_with fail
      (try simp only [Exit.inBlock, Exit.then])
      refine bodyPost_ret (ret_vl rfl _ _ w.heap.size ⟨k0, n0, t0, b0, e0⟩ rfl (block5 HX2.out _ _ _ _ _)) rfl ?_
      exact ⟨rfl, upd5 ((((Upd.refl w _).alloc _).then HU1.out (fun _ _ => id)).then HU2.out (fun _ _ => id)) (Nat.le_refl _) _ _ _ _ _⟩
    · rw [if_neg h1]
      have b1 : (E == 0) = false := by simpa using h1
      have TA := fun w => truth_any w s (by omega)
      cases h2 : (truthV s).2 with
      | true =>
        rw [h2] at TA
        simp only [if_true]
        have NA := fun w => B_any w (truthV s).1
        obtain ⟨ev, hev⟩ : ∃ v, mkB (truthV s).1 = v := ⟨_, rfl⟩
        rw [hev] at NA ⊢
        obtain ⟨k0, n0, t0, b0, e0⟩ := ev
        unfold Vl.val at NA
        simp only at NA
        clear hev
        clear hg h0 h1
        go_enter Tryz.func38, Tryz.ntmps38
        go_wp2_with fail
        refine Calls.mono (PA _) ?_
        rintro e w1 ⟨rfl, u1⟩
        have HX1 := hide (u1.get HB.out id)
        have HU1 := hide u1
        clear u1 PA
        go_wp2_with fail
        refine Calls.mono (TA _) ?_
        rintro e w2 ⟨rfl, u2⟩
        have HX2 := hide (u2.get HX1.out id)
        have HU2 := hide u2
        clear u2 TA
        go_wp2_with fail
        refine Calls.mono (NA _) ?_
        rintro e w3 ⟨rfl, u3⟩
        have bX3 := u3.get HX2.out id
        obtain ⟨c0, c1, c2, c3, c4⟩ := cells5 bX3
        have xl := lt_at bX3
        have f0 := free_at bX3 0
        have f1 := free_at bX3 1
        have f2 := free_at bX3 2
        have f3 := free_at bX3 3
        have f4 := free_at bX3 4
        have HX3 := hide bX3
        have HU3 := hide u3
        clear bX3 u3
        go_wp2_with fail
        (try simp only [Exit.inBlock, Exit.then])
        refine bodyPost_ret (ret_vl rfl _ _ w.heap.size ⟨k0, n0, t0, b0, e0⟩ rfl (block5 HX3.out _ _ _ _ _)) rfl ?_
        exact ⟨rfl, upd5 (((((Upd.refl w _).alloc _).then HU1.out (fun _ _ => id)).then HU2.out (fun _ _ => id)).then HU3.out (fun _ _ => id)) (Nat.le_refl _) _ _ _ _ _⟩
      | false =>
        rw [h2] at TA
        simp only [Bool.false_eq_true, if_false]
        obtain ⟨R, hR⟩ : ∃ R : Vl, (match signIs s with | some i => mkE ((i + 1 : Nat) : Int) | none => mkT s) = R := ⟨_, rfl⟩
        rw [hR]
        have HR := hide hR
        have HG := hide hg
        clear hR hg h0 h1
        go_enter Tryz.func38, Tryz.ntmps38
        go_wp2_with fail
        refine Calls.mono (PA _) ?_
        rintro e w1 ⟨rfl, u1⟩
        have HX1 := hide (u1.get HB.out id)
        have HU1 := hide u1
        clear u1 PA
        go_wp2_with fail
        refine Calls.mono (TA _) ?_
        rintro e w2 ⟨rfl, u2⟩
        have HX2 := hide (u2.get HX1.out id)
        have HU2 := hide ((((Upd.refl w _).alloc _).then HU1.out (fun _ _ => id)).then u2 (fun _ _ => id))
        clear u2 TA HU1
        go_wp2_with fail
        go_loopg [7] 8 (fun q iv wr => wr = w2 ∧ ∃ f : Nat, f + q = 8 ∧ iv = .int .i64 ((f + 1 : Nat) : Int) ∧ ∀ g : Nat, g < f → signT ((g + 1 : Nat) : Int) ≠ s)
        case atStart => exact ⟨rfl, 0, by omega, by rfl, fun g hg => by omega⟩
        case round =>
          obtain ⟨hw, f, hf, rfl, hno⟩ := hrel
          replace hw := hw.symm
          subst hw
          have hsg := HG.out.upd HU2.out id
          by_cases hf8 : f < 8
          · have FT := FailText_any w2 hsg ((f + 1 : Nat) : Int)
            have k1 : ((f + 1 : Nat) : Int) < 9 := by omega
            have k1' : decide (((f + 1 : Nat) : Int) < 9) = true := by simp; omega
            have hwr : IntKind.i64.wrap (((f + 1 : Nat) : Int) + 1) = ((f + 1 + 1 : Nat) : Int) := by rw [IntWalk.i64_in _ (by omega)]; omega
            obtain ⟨z, hz⟩ : ∃ z, signT ((f + 1 : Nat) : Int) = z := ⟨_, rfl⟩
            rw [hz] at FT
            by_cases hzs : z = s
            · subst hzs
              have hsi := signIs_some hf8 hz hno
              have hRv : mkE ((f + 1 : Nat) : Int) = R := by rw [← HR.out, hsi]
              have NA := fun w => E_any w ((f + 1 : Nat) : Int)
              obtain ⟨ev, hev⟩ : ∃ v, mkE ((f + 1 : Nat) : Int) = v := ⟨_, rfl⟩
              rw [hev] at NA hRv
              obtain ⟨k0, n0, t0, b0, e0⟩ := ev
              have HRV := hide hRv
              unfold Vl.val at NA
              simp only at NA
              obtain ⟨fi, hfi⟩ : ∃ fi : Int, ((f + 1 : Nat) : Int) = fi := ⟨_, rfl⟩
              rw [hfi] at FT NA k1 k1' ⊢
              clear hsg hno hz hsi hRv hwr hev hfi
              go_wp2_with fail
              refine Calls.mono FT ?_
              rintro e w3 ⟨rfl, hw3⟩
              replace hw3 := hw3.symm
              subst hw3
              go_wp2_with fail
              refine Calls.mono (NA _) ?_
              rintro e w4 ⟨rfl, u4⟩
              have bX4 := u4.get HX2.out id
              obtain ⟨c0, c1, c2, c3, c4⟩ := cells5 bX4
              have xl := lt_at bX4
              have f0 := free_at bX4 0
              have f1 := free_at bX4 1
              have f2 := free_at bX4 2
              have f3 := free_at bX4 3
              have f4 := free_at bX4 4
              have HX4 := hide bX4
              have HU4 := hide u4
              clear bX4 u4
              go_wp2_with fail
              (try simp only [Exit.inBlock, Exit.then])
              refine bodyPost_ret (ret_vl rfl _ _ w.heap.size ⟨k0, n0, t0, b0, e0⟩ rfl (block5 HX4.out _ _ _ _ _)) rfl ?_
              exact ⟨by rw [← HRV.out], upd5 (HU2.out.then HU4.out (fun _ _ => id)) (Nat.le_refl _) _ _ _ _ _⟩
            · have hb : (s == z) = false := by simpa using fun e : s = z => hzs e.symm
              have HN := hide hno
              have HZ := hide hz
              clear hsg hno hz
              go_wp2_with fail
              refine Calls.mono FT ?_
              rintro e w3 ⟨rfl, hw3⟩
              replace hw3 := hw3.symm
              subst hw3
              go_wp2_with fail
              go_roundg (gk - 1)
              case measure => omega
              case rel =>
                refine ⟨rfl, f + 1, by omega, by first | rfl | (rw [← hwr]; go_num) | go_num, fun g hg => ?_⟩
                by_cases e : g = f
                · subst e
                  rw [HZ.out]
                  exact hzs
                · exact HN.out g (by omega)
          · have k1 : ¬ ((f + 1 : Nat) : Int) < 9 := by omega
            have k1' : decide (((f + 1 : Nat) : Int) < 9) = false := by simp; omega
            have hsi := signIs_none (fun g hg => hno g (by omega))
            have hRv : mkT s = R := by rw [← HR.out, hsi]
            have NA := fun w => T_any w s
            obtain ⟨ev, hev⟩ : ∃ v, mkT s = v := ⟨_, rfl⟩
            rw [hev] at NA hRv
            obtain ⟨k0, n0, t0, b0, e0⟩ := ev
            have HRV := hide hRv
            unfold Vl.val at NA
            simp only at NA
            clear hsg hno hsi hRv hev
            go_wp2_with fail
            refine Calls.mono (NA _) ?_
            rintro e w4 ⟨rfl, u4⟩
            have bX4 := u4.get HX2.out id
            obtain ⟨c0, c1, c2, c3, c4⟩ := cells5 bX4
            have xl := lt_at bX4
            have f0 := free_at bX4 0
            have f1 := free_at bX4 1
            have f2 := free_at bX4 2
            have f3 := free_at bX4 3
            have f4 := free_at bX4 4
            have HX4 := hide bX4
            have HU4 := hide u4
            clear bX4 u4
            go_wp2_with fail
            (try simp only [Exit.inBlock, Exit.then])
            refine bodyPost_ret (ret_vl rfl _ _ w.heap.size ⟨k0, n0, t0, b0, e0⟩ rfl (block5 HX4.out _ _ _ _ _)) rfl ?_
            exact ⟨by rw [← HRV.out], upd5 (HU2.out.then HU4.out (fun _ _ => id)) (Nat.le_refl _) _ _ _ _ _⟩
end Go.Proofs.YthahgablbdfodaaGreatDoor
/- The walk of package value's Show at an error. -/
set_option maxRecDepth 100000
namespace Go.Proofs.YthahgablbdfodaaGreatDoor
open Go.RowKit Go.Lat Go.Lib

set_option maxHeartbeats 3200000 in
theorem ShowE_any (w : World) (hg : Sig w) (x : Vl) (hx : x.ok) (n : Int) (t : List UInt8) (b : Bool) (f : Int) (h : soundV x = ⟨4, n, t, b, f⟩) :
    Calls Tryz.prog 34 #[x.val] w fun e w' => e = .returned (enS (signT f)) ∧ Upd w w' (fun _ => False) := by
  have SA := fun w => sound_any w x hx
  rw [h] at SA
  obtain ⟨k0, n0, t0, b0, e0⟩ := x
  unfold Vl.val at SA ⊢
  simp only at SA ⊢
  have HG := hide hg
  clear h hg
  go_enter Tryz.func34, Tryz.ntmps34
  go_wp2_with fail
  refine Calls.mono (SA _) ?_
  rintro e w1 ⟨rfl, u1⟩
  have bX := u1.get (Vnew1 w (.cells (Vl.mk k0 n0 t0 b0 e0).cs 28)) id
  obtain ⟨c0, c1, c2, c3, c4⟩ := cells5 bX
  have xl := lt_at bX
  have f0 := free_at bX 0
  have f1 := free_at bX 1
  have f2 := free_at bX 2
  have f3 := free_at bX 3
  have f4 := free_at bX 4
  have HX := hide bX
  have HU := hide (((Upd.refl w _).alloc _).then u1 (fun _ _ => id))
  clear bX u1 SA
  have HS := hide (HG.out.upd HU.out id)
  have FT := fun (w' : World) (hs : Sig w') => FailText_any w' hs f
  go_wp2_with fail
  have UU := hide (upd5 (W := w1) HU.out (g := w.heap.size) (Nat.le_refl _) (.int .i64 4) (.int .i64 n) (.string ⟨t.toArray⟩) (.bool b) (.int .i64 f))
  have HS2 := HG.out.upd UU.out id
  refine Calls.mono (FT _ HS2) ?_
  rintro e w2 ⟨rfl, hw⟩
  have HW := hide hw
  clear hw FT HS2
  go_wp2_with fail
  (try simp only [Exit.inBlock, Exit.then])
  go_ret
  refine ⟨rfl, ?_⟩
  rw [HW.out]
  exact UU.out
end Go.Proofs.YthahgablbdfodaaGreatDoor
/- The walk of package value's Put at a number. -/
set_option maxRecDepth 100000
namespace Go.Proofs.YthahgablbdfodaaGreatDoor
open Go.RowKit Go.Lat Go.Lib

/-- A slice of bytes that reads. -/
def BtAt (w : World) (v : Value) (l : List UInt8) : Prop := Rw w 5 1 v l.length (l.map fun b => .int .u8 (b.toNat : Int))
theorem Tryz.info5 : (Tryz.prog.info? 5).map (fun i => (i.zero, i.size, i.bytes)) = some (some (.int .u8 0), 1, 1) := by kernel_rfl
theorem BtAt.back {w : World} {v : Value} {l : List UInt8} (h : BtAt w v l) (h0 : l ≠ []) : (convert 80 9 v).run Tryz.prog w = .ok (enS l) w := by
  rcases h.2 with ⟨rfl, e⟩ | ⟨g, off, cap, cur, rfl, hg, r⟩
  · exact absurd (List.eq_nil_of_length_eq_zero e) h0
  · refine run_convert_bytes_back w 80 9 5 ⟨g, off, none⟩ cap l Tryz.underlying80 Tryz.underlying5 Tryz.underlying9 (fun j hj => ?_)
    have := h.cells j (.int .u8 (l[j].toNat : Int)) (by simp [hj])
    rw [add_off]
    exact this
/-- The j-th byte of a number, the highest first. -/
def numB (n : Int) (j : Nat) : UInt8 := UInt8.ofNat ((n % 18446744073709551616).toNat / 2 ^ (8 * (7 - j)))
def numBs (n : Int) (j : Nat) : List UInt8 := (List.range j).map (numB n)
theorem numB_int (n : Int) (j : Nat) : IntKind.u64.wrap n / 2 ^ (8 * (7 - j)) % 256 = ((numB n j).toNat : Int) := by
  have e : IntKind.u64.wrap n = n % 18446744073709551616 := by rfl
  have h0 : 0 ≤ n % 18446744073709551616 := Int.emod_nonneg _ (by decide)
  unfold numB
  rw [e, UInt8.toNat_ofNat']
  simp only [Int.natCast_emod, Int.natCast_ediv, Int.toNat_of_nonneg h0]
  rfl
theorem numBs_next (n : Int) (j : Nat) : numBs n (j + 1) = numBs n j ++ [numB n j] := by
  simp [numBs, List.range_succ]

set_option maxHeartbeats 3200000 in
theorem PutN_any (w : World) (n : Int) (hx : (Vl.mk 1 n [] false 0).ok) (h : goodV ⟨1, n, [], false, 0⟩ = true) :
    Calls Tryz.prog 36 #[(Vl.mk 1 n [] false 0).val] w fun e w' => e = .returned (.tuple #[enS (1 :: numBs n 8), .int .i64 0]) ∧ Upd w w' (fun _ => False) := by
  obtain ⟨ib, hi, hz0, hz1, hz2⟩ := info_parts Tryz.info5
  have GA := fun w => Good_any w _ hx
  rw [h] at GA
  unfold Vl.val at GA ⊢
  simp only at GA ⊢
  clear h
  go_enter Tryz.func36, Tryz.ntmps36
  go_wp2_with fail
  refine Calls.mono (GA _) ?_
  rintro e w1 ⟨rfl, u1⟩
  have bX := u1.get (Vnew1 w (.cells (Vl.mk 1 n [] false 0).cs 28)) id
  obtain ⟨c0, c1, c2, c3, c4⟩ := cells5 bX
  have xl := lt_at bX
  have HX := hide bX
  have HU := hide (((Upd.refl w _).alloc _).then u1 (fun _ _ => id))
  clear bX u1 GA
  go_wp2_with fail
  go_loopg [4, 5] 8 (fun q v iv wr => ∃ j : Nat, j + q = 8 ∧ iv = .int .i64 (7 - (j : Int)) ∧ BtAt wr v (1 :: numBs n j) ∧ Upd w1 wr (fun _ => False) ∧ (∀ k, v.ownBlock = some k → w1.heap.size ≤ k))
  case atStart =>
    refine ⟨0, by omega, by rfl, ?_, (Upd.refl w1 _).alloc _, ?_⟩
    · exact Rw.made w1 #[.int .u8 1] 5 1 1 rfl
    · intro k hk
      simp [Value.ownBlock] at hk
      omega
  case round =>
    obtain ⟨j, hj, rfl, hv, hu, hob⟩ := hrel
    have bX2 := hu.get HX.out id
    obtain ⟨d0, d1, d2, d3, d4⟩ := cells5 bX2
    have xl2 := lt_at bX2
    clear bX2
    by_cases hj8 : j < 8
    · have b1 : decide (7 - (j : Int) ≥ 0) = true := by simp; omega
      have nb := numB_int n j
      have jw : IntKind.i64.wrap (7 - (j : Int) - 1) = 7 - ((j + 1 : Nat) : Int) := by rw [IntWalk.i64_in _ (by omega)]; omega
      go_wp2_with (at_builtin; go_loud (refine wpList_append_rw _ rfl _ _ 80 80 rfl 5 _ ib _ 1 1 Tryz.underlying80 Tryz.underlying80 (by simp) hi hz0 hz1 hz2 rfl _ (1 :: numBs n j).length _ rfl (hv.alloc _) _ 1 _ rfl (Rw.made _ _ _ 1 1 rfl).src rfl (by simp [Value.oneCell']) (by simp [numBs]; omega) (by simp [numBs]; omega) ?_); intro ga gc w2 hv' hg hob')
      go_roundg (gk - 1)
      case measure => omega
      case rel =>
        refine ⟨j + 1, by omega, (by first | rw [jw] | exact congrArg (Value.int .i64) (by omega)), ?_, (hu.alloc _).grown hg (fun i hi => .inl (hob i hi)), ?_⟩
        · unfold BtAt
          rw [numBs_next]
          simpa using hv'
        · intro i hi
          rcases hob' with e | e
          · exact hob i (Eq.trans (show _ = _ from e.symm) hi)
          · have hi' := Eq.trans e.symm (show _ = _ from hi); simp at hi'; have := hu.size; omega
    · obtain rfl : j = 8 := by omega
      have cv := hv.back (by simp)
      go_wp2_with fail
      go_ret2
      refine ⟨rfl, ?_⟩
      exact HU.out.then hu (fun _ _ => id)
end Go.Proofs.YthahgablbdfodaaGreatDoor
