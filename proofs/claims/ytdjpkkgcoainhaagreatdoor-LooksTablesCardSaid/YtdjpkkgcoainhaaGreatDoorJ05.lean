/- Order behind both 'sound'. -/
import Derived.Test.YtdjpkkgcoainhaaGreatDoorJ04
import Derived.Test.YtdjpkkgcoainhaaGreatDoorJ01
/- Order behind both 'sound'. -/
set_option maxRecDepth 1000000
namespace Go.Proofs.YtdjpkkgcoainhaaGreatDoor
open Go.RowKit Go.Lat Go.Lib

set_option maxHeartbeats 3200000 in
theorem ord_b1 (w W : World) (X1 X2 : Nat) (hne : X1 ≠ X2) (g1 : w.heap.size ≤ X1) (g2 : w.heap.size ≤ X2) (a b : Vl) (z1 : W.heap[X1]? = some (.cells a.cs 29 (0, 0))) (z2 : W.heap[X2]? = some (.cells b.cs 29 (0, 0))) (u : Upd w W (fun _ => False)) (la : a.t.length ≤ 1000000) (lb : b.t.length ≤ 1000000) (c0 c1 c4 c5 c6 c7 c8 c9 c10 c11 c12 c13 c14 c15 c16 c17 c18 c19 c20 c21 c22 c23 c24 c25 c26 c27 c28 c29 c30 c31 c32 c33 c34 c35 c36 c37 c38 c39 c40 c41 c42 c43 c44 c45 c46 c47 c48 c49 c50 c51 c52 c53 c54 c55 c56 c57 c58 c59 c60 c61 c62 c63 c64 c65 c66 c67 : Value) :
    Code.wp Tryz.prog ordC1 (bodyPost Tryz.prog Tryz.f19 (OrdPost w (if a.k = 4 then (0, a.f) else if b.k = 4 then (0, b.f) else (ord2 (besideV a b) (besideV b a), 0)))) ⟨#[c0, c1, .pointer (some ⟨X1, 0, none⟩), .pointer (some ⟨X2, 0, none⟩), c4, c5, c6, c7, c8, c9, c10, c11, c12, c13, c14, c15, c16, c17, c18, c19, c20, c21, c22, c23, c24, c25, c26, c27, c28, c29, c30, c31, c32, c33, c34, c35, c36, c37, c38, c39, c40, c41, c42, c43, c44, c45, c46, c47, c48, c49, c50, c51, c52, c53, c54, c55, c56, c57, c58, c59, c60, c61, c62, c63, c64, c65, c66, c67], []⟩ W := by
  obtain ⟨c0, c1, c2, c3, c4⟩ := cells5 z1
  obtain ⟨e0, e1, e2, e3, e4⟩ := cells5 z2
  have l1 := lt_at z1
  have l2 := lt_at z2
  have Z1 := hide z1
  have Z2 := hide z2
  have HU := hide u
  have I0 : ∀ w, (Instr.index 95 (.agg #[.int .i64 a.k, .int .i64 a.n, enS a.t, .bool a.b, .int .i64 a.f, .int .i64 b.k, .int .i64 b.n, enS b.t, .bool b.b, .int .i64 b.f]) (.int .i64 0)).run Tryz.prog w = .ok (.agg #[.int .i64 a.k, .int .i64 a.n, enS a.t, .bool a.b, .int .i64 a.f]) w := fun _ => by kernel_rfl
  have I1 : ∀ w, (Instr.index 95 (.agg #[.int .i64 a.k, .int .i64 a.n, enS a.t, .bool a.b, .int .i64 a.f, .int .i64 b.k, .int .i64 b.n, enS b.t, .bool b.b, .int .i64 b.f]) (.int .i64 1)).run Tryz.prog w = .ok (.agg #[.int .i64 b.k, .int .i64 b.n, enS b.t, .bool b.b, .int .i64 b.f]) w := fun _ => by kernel_rfl
  have HLT := hide (And.intro la lb)
  clear z1 z2 u la lb
  by_cases h4 : a.k = 4
  · rw [if_pos h4]
    obtain ⟨ak, an, at', ab, af⟩ := a
    obtain rfl : ak = 4 := h4
    simp only at I0 I1
    conv => arg 2; whnf
    go_wp2_with fail
    refine wp_loop_rounds 1 ?_
    rw [rounds_succ]
    go_wp2_with fail
    go_quiet (fail)
    go_wp2_with fail
    go_ret2
    exact ⟨rfl, (HU.out.alloc _).drewN nq⟩
  · rw [if_neg h4]
    have b4 : (a.k == 4) = false := by simpa using h4
    by_cases h5 : b.k = 4
    · rw [if_pos h5]
      obtain ⟨ak, an, at', ab, af⟩ := a
      obtain ⟨bk, bn, bt, bb, bf⟩ := b
      obtain rfl : bk = 4 := h5
      simp only at I0 I1
      clear h4
      conv => arg 2; whnf
      go_wp2_with fail
      refine wp_loop_rounds 2 ?_
      rw [rounds_succ]
      go_wp2_with fail
      rw [rounds_succ]
      go_wp2_with fail
      go_quiet (fail)
      go_wp2_with fail
      go_ret2
      exact ⟨rfl, ((HU.out.alloc _).alloc _).drewN nq⟩
    · rw [if_neg h5]
      have b5 : (b.k == 4) = false := by simpa using h5
      obtain ⟨ak, an, at', ab, af⟩ := a
      obtain ⟨bk, bn, bt, bb, bf⟩ := b
      simp only at b4 b5 I0 I1
      have HUV := hide (((Upd.refl W (fun _ => False)).alloc (.cells (Vl.mk ak an at' ab af).cs 29)).alloc (.cells (Vl.mk bk bn bt bb bf).cs 29))
      clear h4 h5
      conv => arg 2; whnf
      go_wp2_with fail
      refine wp_loop_rounds 3 ?_
      rw [rounds_succ]
      go_wp2_with fail
      rw [rounds_succ]
      go_wp2_with fail
      rw [rounds_succ]
      go_wp2_with fail
      rename_i hK
      refine ord_b3 w _ X1 X2 hne g1 g2 ⟨ak, an, at', ab, af⟩ ⟨bk, bn, bt, bb, bf⟩ (HUV.out.get Z1.out id) (HUV.out.get Z2.out id) (HU.out.then HUV.out (fun _ _ => id)) HLT.out.1 HLT.out.2 _ _ _ _ _ _ _ _ _ _ _ _ _ _ _ _ _ _ _ _ _ _ _ _ _ _ _ _ _ _ _ _ _ _ _ _ _ _ _ _ _ _ _ _ _ _ _ _ _ _ _ _ _ _ _ _ _ _ _ _ _ _ _ _ _ _ _ hK
end Go.Proofs.YtdjpkkgcoainhaaGreatDoor
/- The walk of package value's Order. -/
set_option maxRecDepth 1000000
namespace Go.Proofs.YtdjpkkgcoainhaaGreatDoor
open Go.RowKit Go.Lat Go.Lib

theorem sound_t {x : Vl} {n : Nat} (h : x.t.length ≤ n) : (soundV x).t.length ≤ n := by
  unfold soundV
  split
  · exact h
  · exact Nat.zero_le _
set_option maxHeartbeats 6400000 in
theorem Order_any (w : World) (x y : Vl) (hx : x.ok) (hy : y.ok) (lx : x.t.length ≤ 1000000) (ly : y.t.length ≤ 1000000) : Calls Tryz.prog 19 #[x.val, y.val] w (OrdPost w (orderV x y)) := by
  have SX := fun w => sound_any w x hx
  have SY := fun w => sound_any w y hy
  have bX1 : ((w.alloc (.cells x.cs 29)).alloc (.cells y.cs 29)).heap[w.heap.size]? = some (.cells x.cs 29 (0, 0)) := block_alloc (Vnew1 w _) _
  have bX2 := Vnew2 w (.cells x.cs 29) (.cells y.cs 29)
  have HX1 := hide bX1
  have HX2 := hide bX2
  have HLX := hide (sound_t lx)
  have HLY := hide (sound_t ly)
  obtain ⟨a, ha⟩ : ∃ a, soundV x = a := ⟨_, rfl⟩
  obtain ⟨b, hb⟩ : ∃ b, soundV y = b := ⟨_, rfl⟩
  unfold orderV
  rw [ha] at SX HLX ⊢
  rw [hb] at SY HLY ⊢
  obtain ⟨xk, xn, xt, xb, xf⟩ := x
  obtain ⟨yk, yn, yt, yb, yf⟩ := y
  unfold Vl.val at SX SY ⊢
  simp only [Vl.cs] at SX SY HX1 HX2 ⊢
  obtain ⟨P, hP⟩ : ∃ P, OrdPost w (if a.k = 4 then (0, a.f) else if b.k = 4 then (0, b.f) else (ord2 (besideV a b) (besideV b a), 0)) = P := ⟨_, rfl⟩
  change Calls Tryz.prog 19 _ w (OrdPost w (if a.k = 4 then (0, a.f) else if b.k = 4 then (0, b.f) else (ord2 (besideV a b) (besideV b a), 0)))
  rw [hP]
  have HP := hide hP
  clear bX1 bX2 ha hb hx hy lx ly hP
  go_enter Tryz.func19, Tryz.ntmps19
  go_wp2_with fail
  go_region_law (go_simp; first
    | (go_at_call 40; refine Calls.mono (SX _) ?_; rintro e w2 ⟨rfl, u2⟩
       have z1 := u2.get HX1.out id
       have z2 := u2.get HX2.out id
       obtain ⟨c0, c1, c2, c3, c4⟩ := cells5 z1
       obtain ⟨e0, e1, e2, e3, e4⟩ := cells5 z2
       have l1 := lt_at z1
       have l2 := lt_at z2
       have Z1 := hide z1
       have Z2 := hide z2
       have HU2 := hide u2
       clear z1 z2 u2 SX)
    | (go_at_call 40; refine Calls.mono (SY _) ?_; rintro e w3 ⟨rfl, u3⟩
       have z1 := u3.get Z1.out id
       have z2 := u3.get Z2.out id
       clear c0 c1 c2 c3 c4 e0 e1 e2 e3 e4 l1 l2
       obtain ⟨c0, c1, c2, c3, c4⟩ := cells5 z1
       obtain ⟨e0, e1, e2, e3, e4⟩ := cells5 z2
       have l1 := lt_at z1
       have l2 := lt_at z2
       have f10 := free_at z1 0
       have f11 := free_at z1 1
       have f12 := free_at z1 2
       have f13 := free_at z1 3
       have f14 := free_at z1 4
       have f20 := free_at z2 0
       have f21 := free_at z2 1
       have f22 := free_at z2 2
       have f23 := free_at z2 3
       have f24 := free_at z2 4
       have Y1 := hide z1
       have Y2 := hide z2
       have HU3 := hide u3
       clear z1 z2 u3))
  all_goals (
    rename_i hK
    refine hK _ _ ?_
    obtain ⟨q1, q2, q3⟩ := set_two (x := ⟨xk, xn, xt, xb, xf⟩) (y := ⟨yk, yn, yt, yb, yf⟩) Y1.out Y2.out (by omega) a b
    have u0 : Upd w ((w.alloc (.cells #[.int .i64 xk, .int .i64 xn, enS xt, .bool xb, .int .i64 xf] 29)).alloc (.cells #[.int .i64 yk, .int .i64 yn, enS yt, .bool yb, .int .i64 yf] 29)) (fun _ => False) := ((Upd.refl w _).alloc _).alloc _
    rw [← HP.out]
    exact ord_b1 w _ w.heap.size (w.heap.size + 1) (by omega) (Nat.le_refl _) (by omega) a b q1 q2 ((((u0.drew).then HU2.out (fun _ _ => id)).then HU3.out (fun _ _ => id)).then q3 (fun i hi e => by omega)) HLX.out HLY.out _ _ _ _ _ _ _ _ _ _ _ _ _ _ _ _ _ _ _ _ _ _ _ _ _ _ _ _ _ _ _ _ _ _ _ _ _ _ _ _ _ _ _ _ _ _ _ _ _ _ _ _ _ _ _ _ _ _ _ _ _ _ _ _ _ _)
end Go.Proofs.YtdjpkkgcoainhaaGreatDoor
/- The reference's Order is the program's. -/
set_option maxRecDepth 100000
namespace Go.Proofs.YtdjpkkgcoainhaaGreatDoor
open Go.RowKit Go.Lat Go.Lib

theorem ROrder_any (w : World) (x y : Vl) (lx : x.t.length ≤ 1000000) (ly : y.t.length ≤ 1000000) : Calls Tryz.prog 27 #[x.val, y.val] w (OrdPost w (orderV x y)) := by
  have SX := fun w => RSound_any w x
  have SY := fun w => RSound_any w y
  have hlx := sound_t lx
  have hly := sound_t ly
  have px := soundV_plain (x := x)
  have py := soundV_plain (x := y)
  unfold orderV
  obtain ⟨a, ha⟩ : ∃ a, soundV x = a := ⟨_, rfl⟩
  obtain ⟨b, hb⟩ : ∃ b, soundV y = b := ⟨_, rfl⟩
  rw [ha] at SX hlx px
  rw [hb] at SY hly py
  rw [ha, hb]
  obtain ⟨ak, an, at', ab, af⟩ := a
  obtain ⟨bk, bn, bt, bb, bf⟩ := b
  obtain ⟨xk, xn, xt, xb, xf⟩ := x
  obtain ⟨yk, yn, yt, yb, yf⟩ := y
  unfold Vl.val at SX SY ⊢
  simp only at SX SY px py ⊢
  clear ha hb lx ly
  by_cases h4 : ak = 4
  · rw [if_pos h4]
    exact rordA w xk xn xt xb xf yk yn yt yb yf ak an at' ab af bk bn bt bb bf SX SY (by simpa using h4)
  · rw [if_neg h4]
    by_cases h5 : bk = 4
    · rw [if_pos h5]
      exact rordB w xk xn xt xb xf yk yn yt yb yf ak an at' ab af bk bn bt bb bf SX SY (by simpa using h4) (by simpa using h5)
    · rw [if_neg h5]
      have pa := px h4
      have pb := py h5
      have pa' := beside_plain pa pb
      have pb' := beside_plain pb pa
      have e4 : (ak == 4) = false := by simpa using h4
      have e5 : (bk == 4) = false := by simpa using h5
      by_cases h6 : ak = 0
      · have e6 : (ak == 0) = true := by simpa using h6
        have ea : besideV ⟨ak, an, at', ab, af⟩ ⟨bk, bn, bt, bb, bf⟩ = ⟨bk, 0, [], false, 0⟩ := by unfold besideV; rw [if_pos h6]
        rw [ea] at pa' ⊢
        by_cases h7 : bk = 0
        · have e7 : (bk == 0) = true := by simpa using h7
          have eb : besideV ⟨bk, bn, bt, bb, bf⟩ ⟨ak, an, at', ab, af⟩ = ⟨bk, 0, [], false, 0⟩ := by unfold besideV; rw [if_pos h7, h6, h7]
          rw [eb] at pb' ⊢
          exact rordC11 w xk xn xt xb xf yk yn yt yb yf ak an at' ab af bk bn bt bb bf SX SY e4 e5 e6 e7 hlx hly pa' pb'
        · have e7 : (bk == 0) = false := by simpa using h7
          have eb : besideV ⟨bk, bn, bt, bb, bf⟩ ⟨ak, an, at', ab, af⟩ = ⟨bk, bn, bt, bb, bf⟩ := by unfold besideV; rw [if_neg h7]
          rw [eb] at pb' ⊢
          exact rordC10 w xk xn xt xb xf yk yn yt yb yf ak an at' ab af bk bn bt bb bf SX SY e4 e5 e6 e7 hlx hly pa' pb'
      · have e6 : (ak == 0) = false := by simpa using h6
        have ea : besideV ⟨ak, an, at', ab, af⟩ ⟨bk, bn, bt, bb, bf⟩ = ⟨ak, an, at', ab, af⟩ := by unfold besideV; rw [if_neg h6]
        rw [ea] at pa' ⊢
        by_cases h7 : bk = 0
        · have e7 : (bk == 0) = true := by simpa using h7
          have eb : besideV ⟨bk, bn, bt, bb, bf⟩ ⟨ak, an, at', ab, af⟩ = ⟨ak, 0, [], false, 0⟩ := by unfold besideV; rw [if_pos h7]
          rw [eb] at pb' ⊢
          exact rordC01 w xk xn xt xb xf yk yn yt yb yf ak an at' ab af bk bn bt bb bf SX SY e4 e5 e6 e7 hlx hly pa' pb'
        · have e7 : (bk == 0) = false := by simpa using h7
          have eb : besideV ⟨bk, bn, bt, bb, bf⟩ ⟨ak, an, at', ab, af⟩ = ⟨bk, bn, bt, bb, bf⟩ := by unfold besideV; rw [if_neg h7]
          rw [eb] at pb' ⊢
          exact rordC00 w xk xn xt xb xf yk yn yt yb yf ak an at' ab af bk bn bt bb bf SX SY e4 e5 e6 e7 hlx hly pa' pb'
end Go.Proofs.YtdjpkkgcoainhaaGreatDoor
/- Where a value stands in a list (plain); rows of values that are read. -/
set_option maxRecDepth 100000
namespace Go.Proofs.YtdjpkkgcoainhaaGreatDoor
open Go.RowKit Go.Lat Go.Lib

theorem cmpI_rng (a b : Int) : cmpI a b = -1 ∨ cmpI a b = 0 ∨ cmpI a b = 1 := by
  unfold cmpI
  split
  · exact .inl rfl
  · split
    · exact .inr (.inr rfl)
    · exact .inr (.inl rfl)
theorem cmpS_rng (a b : List UInt8) : cmpS a b = -1 ∨ cmpS a b = 0 ∨ cmpS a b = 1 := by
  unfold cmpS
  split
  · exact .inl rfl
  · split
    · exact .inr (.inr rfl)
    · exact .inr (.inl rfl)
theorem ord_rng (x y : Vl) : (orderV x y).1 = -1 ∨ (orderV x y).1 = 0 ∨ (orderV x y).1 = 1 := by
  unfold orderV
  split
  · exact .inr (.inl rfl)
  · split
    · exact .inr (.inl rfl)
    · show ord2 _ _ = -1 ∨ ord2 _ _ = 0 ∨ ord2 _ _ = 1
      unfold ord2
      split
      · exact cmpI_rng _ _
      · split
        · exact cmpI_rng _ _
        · split
          · exact cmpS_rng _ _
          · generalize (besideV (soundV x) (soundV y)).b = p
            generalize (besideV (soundV y) (soundV x)).b = q
            cases p <;> cases q <;> simp
/-- What can be told in order is good. -/
theorem ord_good {v x : Vl} (h : (orderV v x).2 = 0) : goodV v = true := by
  cases hg : goodV v with
  | true => rfl
  | false =>
    unfold orderV soundV at h
    rw [hg] at h
    simp [mkE, okFail] at h
/-- Is a value one that is looked for, by a mode? -/
def fitV (m : Int) (x v : Vl) : Bool :=
  decide (v.k = x.k) && (decide ((orderV v x).2 = 0) && (if m = 0 then decide ((orderV v x).1 = 0) else if 0 < m then decide ((orderV v x).1 ≤ 0) else decide (0 ≤ (orderV v x).1)))
/-- Where it stands among the first ones. -/
def plA (m : Int) (x : Vl) (l : List Vl) : Nat → Nat
  | 0 => 0
  | i + 1 => match l[i]? with
    | none => plA m x l i
    | some v => if fitV m x v && !(decide (m = 0) && decide (plA m x l i ≠ 0)) then i + 1 else plA m x l i
def placeV (m : Int) (x : Vl) (l : List Vl) : Nat := if goodV x = true ∧ x.k ≠ 4 then plA m x l l.length else 0
theorem plA_le (m : Int) (x : Vl) (l : List Vl) : ∀ i, plA m x l i ≤ i
  | 0 => Nat.le_refl _
  | i + 1 => by
    have := plA_le m x l i
    unfold plA
    split
    · omega
    · split <;> omega
theorem placeV_le (m : Int) (x : Vl) (l : List Vl) : placeV m x l ≤ l.length := by
  unfold placeV
  split
  · exact plA_le m x l _
  · omega
theorem plA_stay {x : Vl} {l : List Vl} {i : Nat} (h : plA 0 x l i ≠ 0) : ∀ k, plA 0 x l (i + k) = plA 0 x l i
  | 0 => rfl
  | k + 1 => by
    have ih := plA_stay h k
    show plA 0 x l ((i + k) + 1) = _
    conv => lhs; unfold plA
    split
    · exact ih
    · rw [ih]
      simp [h]
theorem plA_in {m : Int} {x v : Vl} {l : List Vl} {i : Nat} (h : l[i]? = some v) : plA m x l (i + 1) = if fitV m x v && !(decide (m = 0) && decide (plA m x l i ≠ 0)) then i + 1 else plA m x l i := by
  conv => lhs; unfold plA
  rw [h]
/-- A row of values that is read. -/
def RdV (w : World) (va : Option Addr) (l : List Vl) : Prop :=
  ∀ i x, l[i]? = some x → ∃ g off, va = some ⟨g, off, none⟩ ∧ g < w.heap.size ∧ w.cell? ⟨g, off + i * 5, none⟩ = some (.int .i64 x.k) ∧ w.cell? ⟨g, off + i * 5 + 1, none⟩ = some (.int .i64 x.n) ∧ w.cell? ⟨g, off + i * 5 + 2, none⟩ = some (enS x.t) ∧ w.cell? ⟨g, off + i * 5 + 3, none⟩ = some (.bool x.b) ∧ w.cell? ⟨g, off + i * 5 + 4, none⟩ = some (.int .i64 x.f)
theorem RdV.upd {w w' : World} {va : Option Addr} {l : List Vl} (h : RdV w va l) (u : Upd w w' (fun _ => False)) : RdV w' va l := fun i x hx => by
  obtain ⟨g, off, e, hg, h0, h1, h2, h3, h4⟩ := h i x hx
  exact ⟨g, off, e, Nat.lt_of_lt_of_le hg u.size, (u.cell g _ hg id).trans h0, (u.cell g _ hg id).trans h1, (u.cell g _ hg id).trans h2, (u.cell g _ hg id).trans h3, (u.cell g _ hg id).trans h4⟩
theorem RdV.nil (w : World) (va : Option Addr) : RdV w va [] := fun i x hx => by simp at hx
/-- Values that may be. -/
def oksV (l : List Vl) : Prop := ∀ x ∈ l, x.ok ∧ x.t.length ≤ 1000000
end Go.Proofs.YtdjpkkgcoainhaaGreatDoor
/- The walk of package looks' Place. -/
set_option maxRecDepth 100000
namespace Go.Proofs.YtdjpkkgcoainhaaGreatDoor
open Go.RowKit Go.Lat Go.Lib

theorem rdV_at {w : World} {va : Option Addr} {l : List Vl} (h : RdV w va l) {j : Nat} {x : Vl} (hx : l[j]? = some x) :
    ∃ g off, va = some ⟨g, off, none⟩ ∧ g < w.heap.size ∧ w.cell? ⟨g, off + j * 5, none⟩ = some (.int .i64 x.k) ∧ w.cell? ⟨g, off + j * 5 + 1, none⟩ = some (.int .i64 x.n) ∧ w.cell? ⟨g, off + j * 5 + 2, none⟩ = some (enS x.t) ∧ w.cell? ⟨g, off + j * 5 + 3, none⟩ = some (.bool x.b) ∧ w.cell? ⟨g, off + j * 5 + 4, none⟩ = some (.int .i64 x.f) := h j x hx
theorem fit_no1 {m : Int} {x y : Vl} (h : y.k ≠ x.k) : fitV m x y = false := by unfold fitV; simp [h]
theorem fit_no2 {m : Int} {x y : Vl} (h : (orderV y x).2 ≠ 0) : fitV m x y = false := by unfold fitV; simp [h]
theorem fit_yes {m : Int} {x y : Vl} (h1 : y.k = x.k) (h2 : (orderV y x).2 = 0) : fitV m x y = (if m = 0 then decide ((orderV y x).1 = 0) else if 0 < m then decide ((orderV y x).1 ≤ 0) else decide (0 ≤ (orderV y x).1)) := by unfold fitV; simp [h1, h2]
theorem pl_stay {m : Int} {x y : Vl} {l : List Vl} {j : Nat} (h : l[j]? = some y) (hf : fitV m x y = false) : plA m x l (j + 1) = plA m x l j := by rw [plA_in h, hf]; rfl
theorem pl_go {m : Int} {x y : Vl} {l : List Vl} {j : Nat} (h : l[j]? = some y) (hf : fitV m x y = true) (hm : m = 0 → plA m x l j = 0) : plA m x l (j + 1) = j + 1 := by
  rw [plA_in h, hf]
  by_cases h0 : m = 0
  · rw [hm h0]; simp
  · simp [h0]
theorem place_hit {x y : Vl} {l : List Vl} {j : Nat} (h : l[j]? = some y) (hf : fitV 0 x y = true) (hm : plA 0 x l j = 0) (hg : goodV x = true) (hk : x.k ≠ 4) : placeV 0 x l = j + 1 := by
  have e := pl_go h hf (fun _ => hm)
  have hj := (List.getElem?_eq_some_iff.1 h).1
  unfold placeV
  rw [if_pos ⟨hg, hk⟩]
  have := plA_stay (x := x) (l := l) (i := j + 1) (by omega) (l.length - (j + 1))
  rw [show j + 1 + (l.length - (j + 1)) = l.length by omega] at this
  rw [this, e]

/-- How a value stands to what is looked for, by its parts. -/
def fitF (m k yk o ef : Int) : Bool := decide (yk = k) && (decide (ef = 0) && (if m = 0 then decide (o = 0) else if 0 < m then decide (o ≤ 0) else decide (0 ≤ o)))
theorem fitF_eq {m k yk o ef : Int} {q : Bool} {X Y : Vl} (h : fitF m k yk o ef = q) (h1 : X.k = k) (h2 : Y.k = yk) (h3 : (orderV Y X).1 = o) (h4 : (orderV Y X).2 = ef) : fitV m X Y = q := by
  rw [← h, ← h1, ← h2, ← h3, ← h4]
  rfl
theorem place_cases (m k yk o ef : Int) : (fitF m k yk o ef = false ∧ ((yk != k) = true ∨ ((yk != k) = false ∧ (ef != 0) = true) ∨ ((yk != k) = false ∧ (ef != 0) = false ∧ (m == 0) = true ∧ (o == 0) = false) ∨ ((yk != k) = false ∧ (ef != 0) = false ∧ (m == 0) = false ∧ decide (0 < m) = true ∧ decide (o ≤ 0) = false) ∨ ((yk != k) = false ∧ (ef != 0) = false ∧ (m == 0) = false ∧ decide (0 < m) = false ∧ decide (m < 0) = true ∧ decide (0 ≤ o) = false))) ∨
    (fitF m k yk o ef = true ∧ (yk != k) = false ∧ (ef != 0) = false ∧ (((m == 0) = true ∧ (o == 0) = true) ∨ ((m == 0) = false ∧ decide (0 < m) = true ∧ decide (o ≤ 0) = true) ∨ ((m == 0) = false ∧ decide (0 < m) = false ∧ decide (m < 0) = true ∧ decide (0 ≤ o) = true))) := by
  unfold fitF
  by_cases h1 : yk = k
  · by_cases h2 : ef = 0
    · rcases Int.lt_trichotomy m 0 with h | h | h
      · by_cases h3 : 0 ≤ o
        · right; simp [h1, h2, h3, h, show ¬ m = 0 by omega, show ¬ 0 < m by omega]
        · left; simp [h1, h2, h, show ¬ m = 0 by omega, show ¬ 0 < m by omega]; omega
      · by_cases h3 : o = 0
        · right; simp [h1, h2, h3, h]
        · left; simp [h1, h2, h3, h]
      · by_cases h3 : o ≤ 0
        · right; simp [h1, h2, h3, h, show ¬ m = 0 by omega]
        · left; simp [h1, h2, h, show ¬ m = 0 by omega]; omega
    · left; simp [h1, h2]
  · left; simp [h1]

set_option maxHeartbeats 6400000 in
theorem Place_any (w : World) (x : Vl) (l : List Vl) (va : Option Addr) (vc : Nat) (m : Int) (hx : x.ok) (hxt : x.t.length ≤ 1000000) (hl : oksV l) (hn : l.length ≤ 1000000) (hr : RdV w va l) :
    Calls Tryz.prog 10 #[x.val, .slice va l.length vc, .int .i64 m] w fun e w' => e = .returned (.int .i64 ((placeV m x l : Nat) : Int)) ∧ Upd w w' (fun _ => False) := by
  have GA := fun w => Good_any w x hx
  have OA := fun (y : Vl) (hy : y ∈ l) w => Order_any w y x (hl y hy).1 hx (hl y hy).2 hxt
  have hpl : ¬ (goodV x = true ∧ x.k ≠ 4) → placeV m x l = 0 := fun h => by unfold placeV; rw [if_neg h]
  have hplc : (goodV x = true ∧ x.k ≠ 4) → placeV m x l = plA m x l l.length := fun h => by unfold placeV; rw [if_pos h]
  have hhit := fun (y : Vl) (j : Nat) => @place_hit x y l j
  obtain ⟨N, hN⟩ : ∃ N, l.length = N := ⟨_, rfl⟩
  obtain ⟨R, hR⟩ : ∃ R, placeV m x l = R := ⟨_, rfl⟩
  rw [hN] at hn hplc ⊢
  rw [hR] at hpl hplc ⊢
  obtain ⟨C, hC⟩ : ∃ C, w.heap.size = C := ⟨_, rfl⟩
  have b0 := Vnew1 w (.cells x.cs 29)
  rw [hC] at b0
  obtain ⟨X, hX⟩ : ∃ X, X = x := ⟨_, rfl⟩
  rw [← hX] at hpl hplc hhit OA hR b0
  have HB0 := hide b0
  have HX := hide hX
  have HN := hide hN
  have HR := hide hr
  have HC := hide hC
  have HP := hide hpl
  have HPC := hide hplc
  have HHIT := hide hhit
  have HOA := hide OA
  have HRR := hide hR
  clear hN hr hC hpl hplc hhit OA hR hxt hl b0
  cases hg : goodV x with
  | false =>
    rw [hg] at GA
    rw [hX] at HP
    have hR0 : R = 0 := HP.out (by rw [hg]; simp)
    subst hR0
    obtain ⟨k, n, t, b, f⟩ := x
    unfold Vl.val at GA ⊢
    simp only at GA ⊢
    clear hg hx hX
    go_enter Tryz.func10, Tryz.ntmps10
    go_wp2_with (go_at_call 24; refine Calls.mono (GA _) ?_; rintro e w1 ⟨rfl, u1⟩)
    go_ret
    exact ⟨rfl, ((Upd.refl w _).alloc _).then u1 (fun _ _ => id)⟩
  | true =>
    rw [hg] at GA
    by_cases h4 : x.k = 4
    · rw [hX] at HP
      have hR0 : R = 0 := HP.out (fun h => h.2 h4)
      subst hR0
      rw [hX] at HB0
      obtain ⟨k, n, t, b, f⟩ := x
      obtain rfl : k = 4 := h4
      unfold Vl.val at GA ⊢
      simp only at GA ⊢
      clear hg hx hX
      go_enter Tryz.func10, Tryz.ntmps10
      go_wp2_with (go_at_call 24; refine Calls.mono (GA _) ?_; rintro e w1 ⟨rfl, u1⟩
                   have bX := u1.get (Vnew1 w (.cells (Vl.mk 4 n t b f).cs 29)) id
                   obtain ⟨c0, c1, c2, c3, c4⟩ := cells5 bX
                   have xl := lt_at bX
                   have HU := hide u1
                   clear bX u1)
      go_ret
      exact ⟨rfl, ((Upd.refl w _).alloc _).then HU.out (fun _ _ => id)⟩
    · have hRp : R = plA m X l N := by rw [HPC.out ⟨by rw [hX]; exact hg, by rw [hX]; exact h4⟩]
      have hGX : goodV X = true := by rw [hX]; exact hg
      have h4X : X.k ≠ 4 := by rw [hX]; exact h4
      have HRp := hide hRp
      have HGX := hide hGX
      have H4X := hide h4X
      have b4 : (x.k == 4) = false := by simpa using h4
      have e0 : X.cs = x.cs := by rw [hX]
      have HE0 := hide e0
      obtain ⟨k, n, t, b, f⟩ := x
      unfold Vl.val at GA ⊢
      simp only at GA b4 ⊢
      clear hg hx hX h4 hRp hGX h4X e0
      go_enter Tryz.func10, Tryz.ntmps10
      go_wp2_with (go_at_call 24; refine Calls.mono (GA _) ?_; rintro e w1 ⟨rfl, u1⟩
                   have bX := u1.get (Vnew1 w (.cells (Vl.mk k n t b f).cs 29)) id
                   obtain ⟨c0, c1, c2, c3, c4⟩ := cells5 bX
                   have xl := lt_at bX
                   have HBX := hide bX
                   have HU := hide u1
                   clear bX u1)
      rw [HC.out]
      go_loopg [7, 22] N (fun q av iv wr => ∃ j : Nat, j + q = N ∧ iv = .int .i64 j ∧ av = .int .i64 ((plA m X l j : Nat) : Int) ∧ (m = 0 → plA m X l j = 0) ∧ wr.heap[C]? = some (.cells X.cs 29 (0, 0)) ∧ Upd w wr (fun _ => False))
      case atStart => exact ⟨0, by omega, rfl, rfl, fun _ => rfl, by rw [HE0.out, ← HC.out]; exact HBX.out, ((Upd.refl w _).alloc _).then HU.out (fun _ _ => id)⟩
      case round =>
        obtain ⟨j, hj, rfl, rfl, hm0, hb, hu⟩ := hrel
        clear c0 c1 c2 c3 c4 xl
        have HM := hide hm0
        have HB := hide hb
        have HUR := hide hu
        clear hm0 hb hu
        by_cases hjN : j < N
        · obtain ⟨y, hy⟩ : ∃ y, l[j]? = some y := ⟨_, List.getElem?_eq_getElem (by rw [HN.out]; exact hjN)⟩
          have OY := HOA.out y (List.mem_of_getElem? hy)
          obtain ⟨g, off, rfl, hg, d0, d1, d2, d3, d4⟩ := rdV_at (HR.out.upd HUR.out) hy
          have hj0 : (0 : Int) ≤ (j : Int) := by omega
          have hj1 : (j : Int) < (N : Int) := by omega
          have hb := HB.out
          rw [HE0.out] at hb
          obtain ⟨e0, e1, e2, e3, e4⟩ := cells5 hb
          have xl := lt_at hb
          have HY := hide hy
          obtain ⟨⟨o, ef⟩, ho⟩ : ∃ p, orderV y X = p := ⟨_, rfl⟩
          rw [ho] at OY
          have HO1 : Hid ((orderV y X).1 = o) := hide (by rw [ho])
          have HO2 : Hid ((orderV y X).2 = ef) := hide (by rw [ho])
          have HXK' : Hid (X.k = k) := hide (by have := congrArg (fun a => a[0]?) HE0.out; simp [Vl.cs] at this; exact this)
          obtain ⟨Y, hYe⟩ : ∃ Y, Y = y := ⟨_, rfl⟩
          rw [← hYe] at HY HO1 HO2
          have HYK : Hid (Y.k = y.k) := hide (by rw [hYe])
          obtain ⟨yk, yn, yt, yb, yf⟩ := y
          have hOX : ∀ W, Calls Tryz.prog 19 #[.agg #[.int .i64 yk, .int .i64 yn, enS yt, .bool yb, .int .i64 yf], .agg #[.int .i64 k, .int .i64 n, enS t, .bool b, .int .i64 f]] W (OrdPost W (o, ef)) := by
            intro W
            have := OY W
            have e5 : X.val = .agg #[.int .i64 k, .int .i64 n, enS t, .bool b, .int .i64 f] := by
              have := HE0.out
              unfold Vl.cs at this
              unfold Vl.val
              rw [this]
            rw [e5] at this
            exact this
          simp only at d0 d1 d2 d3 d4 HYK
          have hbx := hb
          clear OY ho hYe hb hy
          have OXK := HXK'.out
          rcases place_cases m k yk o ef with ⟨hfit, hc⟩ | ⟨hfit, f1, f2, hc⟩
          · have HFIT : fitV m X Y = false := fitF_eq hfit HXK'.out HYK.out HO1.out HO2.out
            have HFIT := hide HFIT
            rcases hc with f1 | ⟨f1, f2⟩ | ⟨f1, f2, f3, f4⟩ | ⟨f1, f2, f3, f5, f6⟩ | ⟨f1, f2, f3, f5, f6, f7⟩
            · have h0 : True := trivial
              clear h0
              go_wp2_with fail
              refine Calls.mono (hOX _) ?_
              rintro e w2 ⟨rfl, u2⟩
              clear hOX d0 d1 d2 d3 d4 e0 e1 e2 e3 e4 xl
              have hbC := u2.get (block_alloc hbx (.cells (Vl.mk yk yn yt yb yf).cs 29)) id
              have hbY := u2.get (Vnew1 wr (.cells (Vl.mk yk yn yt yb yf).cs 29)) id
              obtain ⟨e0, e1, e2, e3, e4⟩ := cells5 hbC
              obtain ⟨y0, y1, y2, y3, y4⟩ := cells5 hbY
              have xl := lt_at hbC
              have yl := lt_at hbY
              have HBC := hide hbC
              have HU2 := hide ((HUR.out.alloc _).then u2 (fun _ _ => id))
              clear hbC hbY u2 hbx
              go_wp2_with fail
              go_roundg (gk - 1)
              case measure => omega
              case rel => exact ⟨j + 1, by omega, by go_num, by rw [pl_stay HY.out HFIT.out], fun h => by rw [pl_stay HY.out HFIT.out]; exact HM.out h, by rw [HE0.out]; exact HBC.out, HU2.out⟩
            · have h0 : True := trivial
              clear h0
              go_wp2_with fail
              refine Calls.mono (hOX _) ?_
              rintro e w2 ⟨rfl, u2⟩
              clear hOX d0 d1 d2 d3 d4 e0 e1 e2 e3 e4 xl
              have hbC := u2.get (block_alloc hbx (.cells (Vl.mk yk yn yt yb yf).cs 29)) id
              have hbY := u2.get (Vnew1 wr (.cells (Vl.mk yk yn yt yb yf).cs 29)) id
              obtain ⟨e0, e1, e2, e3, e4⟩ := cells5 hbC
              obtain ⟨y0, y1, y2, y3, y4⟩ := cells5 hbY
              have xl := lt_at hbC
              have yl := lt_at hbY
              have HBC := hide hbC
              have HU2 := hide ((HUR.out.alloc _).then u2 (fun _ _ => id))
              clear hbC hbY u2 hbx
              go_wp2_with fail
              go_roundg (gk - 1)
              case measure => omega
              case rel => exact ⟨j + 1, by omega, by go_num, by rw [pl_stay HY.out HFIT.out], fun h => by rw [pl_stay HY.out HFIT.out]; exact HM.out h, by rw [HE0.out]; exact HBC.out, HU2.out⟩
            · have h0 : True := trivial
              clear h0
              have g5 : ¬ 0 < m := by have : m = 0 := by simpa using f3
                                      omega
              have g6 : ¬ m < 0 := by have : m = 0 := by simpa using f3
                                      omega
              go_wp2_with fail
              refine Calls.mono (hOX _) ?_
              rintro e w2 ⟨rfl, u2⟩
              clear hOX d0 d1 d2 d3 d4 e0 e1 e2 e3 e4 xl
              have hbC := u2.get (block_alloc hbx (.cells (Vl.mk yk yn yt yb yf).cs 29)) id
              have hbY := u2.get (Vnew1 wr (.cells (Vl.mk yk yn yt yb yf).cs 29)) id
              obtain ⟨e0, e1, e2, e3, e4⟩ := cells5 hbC
              obtain ⟨y0, y1, y2, y3, y4⟩ := cells5 hbY
              have xl := lt_at hbC
              have yl := lt_at hbY
              have HBC := hide hbC
              have HU2 := hide ((HUR.out.alloc _).then u2 (fun _ _ => id))
              clear hbC hbY u2 hbx
              go_wp2_with fail
              go_roundg (gk - 1)
              case measure => omega
              case rel => exact ⟨j + 1, by omega, by go_num, by rw [pl_stay HY.out HFIT.out], fun h => by rw [pl_stay HY.out HFIT.out]; exact HM.out h, by rw [HE0.out]; exact HBC.out, HU2.out⟩
            · have h0 : True := trivial
              clear h0
              have g5 : 0 < m := by simpa using f5
              have g6 : ¬ o ≤ 0 := by simpa using f6
              go_wp2_with fail
              refine Calls.mono (hOX _) ?_
              rintro e w2 ⟨rfl, u2⟩
              clear hOX d0 d1 d2 d3 d4 e0 e1 e2 e3 e4 xl
              have hbC := u2.get (block_alloc hbx (.cells (Vl.mk yk yn yt yb yf).cs 29)) id
              have hbY := u2.get (Vnew1 wr (.cells (Vl.mk yk yn yt yb yf).cs 29)) id
              obtain ⟨e0, e1, e2, e3, e4⟩ := cells5 hbC
              obtain ⟨y0, y1, y2, y3, y4⟩ := cells5 hbY
              have xl := lt_at hbC
              have yl := lt_at hbY
              have HBC := hide hbC
              have HU2 := hide ((HUR.out.alloc _).then u2 (fun _ _ => id))
              clear hbC hbY u2 hbx
              go_wp2_with fail
              go_roundg (gk - 1)
              case measure => omega
              case rel => exact ⟨j + 1, by omega, by go_num, by rw [pl_stay HY.out HFIT.out], fun h => by rw [pl_stay HY.out HFIT.out]; exact HM.out h, by rw [HE0.out]; exact HBC.out, HU2.out⟩
            · have h0 : True := trivial
              clear h0
              have g5 : ¬ 0 < m := by simpa using f5
              have g6 : m < 0 := by simpa using f6
              have g7 : ¬ 0 ≤ o := by simpa using f7
              go_wp2_with fail
              refine Calls.mono (hOX _) ?_
              rintro e w2 ⟨rfl, u2⟩
              clear hOX d0 d1 d2 d3 d4 e0 e1 e2 e3 e4 xl
              have hbC := u2.get (block_alloc hbx (.cells (Vl.mk yk yn yt yb yf).cs 29)) id
              have hbY := u2.get (Vnew1 wr (.cells (Vl.mk yk yn yt yb yf).cs 29)) id
              obtain ⟨e0, e1, e2, e3, e4⟩ := cells5 hbC
              obtain ⟨y0, y1, y2, y3, y4⟩ := cells5 hbY
              have xl := lt_at hbC
              have yl := lt_at hbY
              have HBC := hide hbC
              have HU2 := hide ((HUR.out.alloc _).then u2 (fun _ _ => id))
              clear hbC hbY u2 hbx
              go_wp2_with fail
              go_roundg (gk - 1)
              case measure => omega
              case rel => exact ⟨j + 1, by omega, by go_num, by rw [pl_stay HY.out HFIT.out], fun h => by rw [pl_stay HY.out HFIT.out]; exact HM.out h, by rw [HE0.out]; exact HBC.out, HU2.out⟩
          · have HFIT : fitV m X Y = true := fitF_eq hfit HXK'.out HYK.out HO1.out HO2.out
            have HFIT := hide HFIT
            rcases hc with ⟨f3, f4⟩ | ⟨f3, f5, f6⟩ | ⟨f3, f5, f6, f7⟩
            · have hm0 : m = 0 := by simpa using f3
              have HM0 := hide hm0
              clear hm0
              go_wp2_with fail
              refine Calls.mono (hOX _) ?_
              rintro e w2 ⟨rfl, u2⟩
              clear hOX d0 d1 d2 d3 d4 e0 e1 e2 e3 e4 xl
              have hbC := u2.get (block_alloc hbx (.cells (Vl.mk yk yn yt yb yf).cs 29)) id
              have hbY := u2.get (Vnew1 wr (.cells (Vl.mk yk yn yt yb yf).cs 29)) id
              obtain ⟨e0, e1, e2, e3, e4⟩ := cells5 hbC
              obtain ⟨y0, y1, y2, y3, y4⟩ := cells5 hbY
              have xl := lt_at hbC
              have yl := lt_at hbY
              have HBC := hide hbC
              have HU2 := hide ((HUR.out.alloc _).then u2 (fun _ _ => id))
              clear hbC hbY u2 hbx
              go_wp2_with fail
              go_ret
              refine ⟨?_, HU2.out⟩
              have := HHIT.out Y j HY.out (HM0.out ▸ HFIT.out) (HM0.out ▸ HM.out HM0.out) HGX.out H4X.out
              rw [← HRR.out, HM0.out, this]
              go_num
            · have g5 : 0 < m := by simpa using f5
              have g6 : o ≤ 0 := by simpa using f6
              have hm0 : m ≠ 0 := by simpa using f3
              have HM0 := hide hm0
              clear hm0
              go_wp2_with fail
              refine Calls.mono (hOX _) ?_
              rintro e w2 ⟨rfl, u2⟩
              clear hOX d0 d1 d2 d3 d4 e0 e1 e2 e3 e4 xl
              have hbC := u2.get (block_alloc hbx (.cells (Vl.mk yk yn yt yb yf).cs 29)) id
              have hbY := u2.get (Vnew1 wr (.cells (Vl.mk yk yn yt yb yf).cs 29)) id
              obtain ⟨e0, e1, e2, e3, e4⟩ := cells5 hbC
              obtain ⟨y0, y1, y2, y3, y4⟩ := cells5 hbY
              have xl := lt_at hbC
              have yl := lt_at hbY
              have HBC := hide hbC
              have HU2 := hide ((HUR.out.alloc _).then u2 (fun _ _ => id))
              clear hbC hbY u2 hbx
              go_wp2_with fail
              go_roundg (gk - 1)
              case measure => omega
              case rel => exact ⟨j + 1, by omega, by go_num, by rw [pl_go HY.out HFIT.out HM.out]; go_num, fun h => absurd h HM0.out, by rw [HE0.out]; exact HBC.out, HU2.out⟩
            · have g5 : ¬ 0 < m := by simpa using f5
              have g6 : m < 0 := by simpa using f6
              have g7 : 0 ≤ o := by simpa using f7
              have hm0 : m ≠ 0 := by simpa using f3
              have HM0 := hide hm0
              clear hm0
              go_wp2_with fail
              refine Calls.mono (hOX _) ?_
              rintro e w2 ⟨rfl, u2⟩
              clear hOX d0 d1 d2 d3 d4 e0 e1 e2 e3 e4 xl
              have hbC := u2.get (block_alloc hbx (.cells (Vl.mk yk yn yt yb yf).cs 29)) id
              have hbY := u2.get (Vnew1 wr (.cells (Vl.mk yk yn yt yb yf).cs 29)) id
              obtain ⟨e0, e1, e2, e3, e4⟩ := cells5 hbC
              obtain ⟨y0, y1, y2, y3, y4⟩ := cells5 hbY
              have xl := lt_at hbC
              have yl := lt_at hbY
              have HBC := hide hbC
              have HU2 := hide ((HUR.out.alloc _).then u2 (fun _ _ => id))
              clear hbC hbY u2 hbx
              go_wp2_with fail
              go_roundg (gk - 1)
              case measure => omega
              case rel => exact ⟨j + 1, by omega, by go_num, by rw [pl_go HY.out HFIT.out HM.out]; go_num, fun h => absurd h HM0.out, by rw [HE0.out]; exact HBC.out, HU2.out⟩
        · have hjN' : j = N := by omega
          subst hjN'
          go_wp2_with fail
          go_ret
          exact ⟨by rw [HRp.out]; rfl, HUR.out⟩
end Go.Proofs.YtdjpkkgcoainhaaGreatDoor
/- The walks of the law's values, same; of package value's truth. -/
set_option maxRecDepth 100000
namespace Go.Lat
end Go.Lat
namespace Go.Proofs.YtdjpkkgcoainhaaGreatDoor
open Go.RowKit Go.Lat Go.Lib

theorem cut300 (l : List UInt8) : (⟨l.toArray⟩ : ByteArray).extract 0 (min (l.length : Int) 300).toNat = ⟨(l.take 300).toArray⟩ := by
  apply ByteArray.ext
  apply Array.ext'
  have e : (min (l.length : Int) 300).toNat = min l.length 300 := by omega
  rw [e, ByteArray.data_extract]
  simp only [Array.toList_extract, List.extract_eq_take_drop, Nat.sub_zero, List.drop_zero]
  rw [Nat.min_comm, ← List.take_eq_take_min]
/-- A value with its text cut. -/
def cutV (x : Vl) : Vl := ⟨x.k, x.n, x.t.take 300, x.b, x.f⟩

end Go.Proofs.YtdjpkkgcoainhaaGreatDoor
/- The signs of errors; the walks of package value's Fail.Text, truth. -/
set_option maxRecDepth 100000
namespace Go.Proofs.YtdjpkkgcoainhaaGreatDoor
open Go.RowKit Go.Lat Go.Lib

def signL : List (List UInt8) := [[], [35, 68, 73, 86, 47, 48, 33], [35, 78, 85, 77, 33], [35, 86, 65, 76, 85, 69, 33], [35, 82, 69, 70, 33], [35, 78, 65, 77, 69, 63], [35, 78, 47, 65], [35, 67, 89, 67, 76, 69, 33], [35, 76, 73, 78, 75, 33]]
/-- An error in signs. -/
def signT (f : Int) : List UInt8 := if okFail f then signL.getD f.toNat [] else []
def tTrue : List UInt8 := [84, 82, 85, 69]
def tFalse : List UInt8 := [70, 65, 76, 83, 69]
/-- Does a word say true, or false? -/
def truthV (s : List UInt8) : Bool × Bool := if upS s = tTrue then (true, true) else if upS s = tFalse then (false, true) else (false, false)
end Go.Proofs.YtdjpkkgcoainhaaGreatDoor
/- Plain laws on digits: a number's digits, the lowest first. -/
namespace Go.Lat

/-- What a list of places stands for. -/
def val : List Nat → Nat
  | [] => 0
  | d :: l => d + 10 * val l
/-- The digits of a number, the lowest first; none of 0. -/
def dg (n : Nat) : List Nat := if h : n = 0 then [] else n % 10 :: dg (n / 10)
termination_by n
decreasing_by omega

theorem dg_zero : dg 0 = [] := by rw [dg]; simp
theorem dg_pos {n : Nat} (h : n ≠ 0) : dg n = n % 10 :: dg (n / 10) := by rw [dg, dif_neg h]
theorem val_dg (n : Nat) : val (dg n) = n := by
  induction n using Nat.strongRecOn with
  | ind n ih =>
    by_cases h : n = 0
    · subst h; rw [dg_zero]; rfl
    · rw [dg_pos h]
      simp only [val]
      rw [ih (n / 10) (by omega)]
      omega

/-- Digits, and no nought above. -/
def Norm (l : List Nat) : Prop := (∀ d ∈ l, d < 10) ∧ ∀ h : l ≠ [], l.getLast h ≠ 0

theorem dg_norm (n : Nat) : Norm (dg n) := by
  induction n using Nat.strongRecOn with
  | ind n ih =>
    by_cases h : n = 0
    · subst h; rw [dg_zero]; exact ⟨by simp, fun h => absurd rfl h⟩
    · obtain ⟨h1, h2⟩ := ih (n / 10) (by omega)
      rw [dg_pos h]
      refine ⟨?_, fun _ => ?_⟩
      · intro d hd
        rcases List.mem_cons.1 hd with e | e
        · subst e; omega
        · exact h1 d e
      · by_cases h3 : n / 10 = 0
        · simp only [h3, dg_zero, List.getLast_singleton]
          omega
        · have hne : dg (n / 10) ≠ [] := by rw [dg_pos h3]; simp
          rw [List.getLast_cons hne]
          exact h2 hne

theorem val_append (a b : List Nat) : val (a ++ b) = val a + 10 ^ a.length * val b := by
  induction a with
  | nil => simp [val]
  | cons d l ih =>
    simp only [List.cons_append, val, ih, List.length_cons, Nat.pow_succ]
    rw [Nat.mul_add, Nat.mul_comm (10 ^ l.length) 10, Nat.mul_assoc, ← Nat.add_assoc]
theorem val_lt (l : List Nat) (h : ∀ d ∈ l, d < 10) : val l < 10 ^ l.length := by
  induction l with
  | nil => simp [val]
  | cons d l ih =>
    have h1 := ih (fun x hx => h x (by simp [hx]))
    have h2 := h d (by simp)
    simp only [val, List.length_cons, Nat.pow_succ]
    omega

/-- Digits without noughts above are told by what they stand for. -/
theorem norm_dg : ∀ (l : List Nat), Norm l → l = dg (val l)
  | [], _ => by simp [val, dg_zero]
  | d :: l, h => by
    have hd : d < 10 := h.1 d (by simp)
    have hn : Norm l := by
      refine ⟨fun x hx => h.1 x (by simp [hx]), fun hne => ?_⟩
      have := h.2 (by simp)
      rwa [List.getLast_cons hne] at this
    have ih := norm_dg l hn
    have hv : d + 10 * val l ≠ 0 := by
      intro h0
      have hv0 : val l = 0 := by omega
      have hl : l = [] := by rw [ih, hv0, dg_zero]
      subst hl
      have := h.2 (by simp)
      simp at this
      omega
    simp only [val]
    rw [dg_pos hv, show (d + 10 * val l) % 10 = d from by omega, show (d + 10 * val l) / 10 = val l from by omega, ← ih]

theorem dg_len_lt {a b : Nat} (h : (dg a).length < (dg b).length) : a < b := by
  have h1 := val_lt (dg a) (dg_norm a).1
  rw [val_dg] at h1
  have hb : b ≠ 0 := by intro e; subst e; rw [dg_zero] at h; simp at h
  have h2 : 10 ^ ((dg b).length - 1) ≤ b := by
    clear h h1
    induction b using Nat.strongRecOn with
    | ind n ih =>
      rw [dg_pos hb]
      by_cases h3 : n / 10 = 0
      · rw [h3, dg_zero]; simp; omega
      · have := ih (n / 10) (by omega) h3
        have hl : 1 ≤ (dg (n / 10)).length := by rw [dg_pos h3]; simp
        simp only [List.length_cons, Nat.add_sub_cancel]
        have e : 10 ^ (dg (n / 10)).length = 10 * 10 ^ ((dg (n / 10)).length - 1) := by
          rw [← Nat.pow_succ']; congr 1; omega
        omega
  have h3 : 10 ^ (dg a).length ≤ 10 ^ ((dg b).length - 1) := Nat.pow_le_pow_right (by omega) (by omega)
  omega

theorem dg_len (n k : Nat) (h : n < 10 ^ k) : (dg n).length ≤ k := by
  induction n using Nat.strongRecOn generalizing k with
  | ind n ih =>
    by_cases h0 : n = 0
    · subst h0; rw [dg_zero]; simp
    · rw [dg_pos h0]
      cases k with
      | zero => simp at h; omega
      | succ k =>
        have := ih (n / 10) (by omega) k (by rw [Nat.pow_succ] at h; omega)
        simp; omega

theorem drop_getD (l : List Nat) (j : Nat) (hj : j < l.length) : l.drop j = l.getD j 0 :: l.drop (j + 1) := by
  rw [List.drop_eq_getElem_cons hj, List.getD_eq_getElem?_getD, List.getElem?_eq_getElem hj]
  rfl

theorem val_split (l : List Nat) (j : Nat) (hj : j < l.length) : val l = val (l.take j) + 10 ^ j * (l.getD j 0 + 10 * val (l.drop (j + 1))) := by
  have e : l = l.take j ++ (l.getD j 0 :: l.drop (j + 1)) := by
    have h1 : l.drop j = l.getD j 0 :: l.drop (j + 1) := by
      rw [List.drop_eq_getElem_cons hj, List.getD_eq_getElem?_getD, List.getElem?_eq_getElem hj]
      rfl
    rw [← h1, List.take_append_drop]
  have h2 := congrArg val e
  rw [val_append, List.length_take, Nat.min_eq_left (by omega)] at h2
  exact h2

/-- The first place from above at which two lists differ tells which is less. -/
theorem val_cmp (a b : List Nat) (j : Nat) (ha : ∀ d ∈ a, d < 10) (hb : ∀ d ∈ b, d < 10) (hla : j < a.length) (hlb : j < b.length) (hd : a.drop (j + 1) = b.drop (j + 1)) (hne : a.getD j 0 ≠ b.getD j 0) :
    val a < val b ↔ a.getD j 0 < b.getD j 0 := by
  have h1 := val_lt (a.take j) (fun d h => ha d (List.mem_of_mem_take h))
  have h2 := val_lt (b.take j) (fun d h => hb d (List.mem_of_mem_take h))
  rw [List.length_take, Nat.min_eq_left (by omega)] at h1 h2
  rw [val_split a j hla, val_split b j hlb, hd]
  generalize val (a.take j) = x at *
  generalize val (b.take j) = y at *
  generalize a.getD j 0 = u at *
  generalize b.getD j 0 = v at *
  generalize 10 * val (b.drop (j + 1)) = z at *
  generalize 10 ^ j = P at *
  constructor
  · intro h
    rcases Nat.lt_trichotomy u v with c | c | c
    · exact c
    · exact absurd c hne
    · have := Nat.mul_le_mul_left P (show v + z + 1 ≤ u + z by omega)
      rw [Nat.mul_add] at this
      omega
  · intro h
    have := Nat.mul_le_mul_left P (show u + z + 1 ≤ v + z by omega)
    rw [Nat.mul_add] at this
    omega

/-- Of normal lists the longer one is more. -/
theorem val_len_lt (a b : List Nat) (ha : Norm a) (hb : Norm b) (h : a.length < b.length) : val a < val b := by
  refine dg_len_lt ?_
  rw [← norm_dg a ha, ← norm_dg b hb]
  exact h
end Go.Lat
