/- The reference's Order, by cases. -/
import Derived.Test.YtmfngdjhkpddoaaGreatDoorJ12
/- The reference's Order, by cases. -/
set_option maxRecDepth 1000000
namespace Go.Proofs.YtmfngdjhkpddoaaGreatDoor
open Go.RowKit Go.Lat Go.Lib

set_option maxHeartbeats 3200000 in
theorem rordA (w : World) (xk xn : Int) (xt : List UInt8) (xb : Bool) (xf yk yn : Int) (yt : List UInt8) (yb : Bool) (yf ak an : Int) (at' : List UInt8) (ab : Bool) (af bk bn : Int) (bt : List UInt8) (bb : Bool) (bf : Int)
    (SX : ∀ w, Calls Tryz.prog 87 #[.agg #[.int .i64 xk, .int .i64 xn, enS xt, .bool xb, .int .i64 xf]] w fun e w' => e = .returned (.agg #[.int .i64 ak, .int .i64 an, enS at', .bool ab, .int .i64 af]) ∧ Upd w w' (fun _ => False))
    (SY0 : ∀ w, Calls Tryz.prog 87 #[.agg #[.int .i64 yk, .int .i64 yn, enS yt, .bool yb, .int .i64 yf]] w fun e w' => e = .returned (.agg #[.int .i64 bk, .int .i64 bn, enS bt, .bool bb, .int .i64 bf]) ∧ Upd w w' (fun _ => False))
    (h4 : (ak == 4) = true) :
    Calls Tryz.prog 41 #[.agg #[.int .i64 xk, .int .i64 xn, enS xt, .bool xb, .int .i64 xf], .agg #[.int .i64 yk, .int .i64 yn, enS yt, .bool yb, .int .i64 yf]] w (OrdPost w (0, af)) := by
  have SY := hide SY0
  clear SY0
  have HX1 := hide (block_alloc (Vnew1 w (.cells (Vl.mk xk xn xt xb xf).cs 36)) (.cells (Vl.mk yk yn yt yb yf).cs 36))
  have HX2 := hide (Vnew2 w (.cells (Vl.mk xk xn xt xb xf).cs 36) (.cells (Vl.mk yk yn yt yb yf).cs 36))
  go_enter Tryz.func41, Tryz.ntmps41
  change Code.wp Tryz.prog (Code.seq _ (Code.seq _ (Code.seq _ (Code.seq _ (Code.seq _ (Code.seq _ (Code.seq _ rordC2))))))) _ _ _
  go_wp2_with fail
  refine Calls.mono (SX _) ?_
  rintro e w2 ⟨rfl, u2⟩
  have z1 := u2.get HX1.out id
  have z2 := u2.get HX2.out id
  obtain ⟨c0, c1, c2, c3, c4⟩ := cells5 z1
  obtain ⟨e0, e1, e2, e3, e4⟩ := cells5 z2
  have l1 := lt_at z1
  have l2 := lt_at z2
  have f10 := free_at z1 0
  have f11 := free_at z1 1
  have f12 := free_at z1 2
  have f13 := free_at z1 3
  have f14 := free_at z1 4
  have s1 := set5_upd w2 w.heap.size (.int .i64 ak) (.int .i64 an) (.string ⟨at'.toArray⟩) (.bool ab) (.int .i64 af)
  have Z1 := hide (rset_two1 (x := ⟨xk, xn, xt, xb, xf⟩) z1 ⟨ak, an, at', ab, af⟩)
  have Z2 := hide (s1.get z2 (by omega))
  have HU2 := hide ((((Upd.refl w (fun _ => False)).alloc _).alloc _).then u2 (fun _ _ => id))
  have HS1 := hide s1
  clear z1 z2 u2 s1 SX
  go_wp2_with fail
  refine Calls.mono (SY.out _) ?_
  rintro e w3 ⟨rfl, u3⟩
  have z1 := u3.get Z1.out id
  have z2 := u3.get Z2.out id
  clear c0 c1 c2 c3 c4 e0 e1 e2 e3 e4 l1 l2 f10 f11 f12 f13 f14
  obtain ⟨c0, c1, c2, c3, c4⟩ := cells5 z1
  obtain ⟨e0, e1, e2, e3, e4⟩ := cells5 z2
  have l1 := lt_at z1
  have l2 := lt_at z2
  have f10 := free_at z1 0
  have f11 := free_at z1 1
  have f12 := free_at z1 2
  have f13 := free_at z1 3
  have f14 := free_at z1 4
  have f20 := free_at z2 0
  have f21 := free_at z2 1
  have f22 := free_at z2 2
  have f23 := free_at z2 3
  have f24 := free_at z2 4
  have s2 := set5_upd w3 (w.heap.size + 1) (.int .i64 bk) (.int .i64 bn) (.string ⟨bt.toArray⟩) (.bool bb) (.int .i64 bf)
  have Y1 := hide (s2.get z1 (by omega))
  have Y2 := hide (rset_two1 (x := ⟨yk, yn, yt, yb, yf⟩) z2 ⟨bk, bn, bt, bb, bf⟩)
  have HU3 := hide (((HU2.out.then HS1.out (fun i hi e => by omega)).then u3 (fun _ _ => id)).then s2 (fun i hi e => by omega))
  clear z1 z2 u3 s2
  go_wp2_with fail
  go_quiet (fail)
  go_wp2_with fail
  go_ret2
  exact ⟨rfl, HU3.out.drewN nq⟩
set_option maxHeartbeats 3200000 in
theorem rordB (w : World) (xk xn : Int) (xt : List UInt8) (xb : Bool) (xf yk yn : Int) (yt : List UInt8) (yb : Bool) (yf ak an : Int) (at' : List UInt8) (ab : Bool) (af bk bn : Int) (bt : List UInt8) (bb : Bool) (bf : Int)
    (SX : ∀ w, Calls Tryz.prog 87 #[.agg #[.int .i64 xk, .int .i64 xn, enS xt, .bool xb, .int .i64 xf]] w fun e w' => e = .returned (.agg #[.int .i64 ak, .int .i64 an, enS at', .bool ab, .int .i64 af]) ∧ Upd w w' (fun _ => False))
    (SY0 : ∀ w, Calls Tryz.prog 87 #[.agg #[.int .i64 yk, .int .i64 yn, enS yt, .bool yb, .int .i64 yf]] w fun e w' => e = .returned (.agg #[.int .i64 bk, .int .i64 bn, enS bt, .bool bb, .int .i64 bf]) ∧ Upd w w' (fun _ => False))
    (h4 : (ak == 4) = false) (h5 : (bk == 4) = true) :
    Calls Tryz.prog 41 #[.agg #[.int .i64 xk, .int .i64 xn, enS xt, .bool xb, .int .i64 xf], .agg #[.int .i64 yk, .int .i64 yn, enS yt, .bool yb, .int .i64 yf]] w (OrdPost w (0, bf)) := by
  have SY := hide SY0
  clear SY0
  have HX1 := hide (block_alloc (Vnew1 w (.cells (Vl.mk xk xn xt xb xf).cs 36)) (.cells (Vl.mk yk yn yt yb yf).cs 36))
  have HX2 := hide (Vnew2 w (.cells (Vl.mk xk xn xt xb xf).cs 36) (.cells (Vl.mk yk yn yt yb yf).cs 36))
  go_enter Tryz.func41, Tryz.ntmps41
  change Code.wp Tryz.prog (Code.seq _ (Code.seq _ (Code.seq _ (Code.seq _ (Code.seq _ (Code.seq _ (Code.seq _ rordC2))))))) _ _ _
  go_wp2_with fail
  refine Calls.mono (SX _) ?_
  rintro e w2 ⟨rfl, u2⟩
  have z1 := u2.get HX1.out id
  have z2 := u2.get HX2.out id
  obtain ⟨c0, c1, c2, c3, c4⟩ := cells5 z1
  obtain ⟨e0, e1, e2, e3, e4⟩ := cells5 z2
  have l1 := lt_at z1
  have l2 := lt_at z2
  have f10 := free_at z1 0
  have f11 := free_at z1 1
  have f12 := free_at z1 2
  have f13 := free_at z1 3
  have f14 := free_at z1 4
  have s1 := set5_upd w2 w.heap.size (.int .i64 ak) (.int .i64 an) (.string ⟨at'.toArray⟩) (.bool ab) (.int .i64 af)
  have Z1 := hide (rset_two1 (x := ⟨xk, xn, xt, xb, xf⟩) z1 ⟨ak, an, at', ab, af⟩)
  have Z2 := hide (s1.get z2 (by omega))
  have HU2 := hide ((((Upd.refl w (fun _ => False)).alloc _).alloc _).then u2 (fun _ _ => id))
  have HS1 := hide s1
  clear z1 z2 u2 s1 SX
  go_wp2_with fail
  refine Calls.mono (SY.out _) ?_
  rintro e w3 ⟨rfl, u3⟩
  have z1 := u3.get Z1.out id
  have z2 := u3.get Z2.out id
  clear c0 c1 c2 c3 c4 e0 e1 e2 e3 e4 l1 l2 f10 f11 f12 f13 f14
  obtain ⟨c0, c1, c2, c3, c4⟩ := cells5 z1
  obtain ⟨e0, e1, e2, e3, e4⟩ := cells5 z2
  have l1 := lt_at z1
  have l2 := lt_at z2
  have f10 := free_at z1 0
  have f11 := free_at z1 1
  have f12 := free_at z1 2
  have f13 := free_at z1 3
  have f14 := free_at z1 4
  have f20 := free_at z2 0
  have f21 := free_at z2 1
  have f22 := free_at z2 2
  have f23 := free_at z2 3
  have f24 := free_at z2 4
  have s2 := set5_upd w3 (w.heap.size + 1) (.int .i64 bk) (.int .i64 bn) (.string ⟨bt.toArray⟩) (.bool bb) (.int .i64 bf)
  have Y1 := hide (s2.get z1 (by omega))
  have Y2 := hide (rset_two1 (x := ⟨yk, yn, yt, yb, yf⟩) z2 ⟨bk, bn, bt, bb, bf⟩)
  have HU3 := hide (((HU2.out.then HS1.out (fun i hi e => by omega)).then u3 (fun _ _ => id)).then s2 (fun i hi e => by omega))
  clear z1 z2 u3 s2
  go_wp2_with fail
  go_quiet (fail)
  go_wp2_with fail
  go_ret2
  exact ⟨rfl, HU3.out.drewN nq⟩
set_option maxHeartbeats 3200000 in
theorem rordC00 (w : World) (xk xn : Int) (xt : List UInt8) (xb : Bool) (xf yk yn : Int) (yt : List UInt8) (yb : Bool) (yf ak an : Int) (at' : List UInt8) (ab : Bool) (af bk bn : Int) (bt : List UInt8) (bb : Bool) (bf : Int)
    (SX : ∀ w, Calls Tryz.prog 87 #[.agg #[.int .i64 xk, .int .i64 xn, enS xt, .bool xb, .int .i64 xf]] w fun e w' => e = .returned (.agg #[.int .i64 ak, .int .i64 an, enS at', .bool ab, .int .i64 af]) ∧ Upd w w' (fun _ => False))
    (SY0 : ∀ w, Calls Tryz.prog 87 #[.agg #[.int .i64 yk, .int .i64 yn, enS yt, .bool yb, .int .i64 yf]] w fun e w' => e = .returned (.agg #[.int .i64 bk, .int .i64 bn, enS bt, .bool bb, .int .i64 bf]) ∧ Upd w w' (fun _ => False))
    (h4 : (ak == 4) = false) (h5 : (bk == 4) = false) (h6 : (ak == 0) = false) (h7 : (bk == 0) = false) (lx : (Vl.mk ak an at' ab af).t.length ≤ 1000000) (ly : (Vl.mk bk bn bt bb bf).t.length ≤ 1000000) (pa : plainK ⟨ak, an, at', ab, af⟩) (pb : plainK ⟨bk, bn, bt, bb, bf⟩) :
    Calls Tryz.prog 41 #[.agg #[.int .i64 xk, .int .i64 xn, enS xt, .bool xb, .int .i64 xf], .agg #[.int .i64 yk, .int .i64 yn, enS yt, .bool yb, .int .i64 yf]] w (OrdPost w (ord2 ⟨ak, an, at', ab, af⟩ ⟨bk, bn, bt, bb, bf⟩, 0)) := by
  have SY := hide SY0
  clear SY0
  have HX1 := hide (block_alloc (Vnew1 w (.cells (Vl.mk xk xn xt xb xf).cs 36)) (.cells (Vl.mk yk yn yt yb yf).cs 36))
  have HX2 := hide (Vnew2 w (.cells (Vl.mk xk xn xt xb xf).cs 36) (.cells (Vl.mk yk yn yt yb yf).cs 36))
  have HLX := hide lx
  have HLY := hide ly
  have HPA := hide pa
  have HPB := hide pb
  clear lx ly pa pb
  go_enter Tryz.func41, Tryz.ntmps41
  change Code.wp Tryz.prog (Code.seq _ (Code.seq _ (Code.seq _ (Code.seq _ (Code.seq _ (Code.seq _ (Code.seq _ rordC2))))))) _ _ _
  go_wp2_with fail
  refine Calls.mono (SX _) ?_
  rintro e w2 ⟨rfl, u2⟩
  have z1 := u2.get HX1.out id
  have z2 := u2.get HX2.out id
  obtain ⟨c0, c1, c2, c3, c4⟩ := cells5 z1
  obtain ⟨e0, e1, e2, e3, e4⟩ := cells5 z2
  have l1 := lt_at z1
  have l2 := lt_at z2
  have f10 := free_at z1 0
  have f11 := free_at z1 1
  have f12 := free_at z1 2
  have f13 := free_at z1 3
  have f14 := free_at z1 4
  have s1 := set5_upd w2 w.heap.size (.int .i64 ak) (.int .i64 an) (.string ⟨at'.toArray⟩) (.bool ab) (.int .i64 af)
  have Z1 := hide (rset_two1 (x := ⟨xk, xn, xt, xb, xf⟩) z1 ⟨ak, an, at', ab, af⟩)
  have Z2 := hide (s1.get z2 (by omega))
  have HU2 := hide ((((Upd.refl w (fun _ => False)).alloc _).alloc _).then u2 (fun _ _ => id))
  have HS1 := hide s1
  clear z1 z2 u2 s1 SX
  go_wp2_with fail
  refine Calls.mono (SY.out _) ?_
  rintro e w3 ⟨rfl, u3⟩
  have z1 := u3.get Z1.out id
  have z2 := u3.get Z2.out id
  clear c0 c1 c2 c3 c4 e0 e1 e2 e3 e4 l1 l2 f10 f11 f12 f13 f14
  obtain ⟨c0, c1, c2, c3, c4⟩ := cells5 z1
  obtain ⟨e0, e1, e2, e3, e4⟩ := cells5 z2
  have l1 := lt_at z1
  have l2 := lt_at z2
  have f10 := free_at z1 0
  have f11 := free_at z1 1
  have f12 := free_at z1 2
  have f13 := free_at z1 3
  have f14 := free_at z1 4
  have f20 := free_at z2 0
  have f21 := free_at z2 1
  have f22 := free_at z2 2
  have f23 := free_at z2 3
  have f24 := free_at z2 4
  have s2 := set5_upd w3 (w.heap.size + 1) (.int .i64 bk) (.int .i64 bn) (.string ⟨bt.toArray⟩) (.bool bb) (.int .i64 bf)
  have Y1 := hide (s2.get z1 (by omega))
  have Y2 := hide (rset_two1 (x := ⟨yk, yn, yt, yb, yf⟩) z2 ⟨bk, bn, bt, bb, bf⟩)
  have HU3 := hide (((HU2.out.then HS1.out (fun i hi e => by omega)).then u3 (fun _ _ => id)).then s2 (fun i hi e => by omega))
  clear z1 z2 u3 s2
  go_wp2_with fail
  have q1 := Y1.out
  have q2 := Y2.out
  have uu := HU3.out
  exact rord_b2 w _ w.heap.size (w.heap.size + 1) ⟨ak, an, at', ab, af⟩ ⟨bk, bn, bt, bb, bf⟩ q1 q2 uu (by first | exact HLX.out | exact Nat.zero_le _) (by first | exact HLY.out | exact Nat.zero_le _) HPA.out HPB.out _ _ _ _ _ _ _ _ _ _ _ _ _ _ _ _ _ _ _ _ _ _ _ _ _ _ _ _ _ _ _ _ _ _ _ _ _ _ _ _ _ _ _ _ _ _ _ _ _ _ _ _ _ _ _ _ _ _ _ _ _ _ _ _ _ _ _ _ _ _ _
set_option maxHeartbeats 3200000 in
theorem rordC10 (w : World) (xk xn : Int) (xt : List UInt8) (xb : Bool) (xf yk yn : Int) (yt : List UInt8) (yb : Bool) (yf ak an : Int) (at' : List UInt8) (ab : Bool) (af bk bn : Int) (bt : List UInt8) (bb : Bool) (bf : Int)
    (SX : ∀ w, Calls Tryz.prog 87 #[.agg #[.int .i64 xk, .int .i64 xn, enS xt, .bool xb, .int .i64 xf]] w fun e w' => e = .returned (.agg #[.int .i64 ak, .int .i64 an, enS at', .bool ab, .int .i64 af]) ∧ Upd w w' (fun _ => False))
    (SY0 : ∀ w, Calls Tryz.prog 87 #[.agg #[.int .i64 yk, .int .i64 yn, enS yt, .bool yb, .int .i64 yf]] w fun e w' => e = .returned (.agg #[.int .i64 bk, .int .i64 bn, enS bt, .bool bb, .int .i64 bf]) ∧ Upd w w' (fun _ => False))
    (h4 : (ak == 4) = false) (h5 : (bk == 4) = false) (h6 : (ak == 0) = true) (h7 : (bk == 0) = false) (lx : (Vl.mk ak an at' ab af).t.length ≤ 1000000) (ly : (Vl.mk bk bn bt bb bf).t.length ≤ 1000000) (pa : plainK ⟨bk, 0, [], false, 0⟩) (pb : plainK ⟨bk, bn, bt, bb, bf⟩) :
    Calls Tryz.prog 41 #[.agg #[.int .i64 xk, .int .i64 xn, enS xt, .bool xb, .int .i64 xf], .agg #[.int .i64 yk, .int .i64 yn, enS yt, .bool yb, .int .i64 yf]] w (OrdPost w (ord2 ⟨bk, 0, [], false, 0⟩ ⟨bk, bn, bt, bb, bf⟩, 0)) := by
  have SY := hide SY0
  clear SY0
  have HX1 := hide (block_alloc (Vnew1 w (.cells (Vl.mk xk xn xt xb xf).cs 36)) (.cells (Vl.mk yk yn yt yb yf).cs 36))
  have HX2 := hide (Vnew2 w (.cells (Vl.mk xk xn xt xb xf).cs 36) (.cells (Vl.mk yk yn yt yb yf).cs 36))
  have HLX := hide lx
  have HLY := hide ly
  have HPA := hide pa
  have HPB := hide pb
  clear lx ly pa pb
  go_enter Tryz.func41, Tryz.ntmps41
  change Code.wp Tryz.prog (Code.seq _ (Code.seq _ (Code.seq _ (Code.seq _ (Code.seq _ (Code.seq _ (Code.seq _ rordC2))))))) _ _ _
  go_wp2_with fail
  refine Calls.mono (SX _) ?_
  rintro e w2 ⟨rfl, u2⟩
  have z1 := u2.get HX1.out id
  have z2 := u2.get HX2.out id
  obtain ⟨c0, c1, c2, c3, c4⟩ := cells5 z1
  obtain ⟨e0, e1, e2, e3, e4⟩ := cells5 z2
  have l1 := lt_at z1
  have l2 := lt_at z2
  have f10 := free_at z1 0
  have f11 := free_at z1 1
  have f12 := free_at z1 2
  have f13 := free_at z1 3
  have f14 := free_at z1 4
  have s1 := set5_upd w2 w.heap.size (.int .i64 ak) (.int .i64 an) (.string ⟨at'.toArray⟩) (.bool ab) (.int .i64 af)
  have Z1 := hide (rset_two1 (x := ⟨xk, xn, xt, xb, xf⟩) z1 ⟨ak, an, at', ab, af⟩)
  have Z2 := hide (s1.get z2 (by omega))
  have HU2 := hide ((((Upd.refl w (fun _ => False)).alloc _).alloc _).then u2 (fun _ _ => id))
  have HS1 := hide s1
  clear z1 z2 u2 s1 SX
  go_wp2_with fail
  refine Calls.mono (SY.out _) ?_
  rintro e w3 ⟨rfl, u3⟩
  have z1 := u3.get Z1.out id
  have z2 := u3.get Z2.out id
  clear c0 c1 c2 c3 c4 e0 e1 e2 e3 e4 l1 l2 f10 f11 f12 f13 f14
  obtain ⟨c0, c1, c2, c3, c4⟩ := cells5 z1
  obtain ⟨e0, e1, e2, e3, e4⟩ := cells5 z2
  have l1 := lt_at z1
  have l2 := lt_at z2
  have f10 := free_at z1 0
  have f11 := free_at z1 1
  have f12 := free_at z1 2
  have f13 := free_at z1 3
  have f14 := free_at z1 4
  have f20 := free_at z2 0
  have f21 := free_at z2 1
  have f22 := free_at z2 2
  have f23 := free_at z2 3
  have f24 := free_at z2 4
  have s2 := set5_upd w3 (w.heap.size + 1) (.int .i64 bk) (.int .i64 bn) (.string ⟨bt.toArray⟩) (.bool bb) (.int .i64 bf)
  have Y1 := hide (s2.get z1 (by omega))
  have Y2 := hide (rset_two1 (x := ⟨yk, yn, yt, yb, yf⟩) z2 ⟨bk, bn, bt, bb, bf⟩)
  have HU3 := hide (((HU2.out.then HS1.out (fun i hi e => by omega)).then u3 (fun _ _ => id)).then s2 (fun i hi e => by omega))
  clear z1 z2 u3 s2
  go_wp2_with fail
  have q1 := Y1.out
  have q2 := Y2.out
  have uu := HU3.out
  have s3 := set5_upd (set5 w3 (w.heap.size + 1) (.int .i64 bk) (.int .i64 bn) (.string ⟨bt.toArray⟩) (.bool bb) (.int .i64 bf)) w.heap.size (.int .i64 bk) (.int .i64 0) (.string ⟨#[]⟩) (.bool false) (.int .i64 0)
  have q1 := rset_two1 q1 ⟨bk, 0, [], false, 0⟩
  have q2 := s3.get q2 (by omega)
  have uu := uu.then s3 (fun i hi e => by omega)
  exact rord_b2 w _ w.heap.size (w.heap.size + 1) ⟨bk, 0, [], false, 0⟩ ⟨bk, bn, bt, bb, bf⟩ q1 q2 uu (by first | exact HLX.out | exact Nat.zero_le _) (by first | exact HLY.out | exact Nat.zero_le _) HPA.out HPB.out _ _ _ _ _ _ _ _ _ _ _ _ _ _ _ _ _ _ _ _ _ _ _ _ _ _ _ _ _ _ _ _ _ _ _ _ _ _ _ _ _ _ _ _ _ _ _ _ _ _ _ _ _ _ _ _ _ _ _ _ _ _ _ _ _ _ _ _ _ _ _
set_option maxHeartbeats 3200000 in
theorem rordC01 (w : World) (xk xn : Int) (xt : List UInt8) (xb : Bool) (xf yk yn : Int) (yt : List UInt8) (yb : Bool) (yf ak an : Int) (at' : List UInt8) (ab : Bool) (af bk bn : Int) (bt : List UInt8) (bb : Bool) (bf : Int)
    (SX : ∀ w, Calls Tryz.prog 87 #[.agg #[.int .i64 xk, .int .i64 xn, enS xt, .bool xb, .int .i64 xf]] w fun e w' => e = .returned (.agg #[.int .i64 ak, .int .i64 an, enS at', .bool ab, .int .i64 af]) ∧ Upd w w' (fun _ => False))
    (SY0 : ∀ w, Calls Tryz.prog 87 #[.agg #[.int .i64 yk, .int .i64 yn, enS yt, .bool yb, .int .i64 yf]] w fun e w' => e = .returned (.agg #[.int .i64 bk, .int .i64 bn, enS bt, .bool bb, .int .i64 bf]) ∧ Upd w w' (fun _ => False))
    (h4 : (ak == 4) = false) (h5 : (bk == 4) = false) (h6 : (ak == 0) = false) (h7 : (bk == 0) = true) (lx : (Vl.mk ak an at' ab af).t.length ≤ 1000000) (ly : (Vl.mk bk bn bt bb bf).t.length ≤ 1000000) (pa : plainK ⟨ak, an, at', ab, af⟩) (pb : plainK ⟨ak, 0, [], false, 0⟩) :
    Calls Tryz.prog 41 #[.agg #[.int .i64 xk, .int .i64 xn, enS xt, .bool xb, .int .i64 xf], .agg #[.int .i64 yk, .int .i64 yn, enS yt, .bool yb, .int .i64 yf]] w (OrdPost w (ord2 ⟨ak, an, at', ab, af⟩ ⟨ak, 0, [], false, 0⟩, 0)) := by
  have SY := hide SY0
  clear SY0
  have HX1 := hide (block_alloc (Vnew1 w (.cells (Vl.mk xk xn xt xb xf).cs 36)) (.cells (Vl.mk yk yn yt yb yf).cs 36))
  have HX2 := hide (Vnew2 w (.cells (Vl.mk xk xn xt xb xf).cs 36) (.cells (Vl.mk yk yn yt yb yf).cs 36))
  have HLX := hide lx
  have HLY := hide ly
  have HPA := hide pa
  have HPB := hide pb
  clear lx ly pa pb
  go_enter Tryz.func41, Tryz.ntmps41
  change Code.wp Tryz.prog (Code.seq _ (Code.seq _ (Code.seq _ (Code.seq _ (Code.seq _ (Code.seq _ (Code.seq _ rordC2))))))) _ _ _
  go_wp2_with fail
  refine Calls.mono (SX _) ?_
  rintro e w2 ⟨rfl, u2⟩
  have z1 := u2.get HX1.out id
  have z2 := u2.get HX2.out id
  obtain ⟨c0, c1, c2, c3, c4⟩ := cells5 z1
  obtain ⟨e0, e1, e2, e3, e4⟩ := cells5 z2
  have l1 := lt_at z1
  have l2 := lt_at z2
  have f10 := free_at z1 0
  have f11 := free_at z1 1
  have f12 := free_at z1 2
  have f13 := free_at z1 3
  have f14 := free_at z1 4
  have s1 := set5_upd w2 w.heap.size (.int .i64 ak) (.int .i64 an) (.string ⟨at'.toArray⟩) (.bool ab) (.int .i64 af)
  have Z1 := hide (rset_two1 (x := ⟨xk, xn, xt, xb, xf⟩) z1 ⟨ak, an, at', ab, af⟩)
  have Z2 := hide (s1.get z2 (by omega))
  have HU2 := hide ((((Upd.refl w (fun _ => False)).alloc _).alloc _).then u2 (fun _ _ => id))
  have HS1 := hide s1
  clear z1 z2 u2 s1 SX
  go_wp2_with fail
  refine Calls.mono (SY.out _) ?_
  rintro e w3 ⟨rfl, u3⟩
  have z1 := u3.get Z1.out id
  have z2 := u3.get Z2.out id
  clear c0 c1 c2 c3 c4 e0 e1 e2 e3 e4 l1 l2 f10 f11 f12 f13 f14
  obtain ⟨c0, c1, c2, c3, c4⟩ := cells5 z1
  obtain ⟨e0, e1, e2, e3, e4⟩ := cells5 z2
  have l1 := lt_at z1
  have l2 := lt_at z2
  have f10 := free_at z1 0
  have f11 := free_at z1 1
  have f12 := free_at z1 2
  have f13 := free_at z1 3
  have f14 := free_at z1 4
  have f20 := free_at z2 0
  have f21 := free_at z2 1
  have f22 := free_at z2 2
  have f23 := free_at z2 3
  have f24 := free_at z2 4
  have s2 := set5_upd w3 (w.heap.size + 1) (.int .i64 bk) (.int .i64 bn) (.string ⟨bt.toArray⟩) (.bool bb) (.int .i64 bf)
  have Y1 := hide (s2.get z1 (by omega))
  have Y2 := hide (rset_two1 (x := ⟨yk, yn, yt, yb, yf⟩) z2 ⟨bk, bn, bt, bb, bf⟩)
  have HU3 := hide (((HU2.out.then HS1.out (fun i hi e => by omega)).then u3 (fun _ _ => id)).then s2 (fun i hi e => by omega))
  clear z1 z2 u3 s2
  go_wp2_with fail
  have q1 := Y1.out
  have q2 := Y2.out
  have uu := HU3.out
  have s4 := set5_upd (set5 w3 (w.heap.size + 1) (.int .i64 bk) (.int .i64 bn) (.string ⟨bt.toArray⟩) (.bool bb) (.int .i64 bf)) (w.heap.size + 1) (.int .i64 ak) (.int .i64 0) (.string ⟨#[]⟩) (.bool false) (.int .i64 0)
  have q2 := rset_two1 q2 ⟨ak, 0, [], false, 0⟩
  have q1 := s4.get q1 (by omega)
  have uu := uu.then s4 (fun i hi e => by omega)
  exact rord_b2 w _ w.heap.size (w.heap.size + 1) ⟨ak, an, at', ab, af⟩ ⟨ak, 0, [], false, 0⟩ q1 q2 uu (by first | exact HLX.out | exact Nat.zero_le _) (by first | exact HLY.out | exact Nat.zero_le _) HPA.out HPB.out _ _ _ _ _ _ _ _ _ _ _ _ _ _ _ _ _ _ _ _ _ _ _ _ _ _ _ _ _ _ _ _ _ _ _ _ _ _ _ _ _ _ _ _ _ _ _ _ _ _ _ _ _ _ _ _ _ _ _ _ _ _ _ _ _ _ _ _ _ _ _
set_option maxHeartbeats 3200000 in
theorem rordC11 (w : World) (xk xn : Int) (xt : List UInt8) (xb : Bool) (xf yk yn : Int) (yt : List UInt8) (yb : Bool) (yf ak an : Int) (at' : List UInt8) (ab : Bool) (af bk bn : Int) (bt : List UInt8) (bb : Bool) (bf : Int)
    (SX : ∀ w, Calls Tryz.prog 87 #[.agg #[.int .i64 xk, .int .i64 xn, enS xt, .bool xb, .int .i64 xf]] w fun e w' => e = .returned (.agg #[.int .i64 ak, .int .i64 an, enS at', .bool ab, .int .i64 af]) ∧ Upd w w' (fun _ => False))
    (SY0 : ∀ w, Calls Tryz.prog 87 #[.agg #[.int .i64 yk, .int .i64 yn, enS yt, .bool yb, .int .i64 yf]] w fun e w' => e = .returned (.agg #[.int .i64 bk, .int .i64 bn, enS bt, .bool bb, .int .i64 bf]) ∧ Upd w w' (fun _ => False))
    (h4 : (ak == 4) = false) (h5 : (bk == 4) = false) (h6 : (ak == 0) = true) (h7 : (bk == 0) = true) (lx : (Vl.mk ak an at' ab af).t.length ≤ 1000000) (ly : (Vl.mk bk bn bt bb bf).t.length ≤ 1000000) (pa : plainK ⟨bk, 0, [], false, 0⟩) (pb : plainK ⟨bk, 0, [], false, 0⟩) :
    Calls Tryz.prog 41 #[.agg #[.int .i64 xk, .int .i64 xn, enS xt, .bool xb, .int .i64 xf], .agg #[.int .i64 yk, .int .i64 yn, enS yt, .bool yb, .int .i64 yf]] w (OrdPost w (ord2 ⟨bk, 0, [], false, 0⟩ ⟨bk, 0, [], false, 0⟩, 0)) := by
  have SY := hide SY0
  clear SY0
  have HX1 := hide (block_alloc (Vnew1 w (.cells (Vl.mk xk xn xt xb xf).cs 36)) (.cells (Vl.mk yk yn yt yb yf).cs 36))
  have HX2 := hide (Vnew2 w (.cells (Vl.mk xk xn xt xb xf).cs 36) (.cells (Vl.mk yk yn yt yb yf).cs 36))
  have HLX := hide lx
  have HLY := hide ly
  have HPA := hide pa
  have HPB := hide pb
  clear lx ly pa pb
  go_enter Tryz.func41, Tryz.ntmps41
  change Code.wp Tryz.prog (Code.seq _ (Code.seq _ (Code.seq _ (Code.seq _ (Code.seq _ (Code.seq _ (Code.seq _ rordC2))))))) _ _ _
  go_wp2_with fail
  refine Calls.mono (SX _) ?_
  rintro e w2 ⟨rfl, u2⟩
  have z1 := u2.get HX1.out id
  have z2 := u2.get HX2.out id
  obtain ⟨c0, c1, c2, c3, c4⟩ := cells5 z1
  obtain ⟨e0, e1, e2, e3, e4⟩ := cells5 z2
  have l1 := lt_at z1
  have l2 := lt_at z2
  have f10 := free_at z1 0
  have f11 := free_at z1 1
  have f12 := free_at z1 2
  have f13 := free_at z1 3
  have f14 := free_at z1 4
  have s1 := set5_upd w2 w.heap.size (.int .i64 ak) (.int .i64 an) (.string ⟨at'.toArray⟩) (.bool ab) (.int .i64 af)
  have Z1 := hide (rset_two1 (x := ⟨xk, xn, xt, xb, xf⟩) z1 ⟨ak, an, at', ab, af⟩)
  have Z2 := hide (s1.get z2 (by omega))
  have HU2 := hide ((((Upd.refl w (fun _ => False)).alloc _).alloc _).then u2 (fun _ _ => id))
  have HS1 := hide s1
  clear z1 z2 u2 s1 SX
  go_wp2_with fail
  refine Calls.mono (SY.out _) ?_
  rintro e w3 ⟨rfl, u3⟩
  have z1 := u3.get Z1.out id
  have z2 := u3.get Z2.out id
  clear c0 c1 c2 c3 c4 e0 e1 e2 e3 e4 l1 l2 f10 f11 f12 f13 f14
  obtain ⟨c0, c1, c2, c3, c4⟩ := cells5 z1
  obtain ⟨e0, e1, e2, e3, e4⟩ := cells5 z2
  have l1 := lt_at z1
  have l2 := lt_at z2
  have f10 := free_at z1 0
  have f11 := free_at z1 1
  have f12 := free_at z1 2
  have f13 := free_at z1 3
  have f14 := free_at z1 4
  have f20 := free_at z2 0
  have f21 := free_at z2 1
  have f22 := free_at z2 2
  have f23 := free_at z2 3
  have f24 := free_at z2 4
  have s2 := set5_upd w3 (w.heap.size + 1) (.int .i64 bk) (.int .i64 bn) (.string ⟨bt.toArray⟩) (.bool bb) (.int .i64 bf)
  have Y1 := hide (s2.get z1 (by omega))
  have Y2 := hide (rset_two1 (x := ⟨yk, yn, yt, yb, yf⟩) z2 ⟨bk, bn, bt, bb, bf⟩)
  have HU3 := hide (((HU2.out.then HS1.out (fun i hi e => by omega)).then u3 (fun _ _ => id)).then s2 (fun i hi e => by omega))
  clear z1 z2 u3 s2
  go_wp2_with fail
  have q1 := Y1.out
  have q2 := Y2.out
  have uu := HU3.out
  have s3 := set5_upd (set5 w3 (w.heap.size + 1) (.int .i64 bk) (.int .i64 bn) (.string ⟨bt.toArray⟩) (.bool bb) (.int .i64 bf)) w.heap.size (.int .i64 bk) (.int .i64 0) (.string ⟨#[]⟩) (.bool false) (.int .i64 0)
  have q1 := rset_two1 q1 ⟨bk, 0, [], false, 0⟩
  have q2 := s3.get q2 (by omega)
  have uu := uu.then s3 (fun i hi e => by omega)
  have s4 := set5_upd (set5 (set5 w3 (w.heap.size + 1) (.int .i64 bk) (.int .i64 bn) (.string ⟨bt.toArray⟩) (.bool bb) (.int .i64 bf)) w.heap.size (.int .i64 bk) (.int .i64 0) (.string ⟨#[]⟩) (.bool false) (.int .i64 0)) (w.heap.size + 1) (.int .i64 bk) (.int .i64 0) (.string ⟨#[]⟩) (.bool false) (.int .i64 0)
  have q2 := rset_two1 q2 ⟨bk, 0, [], false, 0⟩
  have q1 := s4.get q1 (by omega)
  have uu := uu.then s4 (fun i hi e => by omega)
  exact rord_b2 w _ w.heap.size (w.heap.size + 1) ⟨bk, 0, [], false, 0⟩ ⟨bk, 0, [], false, 0⟩ q1 q2 uu (by first | exact HLX.out | exact Nat.zero_le _) (by first | exact HLY.out | exact Nat.zero_le _) HPA.out HPB.out _ _ _ _ _ _ _ _ _ _ _ _ _ _ _ _ _ _ _ _ _ _ _ _ _ _ _ _ _ _ _ _ _ _ _ _ _ _ _ _ _ _ _ _ _ _ _ _ _ _ _ _ _ _ _ _ _ _ _ _ _ _ _ _ _ _ _ _ _ _ _
end Go.Proofs.YtmfngdjhkpddoaaGreatDoor
/- Order behind both 'beside'. -/
set_option maxRecDepth 1000000
namespace Go.Proofs.YtmfngdjhkpddoaaGreatDoor
open Go.RowKit Go.Lat Go.Lib

set_option maxHeartbeats 1600000 in
theorem ord_b2 (w W : World) (X1 X2 : Nat) (a b : Vl) (z1 : W.heap[X1]? = some (.cells a.cs 26 (0, 0))) (z2 : W.heap[X2]? = some (.cells b.cs 26 (0, 0))) (u : Upd w W (fun _ => False)) (la : a.t.length ≤ 1000000) (lb : b.t.length ≤ 1000000) (c0 c1 c4 c5 c6 c7 c8 c9 c10 c11 c12 c13 c14 c15 c16 c17 c18 c19 c20 c21 c22 c23 c24 c25 c26 c27 c28 c29 c30 c31 c32 c33 c34 c35 c36 c37 c38 c39 c40 c41 c42 c43 c44 c45 c46 c47 c48 c49 c50 c51 c52 c53 c54 c55 c56 c57 c58 c59 c60 c61 c62 c63 c64 c65 c66 c67 : Value) :
    Code.wp Tryz.prog ordC2 (bodyPost Tryz.prog Tryz.f36 (OrdPost w (ord2 a b, 0))) ⟨#[c0, c1, .pointer (some ⟨X1, 0, none⟩), .pointer (some ⟨X2, 0, none⟩), c4, c5, c6, c7, c8, c9, c10, c11, c12, c13, c14, c15, c16, c17, c18, c19, c20, c21, c22, c23, c24, c25, c26, c27, c28, c29, c30, c31, c32, c33, c34, c35, c36, c37, c38, c39, c40, c41, c42, c43, c44, c45, c46, c47, c48, c49, c50, c51, c52, c53, c54, c55, c56, c57, c58, c59, c60, c61, c62, c63, c64, c65, c66, c67], []⟩ W := by
  obtain ⟨c0, c1, c2, c3, c4⟩ := cells5 z1
  obtain ⟨e0, e1, e2, e3, e4⟩ := cells5 z2
  have l1 := lt_at z1
  have l2 := lt_at z2
  have Z1 := hide z1
  have Z2 := hide z2
  have HU := hide u
  obtain ⟨ak, an, at', ab, af⟩ := a
  obtain ⟨bk, bn, bt, bb, bf⟩ := b
  simp only at la lb c0 c1 c2 c3 c4 e0 e1 e2 e3 e4
  unfold ord2
  simp only
  have CK := fun w => CompareK_any w ak bk
  have CN := fun w => CompareN_any w an bn
  have LA := fun w => Lower_any w at' la
  have LB := fun w => Lower_any w bt lb
  have CS := fun w => CompareS_any w (lowS at') (lowS bt)
  have RA := fun w => rank_any w ab
  have RB := fun w => rank_any w bb
  clear z1 z2 u
  conv => arg 2; whnf
  by_cases hk : ak = bk
  · subst hk
    have k0 : (ak != ak) = false := by simp
    simp only [ne_eq, not_true_eq_false, if_false]
    by_cases h1 : ak = 1
    · subst h1
      rw [if_pos rfl]
      obtain ⟨R, hR⟩ : ∃ R, cmpI an bn = R := ⟨_, rfl⟩
      rw [hR] at CN ⊢
      clear hR
      go_wp2_with (go_at_call 80; refine Calls.mono (CN _) ?_; rintro e w' ⟨rfl, hw⟩; replace hw := hw.symm; subst hw)
      go_ret2
      exact ⟨rfl, HU.out⟩
    · have b1 : (ak == 1) = false := by simpa using h1
      rw [if_neg h1]
      by_cases h2 : ak = 2
      · subst h2
        rw [if_pos rfl]
        obtain ⟨R, hR⟩ : ∃ R, cmpS (lowS at') (lowS bt) = R := ⟨_, rfl⟩
        rw [hR] at CS ⊢
        obtain ⟨sa, hsa⟩ : ∃ s, lowS at' = s := ⟨_, rfl⟩
        obtain ⟨sb, hsb⟩ : ∃ s, lowS bt = s := ⟨_, rfl⟩
        rw [hsa] at LA CS
        rw [hsb] at LB CS
        clear hR h1 hsa hsb
        go_wp2_with fail
        go_region_law (go_simp; first
          | (go_at_call 82; refine Calls.mono (LA _) ?_; rintro e w3 ⟨rfl, u3⟩
             have y1 := u3.get Z1.out id
             have y2 := u3.get Z2.out id
             have d2 := (cells5 y2).2.2.1
             have m2 := lt_at y2
             have HU3 := hide u3
             clear y1 y2 u3)
          | (go_at_call 82; refine Calls.mono (LB _) ?_; rintro e w4 ⟨rfl, u4⟩
             have HU4 := hide u4
             clear u4)
          | (go_at_call 81; refine Calls.mono (CS _) ?_; rintro e w' ⟨rfl, hw⟩; replace hw := hw.symm; subst hw))
        all_goals go_wp2_with fail
        all_goals go_ret2
        all_goals exact ⟨rfl, ((HU.out.drew).then HU3.out (fun _ _ => id)).then HU4.out (fun _ _ => id)⟩
      · have b2 : (ak == 2) = false := by simpa using h2
        rw [if_neg h2]
        obtain ⟨ra, hra⟩ : ∃ r : Int, (if ab = true then 1 else 0) = r := ⟨_, rfl⟩
        obtain ⟨rb, hrb⟩ : ∃ r : Int, (if bb = true then 1 else 0) = r := ⟨_, rfl⟩
        have hwr : IntKind.i64.wrap (ra - rb) = ra - rb := IntWalk.i64_in _ (by rw [← hra, ← hrb]; split <;> split <;> omega)
        rw [hra] at RA ⊢
        rw [hrb] at RB ⊢
        clear hra hrb h1 h2
        go_wp2_with fail
        go_region_law (go_simp; first
          | (go_at_call 83; refine Calls.mono (RA _) ?_; rintro e w' ⟨rfl, hw⟩; replace hw := hw.symm; subst hw)
          | (go_at_call 83; refine Calls.mono (RB _) ?_; rintro e w' ⟨rfl, hw⟩; replace hw := hw.symm; subst hw))
        all_goals go_wp2_with fail
        all_goals go_ret2
        all_goals exact ⟨rfl, HU.out.drew⟩
  · have k0 : (ak != bk) = true := by simpa using hk
    have k1 : (ak == bk) = false := by simpa using hk
    simp only [ne_eq, hk, not_false_eq_true, if_true]
    obtain ⟨R, hR⟩ : ∃ R, cmpI ak bk = R := ⟨_, rfl⟩
    rw [hR] at CK ⊢
    clear hR hk
    go_wp2_with (go_at_call 79; refine Calls.mono (CK _) ?_; rintro e w' ⟨rfl, hw⟩; replace hw := hw.symm; subst hw)
    go_ret2
    exact ⟨rfl, HU.out⟩
end Go.Proofs.YtmfngdjhkpddoaaGreatDoor
/- Order: the statement with both 'beside' (some minutes: many orders). -/
set_option maxRecDepth 1000000
namespace Go.Proofs.YtmfngdjhkpddoaaGreatDoor
open Go.RowKit Go.Lat Go.Lib

theorem beside_t {x y : Vl} {n : Nat} (h : x.t.length ≤ n) : (besideV x y).t.length ≤ n := by
  unfold besideV
  split
  · exact Nat.zero_le _
  · exact h
set_option maxHeartbeats 12800000 in
theorem ord_b3 (w W : World) (X1 X2 : Nat) (hne : X1 ≠ X2) (g1 : w.heap.size ≤ X1) (g2 : w.heap.size ≤ X2) (a b : Vl) (z1 : W.heap[X1]? = some (.cells a.cs 26 (0, 0))) (z2 : W.heap[X2]? = some (.cells b.cs 26 (0, 0))) (u : Upd w W (fun _ => False)) (la : a.t.length ≤ 1000000) (lb : b.t.length ≤ 1000000) (c0 c1 c4 c5 c6 c7 c8 c9 c10 c11 c12 c13 c14 c15 c16 c17 c18 c19 c20 c21 c22 c23 c24 c25 c26 c27 c28 c29 c30 c31 c32 c33 c34 c35 c36 c37 c38 c39 c40 c41 c42 c43 c44 c45 c46 c47 c48 c49 c50 c51 c52 c53 c54 c55 c56 c57 c58 c59 c60 c61 c62 c63 c64 c65 c66 c67 : Value) (K : Act → World → Prop) (hK : ∀ a' w', Code.wp Tryz.prog ordC2 (bodyPost Tryz.prog Tryz.f36 (OrdPost w (ord2 (besideV a b) (besideV b a), 0))) a' w' → K a' w') :
    Code.wp Tryz.prog ordR8 (Exit.then K (bodyPost Tryz.prog Tryz.f36 (OrdPost w (ord2 (besideV a b) (besideV b a), 0)))) ⟨#[c0, c1, .pointer (some ⟨X1, 0, none⟩), .pointer (some ⟨X2, 0, none⟩), c4, c5, c6, c7, c8, c9, c10, c11, c12, c13, c14, c15, c16, c17, c18, c19, c20, c21, c22, c23, c24, c25, c26, c27, c28, c29, c30, c31, c32, c33, c34, c35, c36, c37, c38, c39, c40, c41, c42, c43, c44, c45, c46, c47, c48, c49, c50, c51, c52, c53, c54, c55, c56, c57, c58, c59, c60, c61, c62, c63, c64, c65, c66, c67], []⟩ W := by
  obtain ⟨c0, c1, c2, c3, c4⟩ := cells5 z1
  obtain ⟨e0, e1, e2, e3, e4⟩ := cells5 z2
  have l1 := lt_at z1
  have l2 := lt_at z2
  have BA := fun w => beside_any w a b
  have BB := fun w => beside_any w b a
  have HLA := hide (beside_t (y := b) la)
  have HLB := hide (beside_t (y := a) lb)
  have Y1 := hide z1
  have Y2 := hide z2
  have HU := hide u
  have HNE := hide hne
  have hne2 : ¬ X2 = X1 := fun e => hne e.symm
  have HG1 := hide g1
  have HG2 := hide g2
  clear z1 z2 u la lb g1 g2
  obtain ⟨a', ha'⟩ : ∃ v, besideV a b = v := ⟨_, rfl⟩
  obtain ⟨b', hb'⟩ : ∃ v, besideV b a = v := ⟨_, rfl⟩
  have HK := hide hK
  clear hK
  rw [ha'] at BA HLA HK ⊢
  rw [hb'] at BB HLB HK ⊢
  obtain ⟨ak, an, at', ab, af⟩ := a
  obtain ⟨bk, bn, bt, bb, bf⟩ := b
  obtain ⟨ak2, an2, at2, ab2, af2⟩ := a'
  obtain ⟨bk2, bn2, bt2, bb2, bf2⟩ := b'
  unfold Vl.val at BA BB
  simp only at BA BB c0 c1 c2 c3 c4 e0 e1 e2 e3 e4
  clear ha' hb'
  conv => arg 2; whnf
  dsimp only
  go_wp2_with fail
  go_region_law (go_simp; first
    | (go_at_call 78; refine Calls.mono (BA _) ?_; rintro e w3 ⟨rfl, u3⟩
       have z1 := u3.get Y1.out id
       have z2 := u3.get Y2.out id
       obtain ⟨c0, c1, c2, c3, c4⟩ := cells5 z1
       obtain ⟨e0, e1, e2, e3, e4⟩ := cells5 z2
       have l1 := lt_at z1
       have l2 := lt_at z2
       have X3 := hide z1
       have X4 := hide z2
       have HU3 := hide u3
       clear z1 z2 u3 BA)
    | (go_at_call 78; refine Calls.mono (BB _) ?_; rintro e w4 ⟨rfl, u4⟩
       have z1 := u4.get X3.out id
       have z2 := u4.get X4.out id
       clear c0 c1 c2 c3 c4 e0 e1 e2 e3 e4 l1 l2
       obtain ⟨c0, c1, c2, c3, c4⟩ := cells5 z1
       obtain ⟨e0, e1, e2, e3, e4⟩ := cells5 z2
       have l1 := lt_at z1
       have l2 := lt_at z2
       have f10 := free_at z1 0
       have f11 := free_at z1 1
       have f12 := free_at z1 2
       have f13 := free_at z1 3
       have f14 := free_at z1 4
       have f20 := free_at z2 0
       have f21 := free_at z2 1
       have f22 := free_at z2 2
       have f23 := free_at z2 3
       have f24 := free_at z2 4
       have X5 := hide z1
       have X6 := hide z2
       have HU4 := hide u4
       clear z1 z2 u4))
  all_goals (
    refine HK.out _ _ ?_
    obtain ⟨q1, q2, q3⟩ := set_two X5.out X6.out HNE.out ⟨ak2, an2, at2, ab2, af2⟩ ⟨bk2, bn2, bt2, bb2, bf2⟩
    exact ord_b2 w _ X1 X2 _ _ q1 q2 ((((HU.out.drew).then HU3.out (fun _ _ => id)).then HU4.out (fun _ _ => id)).then q3 (fun i hi e => by have := HG1.out; have := HG2.out; omega)) HLA.out HLB.out _ _ _ _ _ _ _ _ _ _ _ _ _ _ _ _ _ _ _ _ _ _ _ _ _ _ _ _ _ _ _ _ _ _ _ _ _ _ _ _ _ _ _ _ _ _ _ _ _ _ _ _ _ _ _ _ _ _ _ _ _ _ _ _ _ _)
end Go.Proofs.YtmfngdjhkpddoaaGreatDoor
/- Order behind both 'sound'. -/
set_option maxRecDepth 1000000
namespace Go.Proofs.YtmfngdjhkpddoaaGreatDoor
open Go.RowKit Go.Lat Go.Lib

set_option maxHeartbeats 3200000 in
theorem ord_b1 (w W : World) (X1 X2 : Nat) (hne : X1 ≠ X2) (g1 : w.heap.size ≤ X1) (g2 : w.heap.size ≤ X2) (a b : Vl) (z1 : W.heap[X1]? = some (.cells a.cs 26 (0, 0))) (z2 : W.heap[X2]? = some (.cells b.cs 26 (0, 0))) (u : Upd w W (fun _ => False)) (la : a.t.length ≤ 1000000) (lb : b.t.length ≤ 1000000) (c0 c1 c4 c5 c6 c7 c8 c9 c10 c11 c12 c13 c14 c15 c16 c17 c18 c19 c20 c21 c22 c23 c24 c25 c26 c27 c28 c29 c30 c31 c32 c33 c34 c35 c36 c37 c38 c39 c40 c41 c42 c43 c44 c45 c46 c47 c48 c49 c50 c51 c52 c53 c54 c55 c56 c57 c58 c59 c60 c61 c62 c63 c64 c65 c66 c67 : Value) :
    Code.wp Tryz.prog ordC1 (bodyPost Tryz.prog Tryz.f36 (OrdPost w (if a.k = 4 then (0, a.f) else if b.k = 4 then (0, b.f) else (ord2 (besideV a b) (besideV b a), 0)))) ⟨#[c0, c1, .pointer (some ⟨X1, 0, none⟩), .pointer (some ⟨X2, 0, none⟩), c4, c5, c6, c7, c8, c9, c10, c11, c12, c13, c14, c15, c16, c17, c18, c19, c20, c21, c22, c23, c24, c25, c26, c27, c28, c29, c30, c31, c32, c33, c34, c35, c36, c37, c38, c39, c40, c41, c42, c43, c44, c45, c46, c47, c48, c49, c50, c51, c52, c53, c54, c55, c56, c57, c58, c59, c60, c61, c62, c63, c64, c65, c66, c67], []⟩ W := by
  obtain ⟨c0, c1, c2, c3, c4⟩ := cells5 z1
  obtain ⟨e0, e1, e2, e3, e4⟩ := cells5 z2
  have l1 := lt_at z1
  have l2 := lt_at z2
  have Z1 := hide z1
  have Z2 := hide z2
  have HU := hide u
  have I0 : ∀ w, (Instr.index 107 (.agg #[.int .i64 a.k, .int .i64 a.n, enS a.t, .bool a.b, .int .i64 a.f, .int .i64 b.k, .int .i64 b.n, enS b.t, .bool b.b, .int .i64 b.f]) (.int .i64 0)).run Tryz.prog w = .ok (.agg #[.int .i64 a.k, .int .i64 a.n, enS a.t, .bool a.b, .int .i64 a.f]) w := fun _ => by kernel_rfl
  have I1 : ∀ w, (Instr.index 107 (.agg #[.int .i64 a.k, .int .i64 a.n, enS a.t, .bool a.b, .int .i64 a.f, .int .i64 b.k, .int .i64 b.n, enS b.t, .bool b.b, .int .i64 b.f]) (.int .i64 1)).run Tryz.prog w = .ok (.agg #[.int .i64 b.k, .int .i64 b.n, enS b.t, .bool b.b, .int .i64 b.f]) w := fun _ => by kernel_rfl
  have HLT := hide (And.intro la lb)
  clear z1 z2 u la lb
  by_cases h4 : a.k = 4
  · rw [if_pos h4]
    obtain ⟨ak, an, at', ab, af⟩ := a
    obtain rfl : ak = 4 := h4
    simp only at I0 I1
    conv => arg 2; whnf
    go_wp2_with fail
    refine wp_loop_rounds 1 ?_
    rw [rounds_succ]
    go_wp2_with fail
    go_quiet (fail)
    go_wp2_with fail
    go_ret2
    exact ⟨rfl, (HU.out.alloc _).drewN nq⟩
  · rw [if_neg h4]
    have b4 : (a.k == 4) = false := by simpa using h4
    by_cases h5 : b.k = 4
    · rw [if_pos h5]
      obtain ⟨ak, an, at', ab, af⟩ := a
      obtain ⟨bk, bn, bt, bb, bf⟩ := b
      obtain rfl : bk = 4 := h5
      simp only at I0 I1
      clear h4
      conv => arg 2; whnf
      go_wp2_with fail
      refine wp_loop_rounds 2 ?_
      rw [rounds_succ]
      go_wp2_with fail
      rw [rounds_succ]
      go_wp2_with fail
      go_quiet (fail)
      go_wp2_with fail
      go_ret2
      exact ⟨rfl, ((HU.out.alloc _).alloc _).drewN nq⟩
    · rw [if_neg h5]
      have b5 : (b.k == 4) = false := by simpa using h5
      obtain ⟨ak, an, at', ab, af⟩ := a
      obtain ⟨bk, bn, bt, bb, bf⟩ := b
      simp only at b4 b5 I0 I1
      have HUV := hide (((Upd.refl W (fun _ => False)).alloc (.cells (Vl.mk ak an at' ab af).cs 26)).alloc (.cells (Vl.mk bk bn bt bb bf).cs 26))
      clear h4 h5
      conv => arg 2; whnf
      go_wp2_with fail
      refine wp_loop_rounds 3 ?_
      rw [rounds_succ]
      go_wp2_with fail
      rw [rounds_succ]
      go_wp2_with fail
      rw [rounds_succ]
      go_wp2_with fail
      rename_i hK
      refine ord_b3 w _ X1 X2 hne g1 g2 ⟨ak, an, at', ab, af⟩ ⟨bk, bn, bt, bb, bf⟩ (HUV.out.get Z1.out id) (HUV.out.get Z2.out id) (HU.out.then HUV.out (fun _ _ => id)) HLT.out.1 HLT.out.2 _ _ _ _ _ _ _ _ _ _ _ _ _ _ _ _ _ _ _ _ _ _ _ _ _ _ _ _ _ _ _ _ _ _ _ _ _ _ _ _ _ _ _ _ _ _ _ _ _ _ _ _ _ _ _ _ _ _ _ _ _ _ _ _ _ _ _ hK
end Go.Proofs.YtmfngdjhkpddoaaGreatDoor
/- The walk of package value's Order. -/
set_option maxRecDepth 1000000
namespace Go.Proofs.YtmfngdjhkpddoaaGreatDoor
open Go.RowKit Go.Lat Go.Lib

theorem sound_t {x : Vl} {n : Nat} (h : x.t.length ≤ n) : (soundV x).t.length ≤ n := by
  unfold soundV
  split
  · exact h
  · exact Nat.zero_le _
set_option maxHeartbeats 6400000 in
theorem Order_any (w : World) (x y : Vl) (hx : x.ok) (hy : y.ok) (lx : x.t.length ≤ 1000000) (ly : y.t.length ≤ 1000000) : Calls Tryz.prog 36 #[x.val, y.val] w (OrdPost w (orderV x y)) := by
  have SX := fun w => sound_any w x hx
  have SY := fun w => sound_any w y hy
  have bX1 : ((w.alloc (.cells x.cs 26)).alloc (.cells y.cs 26)).heap[w.heap.size]? = some (.cells x.cs 26 (0, 0)) := block_alloc (Vnew1 w _) _
  have bX2 := Vnew2 w (.cells x.cs 26) (.cells y.cs 26)
  have HX1 := hide bX1
  have HX2 := hide bX2
  have HLX := hide (sound_t lx)
  have HLY := hide (sound_t ly)
  obtain ⟨a, ha⟩ : ∃ a, soundV x = a := ⟨_, rfl⟩
  obtain ⟨b, hb⟩ : ∃ b, soundV y = b := ⟨_, rfl⟩
  unfold orderV
  rw [ha] at SX HLX ⊢
  rw [hb] at SY HLY ⊢
  obtain ⟨xk, xn, xt, xb, xf⟩ := x
  obtain ⟨yk, yn, yt, yb, yf⟩ := y
  unfold Vl.val at SX SY ⊢
  simp only [Vl.cs] at SX SY HX1 HX2 ⊢
  obtain ⟨P, hP⟩ : ∃ P, OrdPost w (if a.k = 4 then (0, a.f) else if b.k = 4 then (0, b.f) else (ord2 (besideV a b) (besideV b a), 0)) = P := ⟨_, rfl⟩
  change Calls Tryz.prog 36 _ w (OrdPost w (if a.k = 4 then (0, a.f) else if b.k = 4 then (0, b.f) else (ord2 (besideV a b) (besideV b a), 0)))
  rw [hP]
  have HP := hide hP
  clear bX1 bX2 ha hb hx hy lx ly hP
  go_enter Tryz.func36, Tryz.ntmps36
  go_wp2_with fail
  go_region_law (go_simp; first
    | (go_at_call 77; refine Calls.mono (SX _) ?_; rintro e w2 ⟨rfl, u2⟩
       have z1 := u2.get HX1.out id
       have z2 := u2.get HX2.out id
       obtain ⟨c0, c1, c2, c3, c4⟩ := cells5 z1
       obtain ⟨e0, e1, e2, e3, e4⟩ := cells5 z2
       have l1 := lt_at z1
       have l2 := lt_at z2
       have Z1 := hide z1
       have Z2 := hide z2
       have HU2 := hide u2
       clear z1 z2 u2 SX)
    | (go_at_call 77; refine Calls.mono (SY _) ?_; rintro e w3 ⟨rfl, u3⟩
       have z1 := u3.get Z1.out id
       have z2 := u3.get Z2.out id
       clear c0 c1 c2 c3 c4 e0 e1 e2 e3 e4 l1 l2
       obtain ⟨c0, c1, c2, c3, c4⟩ := cells5 z1
       obtain ⟨e0, e1, e2, e3, e4⟩ := cells5 z2
       have l1 := lt_at z1
       have l2 := lt_at z2
       have f10 := free_at z1 0
       have f11 := free_at z1 1
       have f12 := free_at z1 2
       have f13 := free_at z1 3
       have f14 := free_at z1 4
       have f20 := free_at z2 0
       have f21 := free_at z2 1
       have f22 := free_at z2 2
       have f23 := free_at z2 3
       have f24 := free_at z2 4
       have Y1 := hide z1
       have Y2 := hide z2
       have HU3 := hide u3
       clear z1 z2 u3))
  all_goals (
    rename_i hK
    refine hK _ _ ?_
    obtain ⟨q1, q2, q3⟩ := set_two (x := ⟨xk, xn, xt, xb, xf⟩) (y := ⟨yk, yn, yt, yb, yf⟩) Y1.out Y2.out (by omega) a b
    have u0 : Upd w ((w.alloc (.cells #[.int .i64 xk, .int .i64 xn, enS xt, .bool xb, .int .i64 xf] 26)).alloc (.cells #[.int .i64 yk, .int .i64 yn, enS yt, .bool yb, .int .i64 yf] 26)) (fun _ => False) := ((Upd.refl w _).alloc _).alloc _
    rw [← HP.out]
    exact ord_b1 w _ w.heap.size (w.heap.size + 1) (by omega) (Nat.le_refl _) (by omega) a b q1 q2 ((((u0.drew).then HU2.out (fun _ _ => id)).then HU3.out (fun _ _ => id)).then q3 (fun i hi e => by omega)) HLX.out HLY.out _ _ _ _ _ _ _ _ _ _ _ _ _ _ _ _ _ _ _ _ _ _ _ _ _ _ _ _ _ _ _ _ _ _ _ _ _ _ _ _ _ _ _ _ _ _ _ _ _ _ _ _ _ _ _ _ _ _ _ _ _ _ _ _ _ _)
end Go.Proofs.YtmfngdjhkpddoaaGreatDoor
