/- The law's act at one remainder of Do. -/
import Derived.Test.YtleehgpfoigajaaNtW0
set_option maxRecDepth 1000000
namespace Go.Proofs.Ytleehgpfoigajaa
open Go.RowKit Go.Lat Go.Sort

set_option maxHeartbeats 6400000 in
theorem act_b4 (base : Nat) (w : World) (b bm n : Nat) (D : DataW Value) (lost : Nat) (V : Pr → Value) (rb : Nat) (v : Value) (L : List On) (h : Both base w b bm n D lost V rb v L) (hn : n < 1000000) (hl : L.length ≤ 1000) (_hlo : lost ≤ 1000000)
    (xd xi : Int) (tf tt ts : List UInt8) (pok : prOk (tf, tt)) (W : World) (X : Nat) (bX : W.heap[X]? = some (.cells #[.int .i64 xd, .int .i64 xi, encStr tf, encStr tt, encStr ts] 34 (0, 0))) (u0 : Upd w W (fun _ => False)) (hX : w.heap.size = X)
    (hmx' : bits BinOp.and IntKind.i64 xd 7 = 5) (c2 c3 c4 c7 c8 c9 c10 c11 c12 c13 c14 c15 c16 c17 c18 c19 c20 c21 c22 c23 c24 c25 c26 c27 c28 c29 c30 c31 c32 c33 c34 c35 c36 c37 c38 c39 c40 c41 c42 c43 c44 c45 c46 c47 c48 c49 c50 c51 c52 c53 c54 c55 c56 c57 c58 c59 c60 c61 c62 c63 c64 c65 c66 c67 c68 c69 c70 c71 c72 c73 c74 c75 c76 c77 c78 c79 c80 c81 c82 c83 c84 c85 c86 c87 c88 c89 c90 c91 c92 c93 c94 c95 c96 c97 c98 c99 c100 c101 c102 c103 c104 c105 c106 c107 c108 c109 c110 c111 c112 c113 c114 c115 c116 c117 c118 c119 c120 c121 c122 c123 c124 c125 c126 c127 c128 c129 c130 c131 c132 c133 c134 c135 c136 c137 c138 c139 c140 c141 c142 c143 c144 c145 c146 c147 c148 c149 c150 c151 c152 c153 c154 c155 c156 c157 c158 c159 c160 c161 c162 c163 c164 c165 c166 c167 c168 c169 c170 c171 c172 c173 c174 c175 c176 : Value) :
    Code.wp Try.prog actRest (bodyPost Try.prog Try.f17 (ActPost base w b bm n lost V rb v L (tf, tt))) ⟨#[.pointer (some ⟨b, 0, none⟩), .pointer (some ⟨rb, 0, none⟩), c2, c3, c4, .pointer (some ⟨X, 0, none⟩), .bool false, c7, c8, c9, c10, c11, c12, c13, c14, c15, c16, c17, c18, c19, c20, c21, c22, c23, c24, c25, c26, c27, c28, c29, c30, c31, c32, c33, c34, c35, c36, c37, c38, c39, c40, c41, c42, c43, c44, c45, c46, c47, c48, c49, c50, c51, c52, c53, c54, c55, c56, c57, c58, c59, c60, c61, c62, c63, c64, c65, c66, c67, c68, c69, c70, c71, c72, c73, c74, c75, c76, c77, c78, c79, c80, c81, c82, c83, c84, c85, c86, c87, c88, c89, c90, c91, c92, c93, c94, c95, c96, c97, c98, c99, c100, c101, c102, c103, c104, c105, c106, c107, c108, c109, c110, c111, c112, c113, c114, c115, c116, c117, c118, c119, c120, c121, c122, c123, c124, c125, c126, c127, c128, c129, c130, c131, c132, c133, c134, c135, c136, c137, c138, c139, c140, c141, c142, c143, c144, c145, c146, c147, c148, c149, c150, c151, c152, c153, c154, c155, c156, c157, c158, c159, c160, c161, c162, c163, c164, c165, c166, c167, c168, c169, c170, c171, c172, c173, c174, c175, c176], []⟩ W := by
  have hfr := h.fr pok
  rw [hX] at hfr
  obtain ⟨a0, a1, a2, a3, a4⟩ := cells5 bX
  have xl := lt_at bX
  have HB := hide (h.upd u0)
  have HU0 := hide (u0.weaken (T := Bfr b bm V (tf, tt) rb v) (fun _ _ => False.elim))
  have HFR := hide hfr
  have HX := hide bX
  have hml : ∀ p, (ofP L p).length ≤ 1000 := fun p => Nat.le_trans (ofP_le L p) hl
  have HML := hide hml
  clear bX u0 hX hfr hml h
  conv => arg 2; whnf
  have RT := RTake_any base W rb v L lost HB.out.rf (by omega) (tf, tt) xi
  have TK := fun w5 (r5 : Nets base w5 b bm n D lost (ofP L) V) => Drop_S base w5 b bm n D lost (ofP L) V r5 hn (tf, tt) pok (HML.out _) xi
  cases hlk : lookR (ofP L (tf, tt)) xi with
  | none =>
    have hde : dropE (ofP L (tf, tt)) xi = 3 := by simp [dropE, hlk]
    simp only [hde] at TK
    rw [lookV_none hlk] at RT
    have HTK := hide TK
    have HRT := hide RT
    clear TK RT hlk hde
    go_wp2_with (first
      | (go_at_call 28; refine Calls.mono HRT.out ?_; rintro e w5 ⟨rfl, v', r5, u5, o5⟩
         have bX5 := u5.get HX.out (fun e => absurd (HFR.out X (.inr (.inl e))).2 (Nat.lt_irrefl _))
         obtain ⟨b0, b1, b2, b3, b4⟩ := cells5 bX5
         have xl5 := lt_at bX5
         have HR5 := hide r5
         have HU5 := hide u5
         have HN5 := hide (Nets.keepR HB.out.net HB.out.rf (u5.weaken (fun _ _ e => .inl e)))
         clear r5 u5 o5 bX5)
      | (go_at_call 12; refine Calls.mono (HTK.out w5 HN5.out) ?_; rintro e w6 ⟨rfl, n', D', V', hn', hns', u6⟩
         have HN6 := hide hns'
         have HU6 := hide u6
         clear hns' u6))
    go_ret
    refine ⟨by simp, n', D', lost, V', v', takeL L (tf, tt) xi, hn', Nat.le_succ_of_le (takeL_len _ _ _), by omega, ⟨?_, RefAt.keepN HN5.out HR5.out pok HU6.out, fun x hx => HB.out.ok x (takeL_mem hx)⟩, ?_⟩
    · rw [takeL_ofP]
      exact HN6.out
    · exact (HU0.out.then HU5.out (fun i hi e => Or.inr (.inl e))).then HU6.out (fun i hi e => Or.inl e)
  | some x =>
    have hde : dropE (ofP L (tf, tt)) xi = 0 := by simp [dropE, hlk]
    simp only [hde] at TK
    rw [lookV_some hlk] at RT
    have HTK := hide TK
    have HRT := hide RT
    clear TK RT hlk hde
    go_wp2_with (first
      | (go_at_call 28; refine Calls.mono HRT.out ?_; rintro e w5 ⟨rfl, v', r5, u5, o5⟩
         have bX5 := u5.get HX.out (fun e => absurd (HFR.out X (.inr (.inl e))).2 (Nat.lt_irrefl _))
         obtain ⟨b0, b1, b2, b3, b4⟩ := cells5 bX5
         have xl5 := lt_at bX5
         have HR5 := hide r5
         have HU5 := hide u5
         have HN5 := hide (Nets.keepR HB.out.net HB.out.rf (u5.weaken (fun _ _ e => .inl e)))
         clear r5 u5 o5 bX5)
      | (go_at_call 12; refine Calls.mono (HTK.out w5 HN5.out) ?_; rintro e w6 ⟨rfl, n', D', V', hn', hns', u6⟩
         have HN6 := hide hns'
         have HU6 := hide u6
         clear hns' u6))
    go_ret
    refine ⟨by simp, n', D', lost, V', v', takeL L (tf, tt) xi, hn', Nat.le_succ_of_le (takeL_len _ _ _), by omega, ⟨?_, RefAt.keepN HN5.out HR5.out pok HU6.out, fun x hx => HB.out.ok x (takeL_mem hx)⟩, ?_⟩
    · rw [takeL_ofP]
      exact HN6.out
    · exact (HU0.out.then HU5.out (fun i hi e => Or.inr (.inl e))).then HU6.out (fun i hi e => Or.inl e)
end Go.Proofs.Ytleehgpfoigajaa
