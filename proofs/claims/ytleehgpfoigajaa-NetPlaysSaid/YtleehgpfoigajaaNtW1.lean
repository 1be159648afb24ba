/- The law's act at one remainder of Do. -/
import Derived.Test.YtleehgpfoigajaaNtW0
set_option maxRecDepth 1000000
namespace Go.Proofs.Ytleehgpfoigajaa
open Go.RowKit Go.Lat Go.Sort

set_option maxHeartbeats 6400000 in
theorem act_b0 (base : Nat) (w : World) (b bm n : Nat) (D : DataW Value) (lost : Nat) (V : Pr → Value) (rb : Nat) (v : Value) (L : List On) (h : Both base w b bm n D lost V rb v L) (hn : n < 1000000) (hl : L.length ≤ 1000) (hlo : lost ≤ 1000000)
    (xd xi : Int) (tf tt ts : List UInt8) (pok : prOk (tf, tt)) (W : World) (X : Nat) (bX : W.heap[X]? = some (.cells #[.int .i64 xd, .int .i64 xi, encStr tf, encStr tt, encStr ts] 34 (0, 0))) (u0 : Upd w W (fun _ => False)) (hX : w.heap.size = X)
    (m : Nat) (hm3 : m < 3) (hmx' : bits BinOp.and IntKind.i64 xd 7 = (m : Int)) (c2 c3 c4 c7 c8 c9 c10 c11 c12 c13 c14 c15 c16 c17 c18 c19 c20 c21 c22 c23 c24 c25 c26 c27 c28 c29 c30 c31 c32 c33 c34 c35 c36 c37 c38 c39 c40 c41 c42 c43 c44 c45 c46 c47 c48 c49 c50 c51 c52 c53 c54 c55 c56 c57 c58 c59 c60 c61 c62 c63 c64 c65 c66 c67 c68 c69 c70 c71 c72 c73 c74 c75 c76 c77 c78 c79 c80 c81 c82 c83 c84 c85 c86 c87 c88 c89 c90 c91 c92 c93 c94 c95 c96 c97 c98 c99 c100 c101 c102 c103 c104 c105 c106 c107 c108 c109 c110 c111 c112 c113 c114 c115 c116 c117 c118 c119 c120 c121 c122 c123 c124 c125 c126 c127 c128 c129 c130 c131 c132 c133 c134 c135 c136 c137 c138 c139 c140 c141 c142 c143 c144 c145 c146 c147 c148 c149 c150 c151 c152 c153 c154 c155 c156 c157 c158 c159 c160 c161 c162 c163 c164 c165 c166 c167 c168 c169 c170 c171 c172 c173 c174 c175 c176 : Value) :
    Code.wp Try.prog actRest (bodyPost Try.prog Try.f17 (ActPost base w b bm n lost V rb v L (tf, tt))) ⟨#[.pointer (some ⟨b, 0, none⟩), .pointer (some ⟨rb, 0, none⟩), c2, c3, c4, .pointer (some ⟨X, 0, none⟩), .bool false, c7, c8, c9, c10, c11, c12, c13, c14, c15, c16, c17, c18, c19, c20, c21, c22, c23, c24, c25, c26, c27, c28, c29, c30, c31, c32, c33, c34, c35, c36, c37, c38, c39, c40, c41, c42, c43, c44, c45, c46, c47, c48, c49, c50, c51, c52, c53, c54, c55, c56, c57, c58, c59, c60, c61, c62, c63, c64, c65, c66, c67, c68, c69, c70, c71, c72, c73, c74, c75, c76, c77, c78, c79, c80, c81, c82, c83, c84, c85, c86, c87, c88, c89, c90, c91, c92, c93, c94, c95, c96, c97, c98, c99, c100, c101, c102, c103, c104, c105, c106, c107, c108, c109, c110, c111, c112, c113, c114, c115, c116, c117, c118, c119, c120, c121, c122, c123, c124, c125, c126, c127, c128, c129, c130, c131, c132, c133, c134, c135, c136, c137, c138, c139, c140, c141, c142, c143, c144, c145, c146, c147, c148, c149, c150, c151, c152, c153, c154, c155, c156, c157, c158, c159, c160, c161, c162, c163, c164, c165, c166, c167, c168, c169, c170, c171, c172, c173, c174, c175, c176], []⟩ W := by
  have hfr := h.fr pok
  rw [hX] at hfr
  obtain ⟨a0, a1, a2, a3, a4⟩ := cells5 bX
  have xl := lt_at bX
  have HB := hide (h.upd u0)
  have HU0 := hide (u0.weaken (T := Bfr b bm V (tf, tt) rb v) (fun _ _ => False.elim))
  have HFR := hide hfr
  have HX := hide bX
  have hml : ∀ p, (ofP L p).length ≤ 1000 := fun p => Nat.le_trans (ofP_le L p) hl
  have HML := hide hml
  clear bX u0 hX hfr hml h
  conv => arg 2; whnf
  have g0 : ((m : Int) == 3) = false := by simp; omega
  have g1 : ((m : Int) == 6) = false := by simp; omega
  have g2 : ((m : Int) == 4) = false := by simp; omega
  have g3 : ((m : Int) == 5) = false := by simp; omega
  have g4 : ((m : Int) == 7) = false := by simp; omega
  have g5 : (m == 3) = false := by simp; omega
  have g6 : (m == 6) = false := by simp; omega
  have g7 : (m == 4) = false := by simp; omega
  have g8 : (m == 5) = false := by simp; omega
  have g9 : (m == 7) = false := by simp; omega
  have uD : Upd W W.drew (fun _ => False) := (Upd.refl W _).drew
  have BD := HB.out.upd uD
  have SD := Send_S base W.drew b bm n D lost (ofP L) V BD.net hn hlo (tf, tt) pok ts
  have RS := fun w5 (r5 : RefAt base w5 rb v L lost) => RSend_any base w5 rb v L lost r5 (by omega) hlo (tf, tt) ts
  have hlo2 : (if (ofP L (tf, tt)).length < 256 then lost else lost + 1) ≤ lost + 1 := by split <;> omega
  obtain ⟨lo2, hlo3⟩ : ∃ lo2, (if (ofP L (tf, tt)).length < 256 then lost else lost + 1) = lo2 := ⟨_, rfl⟩
  rw [hlo3] at SD RS hlo2
  obtain ⟨Q, hQ⟩ : ∃ Q, decide ((ofP L (tf, tt)).length < 256) = Q := ⟨_, rfl⟩
  rw [hQ] at SD RS
  have HBD := hide BD
  have HSD := hide SD
  have HRS := hide RS
  clear BD SD RS uD hQ hlo3
  go_wp2_with fail
  go_region_held3 (fun w' => w'.cell? ⟨X, 2, none⟩ = some (encStr tf) ∧ w'.cell? ⟨X, 3, none⟩ = some (encStr tt) ∧ w'.cell? ⟨X, 4, none⟩ = some (encStr ts))
    (first | (go_split_ands; first | exact ⟨(u6.cell X 2 xl5 xn6).trans y2, (u6.cell X 3 xl5 xn6).trans y3, (u6.cell X 4 xl5 xn6).trans y4⟩ | exact ⟨y2, y3, y4⟩) | go_keep)
    (first
      | (go_at_call 8; refine Calls.mono HSD.out ?_; rintro e w5 ⟨rfl, n', D', V', hn', hns', u5⟩; have xn5 : ¬ Nfr b bm V (tf, tt) X := fun e => absurd (HFR.out X (.inl e)).2 (Nat.lt_irrefl _); have xn6 : ¬ (X = rb ∨ v.ownBlock = some X) := fun e => absurd (HFR.out X (.inr e)).2 (Nat.lt_irrefl _); have y2 := (u5.cell X 2 xl xn5).trans a2; have y3 := (u5.cell X 3 xl xn5).trans a3; have y4 := (u5.cell X 4 xl xn5).trans a4; have xl5 := Nat.lt_of_lt_of_le xl u5.size; have r5 := RefAt.keepN HBD.out.net HBD.out.rf pok u5)
      | (go_at_call 31; refine Calls.mono (HRS.out w5 r5) ?_; rintro e w6 ⟨rfl, v', r6, u6, o6⟩))
  go_wp2_with fail
  go_ret
  refine ⟨by simp, n', D', lo2, V', v', sendL L (tf, tt) ts, hn', sendL_len _ _ _, hlo2, ⟨?_, r6, fun x hx => ?_⟩, ?_⟩
  · rw [sendL_ofP]
    exact hns'.keepR r5 u6
  · rcases sendL_mem hx with q | q
    · exact HB.out.ok x q
    · rw [q]; exact pok
  · exact ((HU0.out.drew).then u5 (fun i hi e => Or.inl e)).then u6 (fun i hi e => Or.inr e)
end Go.Proofs.Ytleehgpfoigajaa
