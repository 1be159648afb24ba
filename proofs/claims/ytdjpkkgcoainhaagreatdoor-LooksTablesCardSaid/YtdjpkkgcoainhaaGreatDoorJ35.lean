/- The walk of LooksTables. -/
import Derived.Test.YtdjpkkgcoainhaaGreatDoorJ34
import Derived.Test.YtdjpkkgcoainhaaGreatDoorJ32
/- The walk of LooksTables. -/
set_option maxRecDepth 100000
namespace Go.Proofs.YtdjpkkgcoainhaaGreatDoor
open Go.RowKit Go.Lat Go.Lib

/-- The law's variables: the value, the table, the counts. -/
structure TbS (w w' : World) (x : Vl) (k0 k1 k2 c : Int) (vs : List Vl) (a : Option Addr) (cc : Nat) : Prop where
  bx : w'.heap[w.heap.size]? = some (.cells #[.int .i64 x.k, .int .i64 x.n, enS x.t, .bool x.b, .int .i64 x.f] 23 (0, 0))
  bt : w'.heap[w.heap.size + 1]? = some (.cells #[.slice a vs.length cc, .int .i64 c, .bool true] 58 (0, 0))
  bk : w'.heap[w.heap.size + 2]? = some (.cells #[.int .i64 k0, .int .i64 k1, .int .i64 k2] 59 (0, 0))
  rw : Rw w' 23 5 (.slice a vs.length cc) vs.length (vlCells vs)
  own : ∀ k, (Value.slice a vs.length cc).ownBlock = some k → w.heap.size + 3 ≤ k
  upd : Upd w w' (fun _ => False)
  size : w.heap.size + 3 ≤ w'.heap.size
theorem new3 (w : World) (A B C : Obj) : (((w.alloc A).alloc B).alloc C).heap[w.heap.size]? = some A ∧ (((w.alloc A).alloc B).alloc C).heap[w.heap.size + 1]? = some B ∧ (((w.alloc A).alloc B).alloc C).heap[w.heap.size + 2]? = some C :=
  ⟨block_alloc (block_alloc (Vnew1 w A) B) C, block_alloc (Vnew2 w A B) C, LVnew3 w A B C⟩
theorem TbS.made {w w1 w3 : World} {x : Vl} {k0 k1 k2 c : Int} {vs : List Vl} {ga : Option Addr} {gac n : Nat} {xs : List Value} {row : Option Nat} {s0 : Value}
    (bx : w1.heap[w.heap.size]? = some (.cells #[.int .i64 x.k, .int .i64 x.n, enS x.t, .bool x.b, .int .i64 x.f] 23 (0, 0))) (bt : w1.heap[w.heap.size + 1]? = some (.cells #[s0, .int .i64 c, .bool true] 58 (0, 0)))
    (bk : w1.heap[w.heap.size + 2]? = some (.cells #[.int .i64 k0, .int .i64 k1, .int .i64 k2] 59 (0, 0))) (hu : Upd w w1 (fun _ => False)) (hs : w.heap.size + 3 ≤ w1.heap.size) (hrow : ∀ k, row = some k → w.heap.size + 3 ≤ k) (hg : w1.grownBy w3 row)
    (hv : Rw w3 23 5 (.slice ga n gac) n xs) (hn : n = vs.length) (hxs : xs = vlCells vs) (ho : (Value.slice ga n gac).ownBlock = row ∨ (Value.slice ga n gac).ownBlock = some w1.heap.size) :
    TbS w (w3.setCell ⟨w.heap.size + 1, 0, none⟩ (.slice ga n gac)) x k0 k1 k2 c vs ga gac := by
  subst hn hxs
  have ne : ∀ j, j < 3 → row ≠ some (w.heap.size + j) := fun j hj e => by have := hrow _ e; omega
  have own : ∀ k, (Value.slice ga vs.length gac).ownBlock = some k → w.heap.size + 3 ≤ k := fun k e => by
    rcases ho with h | h
    · exact hrow k (h.symm.trans e)
    · have := Option.some.inj (h.symm.trans e); omega
  have u := (Upd.refl w3 (fun j => j = w.heap.size + 1)).setCell ⟨w.heap.size + 1, 0, none⟩ (.slice ga vs.length gac) (.inr rfl)
  have u3 := hu.grown hg (fun k e => .inl (by have := hrow k e; omega))
  refine ⟨u.get (block_grown hg bx (ne 0 (by omega))) (show ¬ w.heap.size = w.heap.size + 1 by omega), block_setCell (block_grown hg bt (ne 1 (by omega))) 0 _, u.get (block_grown hg bk (ne 2 (by omega))) (show ¬ w.heap.size + 2 = w.heap.size + 1 by omega), hv.setCell _ _ (fun e => by have h9 : w.heap.size + 3 ≤ w.heap.size + 1 := own _ e; omega), own, u3.then u (fun i hi e => by omega), ?_⟩
  have := hg.size
  have e : (w3.setCell ⟨w.heap.size + 1, 0, none⟩ (.slice ga vs.length gac)).heap.size = w3.heap.size := by simp [World.setCell]
  omega
theorem TbS.setc {w w' : World} {x : Vl} {k0 k1 k2 c : Int} {vs : List Vl} {a : Option Addr} {cc : Nat} (h : TbS w w' x k0 k1 k2 c vs a cc) (c2 : Int) : TbS w (w'.setCell ⟨w.heap.size + 1, 1, none⟩ (.int .i64 c2)) x k0 k1 k2 c2 vs a cc := by
  have u := (Upd.refl w' (fun j => j = w.heap.size + 1)).setCell ⟨w.heap.size + 1, 1, none⟩ (.int .i64 c2) (.inr rfl)
  refine ⟨u.get h.bx (show ¬ w.heap.size = w.heap.size + 1 by omega), block_setCell h.bt 1 _, u.get h.bk (show ¬ w.heap.size + 2 = w.heap.size + 1 by omega), h.rw.setCell _ _ (fun e => by have h9 : w.heap.size + 3 ≤ w.heap.size + 1 := h.own _ e; omega), h.own, h.upd.then u (fun i hi e => by omega), ?_⟩
  have e : (w'.setCell ⟨w.heap.size + 1, 1, none⟩ (.int .i64 c2)).heap.size = w'.heap.size := by simp [World.setCell]
  have := h.size
  omega
theorem TbS.up {w w' w2 : World} {x : Vl} {k0 k1 k2 c : Int} {vs : List Vl} {a : Option Addr} {cc : Nat} (h : TbS w w' x k0 k1 k2 c vs a cc) (u : Upd w' w2 (fun _ => False)) : TbS w w2 x k0 k1 k2 c vs a cc :=
  ⟨u.get h.bx id, u.get h.bt id, u.get h.bk id, u.rw h.rw (fun _ _ => id), h.own, h.upd.then u (fun _ _ => id), Nat.le_trans h.size u.size⟩
def cntA (k : Int) : Ar := oneA (cntW (k.tmod 40))
theorem idx3 (k0 k1 k2 : Int) (i : Nat) (hi : i < 3) (w : World) : (Instr.index 59 (.agg #[.int .i64 k0, .int .i64 k1, .int .i64 k2]) (.int .i64 (i : Int))).run Tryz.prog w = .ok (.int .i64 ([k0, k1, k2].getD i 0)) w := by
  have : i = 0 ∨ i = 1 ∨ i = 2 := by omega
  rcases this with rfl | rfl | rfl
  · show (Instr.index 59 (.agg #[.int .i64 k0, .int .i64 k1, .int .i64 k2]) (.int .i64 0)).run Tryz.prog w = .ok (.int .i64 k0) w
    kernel_rfl
  · show (Instr.index 59 (.agg #[.int .i64 k0, .int .i64 k1, .int .i64 k2]) (.int .i64 1)).run Tryz.prog w = .ok (.int .i64 k1) w
    kernel_rfl
  · show (Instr.index 59 (.agg #[.int .i64 k0, .int .i64 k1, .int .i64 k2]) (.int .i64 2)).run Tryz.prog w = .ok (.int .i64 k2) w
    kernel_rfl
theorem tmod40 (k : Int) : -40 < k.tmod 40 ∧ k.tmod 40 < 40 := by
  rcases Int.lt_or_le k 0 with h | h
  · have e : k.tmod 40 = -((-k) % 40) := by
      have : k.tmod 40 = -((-k).tmod 40) := by rw [Int.neg_tmod]; omega
      rw [this, Int.tmod_eq_emod_of_nonneg (by omega)]
    omega
  · rw [Int.tmod_eq_emod_of_nonneg h]; omega
theorem list3 {α : Type} {l : List α} (h : l.length = 3) : ∃ x y z, l = [x, y, z] := by
  match l, h with
  | [x, y, z], _ => exact ⟨x, y, z, rfl⟩
theorem list77 {l : List Value} (h : l.length = 77) : ∃ m0 m1 m2 m3 m4 m5 m6 m7 m8 m9 m10 m11 m12 m13 m14 m15 m16 m17 m18 m19 m20 m21 m22 m23 m24 m25 m26 m27 m28 m29 m30 m31 m32 m33 m34 m35 m36 m37 m38 m39 m40 m41 m42 m43 m44 m45 m46 m47 m48 m49 m50 m51 m52 m53 m54 m55 m56 m57 m58 m59 m60 m61 m62 m63 m64 m65 m66 m67 m68 m69 m70 m71 m72 m73 m74 m75 m76, l = m0 :: m1 :: m2 :: m3 :: m4 :: m5 :: m6 :: m7 :: m8 :: m9 :: m10 :: m11 :: m12 :: m13 :: m14 :: m15 :: m16 :: m17 :: m18 :: m19 :: m20 :: m21 :: m22 :: m23 :: m24 :: m25 :: m26 :: m27 :: m28 :: m29 :: m30 :: m31 :: m32 :: m33 :: m34 :: m35 :: m36 :: m37 :: m38 :: m39 :: m40 :: m41 :: m42 :: m43 :: m44 :: m45 :: m46 :: m47 :: m48 :: m49 :: m50 :: m51 :: m52 :: m53 :: m54 :: m55 :: m56 :: m57 :: m58 :: m59 :: m60 :: m61 :: m62 :: m63 :: m64 :: m65 :: m66 :: m67 :: m68 :: m69 :: m70 :: m71 :: m72 :: m73 :: m74 :: m75 :: m76 :: [] := by
  match l, h with
  | m0 :: m1 :: m2 :: m3 :: m4 :: m5 :: m6 :: m7 :: m8 :: m9 :: m10 :: m11 :: m12 :: m13 :: m14 :: m15 :: m16 :: m17 :: m18 :: m19 :: m20 :: m21 :: m22 :: m23 :: m24 :: m25 :: m26 :: m27 :: m28 :: m29 :: m30 :: m31 :: m32 :: m33 :: m34 :: m35 :: m36 :: m37 :: m38 :: m39 :: m40 :: m41 :: m42 :: m43 :: m44 :: m45 :: m46 :: m47 :: m48 :: m49 :: m50 :: m51 :: m52 :: m53 :: m54 :: m55 :: m56 :: m57 :: m58 :: m59 :: m60 :: m61 :: m62 :: m63 :: m64 :: m65 :: m66 :: m67 :: m68 :: m69 :: m70 :: m71 :: m72 :: m73 :: m74 :: m75 :: m76 :: [], _ => exact ⟨m0, m1, m2, m3, m4, m5, m6, m7, m8, m9, m10, m11, m12, m13, m14, m15, m16, m17, m18, m19, m20, m21, m22, m23, m24, m25, m26, m27, m28, m29, m30, m31, m32, m33, m34, m35, m36, m37, m38, m39, m40, m41, m42, m43, m44, m45, m46, m47, m48, m49, m50, m51, m52, m53, m54, m55, m56, m57, m58, m59, m60, m61, m62, m63, m64, m65, m66, m67, m68, m69, m70, m71, m72, m73, m74, m75, m76, rfl⟩
theorem range_block {w : World} {g : Nat} {cs : Array Value} {t : TypeId} (h : w.heap[g]? = some (.cells cs t (0, 0))) : w.rangeAt g 0 cs.toList := fun j v hj => by
  rw [Nat.zero_add]
  exact cell_at h j v (by simpa using hj)
/-- A row of arguments in one block. -/
theorem rdC_block {w : World} {g : Nat} {T : TypeId} {l : List ArP} (h : w.heap[g]? = some (.cells (arC l).toArray T (0, 0))) (hv : ∀ x ∈ l, RdV w x.2.1 x.1.v ∧ x.1.v.length ≤ x.2.2) : RdC w (some ⟨g, 0, none⟩) (l.map (·.1)) := fun i y hy => by
  rw [List.getElem?_map] at hy
  cases hl : l[i]? with
  | none => rw [hl] at hy; simp at hy
  | some x =>
    rw [hl] at hy
    simp at hy
    subst hy
    have k := fun t ht => arC_get l i x hl t ht
    have hx := hv x (List.mem_of_getElem? hl)
    have c := fun t v (hq : (arC l)[t]? = some v) => cell_at h t v (by simpa using hq)
    refine ⟨g, 0, x.2.1, x.2.2, rfl, lt_at h, ?_, ?_, ?_, hx.1, hx.2⟩
    · have := c _ _ (k 0 (by omega)); simpa using this
    · have := c _ _ (k 1 (by omega)); simpa using this
    · have := c _ _ (k 2 (by omega)); simpa using this
theorem finC_get {l : List (List UInt8 × List ArP)} {gs : Nat → Nat} {i : Nat} (hi : i < l.length) : (finC l gs)[i * 2]? = some (enS (l.getD i ([], [])).1) ∧ (finC l gs)[i * 2 + 1]? = some (.slice (some ⟨gs i, 0, none⟩) (l.getD i ([], [])).2.length (l.getD i ([], [])).2.length) := by
  have key : ∀ (F : Nat → Value × Value) (n i : Nat), i < n → ((List.range n).flatMap fun i => [(F i).1, (F i).2])[i * 2]? = some (F i).1 ∧ ((List.range n).flatMap fun i => [(F i).1, (F i).2])[i * 2 + 1]? = some (F i).2 := by
    intro F n
    induction n with
    | zero => intro i h; omega
    | succ n ih =>
      intro i h
      have hl : ∀ n, ((List.range n).flatMap fun i => [(F i).1, (F i).2]).length = n * 2 := by
        intro n
        induction n with
        | zero => rfl
        | succ n ih => rw [List.range_succ, List.flatMap_append, List.length_append, ih]; simp; omega
      rw [List.range_succ, List.flatMap_append]
      by_cases hin : i = n
      · subst hin
        rw [List.getElem?_append_right (by rw [hl]; omega), List.getElem?_append_right (by rw [hl]; omega), hl]
        have e1 : i * 2 - i * 2 = 0 := by omega
        have e2 : i * 2 + 1 - i * 2 = 1 := by omega
        rw [e1, e2]
        exact ⟨rfl, rfl⟩
      · rw [List.getElem?_append_left (by rw [hl]; omega), List.getElem?_append_left (by rw [hl]; omega)]
        exact ih i (by omega)
  exact key (fun i => (enS (l.getD i ([], [])).1, .slice (some ⟨gs i, 0, none⟩) (l.getD i ([], [])).2.length (l.getD i ([], [])).2.length)) l.length i hi
theorem ps_mem {E : TbD} {i : Nat} (hi : i < 11) : (E.ps.getD i ([], [])).2.length ≤ 4 ∧ ∀ x ∈ (E.ps.getD i ([], [])).2, x = E.th ∨ x = E.t ∨ x = E.c0 ∨ x = E.c1 ∨ x = E.c2 := by
  have : i = 0 ∨ i = 1 ∨ i = 2 ∨ i = 3 ∨ i = 4 ∨ i = 5 ∨ i = 6 ∨ i = 7 ∨ i = 8 ∨ i = 9 ∨ i = 10 := by omega
  rcases this with rfl | rfl | rfl | rfl | rfl | rfl | rfl | rfl | rfl | rfl | rfl
  all_goals
    refine ⟨by simp [TbD.ps], fun x hx => ?_⟩
    simp [TbD.ps] at hx
    grind
theorem own_some {g o n c k : Nat} (e : (Value.slice (some ⟨g, o, none⟩) n c).ownBlock = some k) : g = k := Option.some.inj e
set_option maxHeartbeats 25600000 in
theorem LooksTables_any (w : World) (x : Vl) (hx : okK x) (t : Ar) (va : Option Addr) (vc : Nat) (hv : RdV w va t.v) (hvc : t.v.length ≤ vc) (hto : ∀ z ∈ t.v, okK z) (k0 k1 k2 : Int) :
    Calls Tryz.prog 5 #[x.val, .agg #[.slice va t.v.length vc, .int .i64 t.c, .bool t.w], .agg #[.int .i64 k0, .int .i64 k1, .int .i64 k2]] w fun e w' => e = .returned (.bool true) ∧ Upd w w' (fun _ => False) := by
  obtain ⟨i0, hi0, hz0a, hz0b, hz0c⟩ := info_p Tryz.infoLV
  obtain ⟨i1, hi1, hz1a, hz1b, hz1c⟩ := info_p Tryz.infoLA
  obtain ⟨xk, xn, xt, xb, xf⟩ := x
  obtain ⟨tv, tc, tw⟩ := t
  simp only at hv hvc hto ⊢
  unfold Vl.val
  simp only
  obtain ⟨n, hn⟩ : ∃ n, tv.length = n := ⟨_, rfl⟩
  rw [hn] at hvc ⊢
  obtain ⟨m, hm⟩ : ∃ m, min n 30 = m := ⟨_, rfl⟩
  have hmi : (min (n : Int) 30) = (m : Int) := by omega
  have hm30 : m ≤ 30 := by omega
  have hmn : m ≤ n := by omega
  have hml : (tv.take m).length = m := by rw [List.length_take, hn]; omega
  have hvm := hv.take m
  have HVM := hide hvm
  have HML := hide hml
  have HTO := hide (fun z (h : z ∈ tv.take m) => hto z (List.mem_of_mem_take h))
  have HX := hide hx
  have SLm := slice_lv va n vc m (by omega)
  have hm0 : (0 : Int) ≤ (m : Int) := by omega
  have hm1 : (m : Int) ≤ (vc : Int) := by omega
  clear hn hm hml hvm hto hv hx
  go_enter Tryz.func5, Tryz.ntmps5
  go_upto_region 1 with fail
  obtain ⟨bX, bT, bK⟩ := new3 w (.cells #[.int .i64 xk, .int .i64 xn, enS xt, .bool xb, .int .i64 xf] 23) (.cells #[.slice va n vc, .int .i64 tc, .bool tw] 58) (.cells #[.int .i64 k0, .int .i64 k1, .int .i64 k2] 59)
  have HU0 : Hid (Upd w (((w.alloc (.cells #[.int .i64 xk, .int .i64 xn, enS xt, .bool xb, .int .i64 xf] 23)).alloc (.cells #[.slice va n vc, .int .i64 tc, .bool tw] 58)).alloc (.cells #[.int .i64 k0, .int .i64 k1, .int .i64 k2] 59)) (fun _ => False)) := hide ((((Upd.refl w _).alloc _).alloc _).alloc _)
  have hs0 : (((w.alloc (.cells #[.int .i64 xk, .int .i64 xn, enS xt, .bool xb, .int .i64 xf] 23)).alloc (.cells #[.slice va n vc, .int .i64 tc, .bool tw] 58)).alloc (.cells #[.int .i64 k0, .int .i64 k1, .int .i64 k2] 59)).heap.size = w.heap.size + 3 := by simp
  obtain ⟨W0, hW0⟩ : ∃ W, ((w.alloc (.cells #[.int .i64 xk, .int .i64 xn, enS xt, .bool xb, .int .i64 xf] 23)).alloc (.cells #[.slice va n vc, .int .i64 tc, .bool tw] 58)).alloc (.cells #[.int .i64 k0, .int .i64 k1, .int .i64 k2] 59) = W := ⟨_, rfl⟩
  rw [hW0] at bX bT bK HU0 hs0 ⊢
  have HBX := hide bX
  have HBT := hide bT
  have HBK := hide bK
  have HS0 := hide hs0
  obtain ⟨t0, t1, t2⟩ := cells3 bT
  have tl := lt_at bT
  have tf := fun j => free_at bT j
  clear bX bT bK hW0 hs0
  go_upto_region 2 with fail
  have bT1 : (W0.setCell ⟨w.heap.size + 1, 2, none⟩ (.bool true)).heap[w.heap.size + 1]? = some (.cells #[.slice va n vc, .int .i64 tc, .bool true] 58 (0, 0)) := block_setCell HBT.out 2 _
  have u1 : Upd W0 (W0.setCell ⟨w.heap.size + 1, 2, none⟩ (.bool true)) (fun j => j = w.heap.size + 1) := (Upd.refl W0 _).setCell _ _ (.inr rfl)
  have bX1 := u1.get HBX.out (show ¬ w.heap.size = w.heap.size + 1 by omega)
  have bK1 := u1.get HBK.out (show ¬ w.heap.size + 2 = w.heap.size + 1 by omega)
  have HU1 := hide (HU0.out.then u1 (fun i hi e => by omega))
  have hs1 : (W0.setCell ⟨w.heap.size + 1, 2, none⟩ (.bool true)).heap.size = w.heap.size + 3 := by rw [← HS0.out]; simp [World.setCell]
  obtain ⟨W1, hW1⟩ : ∃ W, W0.setCell ⟨w.heap.size + 1, 2, none⟩ (.bool true) = W := ⟨_, rfl⟩
  rw [hW1] at bT1 bX1 bK1 HU1 hs1 ⊢
  have HS1 := hide hs1
  have HBX1 := hide bX1
  have HBK1 := hide bK1
  have HBT1 := hide bT1
  have hsrc : Src Tryz.prog (W1.alloc (.cells #[.int .i64 0, .int .i64 0, .string ⟨#[]⟩, .bool false, .int .i64 0] 23)) 5 (.slice va m vc) m (vlCells (tv.take m)) := by
    have := RdV.src (c := vc) ((HVM.out.upd HU1.out).upd ((Upd.refl W1 _).alloc (.cells #[.int .i64 0, .int .i64 0, .string ⟨#[]⟩, .bool false, .int .i64 0] 23)))
    rw [HML.out] at this
    exact this
  have HSRC := hide hsrc
  have hvl : (vlCells (tv.take m)).length = m * 5 := by rw [vlCells_len, HML.out]
  have HVL := hide hvl
  clear t0 t1 t2 tl tf
  obtain ⟨t0, t1, t2⟩ := cells3 bT1
  have tl := lt_at bT1
  have tf := fun j => free_at bT1 j
  have hZ := Rw.made W1 #[.int .i64 0, .int .i64 0, .string ⟨#[]⟩, .bool false, .int .i64 0] 23 5 1 rfl
  have HZ := hide hZ
  clear bX1 bK1 bT1 u1 hW1 hs1 hsrc hvl hZ
  go_wp2_with (at_builtin; (refine wpList_append_rw _ rfl _ _ 24 24 rfl 23 _ i0 _ 5 48 Tryz.underlying24 Tryz.underlying24 (by simp) hi0 hz0a hz0b hz0c rfl _ 1 [.int .i64 0, .int .i64 0, .string ⟨#[]⟩, .bool false, .int .i64 0] rfl HZ.out _ m (vlCells (tv.take m)) rfl HSRC.out HVL.out (vlc_one _) (by omega) (by omega) ?_); intro ga gac w3 hv3 hg3 ho3; have b3 := block_grown hg3 (block_alloc HBT1.out _) (fun e => by have := own_some e; have := HS1.out; omega); clear t0 t1 t2 tl tf; obtain ⟨t0, t1, t2⟩ := cells3 b3; have tl := lt_at b3; have tf := fun j => free_at b3 j)
  have hS := TbS.made (x := ⟨xk, xn, xt, xb, xf⟩) (vs := vZero :: tv.take m) (block_alloc HBX1.out _) (block_alloc HBT1.out _) (block_alloc HBK1.out _) (HU1.out.alloc _) (by have := HS1.out; simp; omega) (fun k e => by have := own_some e; have := HS1.out; omega) hg3 hv3 (by rw [List.length_cons, HML.out]; omega) rfl ho3
  have hok0 : ∀ z ∈ vZero :: tv.take m, okK z := fun z hz => by
    rcases List.mem_cons.1 hz with rfl | h
    · exact ⟨Go.Proofs.YtdjpkkgcoainhaaGreatDoor.i0, Go.Proofs.YtdjpkkgcoainhaaGreatDoor.i0, Go.Proofs.YtdjpkkgcoainhaaGreatDoor.i0⟩
    · exact HTO.out z h
  have HSS := hide hS
  have HOK0 := hide hok0
  obtain ⟨q0, hq0⟩ : ∃ q, (4 - (1 + m) % 4) % 4 = q := ⟨_, rfl⟩
  have HQ0 := hide hq0
  have hvs0 : (vZero :: tv.take m).length = 1 + m := by rw [List.length_cons, HML.out]; omega
  obtain ⟨V0, hV0⟩ : ∃ V, vZero :: tv.take m = V := ⟨_, rfl⟩
  rw [hV0] at HSS HOK0 hvs0
  have HV0 := hide hvs0
  obtain ⟨W4, hW4⟩ : ∃ W, w3.setCell ⟨w.heap.size + 1, 0, none⟩ (.slice ga (1 + m) gac) = W := ⟨_, rfl⟩
  rw [hW4] at HSS ⊢
  clear hS hok0 hq0 hvs0 hV0 hW4 b3 t0 t1 t2 tl tf hv3 hg3 ho3 HBX1 HBK1 HBT1 HSRC HVL HZ HVM HBX HBT HBK HU0 HS0 HU1 HS1 SLm
  go_loopg [] q0 (fun q wr => ∃ (vs : List Vl) (a : Option Addr) (cc : Nat), TbS w wr ⟨xk, xn, xt, xb, xf⟩ k0 k1 k2 tc vs a cc ∧ (vs.length + q) % 4 = 0 ∧ q ≤ 3 ∧ 1 ≤ vs.length ∧ vs.length + q ≤ 34 ∧ ∀ z ∈ vs, okK z)
  case atStart => exact ⟨V0, ga, gac, HSS.out, by have := HV0.out; have := HQ0.out; omega, by have := HQ0.out; omega, by have := HV0.out; omega, by have := HV0.out; have := HQ0.out; omega, HOK0.out⟩
  case round =>
    obtain ⟨vs, a, cc, hS, hq4, hq3, hl1, hl34, hok⟩ := hrel
    have HS := hide hS
    have HOKV := hide hok
    obtain ⟨L, hL⟩ : ∃ L, vs.length = L := ⟨_, rfl⟩
    have hbt := hS.bt
    rw [hL] at hq4 hl1 hl34 hbt
    have HL := hide hL
    clear hS hok hL
    obtain ⟨t0, t1, t2⟩ := cells3 hbt
    have tl := lt_at hbt
    have tf := fun j => free_at hbt j
    obtain ⟨r, hr⟩ : ∃ r, L % 4 = r := ⟨_, rfl⟩
    have er1 : (L : Int) % 4 = (r : Int) := by omega
    have er2 : (L : Int).tmod 4 = (r : Int) := by rw [Int.tmod_eq_emod_of_nonneg (by omega)]; exact er1
    by_cases hr0 : r = 0
    · have bne : ((r : Int) != 0) = false := by subst hr0; rfl
      clear hq4 hq3 hr
      go_upto_region 5 with fail
      go_cut [] (fun wx => ∃ c2 : Int, (c2 = 1 ∨ c2 = 2 ∨ c2 = 4) ∧ TbS w wx ⟨xk, xn, xt, xb, xf⟩ k0 k1 k2 c2 vs a cc)
      case first =>
        have h0 : 0 ≤ max 0 tc := by omega
        have hcc : max 0 tc % 3 = 0 ∨ max 0 tc % 3 = 1 ∨ max 0 tc % 3 = 2 := by omega
        clear h0
        rcases hcc with hy | hy | hy
        all_goals go_wp2_with fail
        all_goals go_meet
        · exact ⟨1, .inl rfl, (HS.out.setc 1).up ((Upd.refl _ _).alloc _)⟩
        · exact ⟨2, .inr (.inl rfl), (HS.out.setc 2).up ((Upd.refl _ _).alloc _)⟩
        · exact ⟨4, .inr (.inr rfl), (HS.out.setc 4).up ((Upd.refl _ _).alloc _)⟩
      case rest =>
        obtain ⟨c2, hc2, hS5⟩ := hcut
        clear HS t0 t1 t2 tl tf hbt bne er1 er2 hr0
        have HS5 := hide hS5
        have hbx := hS5.bx
        obtain ⟨x0, x1, x2, x3, x4⟩ := cells5 hbx
        have xl := lt_at hbx
        have hbk := hS5.bk
        have HBK := hide hbk
        clear hS5 hbx
        go_upto_region 7 with fail
        have HTH := hide (Vnew2 wc (.cells #[.int .i64 xk, .int .i64 xn, enS xt, .bool xb, .int .i64 xf] 23) (.cells #[.slice (some ⟨wc.heap.size, 0, none⟩) 1 1, .int .i64 0, .bool false] 58))
        have HB1 := hide ((Rw.made wc #[.int .i64 xk, .int .i64 xn, enS xt, .bool xb, .int .i64 xf] 23 5 1 rfl).alloc (.cells #[.slice (some ⟨wc.heap.size, 0, none⟩) 1 1, .int .i64 0, .bool false] 58))
        have HS7 := hide (HS5.out.up (((Upd.refl wc _).alloc (.cells #[.int .i64 xk, .int .i64 xn, enS xt, .bool xb, .int .i64 xf] 23)).alloc (.cells #[.slice (some ⟨wc.heap.size, 0, none⟩) 1 1, .int .i64 0, .bool false] 58)))
        obtain ⟨W7, hW7⟩ : ∃ W, (wc.alloc (.cells #[.int .i64 xk, .int .i64 xn, enS xt, .bool xb, .int .i64 xf] 23)).alloc (.cells #[.slice (some ⟨wc.heap.size, 0, none⟩) 1 1, .int .i64 0, .bool false] 58) = W := ⟨_, rfl⟩
        obtain ⟨B1, hB1⟩ : ∃ g, wc.heap.size = g := ⟨_, rfl⟩
        rw [hW7, hB1] at HTH HB1
        rw [hW7] at HS7
        rw [hW7, hB1]
        have hbk7 := HS7.out.bk
        obtain ⟨kb0, kb1, kb2⟩ := cells3 hbk7
        have kbl := lt_at hbk7
        clear hW7 hB1 x0 x1 x2 x3 x4 xl hbk hbk7
        go_wp2_with fail
        go_loopg [8, 54] 3 (fun q v8 iv wr => ∃ (i : Nat) (la : List ArP), i + q = 3 ∧ iv = .int .i64 i ∧ la.map (·.1) = ([k0, k1, k2].take i).map cntA ∧ Rw wr 58 3 v8 i (arC la) ∧ ElA wr 23 la ∧ (∀ j, v8.ownBlock = some j → W7.heap.size ≤ j) ∧ Upd W7 wr (fun _ => False))
        case atStart => exact ⟨0, [], by omega, rfl, rfl, Rw.nil _ _ _, fun x hx => by simp at hx, by simp [Value.ownBlock], Upd.refl _ _⟩
        case round =>
          obtain ⟨i, la, hi, rfl, hla, hrw, hel, hown, hu⟩ := hrel
          have HLA := hide hla
          have HRW := hide hrw
          have HEL := hide hel
          have HOWN := hide hown
          have HU := hide hu
          clear hla hel hown hu
          by_cases hi3 : i < 3
          · have gi0 : (0 : Int) ≤ (i : Int) := by omega
            have gi1 : (i : Int) < 3 := by omega
            have IX := idx3 k0 k1 k2 i hi3
            obtain ⟨ki, hki⟩ : ∃ k, [k0, k1, k2].getD i 0 = k := ⟨_, rfl⟩
            rw [hki] at IX
            have hka : cntA ki = oneA (cntW (ki.tmod 40)) := rfl
            have hb := tmod40 ki
            obtain ⟨z, hz⟩ : ∃ z, ki.tmod 40 = z := ⟨_, rfl⟩
            rw [hz] at hka hb
            have wz : IntKind.i64.wrap z = z := IntWalk.i64_in _ (by omega)
            obtain ⟨Z, hZ⟩ : ∃ Z, z * 10000 = Z := ⟨_, rfl⟩
            have wZ : IntKind.i64.wrap (z * 10000) = Z := by rw [hZ]; exact IntWalk.i64_in _ (by omega)
            have hcv : cntW z = ⟨1, Z, [], false, 0⟩ := by unfold cntW; rw [hZ]
            rw [hcv] at hka
            have HKA := hide hka
            have HKI := hide hki
            obtain ⟨za, zc, rfl, -⟩ := Rw.form hrw
            have hnew := Rw.made wr #[.int .i64 1, .int .i64 Z, .string ⟨#[]⟩, .bool false, .int .i64 0] 23 5 1 rfl
            have hsz : ((wr.alloc (.cells #[.int .i64 1, .int .i64 Z, .string ⟨#[]⟩, .bool false, .int .i64 0] 23)).alloc (.cells #[.slice (some ⟨wr.heap.size, 0, none⟩) 1 1, .int .i64 0, .bool false] 58)).heap.size = wr.heap.size + 2 := by simp
            have hA := Rw.made (wr.alloc (.cells #[.int .i64 1, .int .i64 Z, .string ⟨#[]⟩, .bool false, .int .i64 0] 23)) #[.slice (some ⟨wr.heap.size, 0, none⟩) 1 1, .int .i64 0, .bool false] 58 3 1 rfl
            have hsA : (wr.alloc (.cells #[.int .i64 1, .int .i64 Z, .string ⟨#[]⟩, .bool false, .int .i64 0] 23)).heap.size = wr.heap.size + 1 := by simp
            rw [hsA] at hA
            have HA := hide hA
            have HNEW := hide (hnew.alloc (.cells #[.slice (some ⟨wr.heap.size, 0, none⟩) 1 1, .int .i64 0, .bool false] 58))
            have HR2 := hide ((hrw.alloc (.cells #[.int .i64 1, .int .i64 Z, .string ⟨#[]⟩, .bool false, .int .i64 0] 23)).alloc (.cells #[.slice (some ⟨wr.heap.size, 0, none⟩) 1 1, .int .i64 0, .bool false] 58))
            have HSZ := hide hsz
            have HRL := hide hrw.lt
            clear hka hb hZ hcv hki hrw hnew hsz hA hsA
            go_wp2_with (at_builtin; (refine wpList_append_rw _ rfl _ _ 42 42 rfl 58 _ i1 _ 3 40 Tryz.underlying42 Tryz.underlying42 (by simp) hi1 hz1a hz1b hz1c rfl (.slice za i zc) i (arC la) rfl HR2.out _ 1 [.slice (some ⟨wr.heap.size, 0, none⟩) 1 1, .int .i64 0, .bool false] rfl (Rw.src HA.out) rfl (by simp [Value.oneCell']) (by omega) (by omega) ?_); intro ga gac w3 hv3 hg3 ho3)
            go_roundg (gk - 1)
            case measure => omega
            case rel =>
              refine ⟨i + 1, la ++ [((⟨[⟨1, Z, [], false, 0⟩], 0, false⟩ : Ar), some ⟨wr.heap.size, 0, none⟩, 1)], by omega, by go_num, ?_, ?_, ?_, ?_, ((HU.out.alloc _).alloc _).grown hg3 (fun k e => .inl (HOWN.out k e))⟩
              · have e3 : [k0, k1, k2].take (i + 1) = [k0, k1, k2].take i ++ [ki] := by
                  rw [← HKI.out]
                  rcases (show i = 0 ∨ i = 1 ∨ i = 2 by omega) with rfl | rfl | rfl <;> rfl
                rw [e3, List.map_append, List.map_append, HLA.out]
                simp only [List.map_cons, List.map_nil, HKA.out]
                rfl
              · rw [arC_app]
                exact hv3
              · intro x hx
                rw [List.mem_append] at hx
                rcases hx with h | h
                · exact (((HEL.out x h).alloc _).alloc _).grown hg3 ((((HEL.out x h).alloc _).alloc _).apart HR2.out (by decide))
                · simp at h
                  subst h
                  exact HNEW.out.grown hg3 (.inr (fun e => by have h9 : wr.heap.size < wr.heap.size := HRL.out _ e.symm; omega))
              · intro j e
                rcases ho3 with h | h
                · exact HOWN.out j (h.symm.trans e)
                · have h9 := Option.some.inj (h.symm.trans e)
                  have h10 := HSZ.out
                  have h11 := HU.out.size
                  rw [h10] at h9
                  omega
          · have hi3' : i = 3 := by omega
            subst hi3'
            have hl3 : la.length = 3 := by
              have := congrArg List.length HLA.out
              simpa using this
            obtain ⟨cP0, cP1, cP2, rfl⟩ := list3 hl3
            have hm3 := HLA.out
            simp only [List.map_cons, List.map_nil, List.take_succ_cons, List.take_zero, List.cons.injEq, and_true] at hm3
            obtain ⟨hc0, hc1, hc2'⟩ := hm3
            obtain ⟨CG, CO, zc, hv8, hgC, hcC⟩ := Rw.pos HRW.out (by omega)
            subst hv8
            have hS8 := HS7.out.up HU.out
            have hTH := HU.out.get HTH.out id
            have hB1 := HU.out.rw HB1.out (fun _ _ => id)
            let E : TbD := ⟨((⟨[⟨xk, xn, xt, xb, xf⟩], 0, false⟩ : Ar), some ⟨B1, 0, none⟩, 1), ((⟨vs, c2, true⟩ : Ar), a, cc), cP0, cP1, cP2⟩
            have hE : E = ⟨((⟨[⟨xk, xn, xt, xb, xf⟩], 0, false⟩ : Ar), some ⟨B1, 0, none⟩, 1), ((⟨vs, c2, true⟩ : Ar), a, cc), cP0, cP1, cP2⟩ := rfl
            have r0 : wr.rangeAt CG CO cP0.cs := fun j v hj => hcC j v (by
              show ((cP0.cs ++ (cP1.cs ++ (cP2.cs ++ [])))[j]?) = some v
              rw [List.getElem?_append_left (List.getElem?_eq_some_iff.1 hj).1]
              exact hj)
            have r1 : wr.rangeAt CG (CO + 3) cP1.cs := fun j v hj => by
              have := hcC (3 + j) v (by
                show ((cP0.cs ++ (cP1.cs ++ (cP2.cs ++ [])))[3 + j]?) = some v
                rw [List.getElem?_append_right (by show 3 ≤ 3 + j; omega), List.getElem?_append_left (by have := (List.getElem?_eq_some_iff.1 hj).1; show 3 + j - 3 < _; rw [Nat.add_sub_cancel_left]; exact this)]
                show cP1.cs[3 + j - 3]? = _
                rw [Nat.add_sub_cancel_left]
                exact hj)
              rw [← Nat.add_assoc] at this
              exact this
            have r2 : wr.rangeAt CG (CO + 6) cP2.cs := fun j v hj => by
              have := hcC (6 + j) v (by
                show ((cP0.cs ++ (cP1.cs ++ (cP2.cs ++ [])))[6 + j]?) = some v
                rw [List.getElem?_append_right (by show 3 ≤ 6 + j; omega), List.getElem?_append_right (by show 3 ≤ 6 + j - 3; omega), List.getElem?_append_left (by have := (List.getElem?_eq_some_iff.1 hj).1; show 6 + j - 3 - 3 < _; rw [show 6 + j - 3 - 3 = j by omega]; exact this)]
                show cP2.cs[6 + j - 3 - 3]? = _
                rw [show 6 + j - 3 - 3 = j by omega]
                exact hj)
              rw [← Nat.add_assoc] at this
              exact this
            have rh : wr.rangeAt (B1 + 1) 0 E.th.cs := range_block hTH
            have rt : wr.rangeAt (w.heap.size + 1) 0 E.t.cs := range_block hS8.bt
            have HRG := hide (And.intro r0 (And.intro r1 (And.intro r2 (And.intro rh rt))))
            have HLT := hide (And.intro (lt_at hTH) (And.intro (lt_at hS8.bt) hgC))
            have HS8 := hide hS8
            have HB8 := hide hB1
            have HEC := hide hE
            have HCC := hide (And.intro hc0 (And.intro hc1 hc2'))
            clear r0 r1 r2 rh rt hTH hS8 hB1 hc0 hc1 hc2' hl3 hrw hcC hgC
            go_upto_region 13 with fail
            refine tb13 (E := E) (TH := B1 + 1) (TB := w.heap.size + 1) (CG := CG) (CO := CO) (cc := zc) ⟨rfl, rfl, rfl, HLT.out.1, HLT.out.2.1, HLT.out.2.2, HRG.out.2.2.2.1, HRG.out.2.2.2.2, HRG.out.1, HRG.out.2.1, HRG.out.2.2.1⟩ (by show 144 ≤ 178; decide) ?_
            intro mid w9 hm9 hu9 hg9
            have h74 : GoodK (.fin E.ps) (mid.getD 74 undef) w9 := hg9 74 (by decide)
            have h75 : GoodK (.val (.int .i64 11)) (mid.getD 75 undef) w9 := hg9 75 (by decide)
            have h76 : GoodK (.val (.int .i64 0)) (mid.getD 76 undef) w9 := hg9 76 (by decide)
            obtain ⟨m0, m1, m2, m3, m4, m5, m6, m7, m8, m9, m10, m11, m12, m13, m14, m15, m16, m17, m18, m19, m20, m21, m22, m23, m24, m25, m26, m27, m28, m29, m30, m31, m32, m33, m34, m35, m36, m37, m38, m39, m40, m41, m42, m43, m44, m45, m46, m47, m48, m49, m50, m51, m52, m53, m54, m55, m56, m57, m58, m59, m60, m61, m62, m63, m64, m65, m66, m67, m68, m69, m70, m71, m72, m73, m74, m75, m76, rfl⟩ := list77 hm9
            obtain ⟨g, gs, hv74, hgc, hgs⟩ := h74
            simp only [List.getD_cons_succ, List.getD_cons_zero] at hv74 h75 h76
            have e75 : m75 = .int .i64 11 := h75
            have e76 : m76 = .int .i64 0 := h76
            subst hv74 e75 e76
            clear h75 h76 hg9 hm9
            simp only [List.take_succ_cons, List.take_zero, List.drop_succ_cons, List.drop_zero, List.cons_append, List.nil_append]
            have hall : ∀ x : ArP, x = E.th ∨ x = E.t ∨ x = E.c0 ∨ x = E.c1 ∨ x = E.c2 → (RdV w9 x.2.1 x.1.v ∧ x.1.v.length ≤ x.2.2) ∧ (∀ z ∈ x.1.v, okK z) ∧ i64ok x.1.c := by
              have okc : ∀ k : Int, okK (cntW (k.tmod 40)) := fun k => by
                have := tmod40 k
                exact ⟨Go.Proofs.YtdjpkkgcoainhaaGreatDoor.i1, ⟨by show -9223372036854775808 ≤ k.tmod 40 * 10000; omega, by show k.tmod 40 * 10000 ≤ 9223372036854775807; omega⟩, Go.Proofs.YtdjpkkgcoainhaaGreatDoor.i0⟩
              have cnt : ∀ (y : ArP) (k : Int), y ∈ [cP0, cP1, cP2] → y.1 = cntA k → (RdV w9 y.2.1 y.1.v ∧ y.1.v.length ≤ y.2.2) ∧ (∀ z ∈ y.1.v, okK z) ∧ i64ok y.1.c := fun y k hy e => by
                have hr := HEL.out y hy
                refine ⟨⟨(rdV_of_rw hr).upd hu9, Rw.lecap hr⟩, fun z hz => ?_, ?_⟩
                · rw [e] at hz
                  simp [cntA, oneA] at hz
                  subst hz
                  exact okc k
                · rw [e]
                  exact Go.Proofs.YtdjpkkgcoainhaaGreatDoor.i0
              intro x hx
              rcases hx with rfl | rfl | rfl | rfl | rfl
              · refine ⟨⟨(rdV_of_rw (l := [⟨xk, xn, xt, xb, xf⟩]) HB8.out).upd hu9, Nat.le_refl 1⟩, fun z hz => ?_, Go.Proofs.YtdjpkkgcoainhaaGreatDoor.i0⟩
                have hz' : z ∈ [(⟨xk, xn, xt, xb, xf⟩ : Vl)] := hz
                simp at hz'
                subst hz'
                exact HX.out
              · refine ⟨⟨(rdV_of_rw HS8.out.rw).upd hu9, Rw.lecap HS8.out.rw⟩, fun z hz => HOKV.out z hz, ?_⟩
                rcases hc2 with h | h | h
                all_goals (show i64ok c2; rw [h]; exact ⟨by decide, by decide⟩)
              · exact cnt _ k0 (by simp [E]) HCC.out.1
              · exact cnt _ k1 (by simp [E]) HCC.out.2.1
              · exact cnt _ k2 (by simp [E]) HCC.out.2.2
            have HALL := hide hall
            have HGS := hide hgs
            have HGC := hide hgc
            have hUW := HS8.out.upd.then hu9 (fun _ _ => id)
            have HUW := hide hUW
            have hpl : E.ps.length = 11 := rfl
            rw [hpl] at hgs
            have HPL := hide hpl
            obtain ⟨PS, hPS⟩ : ∃ p, E.ps = p := ⟨_, rfl⟩
            have HPS := hide hPS
            clear hall hgs hgc hUW hpl hu9 HEL HB8 HS8 HCC HRG HLT HEC HOKV hc2 kb0 kb1 kb2 kbl HBK HTH HB1 HS7 HS5 HLA HRW HOWN HU
            go_wp2_with fail
            go_loopg [143] 11 (fun q iv wr => ∃ i : Nat, i + q = 11 ∧ iv = .int .i64 i ∧ Upd w9 wr (fun _ => False))
            case atStart => exact ⟨0, by omega, rfl, Upd.refl _ _⟩
            case round =>
              obtain ⟨i, hi, rfl, hu⟩ := hrel
              have HU := hide hu
              by_cases hi11 : i < 11
              · have hmem := ps_mem (E := E) hi11
                have hgi := hu.get (HGS.out i hi11) id
                have hfc := finC_get (l := E.ps) (gs := gs) (i := i) (by rw [HPL.out]; exact hi11)
                have hgb := hu.get HGC.out id
                obtain ⟨⟨nm, L⟩, hP⟩ : ∃ p, E.ps.getD i ([], []) = p := ⟨_, rfl⟩
                rw [hP] at hmem hgi hfc
                simp only at hmem hgi hfc
                obtain ⟨gi, hgiE⟩ : ∃ g, gs i = g := ⟨_, rfl⟩
                rw [hgiE] at hgi hfc
                have hok : ∀ x ∈ L, (RdV wr x.2.1 x.1.v ∧ x.1.v.length ≤ x.2.2) ∧ (∀ z ∈ x.1.v, okK z) ∧ i64ok x.1.c := fun x hx => by
                  have k := HALL.out x (hmem.2 x hx)
                  exact ⟨⟨k.1.1.upd hu, k.1.2⟩, k.2⟩
                have hrd := rdC_block hgi (fun x hx => (hok x hx).1)
                obtain ⟨n1, hn1⟩ : ∃ n, L.length = n := ⟨_, rfl⟩
                have hl : (L.map (·.1)).length = n1 := by rw [List.length_map, hn1]
                have AW := fun W (u : Upd wr W (fun _ => False)) => args12_any W false (some ⟨gi, 0, none⟩) n1 (L.map (·.1)) (by rw [hl]; exact Nat.le_refl _) (hrd.upd u) (fun h => by cases h)
                have hoA : oksA (cutAs false (L.map (·.1))) := cutA_oks false (fun y hy => by
                  rw [List.mem_map] at hy
                  obtain ⟨x, hx, rfl⟩ := hy
                  exact (hok x hx).2)
                have hcl := cut_len false (L.map (·.1))
                obtain ⟨aa, haa⟩ : ∃ x, cutAs false (L.map (·.1)) = x := ⟨_, rfl⟩
                simp only [haa, hl] at AW hoA hcl
                have hn4 : n1 ≤ 4 := by rw [← hn1]; exact hmem.1
                have hcl2 : aa.length = n1 := by omega
                simp only [hcl2] at AW
                rw [hn1] at hfc
                have d0 := cell_at hgb (i * 2) _ (by simpa using hfc.1)
                have d1 := cell_at hgb (i * 2 + 1) _ (by simpa using hfc.2)
                have dl := lt_at hgb
                have gi0 : (0 : Int) ≤ (i : Int) := by omega
                have gi1 : (i : Int) < 11 := by omega
                have HAW := hide AW
                have HOA := hide hoA
                have HL2 := hide hcl2
                clear hmem hgi hfc hgb hP hgiE hok hrd hn1 hl AW hoA hcl haa hcl2
                go_wp2_with fail
                have hbC := Vnew1 wr (.cells #[.string ⟨nm.toArray⟩, .slice (some ⟨gi, 0, none⟩) n1 n1] 60)
                have u1 : Upd wr (wr.alloc (.cells #[.string ⟨nm.toArray⟩, .slice (some ⟨gi, 0, none⟩) n1 n1] 60)) (fun _ => False) := (Upd.refl wr _).alloc _
                refine Calls.mono (HAW.out _ u1) ?_
                rintro e w2 ⟨p1, c1, p2, c2', rfl, R1, R2, l1, l2, u2⟩
                have HU2 := hide (HU.out.then (u1.then u2 (fun _ _ => id)) (fun _ _ => id))
                have hb2 := u2.get hbC id
                have HB2 := hide hb2
                have T1 := fun W (u : Upd w2 W (fun _ => False)) => Call_any W nm p1 c1 aa (R1.upd u) HOA.out (by rw [HL2.out]; omega) (by rw [HL2.out]; exact l1)
                have T2 := fun W (u : Upd w2 W (fun _ => False)) => RCall_any W nm p2 c2' aa (R2.upd u) HOA.out (by rw [HL2.out]; omega)
                rw [← call_eq] at T2
                obtain ⟨⟨⟨yk, yn, yt, yb, yf⟩, ok⟩, hy⟩ : ∃ y, callP nm aa = y := ⟨_, rfl⟩
                simp only [hy, HL2.out] at T1 T2
                unfold Vl.val at T1 T2
                simp only [enS] at T1 T2
                have SM := fun w => same12_any w ⟨yk, yn, yt, yb, yf⟩
                unfold Vl.val at SM
                simp only at SM
                obtain ⟨q0, q1⟩ := cells2 hb2
                have ql := lt_at hb2
                have HT2 := hide T2
                have X1 := T1 w2 (Upd.refl w2 _)
                clear d0 d1 dl u1 u2 hbC hb2 T1 T2 hy R1 R2 l1 l2 hu
                go_wp2_with fail
                refine Calls.mono X1 ?_
                rintro e w5 ⟨rfl, u5⟩
                have HU7 := hide (u5.alloc (.cells #[.int .i64 yk, .int .i64 yn, enS yt, .bool yb, .int .i64 yf] 29))
                have HY := hide (Vnew1 w5 (.cells #[.int .i64 yk, .int .i64 yn, enS yt, .bool yb, .int .i64 yf] 29))
                have hb5 := HU7.out.get HB2.out id
                clear q0 q1 ql
                obtain ⟨q0, q1⟩ := cells2 hb5
                have ql := lt_at hb5
                have X2 := HT2.out _ HU7.out
                clear u5 X1 hb5
                go_wp2_with fail
                refine Calls.mono X2 ?_
                rintro e w6 ⟨rfl, u6⟩
                have HU8 := hide (HU2.out.then ((HU7.out.then u6 (fun _ _ => id)).alloc (.cells #[.int .i64 yk, .int .i64 yn, enS yt, .bool yb, .int .i64 yf] 30)) (fun _ _ => id))
                have hY8 := block_alloc (u6.get HY.out id) (.cells #[.int .i64 yk, .int .i64 yn, enS yt, .bool yb, .int .i64 yf] 30)
                have hZ8 := Vnew1 w6 (.cells #[.int .i64 yk, .int .i64 yn, enS yt, .bool yb, .int .i64 yf] 30)
                clear u6 X2 HY HT2 q0 q1 ql
                obtain ⟨y0, y1, y2, y3, y4⟩ := cells5 hY8
                have yl := lt_at hY8
                obtain ⟨z0, z1, z2, z3, z4⟩ := cells5 hZ8
                have zl := lt_at hZ8
                clear hY8 hZ8
                go_wp2_with fail
                refine Calls.mono (SM _) ?_
                rintro e w7 ⟨rfl, u7⟩
                have HW9 := hide (HU8.out.then u7 (fun _ _ => id))
                clear u7 y0 y1 y2 y3 y4 yl z0 z1 z2 z3 z4 zl SM
                go_wp2_with fail
                go_roundg (gk - 1)
                case measure => omega
                case rel => exact ⟨i + 1, by omega, by go_num, HW9.out⟩
              · have gi1 : ¬ (i : Int) < 11 := by omega
                clear hu
                go_wp2_with fail
                refine Calls.mono (wakes12_any _) ?_
                rintro e w10 ⟨rfl, u10⟩
                go_wp2_with fail
                go_ret
                exact ⟨rfl, (HUW.out.then HU.out (fun _ _ => id)).then u10 (fun _ _ => id)⟩
    · have bne : ((r : Int) != 0) = true := by simp; omega
      have hgk : 1 ≤ gk := by omega
      have hL40 : L ≤ 34 := by omega
      have hbx := HS.out.bx
      obtain ⟨x0, x1, x2, x3, x4⟩ := cells5 hbx
      have xl := lt_at hbx
      have HQ := hide (show (L + 1 + (gk - 1)) % 4 = 0 ∧ gk - 1 ≤ 3 ∧ L + 1 + (gk - 1) ≤ 34 from ⟨by omega, by omega, by omega⟩)
      have hR : Rw (wr.alloc (.cells #[.int .i64 xk, .int .i64 xn, enS xt, .bool xb, .int .i64 xf] 23)) 23 5 (.slice a L cc) L (vlCells vs) := by have := HS.out.rw.alloc (.cells #[.int .i64 xk, .int .i64 xn, enS xt, .bool xb, .int .i64 xf] 23); rw [HL.out] at this; exact this
      have hZ := Rw.made wr #[.int .i64 xk, .int .i64 xn, enS xt, .bool xb, .int .i64 xf] 23 5 1 rfl
      have HRR := hide hR
      have HZ := hide hZ
      have hown : ∀ k, (Value.slice a L cc).ownBlock = some k → w.heap.size + 3 ≤ k := by have := HS.out.own; rw [HL.out] at this; exact this
      have HOWN := hide hown
      have HBT := hide hbt
      have HSZ := hide HS.out.size
      clear hR hZ hown hq4 hq3 hl34 hr hbx hbt
      go_wp2_with (at_builtin; (refine wpList_append_rw _ rfl _ _ 24 24 rfl 23 _ i0 _ 5 48 Tryz.underlying24 Tryz.underlying24 (by simp) hi0 hz0a hz0b hz0c rfl _ L (vlCells vs) rfl HRR.out _ 1 [.int .i64 xk, .int .i64 xn, enS xt, .bool xb, .int .i64 xf] rfl (Rw.src HZ.out) rfl (by simp [Value.oneCell']) (by omega) (by omega) ?_); intro ga gac w3 hv3 hg3 ho3; have b3 := block_grown hg3 (block_alloc HBT.out _) (fun e => by have := HOWN.out _ e; omega); clear t0 t1 t2 tl tf x0 x1 x2 x3 x4 xl; obtain ⟨t0, t1, t2⟩ := cells3 b3; have tl := lt_at b3; have tf := fun j => free_at b3 j)
      have hS2 := TbS.made (x := ⟨xk, xn, xt, xb, xf⟩) (vs := vs ++ [⟨xk, xn, xt, xb, xf⟩]) (block_alloc HS.out.bx _) (block_alloc HBT.out _) (block_alloc HS.out.bk _) (HS.out.upd.alloc _) (by have := HSZ.out; simp; omega) (fun k e => HOWN.out k e) hg3 hv3 (by rw [List.length_append, HL.out]; rfl) (by rw [vlCells_app, vlCells_one]; rfl) ho3
      go_roundg (gk - 1)
      case measure => omega
      case rel =>
        refine ⟨_, _, _, hS2, by rw [List.length_append, HL.out]; exact HQ.out.1, HQ.out.2.1, by rw [List.length_append]; simp, by rw [List.length_append, HL.out]; exact HQ.out.2.2, fun z hz => ?_⟩
        rw [List.mem_append] at hz
        rcases hz with h | h
        · exact HOKV.out z h
        · simp at h
          subst h
          exact HX.out
end Go.Proofs.YtdjpkkgcoainhaaGreatDoor
/- An argument of one row of values, and an array of three numbers, opened. -/
set_option maxRecDepth 100000
namespace Go.Proofs.YtdjpkkgcoainhaaGreatDoor
open Go.ChangeShapes Go.WideShapes Go.ChangeAt Go.RowKit Go.Lat Go.Deep

theorem ints3_open {H : Type} {enc : TypeId × Value → H} {W : World} {r : Reach} {base b : Nat} {sp : Nat → Bool} {held : Bool} {v : Value} {y : DataW H × List MemPlace} (hw : Value.okWide Tryz.prog W r base 59 v) (h : ∃ fuel, DataW.trod enc Tryz.prog W b sp held fuel 59 v.cells.toList = some y) :
    ∃ k0 k1 k2 : Int, v = .agg #[.int .i64 k0, .int .i64 k1, .int .i64 k2] := by
  obtain ⟨cs, rfl, hsz⟩ := okWide_array Tryz.underlying59 hw
  have h2 : Tryz.prog.cellsOf 59 = 3 := by kernel_rfl
  rw [h2] at hsz
  obtain ⟨fuel, h⟩ := h
  obtain ⟨xs, m', hm', hx', hcl, hxl, hat⟩ := DataW.trod_array Tryz.underlying59 h
  have hC1 : Tryz.prog.cellsOf 3 = 1 := by kernel_rfl
  rw [hC1] at hat
  have h0 := hat 0 (by omega)
  have h1 := hat 1 (by omega)
  have h2 := hat 2 (by omega)
  obtain ⟨cl⟩ := cs
  match cl, hsz, h0, h1, h2 with
  | [c0, c1, c2], _, h0, h1, h2 =>
    match xs, hxl, h0, h1, h2 with
    | [x0, x1, x2], _, h0, h1, h2 =>
      obtain ⟨n0, e0, _, w0⟩ := DataW.trod_int Tryz.underlying3 h0
      obtain ⟨n1, e1, _, w1⟩ := DataW.trod_int Tryz.underlying3 h1
      obtain ⟨n2, e2, _, w2⟩ := DataW.trod_int Tryz.underlying3 h2
      simp [Value.cells] at e0 e1 e2
      subst e0 e1 e2
      exact ⟨n0, n1, n2, rfl⟩
theorem arg_open {H : Type} {enc : TypeId × Value → H} {W : World} {r : Reach} {base b : Nat} {sp : Nat → Bool} {held : Bool} {v : Value} {y : DataW H × List MemPlace} (hw : Value.okWide Tryz.prog W r base 58 v) (h : ∃ fuel, DataW.trod enc Tryz.prog W b sp held fuel 58 v.cells.toList = some y) (hq : ∀ q ∈ y.1.weights Tryz.prog 58, q ≤ reachBytes) :
    ∃ (x : Ar) (va : Option Addr) (vc : Nat), v = .agg #[.slice va x.v.length vc, .int .i64 x.c, .bool x.w] ∧ RdV W va x.v ∧ x.v.length ≤ vc ∧ ∀ z ∈ x.v, okK z := by
  obtain ⟨cs, rfl, hsz⟩ := okWide_struct Tryz.underlying58 hw
  obtain ⟨fuel, h⟩ := h
  obtain ⟨x, va, vc, e, hr, hlc, hk, -, -⟩ := argcells_open h hq
  obtain ⟨cl⟩ := cs
  have e' : cl = [.slice va x.v.length vc, .int .i64 x.c, .bool x.w] := e
  subst e'
  exact ⟨x, va, vc, rfl, hr, hlc, hk⟩
end Go.Proofs.YtdjpkkgcoainhaaGreatDoor
