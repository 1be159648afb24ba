/- The walk of spread. -/
import Derived.Test.YtnhggncpebifhaaGrR
import Derived.Test.YtnhggncpebifhaaGrS0
set_option maxRecDepth 100000
namespace Go.Proofs.Ytnhggncpebifhaa
open Go.RowKit Go.Lat Go.Tarjan

structure SprAt (w0 W : World) (gb n : Nat) (m : Sp) (la : Option Addr) (lc : Nat) (met : Nat → Bool) (left : List Nat) (oa : Option Addr) (oc : Nat) (out : List Nat) : Prop where
  sp : SpAt W gb n m la lc met left
  na : NatAt w0.heap.size W oa oc out
  oo : ∀ k, (Value.slice oa 0 0).ownBlock = some k → k ∉ m.bs ∧ (Value.slice la 0 0).ownBlock ≠ some k
  bo : ∀ k ∈ m.bs, w0.heap.size ≤ k
  lo : ∀ k, (Value.slice la 0 0).ownBlock = some k → w0.heap.size ≤ k
  up : Upd w0 W (fun _ => False)
theorem SprAt.see {w0 W W' : World} {gb n : Nat} {m : Sp} {la la' : Option Addr} {lc lc' : Nat} {met met' : Nat → Bool} {left left' : List Nat} {oa : Option Addr} {oc : Nat} {out : List Nat} (h : SprAt w0 W gb n m la lc met left oa oc out) (hs : SpAt W' gb n m la' lc' met' left') (ho : ∀ k, m.own la' k → m.own la k ∨ W.heap.size ≤ k) (u : Upd W W' (fun k => m.own la k)) : SprAt w0 W' gb n m la' lc' met' left' oa oc out := by
  have hb : ∀ k, m.own la k → w0.heap.size ≤ k := fun k q => by
    rcases q with q | q | q
    · exact h.bo k (by rw [q]; simp [Sp.bs])
    · exact h.bo k (by rw [q]; simp [Sp.bs])
    · exact h.lo k q
  have hno : ∀ k, (Value.slice oa 0 0).ownBlock = some k → ¬ m.own la k := fun k q q2 => by
    obtain ⟨a, b⟩ := h.oo k q
    rcases q2 with q2 | q2 | q2
    · exact a (by rw [q2]; simp [Sp.bs])
    · exact a (by rw [q2]; simp [Sp.bs])
    · exact b q2
  refine ⟨hs, h.na.upd u hno, fun k q => ⟨(h.oo k q).1, fun e => ?_⟩, h.bo, fun k q => ?_, h.up.then u (fun k hk q => by have := hb k q; omega)⟩
  · rcases ho k (.inr (.inr e)) with z | z
    · exact hno k q z
    · have := h.na.r.lt k ((own_slice oa _ _ _ _).trans q)
      omega
  · rcases ho k (.inr (.inr q)) with z | z
    · exact hb k z
    · exact Nat.le_trans h.up.size z
theorem see_any {w0 W : World} {gb n : Nat} {mg : Gm} {E D : Nat → Nat → Bool} (hg : GrAt w0 gb n mg E D) {m : Sp} {la : Option Addr} {lc : Nat} {met : Nat → Bool} {left : List Nat} {oa : Option Addr} {oc : Nat} {out : List Nat} (h : SprAt w0 W gb n m la lc met left oa oc out)
    {A : Nat → List Nat} {fr : List Int} {ex ex' : Nat → Nat → Prop} {fx fx' : Nat → Prop} (hP : Ph n A fr met left out ex fx) (z : Int) (hr : ∀ t : Nat, z = t → t < n → ∃ k : Nat, (k : Int) ∈ fr ∧ k < n ∧ Rch A k t) (hex : ∀ u (x : Nat), ex u x → x < n ∧ ((x : Int) = z ∨ ex' u x)) (hfx : ∀ k : Nat, k < n → fx k → (k : Int) = z ∨ fx' k) :
    Calls Try.prog 46 #[.int .i64 z, .pointer (some ⟨m.b3, 0, none⟩), .pointer (some ⟨m.b7, 0, none⟩), .pointer (some ⟨m.b8, 0, none⟩)] W fun e w' => ∃ la' lc' met' left', e = .returned (.tuple #[]) ∧ SprAt w0 w' gb n m la' lc' met' left' oa oc out ∧ Ph n A fr met' left' out ex' fx' := by
  have hg2 : GrAt W gb n mg E D := hg.upd h.up (fun _ _ => id)
  cases hz : newZ n met z with
  | false =>
    refine Calls.mono (see_no hg2 h.sp z hz) ?_
    rintro e w' ⟨rfl, rfl⟩
    have key : ∀ x : Nat, x < n → (x : Int) = z → met x = true := fun x hx e => by
      subst e
      unfold newZ inN at hz
      rw [decide_eq_true (by omega : 0 ≤ (x : Int) ∧ (x : Int) < n)] at hz
      simpa using hz
    exact ⟨la, lc, met, left, rfl, h, hP.same (fun u x q => (hex u x q).2.imp (key x (hex u x q).1) id) (fun k hk q => (hfx k hk q).imp (key k hk) id)⟩
  | true =>
    unfold newZ inN at hz
    simp only [Bool.and_eq_true, decide_eq_true_eq, Bool.not_eq_true'] at hz
    obtain ⟨hz1, hz2⟩ := hz
    obtain ⟨t, rfl⟩ : ∃ t : Nat, z = t := ⟨z.toNat, by omega⟩
    have ht : t < n := by omega
    rw [Int.toNat_natCast] at hz2
    refine Calls.mono (see_yes hg2 h.sp t ht hz2 (by have := hP.lens; have := hg.n4; omega)) ?_
    rintro e w' ⟨la', lc', rfl, hs, ho, u⟩
    exact ⟨la', lc', _, _, rfl, h.see hs ho u, hP.see ht hz2 (hr t rfl ht) (fun u x q => (hex u x q).2.elim (fun e => .inl (by omega)) (fun q => .inr (.inr q))) (fun k hk q => (hfx k hk q).elim (fun e => .inl (by omega)) (fun q => .inr (.inr q)))⟩
theorem SprAt.pop {w0 W : World} {gb n : Nat} {m : Sp} {la a2 : Option Addr} {lc c2 v : Nat} {met : Nat → Bool} {L : List Nat} {oa : Option Addr} {oc : Nat} {out : List Nat} (h : SprAt w0 W gb n m la lc met (L ++ [v]) oa oc out) {R : Nat} (hR : L.length = R) (hr : Rw W 3 1 (.slice a2 R c2) R (natCells L)) (ho : (Value.slice a2 R c2).ownBlock = (Value.slice la (R + 1) lc).ownBlock) : SprAt w0 (W.setCell ⟨m.b8, 0, none⟩ (.slice a2 R c2)) gb n m a2 c2 met L oa oc out := by
  subst hR
  have hs := h.sp
  have e : ∀ k, (Value.slice a2 0 0).ownBlock = some k → (Value.slice la 0 0).ownBlock = some k := fun k q => (own_slice la 0 0 _ _).trans (ho.symm.trans ((own_slice a2 _ _ _ _).trans q))
  have hb8 : w0.heap.size ≤ m.b8 := h.bo _ (by simp [Sp.bs])
  have u : Upd W (W.setCell ⟨m.b8, 0, none⟩ (.slice a2 L.length c2)) (fun k => k = m.b8) := (Upd.refl W _).setCell _ _ (.inr rfl)
  refine ⟨⟨u.get hs.c3 hs.n38, u.get hs.c7 hs.n78, ?_, u.rw hs.r (fun k q e2 => hs.n8m (by rw [← e2]; exact (Option.some.inj q).symm)), hr.setCell _ _ (fun q => hs.ln m.b8 (e _ ((own_slice a2 _ _ _ _).trans q)) (by simp [Sp.bs])), fun k q => hs.ln k (e k q), hs.n37, hs.n38, hs.n3m, hs.n78, hs.n7m, hs.n8m⟩, h.na.upd u (fun k q e2 => (h.oo k q).1 (by rw [e2]; simp [Sp.bs])), fun k q => ⟨(h.oo k q).1, fun q2 => (h.oo k q).2 (e k q2)⟩, h.bo, fun k q => h.lo k (e k q), h.up.then u (fun k hk q => by omega)⟩
  have := block_setCell hs.c8 0 (.slice a2 L.length c2)
  simpa using this
theorem SprAt.put {w0 W w4 : World} {gb n : Nat} {m : Sp} {la oa ga : Option Addr} {lc oc gc x k : Nat} {met : Nat → Bool} {left out : List Nat} (h : SprAt w0 W gb n m la lc met left oa oc out) (hk : out.length = k) (o : Obj) (hv : Rw w4 3 1 (.slice ga (k + 1) gc) (k + 1) (natCells out ++ [Value.int .i64 (x : Int)])) (hg : (W.alloc o).grownBy w4 (Value.slice oa k oc).ownBlock) (hob : (Value.slice ga (k + 1) gc).ownBlock = (Value.slice oa k oc).ownBlock ∨ (Value.slice ga (k + 1) gc).ownBlock = some (W.alloc o).heap.size) : SprAt w0 w4 gb n m la lc met left ga gc (out ++ [x]) := by
  have u : Upd W w4 (fun i => (Value.slice oa 0 0).ownBlock = some i) := ((Upd.refl W _).alloc o).grown hg (fun i e => .inr ((own_slice oa _ _ _ _).trans e))
  have hw0 : w0.heap.size ≤ (W.alloc o).heap.size := by have := h.up.size; simp; omega
  have na2 := (h.na.upd ((Upd.refl W (fun _ => False)).alloc o) (fun _ _ => id)).snoc hk hw0 hv hob
  refine ⟨h.sp.upd u (fun i q q2 => ?_), na2, fun i q => ?_, h.bo, h.lo, h.up.then u (fun i hi q => by have := h.na.o i q; omega)⟩
  · rcases q with q | q
    · exact (h.oo i q2).1 q
    · exact (h.oo i q2).2 q
  · have q2 := (own_slice ga (k + 1) gc 0 0).trans q
    rcases hob with e | e
    · exact h.oo i ((own_slice oa 0 0 k oc).trans (e.symm.trans q2))
    · have e2 := Option.some.inj (e.symm.trans q2)
      simp at e2
      refine ⟨fun z => ?_, fun z => ?_⟩
      · have l3 := lt_at h.sp.c3
        have l7 := lt_at h.sp.c7
        have l8 := lt_at h.sp.c8
        have lm : m.mb < W.heap.size := h.sp.r.lt _ rfl
        simp only [Sp.bs, List.mem_cons, List.not_mem_nil, or_false] at z
        omega
      · have := h.sp.l.lt i ((own_slice la _ _ _ _).trans z)
        omega
theorem drop_at {l : List Nat} {j x : Nat} (h : l[j]? = some x) : l.drop j = x :: l.drop (j + 1) := by
  obtain ⟨h1, h2⟩ := List.getElem?_eq_some_iff.1 h
  rw [List.drop_eq_getElem_cons h1, h2]
set_option maxHeartbeats 3200000 in
theorem spreadR_any {w : World} {gb n : Nat} {mg : Gm} {E D : Nat → Nat → Bool} (hg : GrAt w gb n mg E D) {cb : Nat} (hc : w.heap[cb]? = some (.cells #[.pointer (some ⟨gb, 0, none⟩)] 23 (0, 0))) (fa : Option Addr) (fc : Nat) (fr : List Int) (hf : RdI w fa fr) (hl : fr.length ≤ 9223372036854775807) :
    Calls Try.prog 32 #[.pointer (some ⟨gb, 0, none⟩), .slice fa fr.length fc, .func (.func 33) #[] #[.pointer (some ⟨cb, 0, none⟩)]] w (NatRes w (rowE n (reachB n (wrun E n) (fun k => decide ((k : Int) ∈ fr))))) := by
  have h4 := hg.n4
  have NO := fun W (u : Upd w W (fun _ => False)) => Nodes_any (hg.upd u (fun _ _ => id))
  have MB := fun w => mkB n hg.n4 w
  obtain ⟨i0, hi, hz0, hz1, hz2⟩ := info_parts infoI
  obtain ⟨N, hN⟩ : ∃ N, fr.length = N := ⟨_, rfl⟩
  rw [hN] at hl ⊢
  have HG := hide hg
  have HC := hide hc
  have HF := hide hf
  have HN := hide hN
  clear hg hc hf hN
  go_enter Try.func32, Try.ntmps32
  go_wp2_with (go_at_call 24; refine Calls.mono (NO _ ((Upd.refl w _).alloc _)) ?_; rintro e w1 ⟨rfl, hw⟩; obtain rfl := hw.symm; clear hw)
  obtain ⟨W0, hW0⟩ : ∃ W, (((w.alloc (.cells #[.pointer (some ⟨gb, 0, none⟩)] 23)).alloc (.cells (madeCells #[.bool false] n) 4)).alloc (.cells #[.slice (some ⟨w.heap.size + 1, 0, none⟩) n n] 51)).alloc (.cells #[.slice none 0 0] 29) = W := ⟨_, rfl⟩
  obtain ⟨f1, f2, f3, f4⟩ := four_new w (.cells #[.pointer (some ⟨gb, 0, none⟩)] 23) (.cells (madeCells #[.bool false] n) 4) (.cells #[.slice (some ⟨w.heap.size + 1, 0, none⟩) n n] 51) (.cells #[.slice none 0 0] 29)
  have u0 : Upd w W0 (fun _ => False) := by rw [← hW0]; exact ((((Upd.refl w _).alloc _).alloc _).alloc _).alloc _
  rw [hW0] at f1 f2 f3 f4 ⊢
  obtain ⟨m, hm3, hm7, hm8, hmm⟩ : ∃ m : Sp, w.heap.size = m.b3 ∧ w.heap.size + 1 + 1 = m.b7 ∧ w.heap.size + 1 + 1 + 1 = m.b8 ∧ w.heap.size + 1 = m.mb := ⟨⟨_, _, _, _⟩, rfl, rfl, rfl, rfl⟩
  have s0 : SprAt w W0 gb n m none 0 (fun _ => false) [] none 0 [] := by
    rw [hm3] at f1
    rw [hmm] at f2
    rw [hm7, hmm] at f3
    rw [hm8] at f4
    exact ⟨⟨f1, f3, f4, Rw.of_made f2, Rw.nil _ _ _, fun k q => by simp [Value.ownBlock] at q, by omega, by omega, by omega, by omega, by omega, by omega⟩, NatAt.nil _ _, fun k q => by simp [Value.ownBlock] at q, fun k q => by simp only [Sp.bs, List.mem_cons, List.not_mem_nil, or_false] at q; omega, fun k q => by simp [Value.ownBlock] at q, u0⟩
  rw [hm8, hm7, hm3]
  have S0 := hide s0
  clear s0 f1 f2 f3 f4 u0 hm3 hm7 hm8 hmm hW0 NO MB
  go_loopg [22] (N + 1) (fun q jv wr => ∃ j la lc met left, j ≤ N ∧ N - j < q ∧ jv = .int .i64 (j : Nat) ∧ SprAt w wr gb n m la lc met left none 0 [] ∧ Ph n (adjE n E) fr met left [] (fun _ _ => False) (fun k => (k : Int) ∈ fr.drop j))
  case atStart => exact ⟨0, none, 0, _, [], by omega, by omega, rfl, S0.out, by simpa using Ph.start n (adjE n E) fr⟩
  case round =>
    obtain ⟨j, la, lc, met, left, hj, hq, rfl, hs, hP⟩ := hrel
    by_cases hjN : j < N
    · obtain ⟨z, hz⟩ : ∃ z, fr[j]? = some z := ⟨_, List.getElem?_eq_getElem (by rw [HN.out]; exact hjN)⟩
      obtain ⟨g, off, rfl, hgl, e0⟩ := (HF.out.upd hs.up) j z hz
      have j0 : (0 : Int) ≤ (j : Int) := by omega
      have j1 : (j : Int) < (N : Int) := by omega
      have SE := see_any HG.out hs hP (ex' := fun _ _ => False) (fx' := fun k => (k : Int) ∈ fr.drop (j + 1)) z (fun t e ht => ⟨t, by rw [← e]; exact List.mem_of_getElem? hz, ht, .refl _⟩) (fun _ _ q => q.elim) (fun k _ q => by
        obtain ⟨h1, h2⟩ := List.getElem?_eq_some_iff.1 hz
        rw [List.drop_eq_getElem_cons h1, h2] at q
        exact (List.mem_cons.1 q).imp id id)
      have HSE := hide SE
      clear hs hP SE hz
      go_wp2_with (go_at_call 46; go_loud (refine Calls.mono HSE.out ?_); rintro e w5 ⟨la', lc', met', left', rfl, s5, p5⟩)
      go_roundg (gk - 1)
      case measure => omega
      case rel => exact ⟨j + 1, la', lc', met', left', by omega, by omega, by go_num, s5, p5⟩
    · have j1 : ¬ (j : Int) < (N : Int) := by omega
      have hjn : j = N := by omega
      have p1 : Ph n (adjE n E) fr met left [] (fun _ _ => False) (fun _ => False) := hP.same (fun _ _ q => q.elim) (fun k _ q => by rw [hjn, ← HN.out, List.drop_length] at q; simp at q)
      have HS := hide hs
      have HP := hide p1
      clear hs hP p1 hjn
      go_wp2_with fail
      obtain ⟨wq, hwq⟩ : ∃ W, W = wr := ⟨_, rfl⟩
      rw [← hwq] at HS ⊢
      clear hwq
      go_loopg [9] (n + 1) (fun q ov wr => ∃ la lc met left oa oc out, n - out.length < q ∧ ov = .slice oa out.length oc ∧ SprAt w wr gb n m la lc met left oa oc out ∧ Ph n (adjE n E) fr met left out (fun _ _ => False) (fun _ => False))
      case atStart => exact ⟨la, lc, met, left, none, 0, [], by simp, rfl, HS.out, HP.out⟩
      case round =>
        obtain ⟨la, lc, met, left, oa, oc, out, hq2, rfl, hs, hP⟩ := hrel
        have d8 := cells1 hs.sp.c8
        have l8 := lt_at hs.sp.c8
        have z8 := free_at hs.sp.c8 0
        rcases List.eq_nil_or_concat left with rfl | ⟨L, v, rfl⟩
        · have HS2 := hide hs
          have HP2 := hide hP
          have hal := hP.all
          have SO := SortI_any wr oa oc n out _ hs.na.r hP.nodup hal (by have := hP.lens; omega)
          have HSO := hide SO
          clear hs hP hal SO
          go_wp2_with (go_at_call 47; go_loud (refine Calls.mono HSO.out ?_); rintro e w7 ⟨rfl, r7, l7, u7⟩)
          go_ret
          exact ⟨oa, oc, rfl, r7, fun k q => HS2.out.na.o k ((own_slice oa _ _ _ _).trans q), HS2.out.up.then u7 (fun k hk q => by have := HS2.out.na.o k q; omega)⟩
        · obtain ⟨R, hR⟩ : ∃ R, L.length = R := ⟨_, rfl⟩
          rw [List.concat_eq_append] at hs hP d8
          have hsl : (L ++ [v]).length = R + 1 := by simp [hR]
          have hll := hs.sp.l
          rw [hsl] at hll d8
          have hpp := hP.pop
          have hplen := hpp.lens
          rw [List.length_append, List.length_singleton] at hplen
          have hvn : v < n := hP.lt v ((hP.mem v).2 (.inl (by simp)))
          obtain ⟨g, off, cap, hv, hgl, hcell⟩ := Rw.pos hll (by omega : 0 < R + 1)
          simp only [Value.slice.injEq] at hv
          obtain ⟨rfl, -, rfl⟩ := hv
          have e0 := hcell R _ (natCells_get (by rw [← hR, List.getElem?_append_right (Nat.le_refl _)]; simp : (L ++ [v])[R]? = some v))
          obtain ⟨a2, c2, hs2, hr2, ho2⟩ := Rw.slice_to (P := Try.prog) hll 29 i0 Try.underlying29 hi hz1 R (by omega)
          have e1 : (natCells (L ++ [v])).take (R * 1) = natCells L := by
            rw [← natCells_snoc, Nat.mul_one, List.take_append_of_le_length (by rw [natCells_len, hR]; exact Nat.le_refl _), List.take_of_length_le (by rw [natCells_len, hR]; exact Nat.le_refl _)]
          rw [e1] at hr2
          have s2 := hs.pop hR hr2 ho2
          obtain ⟨k, hk⟩ : ∃ k, out.length = k := ⟨_, rfl⟩
          rw [hk] at hq2 hplen ⊢
          have hor := s2.na.r
          rw [hk] at hor
          have c0 : (0 : Int) < (R : Int) + 1 := by omega
          have c1 : (0 : Int) ≤ (R : Int) := by omega
          have c3 : (R : Int) < (R : Int) + 1 := by omega
          have w2' : wrap64 (R : Int) = (R : Int) := IntWalk.wrap64_in _ (by omega)
          obtain ⟨W2, hW2⟩ : ∃ W, wr.setCell ⟨m.b8, 0, none⟩ (.slice a2 R c2) = W := ⟨_, rfl⟩
          rw [hW2] at s2 hor
          have HS2 := hide s2
          have HOR := hide hor
          have HPP := hide hpp
          have HK := hide hk
          have HW2 := hide hW2
          clear s2 hor hpp hk hW2 hs hP hll hr2 ho2 e1 hcell hR hsl
          go_upto_region 12 with fail
          rw [HW2.out]
          clear d8 l8 z8 e0 hgl hs2 w2' c0 c1 c3
          go_upto_region 13 with (at_builtin; go_loud (refine wpList_append_rw _ rfl _ _ 29 29 rfl 3 _ i0 _ 1 8 Try.underlying29 Try.underlying29 (by simp) hi hz0 hz1 hz2 rfl _ k _ rfl (HOR.out.alloc _) _ 1 [.int .i64 (v : Int)] rfl (Rw.made W2 #[.int .i64 (v : Int)] 3 1 1 rfl).src rfl (by simp [Value.oneCell']) (by omega) (by omega) ?_); intro ga gc w4 hv' hg4 hob')
          have s4 := HS2.out.put HK.out _ hv' hg4 hob'
          have HE := edgesR_any (HG.out.upd s4.up (fun _ _ => id)) (s4.up.get HC.out id) v hvn
          have hlk : (out ++ [v]).length = k + 1 := by simp [HK.out]
          have HS4 := hide s4
          have HHE := hide HE
          have HLK := hide hlk
          clear s4 HE hv' hg4 hob' hlk
          go_wp2_with (go_at_call 33; go_loud (refine Calls.mono HHE.out ?_); rintro e w5 ⟨ea, ec, rfl, er, eo, hw5⟩; obtain rfl := hw5.symm; clear hw5)
          obtain ⟨M, hM⟩ : ∃ M, (rowE n (E v)).length = M := ⟨_, rfl⟩
          rw [hM] at er eo ⊢
          have hM4 : M ≤ 4096 := by have := rowE_len n (E v); omega
          have HM := hide hM
          have HER := hide er
          have HEO := hide eo
          clear hM er eo
          obtain ⟨gko, hgko⟩ : ∃ x, x = gk := ⟨_, rfl⟩
          rw [← hgko] at hq2
          go_loopg [52] (M + 1) (fun q jv wr => ∃ j la lc met left, j ≤ M ∧ M - j < q ∧ jv = .int .i64 (j : Nat) ∧ SprAt w wr gb n m la lc met left ga gc (out ++ [v]) ∧ Ph n (adjE n E) fr met left (out ++ [v]) (fun u x => u = v ∧ x ∈ (adjE n E v).drop j) (fun _ => False))
          case atStart => exact ⟨0, a2, c2, met, L, by omega, by omega, rfl, HS4.out, by simpa using HPP.out⟩
          case round =>
            obtain ⟨j, la3, lc3, met3, left3, hj3, hq3, rfl, hs3, hP3⟩ := hrel
            by_cases hjM : j < M
            · obtain ⟨x, hx⟩ : ∃ x, (rowE n (E v))[j]? = some x := ⟨_, List.getElem?_eq_getElem (by rw [HM.out]; exact hjM)⟩
              have er3 := HER.out.kept (fun i q => by
                have := HG.out.lt (HEO.out i q)
                exact (hs3.up.block i this id).trans (HS4.out.up.block i this id).symm)
              obtain ⟨eg, eoff, ecap, hev, hegl, hecell⟩ := Rw.pos er3 (by omega : 0 < M)
              simp only [Value.slice.injEq] at hev
              obtain ⟨rfl, -, rfl⟩ := hev
              have e0 := hecell j _ (natCells_get hx)
              have j0 : (0 : Int) ≤ (j : Int) := by omega
              have j1 : (j : Int) < (M : Int) := by omega
              have hd := drop_at (l := adjE n E v) hx
              have hvr : ∃ k : Nat, (k : Int) ∈ fr ∧ k < n ∧ Rch (adjE n E) k v := hP3.rch v ((hP3.mem v).2 (.inr (by simp)))
              have SE := see_any HG.out hs3 hP3 (ex' := fun u x => u = v ∧ x ∈ (adjE n E v).drop (j + 1)) (fx' := fun _ => False) (x : Int) (fun t e ht => by
                obtain ⟨k, h1, h2, h3⟩ := hvr
                have : t = x := by omega
                rw [this]
                exact ⟨k, h1, h2, h3.snoc (List.mem_of_getElem? hx)⟩) (fun u y q => by
                obtain ⟨q1, q2⟩ := q
                refine ⟨(adjE_mem.1 (List.mem_of_mem_drop q2)).1, ?_⟩
                rw [hd] at q2
                rcases List.mem_cons.1 q2 with q3 | q3
                · exact .inl (by omega)
                · exact .inr ⟨q1, q3⟩) (fun _ _ q => q.elim)
              have HSE := hide SE
              clear hs3 hP3 SE hx er3 hecell hd hvr
              go_wp2_with (go_at_call 46; go_loud (refine Calls.mono HSE.out ?_); rintro e w6 ⟨la', lc', met', left', rfl, s6, p6⟩)
              go_roundg (gk - 1)
              case measure => omega
              case rel => exact ⟨j + 1, la', lc', met', left', by omega, by omega, by go_num, s6, p6⟩
            · have j1 : ¬ (j : Int) < (M : Int) := by omega
              have hjM2 : j = M := by omega
              have p1 : Ph n (adjE n E) fr met3 left3 (out ++ [v]) (fun _ _ => False) (fun _ => False) := hP3.same (fun u y q => by
                have := q.2
                rw [hjM2, ← HM.out, show rowE n (E v) = adjE n E v from rfl, List.drop_length] at this
                simp at this) (fun _ _ q => q.elim)
              have HS3 := hide hs3
              have HP3 := hide p1
              clear hs3 hP3 p1 hjM2
              go_wp2_with fail
              go_roundg (gko - 1)
              case measure => have := HP3.out.lens; rw [HLK.out] at this; omega
              case rel => exact ⟨la3, lc3, met3, left3, ga, gc, out ++ [v], by have := HP3.out.lens; rw [HLK.out] at this ⊢; omega, by rw [HLK.out], HS3.out, HP3.out⟩
set_option maxHeartbeats 3200000 in
theorem spreadD_any {w : World} {gb n : Nat} {mg : Gm} {E D : Nat → Nat → Bool} (hg : GrAt w gb n mg E D) {cb : Nat} (hc : w.heap[cb]? = some (.cells #[.pointer (some ⟨gb, 0, none⟩)] 23 (0, 0))) (fa : Option Addr) (fc : Nat) (fr : List Int) (hf : RdI w fa fr) (hl : fr.length ≤ 9223372036854775807) :
    Calls Try.prog 32 #[.pointer (some ⟨gb, 0, none⟩), .slice fa fr.length fc, .func (.func 35) #[] #[.pointer (some ⟨cb, 0, none⟩)]] w (NatRes w (rowE n (reachB n (wrun D n) (fun k => decide ((k : Int) ∈ fr))))) := by
  have h4 := hg.n4
  have NO := fun W (u : Upd w W (fun _ => False)) => Nodes_any (hg.upd u (fun _ _ => id))
  have MB := fun w => mkB n hg.n4 w
  obtain ⟨i0, hi, hz0, hz1, hz2⟩ := info_parts infoI
  obtain ⟨N, hN⟩ : ∃ N, fr.length = N := ⟨_, rfl⟩
  rw [hN] at hl ⊢
  have HG := hide hg
  have HC := hide hc
  have HF := hide hf
  have HN := hide hN
  clear hg hc hf hN
  go_enter Try.func32, Try.ntmps32
  go_wp2_with (go_at_call 24; refine Calls.mono (NO _ ((Upd.refl w _).alloc _)) ?_; rintro e w1 ⟨rfl, hw⟩; obtain rfl := hw.symm; clear hw)
  obtain ⟨W0, hW0⟩ : ∃ W, (((w.alloc (.cells #[.pointer (some ⟨gb, 0, none⟩)] 23)).alloc (.cells (madeCells #[.bool false] n) 4)).alloc (.cells #[.slice (some ⟨w.heap.size + 1, 0, none⟩) n n] 51)).alloc (.cells #[.slice none 0 0] 29) = W := ⟨_, rfl⟩
  obtain ⟨f1, f2, f3, f4⟩ := four_new w (.cells #[.pointer (some ⟨gb, 0, none⟩)] 23) (.cells (madeCells #[.bool false] n) 4) (.cells #[.slice (some ⟨w.heap.size + 1, 0, none⟩) n n] 51) (.cells #[.slice none 0 0] 29)
  have u0 : Upd w W0 (fun _ => False) := by rw [← hW0]; exact ((((Upd.refl w _).alloc _).alloc _).alloc _).alloc _
  rw [hW0] at f1 f2 f3 f4 ⊢
  obtain ⟨m, hm3, hm7, hm8, hmm⟩ : ∃ m : Sp, w.heap.size = m.b3 ∧ w.heap.size + 1 + 1 = m.b7 ∧ w.heap.size + 1 + 1 + 1 = m.b8 ∧ w.heap.size + 1 = m.mb := ⟨⟨_, _, _, _⟩, rfl, rfl, rfl, rfl⟩
  have s0 : SprAt w W0 gb n m none 0 (fun _ => false) [] none 0 [] := by
    rw [hm3] at f1
    rw [hmm] at f2
    rw [hm7, hmm] at f3
    rw [hm8] at f4
    exact ⟨⟨f1, f3, f4, Rw.of_made f2, Rw.nil _ _ _, fun k q => by simp [Value.ownBlock] at q, by omega, by omega, by omega, by omega, by omega, by omega⟩, NatAt.nil _ _, fun k q => by simp [Value.ownBlock] at q, fun k q => by simp only [Sp.bs, List.mem_cons, List.not_mem_nil, or_false] at q; omega, fun k q => by simp [Value.ownBlock] at q, u0⟩
  rw [hm8, hm7, hm3]
  have S0 := hide s0
  clear s0 f1 f2 f3 f4 u0 hm3 hm7 hm8 hmm hW0 NO MB
  go_loopg [22] (N + 1) (fun q jv wr => ∃ j la lc met left, j ≤ N ∧ N - j < q ∧ jv = .int .i64 (j : Nat) ∧ SprAt w wr gb n m la lc met left none 0 [] ∧ Ph n (adjE n D) fr met left [] (fun _ _ => False) (fun k => (k : Int) ∈ fr.drop j))
  case atStart => exact ⟨0, none, 0, _, [], by omega, by omega, rfl, S0.out, by simpa using Ph.start n (adjE n D) fr⟩
  case round =>
    obtain ⟨j, la, lc, met, left, hj, hq, rfl, hs, hP⟩ := hrel
    by_cases hjN : j < N
    · obtain ⟨z, hz⟩ : ∃ z, fr[j]? = some z := ⟨_, List.getElem?_eq_getElem (by rw [HN.out]; exact hjN)⟩
      obtain ⟨g, off, rfl, hgl, e0⟩ := (HF.out.upd hs.up) j z hz
      have j0 : (0 : Int) ≤ (j : Int) := by omega
      have j1 : (j : Int) < (N : Int) := by omega
      have SE := see_any HG.out hs hP (ex' := fun _ _ => False) (fx' := fun k => (k : Int) ∈ fr.drop (j + 1)) z (fun t e ht => ⟨t, by rw [← e]; exact List.mem_of_getElem? hz, ht, .refl _⟩) (fun _ _ q => q.elim) (fun k _ q => by
        obtain ⟨h1, h2⟩ := List.getElem?_eq_some_iff.1 hz
        rw [List.drop_eq_getElem_cons h1, h2] at q
        exact (List.mem_cons.1 q).imp id id)
      have HSE := hide SE
      clear hs hP SE hz
      go_wp2_with (go_at_call 46; go_loud (refine Calls.mono HSE.out ?_); rintro e w5 ⟨la', lc', met', left', rfl, s5, p5⟩)
      go_roundg (gk - 1)
      case measure => omega
      case rel => exact ⟨j + 1, la', lc', met', left', by omega, by omega, by go_num, s5, p5⟩
    · have j1 : ¬ (j : Int) < (N : Int) := by omega
      have hjn : j = N := by omega
      have p1 : Ph n (adjE n D) fr met left [] (fun _ _ => False) (fun _ => False) := hP.same (fun _ _ q => q.elim) (fun k _ q => by rw [hjn, ← HN.out, List.drop_length] at q; simp at q)
      have HS := hide hs
      have HP := hide p1
      clear hs hP p1 hjn
      go_wp2_with fail
      obtain ⟨wq, hwq⟩ : ∃ W, W = wr := ⟨_, rfl⟩
      rw [← hwq] at HS ⊢
      clear hwq
      go_loopg [9] (n + 1) (fun q ov wr => ∃ la lc met left oa oc out, n - out.length < q ∧ ov = .slice oa out.length oc ∧ SprAt w wr gb n m la lc met left oa oc out ∧ Ph n (adjE n D) fr met left out (fun _ _ => False) (fun _ => False))
      case atStart => exact ⟨la, lc, met, left, none, 0, [], by simp, rfl, HS.out, HP.out⟩
      case round =>
        obtain ⟨la, lc, met, left, oa, oc, out, hq2, rfl, hs, hP⟩ := hrel
        have d8 := cells1 hs.sp.c8
        have l8 := lt_at hs.sp.c8
        have z8 := free_at hs.sp.c8 0
        rcases List.eq_nil_or_concat left with rfl | ⟨L, v, rfl⟩
        · have HS2 := hide hs
          have HP2 := hide hP
          have hal := hP.all
          have SO := SortI_any wr oa oc n out _ hs.na.r hP.nodup hal (by have := hP.lens; omega)
          have HSO := hide SO
          clear hs hP hal SO
          go_wp2_with (go_at_call 47; go_loud (refine Calls.mono HSO.out ?_); rintro e w7 ⟨rfl, r7, l7, u7⟩)
          go_ret
          exact ⟨oa, oc, rfl, r7, fun k q => HS2.out.na.o k ((own_slice oa _ _ _ _).trans q), HS2.out.up.then u7 (fun k hk q => by have := HS2.out.na.o k q; omega)⟩
        · obtain ⟨R, hR⟩ : ∃ R, L.length = R := ⟨_, rfl⟩
          rw [List.concat_eq_append] at hs hP d8
          have hsl : (L ++ [v]).length = R + 1 := by simp [hR]
          have hll := hs.sp.l
          rw [hsl] at hll d8
          have hpp := hP.pop
          have hplen := hpp.lens
          rw [List.length_append, List.length_singleton] at hplen
          have hvn : v < n := hP.lt v ((hP.mem v).2 (.inl (by simp)))
          obtain ⟨g, off, cap, hv, hgl, hcell⟩ := Rw.pos hll (by omega : 0 < R + 1)
          simp only [Value.slice.injEq] at hv
          obtain ⟨rfl, -, rfl⟩ := hv
          have e0 := hcell R _ (natCells_get (by rw [← hR, List.getElem?_append_right (Nat.le_refl _)]; simp : (L ++ [v])[R]? = some v))
          obtain ⟨a2, c2, hs2, hr2, ho2⟩ := Rw.slice_to (P := Try.prog) hll 29 i0 Try.underlying29 hi hz1 R (by omega)
          have e1 : (natCells (L ++ [v])).take (R * 1) = natCells L := by
            rw [← natCells_snoc, Nat.mul_one, List.take_append_of_le_length (by rw [natCells_len, hR]; exact Nat.le_refl _), List.take_of_length_le (by rw [natCells_len, hR]; exact Nat.le_refl _)]
          rw [e1] at hr2
          have s2 := hs.pop hR hr2 ho2
          obtain ⟨k, hk⟩ : ∃ k, out.length = k := ⟨_, rfl⟩
          rw [hk] at hq2 hplen ⊢
          have hor := s2.na.r
          rw [hk] at hor
          have c0 : (0 : Int) < (R : Int) + 1 := by omega
          have c1 : (0 : Int) ≤ (R : Int) := by omega
          have c3 : (R : Int) < (R : Int) + 1 := by omega
          have w2' : wrap64 (R : Int) = (R : Int) := IntWalk.wrap64_in _ (by omega)
          obtain ⟨W2, hW2⟩ : ∃ W, wr.setCell ⟨m.b8, 0, none⟩ (.slice a2 R c2) = W := ⟨_, rfl⟩
          rw [hW2] at s2 hor
          have HS2 := hide s2
          have HOR := hide hor
          have HPP := hide hpp
          have HK := hide hk
          have HW2 := hide hW2
          clear s2 hor hpp hk hW2 hs hP hll hr2 ho2 e1 hcell hR hsl
          go_upto_region 12 with fail
          rw [HW2.out]
          clear d8 l8 z8 e0 hgl hs2 w2' c0 c1 c3
          go_upto_region 13 with (at_builtin; go_loud (refine wpList_append_rw _ rfl _ _ 29 29 rfl 3 _ i0 _ 1 8 Try.underlying29 Try.underlying29 (by simp) hi hz0 hz1 hz2 rfl _ k _ rfl (HOR.out.alloc _) _ 1 [.int .i64 (v : Int)] rfl (Rw.made W2 #[.int .i64 (v : Int)] 3 1 1 rfl).src rfl (by simp [Value.oneCell']) (by omega) (by omega) ?_); intro ga gc w4 hv' hg4 hob')
          have s4 := HS2.out.put HK.out _ hv' hg4 hob'
          have HE := edgesD_any (HG.out.upd s4.up (fun _ _ => id)) (s4.up.get HC.out id) v hvn
          have hlk : (out ++ [v]).length = k + 1 := by simp [HK.out]
          have HS4 := hide s4
          have HHE := hide HE
          have HLK := hide hlk
          clear s4 HE hv' hg4 hob' hlk
          go_wp2_with (go_at_call 35; go_loud (refine Calls.mono HHE.out ?_); rintro e w5 ⟨ea, ec, rfl, er, eo, hw5⟩; obtain rfl := hw5.symm; clear hw5)
          obtain ⟨M, hM⟩ : ∃ M, (rowE n (D v)).length = M := ⟨_, rfl⟩
          rw [hM] at er eo ⊢
          have hM4 : M ≤ 4096 := by have := rowE_len n (D v); omega
          have HM := hide hM
          have HER := hide er
          have HEO := hide eo
          clear hM er eo
          obtain ⟨gko, hgko⟩ : ∃ x, x = gk := ⟨_, rfl⟩
          rw [← hgko] at hq2
          go_loopg [52] (M + 1) (fun q jv wr => ∃ j la lc met left, j ≤ M ∧ M - j < q ∧ jv = .int .i64 (j : Nat) ∧ SprAt w wr gb n m la lc met left ga gc (out ++ [v]) ∧ Ph n (adjE n D) fr met left (out ++ [v]) (fun u x => u = v ∧ x ∈ (adjE n D v).drop j) (fun _ => False))
          case atStart => exact ⟨0, a2, c2, met, L, by omega, by omega, rfl, HS4.out, by simpa using HPP.out⟩
          case round =>
            obtain ⟨j, la3, lc3, met3, left3, hj3, hq3, rfl, hs3, hP3⟩ := hrel
            by_cases hjM : j < M
            · obtain ⟨x, hx⟩ : ∃ x, (rowE n (D v))[j]? = some x := ⟨_, List.getElem?_eq_getElem (by rw [HM.out]; exact hjM)⟩
              have er3 := HER.out.kept (fun i q => by
                have := HG.out.lt (HEO.out i q)
                exact (hs3.up.block i this id).trans (HS4.out.up.block i this id).symm)
              obtain ⟨eg, eoff, ecap, hev, hegl, hecell⟩ := Rw.pos er3 (by omega : 0 < M)
              simp only [Value.slice.injEq] at hev
              obtain ⟨rfl, -, rfl⟩ := hev
              have e0 := hecell j _ (natCells_get hx)
              have j0 : (0 : Int) ≤ (j : Int) := by omega
              have j1 : (j : Int) < (M : Int) := by omega
              have hd := drop_at (l := adjE n D v) hx
              have hvr : ∃ k : Nat, (k : Int) ∈ fr ∧ k < n ∧ Rch (adjE n D) k v := hP3.rch v ((hP3.mem v).2 (.inr (by simp)))
              have SE := see_any HG.out hs3 hP3 (ex' := fun u x => u = v ∧ x ∈ (adjE n D v).drop (j + 1)) (fx' := fun _ => False) (x : Int) (fun t e ht => by
                obtain ⟨k, h1, h2, h3⟩ := hvr
                have : t = x := by omega
                rw [this]
                exact ⟨k, h1, h2, h3.snoc (List.mem_of_getElem? hx)⟩) (fun u y q => by
                obtain ⟨q1, q2⟩ := q
                refine ⟨(adjE_mem.1 (List.mem_of_mem_drop q2)).1, ?_⟩
                rw [hd] at q2
                rcases List.mem_cons.1 q2 with q3 | q3
                · exact .inl (by omega)
                · exact .inr ⟨q1, q3⟩) (fun _ _ q => q.elim)
              have HSE := hide SE
              clear hs3 hP3 SE hx er3 hecell hd hvr
              go_wp2_with (go_at_call 46; go_loud (refine Calls.mono HSE.out ?_); rintro e w6 ⟨la', lc', met', left', rfl, s6, p6⟩)
              go_roundg (gk - 1)
              case measure => omega
              case rel => exact ⟨j + 1, la', lc', met', left', by omega, by omega, by go_num, s6, p6⟩
            · have j1 : ¬ (j : Int) < (M : Int) := by omega
              have hjM2 : j = M := by omega
              have p1 : Ph n (adjE n D) fr met3 left3 (out ++ [v]) (fun _ _ => False) (fun _ => False) := hP3.same (fun u y q => by
                have := q.2
                rw [hjM2, ← HM.out, show rowE n (D v) = adjE n D v from rfl, List.drop_length] at this
                simp at this) (fun _ _ q => q.elim)
              have HS3 := hide hs3
              have HP3 := hide p1
              clear hs3 hP3 p1 hjM2
              go_wp2_with fail
              go_roundg (gko - 1)
              case measure => have := HP3.out.lens; rw [HLK.out] at this; omega
              case rel => exact ⟨la3, lc3, met3, left3, ga, gc, out ++ [v], by have := HP3.out.lens; rw [HLK.out] at this ⊢; omega, by rw [HLK.out], HS3.out, HP3.out⟩
end Go.Proofs.Ytnhggncpebifhaa
