/- The walk of from: all that is come to from a node. -/
import Derived.Test.YtnhggncpebifhaaGrL0
import Derived.Test.YtnhggncpebifhaaGrP
import Derived.BigRegion
import Derived.StillTailTactics
import Derived.BigQuiet
import Derived.Outline
set_option maxRecDepth 100000
namespace Go.Proofs.Ytnhggncpebifhaa
open Go.RowKit Go.Lat Go.Tarjan

def onS (s : St) : Nat → Bool := fun u => decide (u ∈ s.stk)
/-- The memory of a way under way. -/
structure FrAt (w W : World) (gb n : Nat) (E : Nat → Nat → Bool) (m : Wm) (sa0 : Option Addr) (T : Nat → Prop) (sa : Option Addr) (sc : Nat) (s : St) : Prop where
  wk : WkG W gb n m sa sc s.count s.idx s.low (onS s) s.stk s.part
  iv : Tarjan.Inv (adjE n E) n s
  cn : s.count = Tarjan.seen n s.idx
  mo : ∀ u, T u → 0 < s.idx u
  ow : ∀ k, m.own sa k → m.own sa0 k ∨ w.heap.size ≤ k
  up : Upd w W (fun k => m.own sa0 k)
structure WyAt (w W : World) (m : Wm) (sa : Option Addr) (s : St) (wa : Option Addr) (wc : Nat) : Prop where
  r : Rw W 74 2 (.slice wa s.way.length wc) s.way.length (wayCells s.way)
  o : ∀ k, (Value.slice wa 0 0).ownBlock = some k → ¬ m.own sa k ∧ w.heap.size ≤ k
theorem infoF : (Try.prog.info? 74).map (fun i => (i.zero, i.size, i.bytes)) = some (some (.agg #[.int .i64 0, .int .i64 0]), 2, 16) := by kernel_rfl
theorem onS_meet (s : St) (t : Nat) (w : List (Nat × Nat)) : updF (onS s) t true = onS (s.meet t w) := by
  funext u
  unfold updF onS St.meet
  by_cases e : u = t
  · simp [e]
  · simp [e]
theorem FrAt.meet {w W W' : World} {gb n : Nat} {E : Nat → Nat → Bool} {m : Wm} {sa0 : Option Addr} {T T' : Nat → Prop} {sa : Option Addr} {sc : Nat} {s : St} (h : FrAt w W gb n E m sa0 T sa sc s) {x : Nat} (hx : x < n) (h0 : s.idx x = 0) (way : List (Nat × Nat)) (hI : Tarjan.Inv (adjE n E) n (s.meet x way)) {sa' : Option Addr} {sc' : Nat}
    (hk : WkG W' gb n m sa' sc' (s.count + 1) (upd s.idx x (s.count + 1)) (upd s.low x (s.count + 1)) (updF (onS s) x true) (x :: s.stk) s.part) (ho : ∀ k, m.own sa' k → m.own sa k ∨ W.heap.size ≤ k) (u : Upd W W' (fun k => m.own sa k)) (hT : ∀ u, T' u → T u ∨ u = x) : FrAt w W' gb n E m sa0 T' sa' sc' (s.meet x way) := by
  refine ⟨?_, hI, ?_, ?_, ?_, ?_⟩
  · rw [← onS_meet]; exact hk
  · show s.count + 1 = Tarjan.seen n (upd s.idx x (s.count + 1))
    rw [seen_meet hx h0, h.cn]
  · intro y hy
    show 0 < upd s.idx x (s.count + 1) y
    by_cases e : y = x
    · rw [e, upd_same]; omega
    · rw [upd_other _ _ _ e]; exact h.mo y ((hT y hy).resolve_right e)
  · intro k q
    rcases ho k q with q | q
    · exact h.ow k q
    · exact .inr (Nat.le_trans h.up.size q)
  · exact h.up.then u (fun k hk q => (h.ow k q).resolve_right (by omega))
theorem FrAt.upd {w W W' : World} {gb n : Nat} {E : Nat → Nat → Bool} {m : Wm} {sa0 : Option Addr} {T : Nat → Prop} {sa : Option Addr} {sc : Nat} {s : St} (h : FrAt w W gb n E m sa0 T sa sc s) {S : Nat → Prop} (u : Upd W W' S) (hS : ∀ k, S k → ¬ m.own sa k ∧ w.heap.size ≤ k) : FrAt w W' gb n E m sa0 T sa sc s :=
  ⟨h.wk.upd u (fun k q e => (hS k e).1 q), h.iv, h.cn, h.mo, h.ow, h.up.then u (fun k hk e => by have := (hS k e).2; omega)⟩
theorem onS_close {s : St} {v mn : Nat} {r : List (Nat × Nat)} {A B : List Nat} (_hfil : s.stk.filter (fun u => decide (s.idx u < s.idx v)) = B) (hmem : ∀ u, u ∈ v :: A.reverse ↔ u ∈ s.stk ∧ s.idx v ≤ s.idx u) : onAt (onS s) (v :: A.reverse) (A.length + 1) = onS (s.close v mn r) := by
  funext u
  have e0 : (v :: A.reverse).take (A.length + 1) = v :: A.reverse := List.take_of_length_le (by simp)
  unfold onAt
  rw [e0]
  show (if u ∈ v :: A.reverse then false else decide (u ∈ s.stk)) = decide (u ∈ s.stk.filter (fun u => decide (s.idx u < s.idx v)))
  by_cases q : u ∈ v :: A.reverse
  · rw [if_pos q]
    have := ((hmem u).1 q).2
    symm
    rw [decide_eq_false_iff_not]
    intro q2
    have := (List.mem_filter.1 q2).2
    simp at this
    omega
  · rw [if_neg q]
    by_cases q1 : u ∈ s.stk
    · have : ¬ s.idx v ≤ s.idx u := fun q3 => q ((hmem u).2 ⟨q1, q3⟩)
      have h2 : u ∈ s.stk.filter (fun u => decide (s.idx u < s.idx v)) := List.mem_filter.2 ⟨q1, by simpa using this⟩
      rw [decide_eq_true q1, decide_eq_true h2]
    · have h2 : ¬ u ∈ s.stk.filter (fun u => decide (s.idx u < s.idx v)) := fun z => q1 (List.mem_filter.1 z).1
      rw [decide_eq_false q1, decide_eq_false h2]
theorem part_close {s : St} {v mn : Nat} {r : List (Nat × Nat)} {A : List Nat} (hmem : ∀ u, u ∈ v :: A.reverse ↔ u ∈ s.stk ∧ s.idx v ≤ s.idx u) : partAt s.part (v :: A.reverse) mn (A.length + 1) = (s.close v mn r).part := by
  funext u
  have e0 : (v :: A.reverse).take (A.length + 1) = v :: A.reverse := List.take_of_length_le (by simp)
  unfold partAt
  rw [e0]
  show (if u ∈ v :: A.reverse then mn else s.part u) = (if u ∈ s.stk ∧ s.idx v ≤ s.idx u then mn else s.part u)
  by_cases q : u ∈ v :: A.reverse
  · rw [if_pos q, if_pos ((hmem u).1 q)]
  · rw [if_neg q, if_neg (fun z => q ((hmem u).2 z))]
set_option maxHeartbeats 4000000 in
theorem from_any {w : World} {gb n : Nat} {mg : Gm} {E D : Nat → Nat → Bool} {m : Wm} {sa : Option Addr} {sc : Nat} {s : St} (hg : GrAt w gb n mg E D) (h : WkG w gb n m sa sc s.count s.idx s.low (onS s) s.stk s.part) (hI : Tarjan.Inv (adjE n E) n s) (hw : s.way = []) (hc : s.count = Tarjan.seen n s.idx) (hd : ∀ k, mg.own gb n k → ¬ m.own sa k) (t : Nat) (ht : t < n) (h0 : s.idx t = 0) :
    Calls Try.prog 29 #[.pointer (some ⟨m.b, 0, none⟩), .int .i64 (t : Int)] w fun e w' => ∃ sa' sc' s', e = .returned (.tuple #[]) ∧ FrAt w w' gb n E m sa (fun u => 0 < s.idx u ∨ u = t) sa' sc' s' ∧ s'.way = [] := by
  have h4 := hg.n4
  have hcn : s.count ≤ 4096 := by have := seen_le n s.idx; omega
  have hsn := stk_len hI
  have ME := meet_any h t ht (by omega) (by omega)
  have HG := hide hg
  have HH := hide h
  have HI := hide hI
  have HW := hide hw
  have HC := hide hc
  have HD := hide hd
  have H0 := hide h0
  obtain ⟨NN, hNN⟩ : ∃ N, (s.meet t []).M (adjE n E) n = N := ⟨_, rfl⟩
  have HNN := hide hNN
  clear hg h hI hw hc hd h0 hNN
  go_enter Try.func29, Try.ntmps29
  go_wp2_with (go_at_call 43; with_reducible refine Calls.mono ME ?_; rintro e w1 ⟨sa1, sc1, rfl, k1, o1, u1⟩)
  clear ME
  have HK1 := hide k1
  have HO1 := hide o1
  have HU1 := hide u1
  clear k1 o1 u1
  go_loopg [4] (NN + 1) (fun q wv wr => ∃ sa2 sc2 s2 wa wc, s2.M (adjE n E) n < q ∧ wv = .slice wa s2.way.length wc ∧ FrAt w wr gb n E m sa (fun u => 0 < s.idx u ∨ u = t) sa2 sc2 s2 ∧ WyAt w wr m sa2 s2 wa wc)
  case atStart =>
    have f0 : FrAt w w gb n E m sa (fun u => 0 < s.idx u) sa sc s := ⟨HH.out, HI.out, HC.out, fun u hu => hu, fun k q => .inl q, Upd.refl _ _⟩
    have f1 := f0.meet (T' := fun u => 0 < s.idx u ∨ u = t) ht H0.out [] (meet_first HI.out H0.out ht HW.out) HK1.out HO1.out HU1.out (fun u q => q)
    have hlt1 : ∀ k, m.own sa1 k → k < w1.heap.size := fun k q => HK1.out.lt q
    refine ⟨sa1, sc1, s.meet t [], some ⟨w1.heap.size, 0, none⟩, 1, by have := HNN.out; omega, rfl, f1.upd ((Upd.refl w1 (fun _ => False)).alloc _) (fun k q => q.elim), ⟨Rw.made w1 #[.int .i64 (t : Int), .int .i64 0] 74 2 1 rfl, fun k q => ?_⟩⟩
    obtain rfl := Option.some.inj q
    exact ⟨fun q => Nat.lt_irrefl _ (hlt1 _ q), HU1.out.size⟩
  case round =>
    obtain ⟨sa2, sc2, s2, wa, wc, hq, rfl, f2, y2⟩ := hrel
    obtain ⟨way, hway⟩ : ∃ y, s2.way = y := ⟨_, rfl⟩
    cases way with
    | nil =>
      rw [hway]
      go_wp2_with fail
      go_end0
      first | exact ⟨sa2, sc2, s2, f2, hway⟩ | exact ⟨sa2, sc2, s2, rfl, f2, hway⟩ | exact ⟨rfl, sa2, sc2, s2, f2, hway⟩
    | cons fr r =>
      obtain ⟨v, k⟩ := fr
      obtain ⟨R, hR⟩ : ∃ R, r.length = R := ⟨_, rfl⟩
      have hlen : s2.way.length = R + 1 := by rw [hway]; simp [hR]
      have hr2 := y2.r
      rw [hlen, hway] at hr2
      obtain ⟨g, off, rfl, hgl, e0, e1, z1⟩ := way_top hR hr2
      have hvn : v < n := f2.iv.lt v (f2.iv.sm v (f2.iv.ws v (by simp [St.ww, hway])))
      have hG2 : GrAt wr gb n mg E D := HG.out.upd f2.up (fun k q => HD.out k q)
      obtain ⟨rg, ro, rsc, ra, rc, g0, gbl, rgl, g1, rr⟩ := row_at hG2 v hvn
      obtain ⟨d0, d1, d2, d3, d4, d5, d6⟩ := cells7 f2.wk.c
      have hb2 := lt_at f2.wk.c
      have hR4 : R + 1 ≤ 4096 := by have := way_len f2.iv; omega
      have w1' : IntKind.i64.wrap ((R : Int) + 1 - 1) = (R : Int) := by rw [IntWalk.i64_in _ (by omega)]; omega
      have c0 : (0 : Int) < (R : Int) + 1 := by omega
      have c1 : (0 : Int) ≤ (R : Int) := by omega
      have c2 : (R : Int) < (R : Int) + 1 := by omega
      have v0 : (0 : Int) ≤ (v : Int) := by omega
      have v1 : (v : Int) < (n : Int) := by omega
      obtain ⟨L, hL⟩ : ∃ L, (rowE n (E v)).length = L := ⟨_, rfl⟩
      have hL4 : L ≤ 4096 := by have := rowE_len n (E v); omega
      rw [hL] at g1 rr
      rw [hlen]
      have HL := hide hL
      have HWAY := hide hway
      have HR := hide hR
      have HF2 := hide f2
      have HY2 := hide y2
      have HRR := hide rr
      have HR2 := hide hr2
      have HLEN := hide hlen
      clear hL hway hR f2 y2 rr hr2 hG2 hlen
      by_cases hk : k < L
      · obtain ⟨x, hx⟩ : ∃ x, (rowE n (E v))[k]? = some x := ⟨_, List.getElem?_eq_getElem (by rw [HL.out]; exact hk)⟩
        obtain ⟨xg, xoff, xc, hv, hxg, hxc⟩ := Rw.pos HRR.out (by omega : 0 < L)
        simp only [Value.slice.injEq] at hv
        obtain ⟨rfl, -, rfl⟩ := hv
        have x0 := hxc k _ (natCells_get hx)
        have hk' : (k : Int) < (L : Int) := by omega
        have k0 : (0 : Int) ≤ (k : Int) := by omega
        have wk1 : IntKind.i64.wrap ((k : Int) + 1) = (k : Int) + 1 := IntWalk.i64_in _ (by omega)
        have hxn : x < n := (rowE_mem.1 (List.mem_of_getElem? hx)).1
        have HX := hide hx
        obtain ⟨bi, i1, i2⟩ := num_at HF2.out.wk.i hxn
        obtain ⟨bo, o1, o2⟩ := bool_at HF2.out.wk.o hxn
        have xn0 : (0 : Int) ≤ (x : Int) := by omega
        have xn1 : (x : Int) < (n : Int) := by omega
        have hgn := HY2.out.o g rfl
        have nb : m.b ≠ g := fun e => hgn.1 (.inl (by simp [Wm.bs, e]))
        have ni : m.i ≠ g := fun e => hgn.1 (.inl (by simp [Wm.bs, e]))
        have no : m.o ≠ g := fun e => hgn.1 (.inl (by simp [Wm.bs, e]))
        have nl : m.l ≠ g := fun e => hgn.1 (.inl (by simp [Wm.bs, e]))
        have HGN := hide hgn
        clear hx hxc hgn
        by_cases hix : s2.idx x = 0
        · rw [hix] at i1
          have HIX := hide hix
          clear hix o1 o2
          go_wp2_with fail
          go_quiet (fail)
          obtain ⟨na, hna⟩ : ∃ na, na = nq := ⟨_, rfl⟩
          subst hna
          go_wp2_with fail
          go_quiet (fail)
          go_upto_region 7 with fail
          obtain ⟨W3, hW3⟩ : ∃ W3, (wr.drewN (na + nq)).setCell ⟨g, off + R * 2 + 1, none⟩ (.int .i64 ((k : Int) + 1)) = W3 := ⟨_, rfl⟩
          rw [hW3]
          have e1' : (((k + 1 : Nat) : Nat) : Int) = (k : Int) + 1 := by omega
          have u3 : Upd wr W3 (fun i => i = g) := by rw [← hW3]; exact ((Upd.refl wr _).drewN _).setCell _ _ (.inr rfl)
          have r3 : Rw W3 74 2 (.slice (some ⟨g, off, none⟩) (R + 1) wc) (R + 1) (wayCells ((v, k + 1) :: r)) := by rw [← hW3, ← e1']; exact way_next HR.out (HR2.out.drewN _)
          have f3 := HF2.out.upd u3 (fun i e => by rw [e]; exact HGN.out)
          have ME3 := meet_any f3.wk x hxn (by have := f3.cn; have := seen_le n s2.idx; omega) (by have := stk_len f3.iv; omega)
          have hgl3 : g < W3.heap.size := Nat.lt_of_lt_of_le hgl u3.size
          have HGL3 := hide hgl3
          have HF3 := hide f3
          have HR3 := hide r3
          have HHK := hide hk
          have HHQ := hide hq
          clear e0 e1 z1 g0 gbl rgl d0 d1 d2 d3 d4 d5 d6 hb2 g1 hxg hk' x0 i1 i2 bi bo hW3 u3 f3 r3 hgl3 hk hq
          obtain ⟨iF, hiF, hF0, hF1, hF2⟩ := info_parts infoF
          go_wp2_with (first
            | (go_at_call 43; go_loud (with_reducible refine Calls.mono ME3 ?_); rintro e w4 ⟨sa3, sc3, rfl, k3, o3, u4⟩; have HK3 := hide k3; have HO3 := hide o3; have HU4 := hide u4; have r4 := (u4.rw HR3.out (fun i q q2 => (HGN.out.1 (by rw [← Option.some.inj q] at q2; exact q2)))).alloc (.cells #[.int .i64 (x : Int), .int .i64 0] 74); have HR4 := hide r4; clear k3 o3 u4 r4)
            | (at_builtin; go_loud (refine wpList_append_rw _ rfl _ _ 76 76 rfl 74 _ iF _ 2 16 Try.underlying76 Try.underlying76 (by simp) hiF hF0 hF1 hF2 rfl _ (R + 1) _ rfl HR4.out _ 1 [.int .i64 (x : Int), .int .i64 0] rfl (Rw.made w4 #[.int .i64 (x : Int), .int .i64 0] 74 2 1 rfl).src rfl (by simp [Value.oneCell']) (by omega) (by omega) ?_); intro ga gc w6 hv' hg6 hob'))
          have hM := M_meet (adj := adjE n E) (n := n) HWAY.out HX.out HIX.out hxn
          have f4 := HF3.out.meet (T' := fun u => 0 < s.idx u ∨ u = t) hxn HIX.out ((v, k + 1) :: r) (meet_next HF2.out.iv HWAY.out HX.out HIX.out hxn) HK3.out HO3.out HU4.out (fun u q => .inl q)
          have hg3 : ¬ m.own sa3 g := fun q => (HO3.out g q).elim HGN.out.1 (fun q => by have := HGL3.out; omega)
          have f6 := f4.upd (((Upd.refl w4 (fun i => i = g)).alloc _).grown hg6 (fun k e => .inr (Option.some.inj e).symm)) (fun i e => by rw [e]; exact ⟨hg3, HGN.out.2⟩)
          have hlt4 : ∀ k, m.own sa3 k → k < w4.heap.size := fun k q => HK3.out.lt q
          have hsz4 : w.heap.size ≤ w4.heap.size := f4.up.size
          have hcells : wayCells ((v, k + 1) :: r) ++ [Value.int .i64 (x : Int), .int .i64 0] = wayCells ((x, 0) :: (v, k + 1) :: r) := by
            rw [wayCells_cons (x, 0)]
            rfl
          rw [hcells] at hv'
          have hl3 : (s2.meet x ((v, k + 1) :: r)).way.length = R + 1 + 1 := by simp [St.meet, HR.out]
          go_roundg (gk - 1)
          case measure => have := HHQ.out; omega
          case rel =>
            refine ⟨sa3, sc3, s2.meet x ((v, k + 1) :: r), ga, gc, by have := HHQ.out; omega, by rw [hl3], f6, ⟨by rw [hl3]; exact hv', fun i q => ?_⟩⟩
            rcases hob' with e | e
            · have q2 := (own_slice ga (R + 1 + 1) gc 0 0).trans q
              rw [e] at q2
              obtain rfl := Option.some.inj q2
              exact ⟨hg3, HGN.out.2⟩
            · have q2 := (own_slice ga (R + 1 + 1) gc 0 0).trans q
              rw [e] at q2
              obtain rfl := Option.some.inj q2
              have hz : ∀ o, (w4.alloc o).heap.size = w4.heap.size + 1 := fun o => by simp
              refine ⟨fun q3 => ?_, ?_⟩
              · have := hlt4 _ q3
                rw [hz] at this
                omega
              · rw [hz]
                omega
        · have hixb : ((s2.idx x : Int) == 0) = false := by simpa using hix
          have HIX := hide hix
          obtain ⟨ix, hix2⟩ : ∃ ix, s2.idx x = ix := ⟨_, rfl⟩
          rw [hix2] at i1 hixb
          have HIX2 := hide hix2
          obtain ⟨bl, l1, l2⟩ := num_at HF2.out.wk.l hvn
          obtain ⟨lv, hlv⟩ : ∃ lv, s2.low v = lv := ⟨_, rfl⟩
          rw [hlv] at l1
          have HLV := hide hlv
          clear hix hix2 hlv
          by_cases hst : x ∈ s2.stk
          · have e : onS s2 x = true := by simpa [onS] using hst
            rw [e] at o1
            have HST := hide hst
            clear hst e
            go_wp2_with fail
            go_quiet (fail)
            obtain ⟨na, hna⟩ : ∃ na, na = nq := ⟨_, rfl⟩
            subst hna
            go_wp2_with fail
            go_quiet (fail)
            go_wp2_with fail
            obtain ⟨W3, hW3⟩ : ∃ W3, (wr.drewN (na + nq)).setCell ⟨g, off + R * 2 + 1, none⟩ (.int .i64 ((k : Int) + 1)) = W3 := ⟨_, rfl⟩
            rw [hW3]
            have e1' : (((k + 1 : Nat) : Nat) : Int) = (k : Int) + 1 := by omega
            have u3 : Upd wr W3 (fun i => i = g) := by rw [← hW3]; exact ((Upd.refl wr _).drewN _).setCell _ _ (.inr rfl)
            have r3 : Rw W3 74 2 (.slice (some ⟨g, off, none⟩) (R + 1) wc) (R + 1) (wayCells ((v, k + 1) :: r)) := by rw [← hW3, ← e1']; exact way_next HR.out (HR2.out.drewN _)
            have f3 := HF2.out.upd u3 (fun i e => by rw [e]; exact HGN.out)
            have D3 := (u3.cell m.b 3 hb2 nb).trans d3
            have D2 := (u3.cell m.b 2 hb2 nb).trans d2
            have L1 := (u3.cell m.l v bl nl).trans l1
            have I1 := (u3.cell m.i x bi ni).trans i1
            have L2 : W3.frozen? ⟨m.l, v, none⟩ = false := (frozen_of u3 bl nl).trans l2
            obtain ⟨g', off', hgg, hgl3, E0, -, -⟩ := way_top HR.out r3
            obtain ⟨rfl, rfl⟩ : g = g' ∧ off = off' := by simpa using hgg
            have hb3 : m.b < W3.heap.size := Nat.lt_of_lt_of_le hb2 u3.size
            have hl3 : m.l < W3.heap.size := Nat.lt_of_lt_of_le bl u3.size
            have hi3 : m.i < W3.heap.size := Nat.lt_of_lt_of_le bi u3.size
            have HF3 := hide f3
            have HR3 := hide r3
            clear e0 e1 z1 g0 gbl rgl d0 d1 d2 d3 d4 d5 d6 hb2 g1 hxg x0 i1 i2 bi bo l1 l2 bl hW3 u3 f3 r3 o1 o2 hgl hgg
            go_still_tail 27, (by kernel_rfl)
            change wpList _ _ _ _ _ W3.drew
            go_wp2_with fail
            have hI := skip_inv HF2.out.iv HWAY.out HX.out (Nat.pos_of_ne_zero HIX.out)
            have hM := M_skip (adj := adjE n E) (n := n) HWAY.out HX.out
            have hlw : (s2.skip v k x r).low = upd s2.low v (min lv ix) := by rw [← HLV.out, ← HIX2.out]; exact if_pos HST.out
            have hln : (s2.skip v k x r).way.length = R + 1 := by simp [St.skip, HR.out]
            have em : ((min lv ix : Nat) : Int) = min (lv : Int) (ix : Int) := by omega
            have q := HF3.out.wk.drew.setLow hvn (min lv ix)
            rw [em, ← hlw] at q
            have hr5 := HR3.out.drew.setCell ⟨m.l, v, none⟩ (.int .i64 (min (lv : Int) (ix : Int))) (fun e => nl (Option.some.inj e).symm)
            have hu5 := HF3.out.up.drew.setCell ⟨m.l, v, none⟩ (.int .i64 (min (lv : Int) (ix : Int))) (.inr (.inl (by simp [Wm.bs])))
            go_roundg (gk - 1)
            case measure => omega
            case rel => exact ⟨sa2, sc2, s2.skip v k x r, _, wc, by omega, by rw [hln], ⟨q, hI, HF3.out.cn, HF3.out.mo, HF3.out.ow, hu5⟩, ⟨by rw [hln]; exact hr5, HY2.out.o⟩⟩
          · have e : onS s2 x = false := by simpa [onS] using hst
            rw [e] at o1
            have HST := hide hst
            clear hst e
            go_wp2_with fail
            go_quiet (fail)
            obtain ⟨na, hna⟩ : ∃ na, na = nq := ⟨_, rfl⟩
            subst hna
            go_wp2_with fail
            go_quiet (fail)
            go_wp2_with fail
            have e1' : (((k + 1 : Nat) : Nat) : Int) = (k : Int) + 1 := by omega
            have u3 : Upd wr ((wr.drewN (na + nq)).setCell ⟨g, off + R * 2 + 1, none⟩ (.int .i64 ((k : Int) + 1))) (fun i => i = g) := ((Upd.refl wr _).drewN _).setCell _ _ (.inr rfl)
            have r3 : Rw ((wr.drewN (na + nq)).setCell ⟨g, off + R * 2 + 1, none⟩ (.int .i64 ((k : Int) + 1))) 74 2 (.slice (some ⟨g, off, none⟩) (R + 1) wc) (R + 1) (wayCells ((v, k + 1) :: r)) := by rw [← e1']; exact way_next HR.out (HR2.out.drewN _)
            have f3 := HF2.out.upd u3 (fun i e => by rw [e]; exact HGN.out)
            have hI := skip_inv HF2.out.iv HWAY.out HX.out (Nat.pos_of_ne_zero HIX.out)
            have hM := M_skip (adj := adjE n E) (n := n) HWAY.out HX.out
            have hlw : (s2.skip v k x r).low = s2.low := if_neg HST.out
            have hl3 : (s2.skip v k x r).way.length = R + 1 := by simp [St.skip, HR.out]
            go_roundg (gk - 1)
            case measure => omega
            case rel =>
              refine ⟨sa2, sc2, s2.skip v k x r, _, wc, by omega, by rw [hl3], ⟨?_, hI, f3.cn, f3.mo, f3.ow, f3.up⟩, ⟨by rw [hl3]; exact r3, HY2.out.o⟩⟩
              rw [hlw]
              exact f3.wk
      · have hk' : ¬ (k : Int) < (L : Int) := by omega
        obtain ⟨iF, hiF, hF0, hF1, hF2⟩ := info_parts infoF
        obtain ⟨pa, pc, hps, pr, po⟩ := way_pop HR.out iF hiF hF1 HR2.out
        have hgn := HY2.out.o g rfl
        have hpo : ∀ k, (Value.slice pa 0 0).ownBlock = some k → k = g := fun k q => by
          have q2 := (own_slice pa R pc 0 0).trans q
          rw [po] at q2
          exact (Option.some.inj q2).symm
        have HPR := hide pr
        have HPO := hide hpo
        have HGN := hide hgn
        have HHQ := hide hq
        have HKL : Hid ((adjE n E v).length ≤ k) := hide (by have := HL.out; show (rowE n (E v)).length ≤ k; omega)
        obtain ⟨lv, hlv⟩ : ∃ lv, s2.low v = lv := ⟨_, rfl⟩
        have HLW := hide hlv
        clear pr hpo hgn po hk hq hlv
        go_wp2_with fail
        go_quiet (fail)
        go_upto_region 12 with fail
        clear e0 e1 z1 g0 gbl rgl g1 hk' hps w1' c0 c1 c2 hgl
        cases r with
        | nil =>
          have hR0 : R = 0 := by rw [← HR.out]; rfl
          subst hR0
          go_wp2_with fail
          obtain ⟨WX, hWX⟩ : ∃ WX, wr.drewN nq = WX := ⟨_, rfl⟩
          rw [hWX]
          have ux : Upd wr WX (fun k => m.own sa2 k) := by rw [← hWX]; exact (Upd.refl wr _).drewN _
          have kx : WkG WX gb n m sa2 sc2 s2.count s2.idx (downL s2.low v []) (onS s2) s2.stk s2.part := by rw [← hWX]; exact HF2.out.wk.upd ((Upd.refl wr (fun _ => False)).drewN _) (fun _ _ => id)
          have hlv : downL s2.low v [] v = lv := HLW.out
          have HKX := hide kx
          have HUX := hide ux
          have HRX := hide (ux.rw HPR.out (fun k q => by rw [HPO.out k ((own_slice pa 0 0 _ _).trans q)]; exact HGN.out.1))
          have HLV := hide hlv
          clear kx ux hlv hWX d0 d1 d2 d3 d4 d5 d6 hb2
          obtain ⟨d0, d1, d2, d3, d4, d5, d6⟩ := cells7 HKX.out.c
          have hb2 := lt_at HKX.out.c
          obtain ⟨bl, l1, l2⟩ := num_at HKX.out.l hvn
          obtain ⟨bi, i1, i2⟩ := num_at HKX.out.i hvn
          rw [HLV.out] at l1
          obtain ⟨iv, hiv⟩ : ∃ iv, s2.idx v = iv := ⟨_, rfl⟩
          rw [hiv] at i1
          have HIV := hide hiv
          clear hiv l2 i2
          by_cases hli : lv = iv
          · subst hli
            have hlv2 : s2.low v = s2.idx v := by rw [HIV.out]; exact HLW.out
            go_quiet (fail)
            obtain ⟨WY, hWY⟩ : ∃ WY, WX.drewN nq = WY := ⟨_, rfl⟩
            have uy : Upd wr WY (fun k => m.own sa2 k) := by rw [← hWY]; exact HUX.out.drewN _
            have kx : WkG WY gb n m sa2 sc2 s2.count s2.idx (downL s2.low v []) (onS s2) s2.stk s2.part := by rw [← hWY]; exact HKX.out.upd ((Upd.refl WX (fun _ => False)).drewN _) (fun _ _ => id)
            have ry : Rw WY 74 2 (.slice pa 0 pc) (0) (wayCells []) := by rw [← hWY]; exact HRX.out.drewN _
            obtain ⟨A, B, hstk, hvB, hfil, hmem⟩ := stk_split HF2.out.iv (HF2.out.iv.ws v (by simp [St.ww, HWAY.out]))
            rw [hstk] at kx
            have hAn : ∀ u ∈ v :: A, u < n := fun u hu => HF2.out.iv.lt u (HF2.out.iv.sm u (by rw [hstk]; simp at hu ⊢; rcases hu with q | q <;> simp [q]))
            obtain ⟨mn, hm1, hm2, CL⟩ := close_any A B v kx hvB hAn (by rw [← hstk]; have := stk_len HF2.out.iv; omega)
            have e1 := onS_close (r := []) (mn := mn) hfil hmem
            have e2 := part_close (r := []) (mn := mn) hmem
            have hIc := close_inv HF2.out.iv HWAY.out HKL.out hlv2 ((hmem mn).1 hm1) (fun u hu hvu => hm2 u ((hmem u).2 ⟨hu, hvu⟩))
            have hM := M_close (adj := adjE n E) (n := n) (m := mn) HWAY.out
            rw [e1, e2] at CL
            have HCL := hide CL
            have HIC := hide hIc
            have HM := hide hM
            have HFIL := hide hfil
            have HUY := hide uy
            have HRY := hide ry
            rw [hWY]
            clear CL e1 e2 hIc hM kx hstk hvB hfil hmem hAn hm1 hm2 hlv2 hWY uy ry
            go_wp2_with (go_at_call 44; go_loud (refine Calls.mono (HCL.out) ?_); rintro e w9 ⟨sa3, sc3, rfl, k9, o9, u9⟩)
            have hln : (s2.close v mn []).way.length = 0 := by simp only [St.close]; exact rfl
            have f9 : FrAt w w9 gb n E m sa (fun u => 0 < s.idx u ∨ u = t) sa3 sc3 (s2.close v mn []) := ⟨by
              show WkG w9 gb n m sa3 sc3 s2.count s2.idx (downL s2.low v []) (onS (s2.close v mn [])) (s2.stk.filter (fun u => decide (s2.idx u < s2.idx v))) (s2.close v mn []).part
              rw [HFIL.out]
              exact k9, HIC.out, HF2.out.cn, HF2.out.mo, fun k q => HF2.out.ow k (o9 k q), (HF2.out.up.then HUY.out (fun k hk q => (HF2.out.ow k q).resolve_right (by omega))).then u9 (fun k hk q => (HF2.out.ow k q).resolve_right (by omega))⟩
            have y9 : WyAt w w9 m sa3 (s2.close v mn []) pa pc := ⟨by
              rw [hln]
              exact u9.rw HRY.out (fun k q => by rw [HPO.out k ((own_slice pa 0 0 _ _).trans q)]; exact HGN.out.1), fun k q => by
              rw [HPO.out k q]
              exact ⟨fun q2 => HGN.out.1 (o9 _ q2), HGN.out.2⟩⟩
            go_roundg (gk - 1)
            case measure => have := HHQ.out; have := HM.out; omega
            case rel => exact ⟨sa3, sc3, s2.close v mn [], pa, pc, by have := HHQ.out; have := HM.out; omega, by rw [hln], f9, y9⟩
          · have hlb : ((lv : Int) == (iv : Int)) = false := by simpa using (fun e => hli (by omega) : ¬ (lv : Int) = (iv : Int))
            have hne : s2.low v ≠ s2.idx v := by rw [HIV.out]; exact fun e => hli (by rw [← HLW.out]; exact e)
            go_quiet (fail)
            have hIc := pop_inv HF2.out.iv HWAY.out HKL.out hne
            have hM := M_pop (adj := adjE n E) (n := n) HWAY.out
            have hln : (s2.pop v []).way.length = 0 := by simp only [St.pop]; exact rfl
            have kz := HKX.out.upd ((Upd.refl WX (fun _ => False)).drewN nq) (fun _ _ => id)
            have f9 : FrAt w (WX.drewN nq) gb n E m sa (fun u => 0 < s.idx u ∨ u = t) sa2 sc2 (s2.pop v []) := ⟨kz, hIc, HF2.out.cn, HF2.out.mo, HF2.out.ow, HF2.out.up.then (HUX.out.drewN _) (fun k hk q => (HF2.out.ow k q).resolve_right (by omega))⟩
            have y9 : WyAt w (WX.drewN nq) m sa2 (s2.pop v []) pa pc := ⟨by
              rw [hln]
              exact HRX.out.drewN _, fun k q => by
              rw [HPO.out k q]
              exact HGN.out⟩
            have HHM := hide hM
            have HHL := hide hln
            clear hIc hM hln kz hne
            go_wp2_with fail
            go_roundg (gk - 1)
            case measure => have := HHQ.out; have := HHM.out; omega
            case rel => exact ⟨sa2, sc2, s2.pop v [], pa, pc, by have := HHQ.out; have := HHM.out; omega, by rw [HHL.out], f9, y9⟩
        | cons f2 r2 =>
          obtain ⟨p, kp⟩ := f2
          obtain ⟨R2, hR2⟩ : ∃ R2, r2.length = R2 := ⟨_, rfl⟩
          have hRR : R = R2 + 1 := by rw [← HR.out, ← hR2]; rfl
          subst hRR
          obtain ⟨pg, poff, hpa, hpgl, E0, -, -⟩ := way_top hR2 HPR.out
          subst hpa
          have HR2L := hide hR2
          have hpn : p < n := HF2.out.iv.lt p (HF2.out.iv.sm p (HF2.out.iv.ws p (by simp [St.ww, HWAY.out])))
          have hpv : v ≠ p := fun e => by
            have := way_nodup HF2.out.iv
            simp only [St.ww, HWAY.out, List.map_cons, List.nodup_cons] at this
            exact this.1 (by rw [e]; simp)
          obtain ⟨bp, p1, p2⟩ := num_at HF2.out.wk.l hpn
          obtain ⟨bl, l1, l2⟩ := num_at HF2.out.wk.l hvn
          obtain ⟨lp, hlp⟩ : ∃ lp, s2.low p = lp := ⟨_, rfl⟩
          rw [hlp] at p1
          rw [HLW.out] at l1
          have HLP := hide hlp
          have HPV := hide hpv
          have w1' : IntKind.i64.wrap ((R2 : Int) + 1 - 1) = (R2 : Int) := by rw [IntWalk.i64_in _ (by omega)]; omega
          have c0 : (0 : Int) < (R2 : Int) + 1 := by omega
          have c1 : (0 : Int) ≤ (R2 : Int) := by omega
          have c2 : (R2 : Int) < (R2 : Int) + 1 := by omega
          have pn0 : (0 : Int) ≤ (p : Int) := by omega
          have pn1 : (p : Int) < (n : Int) := by omega
          clear hR2 hlp hpv
          go_upto_region 14 with fail
          obtain ⟨W2, hW2⟩ : ∃ W2, wr.drewN nq = W2 := ⟨_, rfl⟩
          rw [hW2]
          have u2 : Upd wr W2 (fun k => m.own sa2 k) := by rw [← hW2]; exact (Upd.refl wr _).drewN _
          have k2 : WkG W2 gb n m sa2 sc2 s2.count s2.idx s2.low (onS s2) s2.stk s2.part := by rw [← hW2]; exact HF2.out.wk.upd ((Upd.refl wr (fun _ => False)).drewN _) (fun _ _ => id)
          have r2' : Rw W2 74 2 (.slice (some ⟨pg, poff, none⟩) (R2 + 1) pc) (R2 + 1) (wayCells ((p, kp) :: r2)) := by rw [← hW2]; exact HPR.out.drewN _
          have D3 : W2.cell? ⟨m.b, 3, none⟩ = some (.slice (some ⟨m.l, 0, none⟩) n n) := by rw [← hW2]; exact d3
          have L1 : W2.cell? ⟨m.l, v, none⟩ = some (.int .i64 (lv : Int)) := by rw [← hW2]; exact l1
          have P1 : W2.cell? ⟨m.l, p, none⟩ = some (.int .i64 (lp : Int)) := by rw [← hW2]; exact p1
          have P2 : W2.frozen? ⟨m.l, p, none⟩ = false := by rw [← hW2]; exact p2
          have HU2 := hide u2
          have HK2 := hide k2
          have HR2X := hide r2'
          clear d0 d1 d2 d3 d4 d5 d6 hb2 l1 l2 p1 p2 hW2 u2 k2 r2' E0 hpgl bp bl
          go_still_tail 21, (by kernel_rfl)
          change wpList _ _ _ _ _ W2.drew
          go_wp2_with fail
          obtain ⟨WX, hWX⟩ : ∃ WX, W2.drew.setCell ⟨m.l, p, none⟩ (.int .i64 (min (lp : Int) (lv : Int))) = WX := ⟨_, rfl⟩
          simp only [World.setCell_drew] at hWX
          rw [hWX]
          have em : ((min lp lv : Nat) : Int) = min (lp : Int) (lv : Int) := by omega
          have elow : downL s2.low v ((p, kp) :: r2) = upd s2.low p (min lp lv) := by rw [← HLP.out, ← HLW.out]; rfl
          have ux : Upd wr WX (fun k => m.own sa2 k) := by rw [← hWX]; exact (HU2.out.setCell _ _ (.inr (.inl (by simp [Wm.bs])))).drew
          have kx : WkG WX gb n m sa2 sc2 s2.count s2.idx (downL s2.low v ((p, kp) :: r2)) (onS s2) s2.stk s2.part := by rw [← hWX, elow, ← em]; exact (HK2.out.setLow hpn (min lp lv)).drew
          have hlv : downL s2.low v ((p, kp) :: r2) v = lv := by rw [elow, upd_other _ _ _ HPV.out]; exact HLW.out
          have HKX := hide kx
          have HUX := hide ux
          have HRX := hide (ux.rw HPR.out (fun k q => by rw [HPO.out k ((own_slice _ 0 0 _ _).trans q)]; exact HGN.out.1))
          have HLV := hide hlv
          clear kx ux hlv hWX D3 L1 P1 P2 em elow
          obtain ⟨d0, d1, d2, d3, d4, d5, d6⟩ := cells7 HKX.out.c
          have hb2 := lt_at HKX.out.c
          obtain ⟨bl, l1, l2⟩ := num_at HKX.out.l hvn
          obtain ⟨bi, i1, i2⟩ := num_at HKX.out.i hvn
          rw [HLV.out] at l1
          obtain ⟨iv, hiv⟩ : ∃ iv, s2.idx v = iv := ⟨_, rfl⟩
          rw [hiv] at i1
          have HIV := hide hiv
          clear hiv l2 i2
          by_cases hli : lv = iv
          · subst hli
            have hlv2 : s2.low v = s2.idx v := by rw [HIV.out]; exact HLW.out
            go_quiet (fail)
            obtain ⟨WY, hWY⟩ : ∃ WY, WX.drewN nq = WY := ⟨_, rfl⟩
            have uy : Upd wr WY (fun k => m.own sa2 k) := by rw [← hWY]; exact HUX.out.drewN _
            have kx : WkG WY gb n m sa2 sc2 s2.count s2.idx (downL s2.low v ((p, kp) :: r2)) (onS s2) s2.stk s2.part := by rw [← hWY]; exact HKX.out.upd ((Upd.refl WX (fun _ => False)).drewN _) (fun _ _ => id)
            have ry : Rw WY 74 2 (.slice (some ⟨pg, poff, none⟩) (R2 + 1) pc) (R2 + 1) (wayCells ((p, kp) :: r2)) := by rw [← hWY]; exact HRX.out.drewN _
            obtain ⟨A, B, hstk, hvB, hfil, hmem⟩ := stk_split HF2.out.iv (HF2.out.iv.ws v (by simp [St.ww, HWAY.out]))
            rw [hstk] at kx
            have hAn : ∀ u ∈ v :: A, u < n := fun u hu => HF2.out.iv.lt u (HF2.out.iv.sm u (by rw [hstk]; simp at hu ⊢; rcases hu with q | q <;> simp [q]))
            obtain ⟨mn, hm1, hm2, CL⟩ := close_any A B v kx hvB hAn (by rw [← hstk]; have := stk_len HF2.out.iv; omega)
            have e1 := onS_close (r := ((p, kp) :: r2)) (mn := mn) hfil hmem
            have e2 := part_close (r := ((p, kp) :: r2)) (mn := mn) hmem
            have hIc := close_inv HF2.out.iv HWAY.out HKL.out hlv2 ((hmem mn).1 hm1) (fun u hu hvu => hm2 u ((hmem u).2 ⟨hu, hvu⟩))
            have hM := M_close (adj := adjE n E) (n := n) (m := mn) HWAY.out
            rw [e1, e2] at CL
            have HCL := hide CL
            have HIC := hide hIc
            have HM := hide hM
            have HFIL := hide hfil
            have HUY := hide uy
            have HRY := hide ry
            rw [hWY]
            clear CL e1 e2 hIc hM kx hstk hvB hfil hmem hAn hm1 hm2 hlv2 hWY uy ry
            go_wp2_with (go_at_call 44; go_loud (refine Calls.mono (HCL.out) ?_); rintro e w9 ⟨sa3, sc3, rfl, k9, o9, u9⟩)
            have hln : (s2.close v mn ((p, kp) :: r2)).way.length = R2 + 1 := by simp only [St.close]; exact (by simp [HR2L.out])
            have f9 : FrAt w w9 gb n E m sa (fun u => 0 < s.idx u ∨ u = t) sa3 sc3 (s2.close v mn ((p, kp) :: r2)) := ⟨by
              show WkG w9 gb n m sa3 sc3 s2.count s2.idx (downL s2.low v ((p, kp) :: r2)) (onS (s2.close v mn ((p, kp) :: r2))) (s2.stk.filter (fun u => decide (s2.idx u < s2.idx v))) (s2.close v mn ((p, kp) :: r2)).part
              rw [HFIL.out]
              exact k9, HIC.out, HF2.out.cn, HF2.out.mo, fun k q => HF2.out.ow k (o9 k q), (HF2.out.up.then HUY.out (fun k hk q => (HF2.out.ow k q).resolve_right (by omega))).then u9 (fun k hk q => (HF2.out.ow k q).resolve_right (by omega))⟩
            have y9 : WyAt w w9 m sa3 (s2.close v mn ((p, kp) :: r2)) (some ⟨pg, poff, none⟩) pc := ⟨by
              rw [hln]
              exact u9.rw HRY.out (fun k q => by rw [HPO.out k ((own_slice _ 0 0 _ _).trans q)]; exact HGN.out.1), fun k q => by
              rw [HPO.out k q]
              exact ⟨fun q2 => HGN.out.1 (o9 _ q2), HGN.out.2⟩⟩
            go_roundg (gk - 1)
            case measure => have := HHQ.out; have := HM.out; omega
            case rel => exact ⟨sa3, sc3, s2.close v mn ((p, kp) :: r2), _, pc, by have := HHQ.out; have := HM.out; omega, by rw [hln], f9, y9⟩
          · have hlb : ((lv : Int) == (iv : Int)) = false := by simpa using (fun e => hli (by omega) : ¬ (lv : Int) = (iv : Int))
            have hne : s2.low v ≠ s2.idx v := by rw [HIV.out]; exact fun e => hli (by rw [← HLW.out]; exact e)
            go_quiet (fail)
            have hIc := pop_inv HF2.out.iv HWAY.out HKL.out hne
            have hM := M_pop (adj := adjE n E) (n := n) HWAY.out
            have hln : (s2.pop v ((p, kp) :: r2)).way.length = R2 + 1 := by simp only [St.pop]; exact (by simp [HR2L.out])
            have kz := HKX.out.upd ((Upd.refl WX (fun _ => False)).drewN nq) (fun _ _ => id)
            have f9 : FrAt w (WX.drewN nq) gb n E m sa (fun u => 0 < s.idx u ∨ u = t) sa2 sc2 (s2.pop v ((p, kp) :: r2)) := ⟨kz, hIc, HF2.out.cn, HF2.out.mo, HF2.out.ow, HF2.out.up.then (HUX.out.drewN _) (fun k hk q => (HF2.out.ow k q).resolve_right (by omega))⟩
            have y9 : WyAt w (WX.drewN nq) m sa2 (s2.pop v ((p, kp) :: r2)) (some ⟨pg, poff, none⟩) pc := ⟨by
              rw [hln]
              exact HRX.out.drewN _, fun k q => by
              rw [HPO.out k q]
              exact HGN.out⟩
            have HHM := hide hM
            have HHL := hide hln
            clear hIc hM hln kz hne
            go_wp2_with fail
            go_roundg (gk - 1)
            case measure => have := HHQ.out; have := HHM.out; omega
            case rel => exact ⟨sa2, sc2, s2.pop v ((p, kp) :: r2), _, pc, by have := HHQ.out; have := HHM.out; omega, by rw [HHL.out], f9, y9⟩
end Go.Proofs.Ytnhggncpebifhaa
