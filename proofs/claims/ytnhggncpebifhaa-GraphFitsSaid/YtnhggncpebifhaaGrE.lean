/- The walks of Edge, Reads and Readers, slices.Clone at ints. -/
import Derived.Test.YtnhggncpebifhaaGrD
set_option maxRecDepth 100000
namespace Go.Proofs.Ytnhggncpebifhaa
open Go.RowKit Go.Lat

theorem Edge_nil (w : World) (a b : Int) : Calls Try.prog 23 #[.pointer none, .int .i64 a, .int .i64 b] w fun e w' => e = .returned (.int .i64 1) ∧ w' = w := by
  go_enter Try.func23, Try.ntmps23
  go_wp2
  go_ret
  exact ⟨rfl, rfl⟩
theorem Edge_no {w : World} {gb n : Nat} {m : Gm} {E D : Nat → Nat → Bool} (h : GrAt w gb n m E D) (a b : Int) (hab : ¬ ((0 ≤ a ∧ a < n) ∧ (0 ≤ b ∧ b < n))) : Calls Try.prog 23 #[.pointer (some ⟨gb, 0, none⟩), .int .i64 a, .int .i64 b] w fun e w' => e = .returned (.int .i64 3) ∧ w' = w := by
  have HA := has_any h
  clear h
  by_cases ha : 0 ≤ a ∧ a < n
  · have hb : decide (0 ≤ b ∧ b < (n : Int)) = false := by simp only [decide_eq_false_iff_not]; exact fun q => hab ⟨ha, q⟩
    have ha' : decide (0 ≤ a ∧ a < (n : Int)) = true := by simpa using ha
    have H1 := HA a
    have H2 := HA b
    rw [ha'] at H1
    rw [hb] at H2
    clear HA ha ha' hb hab
    go_enter Try.func23, Try.ntmps23
    go_wp2_with (first
      | (go_at_call 36; with_reducible refine Calls.mono H1 ?_; rintro e w1 ⟨rfl, rfl⟩)
      | (go_at_call 36; with_reducible refine Calls.mono H2 ?_; rintro e w1 ⟨rfl, rfl⟩))
    go_ret
    exact ⟨rfl, rfl⟩
  · have ha' : decide (0 ≤ a ∧ a < (n : Int)) = false := by simpa using ha
    have H1 := HA a
    rw [ha'] at H1
    clear HA ha ha' hab
    go_enter Try.func23, Try.ntmps23
    go_wp2_with (go_at_call 36; with_reducible refine Calls.mono H1 ?_; rintro e w1 ⟨rfl, rfl⟩)
    go_ret
    exact ⟨rfl, rfl⟩
theorem ins_rowE {n : Nat} {p : Nat → Bool} {l' : List Nat} {b : Nat} (hb : b < n) (hs : Rising l') (hm : ∀ x, x ∈ l' ↔ x ∈ rowE n p ∨ x = b) : l' = rowE n (fun k => p k || decide (k = b)) :=
  rising_uniq hs (rowE_rising _ _) fun x => by
    rw [hm, rowE_mem, rowE_mem]
    constructor
    · rintro (q | rfl)
      · exact ⟨q.1, by simp [q.2]⟩
      · exact ⟨hb, by simp⟩
    · rintro ⟨q1, q2⟩
      simp at q2
      rcases q2 with q2 | q2
      · exact .inl ⟨q1, q2⟩
      · exact .inr q2
/-- Half of Edge: a row's turn of the first side. -/
theorem GrAt.turnR {w w' : World} {gb n g off cap : Nat} {m : Gm} {E D : Nat → Nat → Bool} (h : GrAt w gb n m E D) (hv : m.vr = .slice (some ⟨g, off, none⟩) n cap) {a b : Nat} (ha : a < n) (hb : b < n) (u : Upd w w' (fun k => (m.f a).ownBlock = some k)) {xa : Option Addr} {c : Nat} {l' : List Nat} (hs : Rising l') (hm : ∀ x, x ∈ l' ↔ x ∈ rowE n (E a) ∨ x = b)
    (hx : Rw w' 3 1 (.slice xa l'.length c) l'.length (natCells l')) (hc : c ≤ maxLen) (ho : ∀ k, (Value.slice xa l'.length c).ownBlock = some k → (m.f a).ownBlock = some k ∨ w.heap.size ≤ k) :
    GrAt (w'.setCell ⟨g, off + a, none⟩ (.slice xa l'.length c)) gb n ⟨m.vr, m.vd, updF m.f a (.slice xa l'.length c), m.fd⟩ (addE E a b) D ∧
    (∀ k, (Gm.mk m.vr m.vd (updF m.f a (.slice xa l'.length c)) m.fd).own gb n k → m.own gb n k ∨ w.heap.size ≤ k) ∧ Upd w (w'.setCell ⟨g, off + a, none⟩ (.slice xa l'.length c)) (fun k => rowsOwn m.vr n m.f k) := by
  have hl := ins_rowE hb hs hm
  have hg : rowsOwn m.vr n m.f g := .inl (by rw [hv]; rfl)
  have U : Upd w (w'.setCell ⟨g, off + a, none⟩ (.slice xa l'.length c)) (fun k => rowsOwn m.vr n m.f k) :=
    (u.weaken (fun k _ q => .inr ⟨a, ha, q⟩)).setCell _ _ (.inr hg)
  have hr := h.r
  rw [hv] at hr
  have ho' : ∀ k, rowsOwn m.vr n (updF m.f a (.slice xa l'.length c)) k → rowsOwn m.vr n m.f k ∨ w.heap.size ≤ k := fun k q => rowsOwn_turn ha ho q
  have hx' : Rw w' 3 1 (.slice xa l'.length c) (natCells l').length (natCells l') := by rw [natCells_len]; exact hx
  refine ⟨⟨U.get h.c h.gr, ?_, h.d.upd U (fun k q q2 => h.rd k q2 q), fun q => ?_, h.gd, fun k q q2 => ?_, h.n4⟩, fun k q => ?_, U⟩
  · have := hr.turn ha u hx' hc ho
    rw [hv]
    refine this.congr fun i hi => ?_
    by_cases e : i = a
    · subst e
      rw [updF_same, hl]
      congr 2
      funext k
      simp [addE]
    · rw [updF_other _ _ _ e]
      congr 2
      funext k
      simp [addE, e]
  · rcases ho' _ q with q | q
    · exact h.gr q
    · have := lt_at h.c; omega
  · rcases ho' _ q with q | q
    · exact h.rd k q q2
    · have := h.d.lt q2; omega
  · rcases q with q | q | q
    · exact .inl (.inl q)
    · rcases ho' _ q with q | q
      · exact .inl (.inr (.inl q))
      · exact .inr q
    · exact .inl (.inr (.inr q))
theorem GrAt.turnD {w w' : World} {gb n g off cap : Nat} {m : Gm} {E D : Nat → Nat → Bool} (h : GrAt w gb n m E D) (hv : m.vd = .slice (some ⟨g, off, none⟩) n cap) {a b : Nat} (ha : a < n) (hb : b < n) (u : Upd w w' (fun k => (m.fd a).ownBlock = some k)) {xa : Option Addr} {c : Nat} {l' : List Nat} (hs : Rising l') (hm : ∀ x, x ∈ l' ↔ x ∈ rowE n (D a) ∨ x = b)
    (hx : Rw w' 3 1 (.slice xa l'.length c) l'.length (natCells l')) (hc : c ≤ maxLen) (ho : ∀ k, (Value.slice xa l'.length c).ownBlock = some k → (m.fd a).ownBlock = some k ∨ w.heap.size ≤ k) :
    GrAt (w'.setCell ⟨g, off + a, none⟩ (.slice xa l'.length c)) gb n ⟨m.vr, m.vd, m.f, updF m.fd a (.slice xa l'.length c)⟩ E (addE D a b) ∧
    (∀ k, (Gm.mk m.vr m.vd m.f (updF m.fd a (.slice xa l'.length c))).own gb n k → m.own gb n k ∨ w.heap.size ≤ k) ∧ Upd w (w'.setCell ⟨g, off + a, none⟩ (.slice xa l'.length c)) (fun k => rowsOwn m.vd n m.fd k) := by
  have hl := ins_rowE hb hs hm
  have hg : rowsOwn m.vd n m.fd g := .inl (by rw [hv]; rfl)
  have U : Upd w (w'.setCell ⟨g, off + a, none⟩ (.slice xa l'.length c)) (fun k => rowsOwn m.vd n m.fd k) :=
    (u.weaken (fun k _ q => .inr ⟨a, ha, q⟩)).setCell _ _ (.inr hg)
  have hr := h.d
  rw [hv] at hr
  have ho' : ∀ k, rowsOwn m.vd n (updF m.fd a (.slice xa l'.length c)) k → rowsOwn m.vd n m.fd k ∨ w.heap.size ≤ k := fun k q => rowsOwn_turn ha ho q
  have hx' : Rw w' 3 1 (.slice xa l'.length c) (natCells l').length (natCells l') := by rw [natCells_len]; exact hx
  refine ⟨⟨U.get h.c h.gd, h.r.upd U (fun k q q2 => h.rd k q q2), ?_, h.gr, fun q => ?_, fun k q q2 => ?_, h.n4⟩, fun k q => ?_, U⟩
  · have := hr.turn ha u hx' hc ho
    rw [hv]
    refine this.congr fun i hi => ?_
    by_cases e : i = a
    · subst e
      rw [updF_same, hl]
      congr 2
      funext k
      simp [addE]
    · rw [updF_other _ _ _ e]
      congr 2
      funext k
      simp [addE, e]
  · rcases ho' _ q with q | q
    · exact h.gd q
    · have := lt_at h.c; omega
  · rcases ho' _ q2 with q2 | q2
    · exact h.rd k q q2
    · have := h.r.lt q; omega
  · rcases q with q | q | q
    · exact .inl (.inl q)
    · exact .inl (.inr (.inl q))
    · rcases ho' _ q with q | q
      · exact .inl (.inr (.inr q))
      · exact .inr q
theorem GrAt.drew {w : World} {gb n : Nat} {m : Gm} {E D : Nat → Nat → Bool} (h : GrAt w gb n m E D) : GrAt w.drew gb n m E D := h.upd (Upd.drew (Upd.refl w (fun _ => False))) (fun _ _ => id)
theorem frozen_of {w w' : World} {S : Nat → Prop} (u : Upd w w' S) {b o : Nat} (hb : b < w.heap.size) (hn : ¬ S b) : w'.frozen? ⟨b, o, none⟩ = w.frozen? ⟨b, o, none⟩ := by
  unfold World.frozen?
  rw [u.block b hb hn]
set_option maxHeartbeats 1600000 in
theorem Edge_any {w : World} {gb n : Nat} {m : Gm} {E D : Nat → Nat → Bool} (h : GrAt w gb n m E D) (a b : Nat) (ha : a < n) (hb : b < n) : Calls Try.prog 23 #[.pointer (some ⟨gb, 0, none⟩), .int .i64 (a : Int), .int .i64 (b : Int)] w fun e w' => e = .returned (.int .i64 0) ∧ ∃ m', GrAt w' gb n m' (addE E a b) (addE D b a) ∧ (∀ k, m'.own gb n k → m.own gb n k ∨ w.heap.size ≤ k) ∧ Upd w w' (fun k => m.own gb n k) := by
  have HA := has_any h
  have H1 := HA (a : Int)
  have H2 := HA (b : Int)
  have ha' : decide (0 ≤ (a : Int) ∧ (a : Int) < (n : Int)) = true := by simp; omega
  have hb' : decide (0 ≤ (b : Int) ∧ (b : Int) < (n : Int)) = true := by simp; omega
  rw [ha'] at H1
  rw [hb'] at H2
  have hn4 := h.n4
  have HH := hide h
  clear HA ha' hb' h
  go_enter Try.func23, Try.ntmps23
  go_upto_region 5 with (first
      | (go_at_call 36; with_reducible refine Calls.mono H1 ?_; rintro e w1 ⟨rfl, rfl⟩)
      | (go_at_call 36; with_reducible refine Calls.mono H2 ?_; rintro e w1 ⟨rfl, rfl⟩))
  clear H1 H2
  go_cut [] (fun wx => ∃ m', GrAt wx gb n m' (addE E a b) D ∧ (∀ k, m'.own gb n k → m.own gb n k ∨ w1.heap.size ≤ k) ∧ Upd w1 wx (fun k => m.own gb n k))
  case first =>
    have hd := HH.out.drew
    obtain ⟨sv, sc, hv⟩ := slice_form hd.r.spine
    obtain ⟨g, off, hg, hgl, d1, f1⟩ := Rw.cell1 (by have := hd.r.spine; rw [hv] at this; exact this) ha
    subst hg
    obtain ⟨ra, rc, hfa⟩ := slice_form (hd.r.row a ha)
    have hra := hd.r.row a ha
    have hcap := hd.r.cap a ha
    rw [natCells_len] at hfa hra
    rw [hfa] at hra hcap
    have PUT := put_any w1.drew ra rc (rowE n (E a)) hra (rowE_rising _ _) (by have := rowE_len n (E a); omega) hcap b
    have d0 := (cells2 hd.c).1
    have gl := lt_at hd.c
    rw [hv] at d0
    rw [hfa] at d1
    have a0 : (0 : Int) ≤ (a : Int) := by omega
    have a1 : (a : Int) < (n : Int) := by omega
    have gbn : ¬ (m.f a).ownBlock = some gb := fun e => hd.gr (.inr ⟨a, ha, e⟩)
    have gn : ¬ (m.f a).ownBlock = some g := fun e => hd.r.off a g ha e (by rw [hv]; rfl)
    rw [hfa] at gbn gn
    have HD := hide hd
    have HV := hide hv
    have HFA := hide hfa
    have HF1 := hide f1
    have HGN := hide gn
    have HGB := hide gbn
    have e0 := d0
    have el := gl
    clear hd hv hfa hra hcap HH gn gbn
    go_region_law (go_simp; go_at_call 41; refine Calls.mono PUT ?_; rintro e w3 ⟨xa, c, l', rfl, hc, hs, hm, hx, ho, u3⟩; have d0' := (u3.cell gb 0 gl HGB.out).trans d0; have d1' := (u3.cell g _ hgl HGN.out).trans d1; have f1' : w3.frozen? ⟨g, off + a, none⟩ = false := (frozen_of u3 hgl HGN.out).trans f1; have HS := hide hs; have HM := hide hm; have HX := hide hx; have HO := hide ho; have HU3 := hide u3; clear hs hm hx ho u3)
    all_goals go_wp2_with fail
    all_goals go_meet
    all_goals
      have T := HD.out.turnR HV.out ha hb (HU3.out.weaken (T := fun k => (m.f a).ownBlock = some k) (fun k _ q => by rw [HFA.out]; exact q)) HS.out HM.out HX.out hc (fun k q => by rw [HFA.out]; exact HO.out k q)
      exact ⟨_, T.1, T.2.1, (Upd.drew (Upd.refl w1 _)).then (T.2.2.weaken (T := fun k => m.own gb n k) (fun k _ q => .inr (.inl q))) (fun k _ q => q)⟩
  case rest =>
    obtain ⟨m1, h1, o1, u1⟩ := hcut
    have O1 := hide o1
    have U1 := hide u1
    clear o1 u1 HH
    have hd := h1.drew
    obtain ⟨sv, sc, hv⟩ := slice_form hd.d.spine
    obtain ⟨g, off, hg, hgl, d1, f1⟩ := Rw.cell1 (by have := hd.d.spine; rw [hv] at this; exact this) hb
    subst hg
    obtain ⟨ra, rc, hfa⟩ := slice_form (hd.d.row b hb)
    have hra := hd.d.row b hb
    have hcap := hd.d.cap b hb
    rw [natCells_len] at hfa hra
    rw [hfa] at hra hcap
    have PUT := put_any wc.drew ra rc (rowE n (D b)) hra (rowE_rising _ _) (by have := rowE_len n (D b); omega) hcap a
    have d0 := (cells2 hd.c).2
    have gl := lt_at hd.c
    rw [hv] at d0
    rw [hfa] at d1
    have a0 : (0 : Int) ≤ (b : Int) := by omega
    have a1 : (b : Int) < (n : Int) := by omega
    have gbn : ¬ (m1.fd b).ownBlock = some gb := fun e => hd.gd (.inr ⟨b, hb, e⟩)
    have gn : ¬ (m1.fd b).ownBlock = some g := fun e => hd.d.off b g hb e (by rw [hv]; rfl)
    rw [hfa] at gbn gn
    have HD := hide hd
    have HV := hide hv
    have HFA := hide hfa
    have HF1 := hide f1
    have HGN := hide gn
    have HGB := hide gbn
    have e0 := d0
    have el := gl
    clear hd hv hfa hra hcap gn gbn h1
    go_wp2_with fail
    go_region_law (go_simp; go_at_call 41; refine Calls.mono PUT ?_; rintro e w3 ⟨xa, c, l', rfl, hc, hs, hm, hx, ho, u3⟩; have d0' := (u3.cell gb 1 gl HGB.out).trans d0; have d1' := (u3.cell g _ hgl HGN.out).trans d1; have f1' : w3.frozen? ⟨g, off + b, none⟩ = false := (frozen_of u3 hgl HGN.out).trans f1; have HS := hide hs; have HM := hide hm; have HX := hide hx; have HO := hide ho; have HU3 := hide u3; clear hs hm hx ho u3)
    all_goals go_wp2_with fail
    all_goals go_ret
    all_goals
      have T := HD.out.turnD HV.out hb ha (HU3.out.weaken (T := fun k => (m1.fd b).ownBlock = some k) (fun k _ q => by rw [HFA.out]; exact q)) HS.out HM.out HX.out hc (fun k q => by rw [HFA.out]; exact HO.out k q)
      refine ⟨rfl, _, T.1, fun k q => ?_, U1.out.then ((Upd.drew (Upd.refl wc (fun k => m1.own gb n k))).then (T.2.2.weaken (T := fun k => m1.own gb n k) (fun k _ q => .inr (.inr q))) (fun k _ q => q)) (fun k hk q => ?_)⟩
      · rcases T.2.1 k q with q | q
        · exact O1.out k q
        · exact .inr (Nat.le_trans U1.out.size q)
      · rcases O1.out k q with q | q
        · exact q
        · omega
end Go.Proofs.Ytnhggncpebifhaa
