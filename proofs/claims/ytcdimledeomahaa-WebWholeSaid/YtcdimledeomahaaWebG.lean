/- The law's links. -/
import Derived.Test.YtcdimledeomahaaWebF
set_option maxRecDepth 100000
namespace Go.Lat
/-- Slices of different types share no block. -/
theorem Rw.apart {w : World} {e e2 size size2 : Nat} {v v2 : Value} {n n2 : Nat} {xs ys : List Value} (h : Rw w e size v n xs) (h2 : Rw w e2 size2 v2 n2 ys) (hne : e ≠ e2) : v.ownBlock = none ∨ v.ownBlock ≠ v2.ownBlock := by
  rcases h.2 with ⟨rfl, _⟩ | ⟨g, off, cap, cur, rfl, hg, _⟩
  · exact .inl rfl
  · rcases h2.2 with ⟨rfl, _⟩ | ⟨g2, off2, cap2, cur2, rfl, hg2, _⟩
    · exact .inr (by simp [Value.ownBlock])
    · refine .inr fun he => ?_
      have e1 : g = g2 := by simpa [Value.ownBlock] using he
      subst e1
      rw [hg] at hg2
      cases hg2
      exact hne rfl
theorem Rw.past {w w' : World} {e e2 size size2 : Nat} {v v2 : Value} {n n2 : Nat} {xs ys : List Value} (h : Rw w e size v n xs) (h2 : Rw w e2 size2 v2 n2 ys) (hne : e ≠ e2) (hg : w.grownBy w' v2.ownBlock) : Rw w' e size v n xs :=
  h.grown hg (h.apart h2 hne)
theorem own_ge {w W : World} {S : Nat → Prop} {v v' : Value} (h : ∀ j, v.ownBlock = some j → w.heap.size ≤ j) (h2 : v'.ownBlock = v.ownBlock ∨ v'.ownBlock = some W.heap.size) (u : Upd w W S) : ∀ j, v'.ownBlock = some j → w.heap.size ≤ j := by
  intro j hj
  rcases h2 with e | e
  · exact h j (e.symm.trans hj)
  · have := Option.some.inj (e.symm.trans hj)
    have := u.size
    omega
theorem made2 (W : World) (Y : Obj) (cur : Array Value) (e size n' : Nat) (hs : cur.size = n' * size) : Rw ((W.drew.alloc Y).alloc (.cells cur e)) e size (.slice (some ⟨W.heap.size + 1, 0, none⟩) n' n') n' cur.toList := by
  have h := Rw.made (W.drew.alloc Y) cur e size n' hs
  have e1 : (W.drew.alloc Y).heap.size = W.heap.size + 1 := by
    show (W.heap.push Y).size = _
    simp
  rw [e1] at h
  exact h
end Go.Lat
namespace Go.Proofs.Ytcdimledeomahaa
open Go.RowKit Go.Lat

/-- An argument of places: its cells read as the links l. -/
def PlArg (w : World) (v : Value) (l : List Lk) : Prop :=
  ∃ (a : Option Addr) (cap : Nat), v = .slice a l.length cap ∧ l.length ≤ cap ∧ cap ≤ maxLen ∧ (a = none → cap = 0) ∧
    ∀ i x, l[i]? = some x → ∃ g off, a = some ⟨g, off, none⟩ ∧ g < w.heap.size ∧ w.cell? ⟨g, off + i * 4, none⟩ = some (encStr x.b) ∧ w.cell? ⟨g, off + i * 4 + 1, none⟩ = some (encStr x.s) ∧ w.cell? ⟨g, off + i * 4 + 2, none⟩ = some (.int .i64 x.c) ∧ w.cell? ⟨g, off + i * 4 + 3, none⟩ = some (.int .i64 x.r)
def PlsAt (w : World) (v : Value) (l : List Lk) : Prop := Rw w 73 4 v l.length (lkCells l)
def cuts (l : List Lk) : List Lk := (l.take 20).map Lk.cut
theorem Try.info73 : (Try.prog.info? 73).map (fun i => (i.zero, i.size, i.bytes)) = some (some (.agg #[.string ⟨#[]⟩, .string ⟨#[]⟩, .int .i64 0, .int .i64 0]), 4, 48) := by kernel_rfl

theorem PlArg.upd {w w' : World} {S : Nat → Prop} {v : Value} {l : List Lk} (h : PlArg w v l) (u : Upd w w' S) (hS : ∀ k, k < w.heap.size → ¬ S k) : PlArg w' v l := by
  obtain ⟨a, cap, h1, h2, h3, h4, h5⟩ := h
  refine ⟨a, cap, h1, h2, h3, h4, fun i x hx => ?_⟩
  obtain ⟨g, off, k1, k2, k3, k4, k5, k6⟩ := h5 i x hx
  have hn := hS g k2
  exact ⟨g, off, k1, by have := u.size; omega, (u.cell g _ k2 hn).trans k3, (u.cell g _ k2 hn).trans k4, (u.cell g _ k2 hn).trans k5, (u.cell g _ k2 hn).trans k6⟩

set_option maxHeartbeats 3200000 in
theorem links_any (w : World) (v : Value) (l : List Lk) (h : PlArg w v l) :
    Calls Try.prog 17 #[v] w fun e w' => ∃ v1 v2, e = .returned (.tuple #[v1, v2]) ∧ LksAt w' v1 (cuts l) ∧ PlsAt w' v2 (cuts l) ∧ (∀ k, v1.ownBlock = some k → w.heap.size ≤ k) ∧ (∀ k, v2.ownBlock = some k → w.heap.size ≤ k) ∧ Upd w w' (fun _ => False) := by
  obtain ⟨a, cap, rfl, hlc, hcm, hnil, hrow⟩ := h
  obtain ⟨i1, hi1, hz1a, hz1b, hz1c⟩ := info_parts Try.info40
  obtain ⟨i2, hi2, hz2a, hz2b, hz2c⟩ := info_parts Try.info73
  obtain ⟨L, hL⟩ : ∃ L, l.length = L := ⟨_, rfl⟩
  rw [hL] at hlc ⊢
  obtain ⟨N, hN⟩ : ∃ N, min L 20 = N := ⟨_, rfl⟩
  have hN2 : (min (L : Int) 20) = (N : Int) := by omega
  have n0 : (0 : Int) ≤ (N : Int) := by omega
  have n20 : N ≤ 20 := by omega
  have n1 : (N : Int) ≤ (cap : Int) := by omega
  have HL := hide hL
  have HN := hide hN
  have HR := hide hrow
  clear hL hN hrow
  go_enter Try.func17, Try.ntmps17
  go_wp2_with fail
  go_loopg [4, 5, 16] N (fun q va vb iv wr => ∃ k : Nat, k + q = N ∧ iv = .int .i64 k ∧ Rw wr 40 4 va k (lkCells ((l.take k).map Lk.cut)) ∧ Rw wr 73 4 vb k (lkCells ((l.take k).map Lk.cut)) ∧ (∀ j, va.ownBlock = some j → w.heap.size ≤ j) ∧ (∀ j, vb.ownBlock = some j → w.heap.size ≤ j) ∧ Upd w wr (fun _ => False))
  case atStart => exact ⟨0, by omega, rfl, Rw.nil _ _ _, Rw.nil _ _ _, by simp [Value.ownBlock], by simp [Value.ownBlock], Upd.refl _ _⟩
  case round =>
    obtain ⟨k, hk, rfl, ra, rb, oa, ob, hu⟩ := hrel
    by_cases hkN : k < N
    · obtain ⟨x, hx⟩ : ∃ x, l[k]? = some x := ⟨_, List.getElem?_eq_getElem (by rw [HL.out]; have := HN.out; omega)⟩
      obtain ⟨g, off, rfl, hg, c0, c1, c2, c3⟩ := HR.out k x hx
      have hE : (l.take (k + 1)).map Lk.cut = (l.take k).map Lk.cut ++ [x.cut] := by rw [List.take_add_one, hx]; simp
      obtain ⟨xb, xs, xc, xr⟩ := x
      simp only at c0 c1 c2 c3
      obtain ⟨tb, htb⟩ : ∃ t, xb.take 20 = t := ⟨_, rfl⟩
      obtain ⟨ts, hts⟩ : ∃ t, xs.take 20 = t := ⟨_, rfl⟩
      have d0 := (hu.cell g _ hg id).trans c0
      have d1 := (hu.cell g _ hg id).trans c1
      have d2 := (hu.cell g _ hg id).trans c2
      have d3 := (hu.cell g _ hg id).trans c3
      clear c0 c1 c2 c3
      have LK := link_at (wr.alloc (.cells #[encStr xb, encStr xs, .int .i64 xc, .int .i64 xr] 75)) xb xs tb ts xc xr htb hts
      have hE2 : lkCells ((l.take (k + 1)).map Lk.cut) = lkCells ((l.take k).map Lk.cut) ++ [encStr tb, encStr ts, .int .i64 xc, .int .i64 xr] := by
        rw [hE, lkCells_app]
        simp [lkCells, Lk.cells, Lk.cut, htb, hts]
      have HE2 := hide hE2
      have HU := hide hu
      have HA := hide ra
      have HB := hide rb
      have hk0 : (0 : Int) ≤ (k : Int) := by omega
      have hk1 : (k : Int) < (N : Int) := by omega
      clear hE hE2 htb hts hu ra rb hx
      go_wp2_with fail
      refine Calls.mono LK ?_
      rintro e w2 ⟨rfl, u2⟩
      go_wp2_with fail
      obtain ⟨W, hW⟩ : ∃ W, (w2.alloc (.cells #[encStr tb, encStr ts, .int .i64 xc, .int .i64 xr] 40)).alloc (.cells #[encStr tb, encStr ts, .int .i64 xc, .int .i64 xr] 73) = W := ⟨_, rfl⟩
      obtain ⟨pA, hpA⟩ : ∃ p, w2.heap.size = p := ⟨_, rfl⟩
      have UW0 : Upd wr W (fun _ => False) := hW ▸ ((((Upd.refl wr _).alloc _).then u2 (fun _ _ => id)).alloc _).alloc _
      have hbA : W.heap[pA]? = some (.cells #[encStr tb, encStr ts, .int .i64 xc, .int .i64 xr] 40 (0, 0)) := by rw [← hW, ← hpA]; exact block_alloc (new1 _ _) _
      have hbB : W.heap[pA + 1]? = some (.cells #[encStr tb, encStr ts, .int .i64 xc, .int .i64 xr] 73 (0, 0)) := by rw [← hW, ← hpA]; exact new2 _ _ _
      have UD : Upd w W.drew (fun _ => False) := (HU.out.then UW0 (fun _ _ => id)).drew
      have HA0 : Rw W.drew 40 4 u4 k (lkCells ((l.take k).map Lk.cut)) := UW0.rw HA.out (fun _ _ => id)
      have HB0 : Rw W.drew 73 4 u5 k (lkCells ((l.take k).map Lk.cut)) := UW0.rw HB.out (fun _ _ => id)
      have hpw : wr.heap.size ≤ pA := by have := u2.size; simp at this; omega
      have naA : u4.ownBlock ≠ some pA := fun e => by have := HA.out.lt _ e; omega
      have naB : u4.ownBlock ≠ some (pA + 1) := fun e => by have := HA.out.lt _ e; omega
      have nbA : u5.ownBlock ≠ some pA := fun e => by have := HB.out.lt _ e; omega
      have nbB : u5.ownBlock ≠ some (pA + 1) := fun e => by have := HB.out.lt _ e; omega
      have hne : 40 ≠ 73 := by decide
      have RX1 : Rw (W.drew.alloc (.cells #[encStr tb, encStr ts, .int .i64 xc, .int .i64 xr] 40)) 40 4 (.slice (some ⟨W.heap.size, 0, none⟩) 1 1) 1 [encStr tb, encStr ts, .int .i64 xc, .int .i64 xr] := Rw.made W.drew _ _ _ 1 rfl
      have RY1 : Rw (W.drew.alloc (.cells #[encStr tb, encStr ts, .int .i64 xc, .int .i64 xr] 73)) 73 4 (.slice (some ⟨W.heap.size, 0, none⟩) 1 1) 1 [encStr tb, encStr ts, .int .i64 xc, .int .i64 xr] := Rw.made W.drew _ _ _ 1 rfl
      have RX2 : Rw ((W.drew.alloc (.cells #[encStr tb, encStr ts, .int .i64 xc, .int .i64 xr] 73)).alloc (.cells #[encStr tb, encStr ts, .int .i64 xc, .int .i64 xr] 40)) 40 4 (.slice (some ⟨W.heap.size + 1, 0, none⟩) 1 1) 1 [encStr tb, encStr ts, .int .i64 xc, .int .i64 xr] := made2 W _ _ _ _ 1 rfl
      have RY2 : Rw ((W.drew.alloc (.cells #[encStr tb, encStr ts, .int .i64 xc, .int .i64 xr] 40)).alloc (.cells #[encStr tb, encStr ts, .int .i64 xc, .int .i64 xr] 73)) 73 4 (.slice (some ⟨W.heap.size + 1, 0, none⟩) 1 1) 1 [encStr tb, encStr ts, .int .i64 xc, .int .i64 xr] := made2 W _ _ _ _ 1 rfl
      rw [hW, hpA]
      obtain ⟨x0, x1, x2, x3⟩ := cells4 hbA
      obtain ⟨y0, y1, y2, y3⟩ := cells4 hbB
      clear hW hpA u2 UW0 d0 d1 d2 d3 HR LK
      go_region_held3 (fun w' => w'.cell? ⟨pA, 0, none⟩ = some (encStr tb) ∧ w'.cell? ⟨pA, 1, none⟩ = some (encStr ts) ∧ w'.cell? ⟨pA, 2, none⟩ = some (.int .i64 xc) ∧ w'.cell? ⟨pA, 3, none⟩ = some (.int .i64 xr) ∧ w'.cell? ⟨pA + 1, 0, none⟩ = some (encStr tb) ∧ w'.cell? ⟨pA + 1, 1, none⟩ = some (encStr ts) ∧ w'.cell? ⟨pA + 1, 2, none⟩ = some (.int .i64 xc) ∧ w'.cell? ⟨pA + 1, 3, none⟩ = some (.int .i64 xr))
        (first | go_keep | (go_split_ands; first | exact ⟨hga.cell (by assumption) (Ne.symm naA), hga.cell (by assumption) (Ne.symm naA), hga.cell (by assumption) (Ne.symm naA), hga.cell (by assumption) (Ne.symm naA), hga.cell (by assumption) (Ne.symm naB), hga.cell (by assumption) (Ne.symm naB), hga.cell (by assumption) (Ne.symm naB), hga.cell (by assumption) (Ne.symm naB)⟩ | exact ⟨hgb.cell (by assumption) (Ne.symm nbA), hgb.cell (by assumption) (Ne.symm nbA), hgb.cell (by assumption) (Ne.symm nbA), hgb.cell (by assumption) (Ne.symm nbA), hgb.cell (by assumption) (Ne.symm nbB), hgb.cell (by assumption) (Ne.symm nbB), hgb.cell (by assumption) (Ne.symm nbB), hgb.cell (by assumption) (Ne.symm nbB)⟩))
        (first
          | (refine step_append_rw _ (by rfl) _ _ 36 36 (by rfl) 40 _ i1 _ 4 48 Try.underlying36 Try.underlying36 (by simp) hi1 hz1a hz1b hz1c rfl _ k (lkCells ((l.take k).map Lk.cut)) (by rfl) (HA0.alloc _) _ 1 [encStr tb, encStr ts, .int .i64 xc, .int .i64 xr] (by rfl) (Rw.src RX1) rfl (by simp [Value.oneCell']) (by omega) (by omega) ?_; intro ga gca wa hva hga hoa; have oga := own_ge oa hoa (UD.alloc _); have ua := Upd.grown (UD.alloc _) hga (fun j hj => .inl (oa j hj)); have pa := Rw.past (HB0.alloc _) (HA0.alloc _) (Ne.symm hne) hga)
          | (refine step_append_rw _ (by rfl) _ _ 36 36 (by rfl) 40 _ i1 _ 4 48 Try.underlying36 Try.underlying36 (by simp) hi1 hz1a hz1b hz1c rfl _ k (lkCells ((l.take k).map Lk.cut)) (by rfl) ((HA0.alloc _).alloc _) _ 1 [encStr tb, encStr ts, .int .i64 xc, .int .i64 xr] (by rfl) (Rw.src (RX1.alloc _)) rfl (by simp [Value.oneCell']) (by omega) (by omega) ?_; intro ga gca wa hva hga hoa; have oga := own_ge oa hoa ((UD.alloc _).alloc _); have ua := Upd.grown ((UD.alloc _).alloc _) hga (fun j hj => .inl (oa j hj)); have pa := Rw.past ((HB0.alloc _).alloc _) ((HA0.alloc _).alloc _) (Ne.symm hne) hga; have qa := Rw.past RY2 ((HA0.alloc _).alloc _) (Ne.symm hne) hga)
          | (refine step_append_rw _ (by rfl) _ _ 36 36 (by rfl) 40 _ i1 _ 4 48 Try.underlying36 Try.underlying36 (by simp) hi1 hz1a hz1b hz1c rfl _ k (lkCells ((l.take k).map Lk.cut)) (by rfl) ((HA0.alloc _).alloc _) _ 1 [encStr tb, encStr ts, .int .i64 xc, .int .i64 xr] (by rfl) (Rw.src RX2) rfl (by simp [Value.oneCell']) (by omega) (by omega) ?_; intro ga gca wa hva hga hoa; have oga := own_ge oa hoa ((UD.alloc _).alloc _); have ua := Upd.grown ((UD.alloc _).alloc _) hga (fun j hj => .inl (oa j hj)); have pa := Rw.past ((HB0.alloc _).alloc _) ((HA0.alloc _).alloc _) (Ne.symm hne) hga; have qa := Rw.past (RY1.alloc _) ((HA0.alloc _).alloc _) (Ne.symm hne) hga)
          | (refine step_append_rw _ (by rfl) _ _ 36 36 (by rfl) 40 _ i1 _ 4 48 Try.underlying36 Try.underlying36 (by simp) hi1 hz1a hz1b hz1c rfl _ k (lkCells ((l.take k).map Lk.cut)) (by rfl) pb _ 1 [encStr tb, encStr ts, .int .i64 xc, .int .i64 xr] (by rfl) (Rw.src qb) rfl (by simp [Value.oneCell']) (by omega) (by omega) ?_; intro ga gca wa hva hga hoa; have oga := own_ge oa hoa ub; have ua := Upd.grown ub hga (fun j hj => .inl (oa j hj)); have pa := Rw.past hvb pb (Ne.symm hne) hga)
          | (refine step_append_rw _ (by rfl) _ _ 36 36 (by rfl) 40 _ i1 _ 4 48 Try.underlying36 Try.underlying36 (by simp) hi1 hz1a hz1b hz1c rfl _ k (lkCells ((l.take k).map Lk.cut)) (by rfl) (pb.alloc _) _ 1 [encStr tb, encStr ts, .int .i64 xc, .int .i64 xr] (by rfl) (Rw.src (Rw.made wb _ _ _ 1 rfl)) rfl (by simp [Value.oneCell']) (by omega) (by omega) ?_; intro ga gca wa hva hga hoa; have oga := own_ge oa hoa (ub.alloc _); have ua := Upd.grown (ub.alloc _) hga (fun j hj => .inl (oa j hj)); have pa := Rw.past (hvb.alloc _) (pb.alloc _) (Ne.symm hne) hga)
          | (refine step_append_rw _ (by rfl) _ _ 66 66 (by rfl) 73 _ i2 _ 4 48 Try.underlying66 Try.underlying66 (by simp) hi2 hz2a hz2b hz2c rfl _ k (lkCells ((l.take k).map Lk.cut)) (by rfl) (HB0.alloc _) _ 1 [encStr tb, encStr ts, .int .i64 xc, .int .i64 xr] (by rfl) (Rw.src RY1) rfl (by simp [Value.oneCell']) (by omega) (by omega) ?_; intro gb gcb wb hvb hgb hob; have ogb := own_ge ob hob (UD.alloc _); have ub := Upd.grown (UD.alloc _) hgb (fun j hj => .inl (ob j hj)); have pb := Rw.past (HA0.alloc _) (HB0.alloc _) hne hgb)
          | (refine step_append_rw _ (by rfl) _ _ 66 66 (by rfl) 73 _ i2 _ 4 48 Try.underlying66 Try.underlying66 (by simp) hi2 hz2a hz2b hz2c rfl _ k (lkCells ((l.take k).map Lk.cut)) (by rfl) ((HB0.alloc _).alloc _) _ 1 [encStr tb, encStr ts, .int .i64 xc, .int .i64 xr] (by rfl) (Rw.src (RY1.alloc _)) rfl (by simp [Value.oneCell']) (by omega) (by omega) ?_; intro gb gcb wb hvb hgb hob; have ogb := own_ge ob hob ((UD.alloc _).alloc _); have ub := Upd.grown ((UD.alloc _).alloc _) hgb (fun j hj => .inl (ob j hj)); have pb := Rw.past ((HA0.alloc _).alloc _) ((HB0.alloc _).alloc _) hne hgb; have qb := Rw.past RX2 ((HB0.alloc _).alloc _) hne hgb)
          | (refine step_append_rw _ (by rfl) _ _ 66 66 (by rfl) 73 _ i2 _ 4 48 Try.underlying66 Try.underlying66 (by simp) hi2 hz2a hz2b hz2c rfl _ k (lkCells ((l.take k).map Lk.cut)) (by rfl) ((HB0.alloc _).alloc _) _ 1 [encStr tb, encStr ts, .int .i64 xc, .int .i64 xr] (by rfl) (Rw.src RY2) rfl (by simp [Value.oneCell']) (by omega) (by omega) ?_; intro gb gcb wb hvb hgb hob; have ogb := own_ge ob hob ((UD.alloc _).alloc _); have ub := Upd.grown ((UD.alloc _).alloc _) hgb (fun j hj => .inl (ob j hj)); have pb := Rw.past ((HA0.alloc _).alloc _) ((HB0.alloc _).alloc _) hne hgb; have qb := Rw.past (RX1.alloc _) ((HB0.alloc _).alloc _) hne hgb)
          | (refine step_append_rw _ (by rfl) _ _ 66 66 (by rfl) 73 _ i2 _ 4 48 Try.underlying66 Try.underlying66 (by simp) hi2 hz2a hz2b hz2c rfl _ k (lkCells ((l.take k).map Lk.cut)) (by rfl) pa _ 1 [encStr tb, encStr ts, .int .i64 xc, .int .i64 xr] (by rfl) (Rw.src qa) rfl (by simp [Value.oneCell']) (by omega) (by omega) ?_; intro gb gcb wb hvb hgb hob; have ogb := own_ge ob hob ua; have ub := Upd.grown ua hgb (fun j hj => .inl (ob j hj)); have pb := Rw.past hva pa hne hgb)
          | (refine step_append_rw _ (by rfl) _ _ 66 66 (by rfl) 73 _ i2 _ 4 48 Try.underlying66 Try.underlying66 (by simp) hi2 hz2a hz2b hz2c rfl _ k (lkCells ((l.take k).map Lk.cut)) (by rfl) (pa.alloc _) _ 1 [encStr tb, encStr ts, .int .i64 xc, .int .i64 xr] (by rfl) (Rw.src (Rw.made wa _ _ _ 1 rfl)) rfl (by simp [Value.oneCell']) (by omega) (by omega) ?_; intro gb gcb wb hvb hgb hob; have ogb := own_ge ob hob (ua.alloc _); have ub := Upd.grown (ua.alloc _) hgb (fun j hj => .inl (ob j hj)); have pb := Rw.past (hva.alloc _) (pa.alloc _) hne hgb))
      all_goals go_wp2_with fail
      all_goals go_roundg (gk - 1)
      case' measure => omega
      all_goals (first
        | exact ⟨k + 1, by omega, by go_num, by rw [HE2.out]; exact hva, by rw [HE2.out]; exact pa, oga, ogb, ua⟩
        | exact ⟨k + 1, by omega, by go_num, by rw [HE2.out]; exact pb, by rw [HE2.out]; exact hvb, oga, ogb, ub⟩
        | omega)
    · go_wp2_with fail
      go_ret2
      have e0 : k = N := by omega
      subst e0
      have e1 : cuts l = (l.take k).map Lk.cut := by
        unfold cuts
        congr 1
        rw [← HN.out, ← HL.out]
        rw [List.take_eq_take_iff]
        omega
      have e2 : (cuts l).length = k := by rw [e1]; simp; rw [HL.out]; have := HN.out; omega
      exact ⟨_, _, rfl, by rw [LksAt, e2, e1]; exact ra, by rw [PlsAt, e2, e1]; exact rb, oa, ob, hu⟩
end Go.Proofs.Ytcdimledeomahaa
