/- The walks of the law's links, sameLinks, same. -/
import Derived.Test.YtcclkfkdafmemaaCrK
import Derived.Test.YtcclkfkdafmemaaCaArg
set_option maxRecDepth 100000
namespace Go.Lat
/-- Slices of different types share no block. -/
theorem Rw.apart {w : World} {e e2 size size2 : Nat} {v v2 : Value} {n n2 : Nat} {xs ys : List Value} (h : Rw w e size v n xs) (h2 : Rw w e2 size2 v2 n2 ys) (hne : e ≠ e2) : v.ownBlock = none ∨ v.ownBlock ≠ v2.ownBlock := by
  rcases h.2 with ⟨rfl, _⟩ | ⟨g, off, cap, cur, rfl, hg, _⟩
  · exact .inl rfl
  · rcases h2.2 with ⟨rfl, _⟩ | ⟨g2, off2, cap2, cur2, rfl, hg2, _⟩
    · exact .inr (by simp [Value.ownBlock])
    · refine .inr fun he => ?_
      have e1 : g = g2 := by simpa [Value.ownBlock] using he
      subst e1
      rw [hg] at hg2
      cases hg2
      exact hne rfl
theorem Rw.past {w w' : World} {e e2 size size2 : Nat} {v v2 : Value} {n n2 : Nat} {xs ys : List Value} (h : Rw w e size v n xs) (h2 : Rw w e2 size2 v2 n2 ys) (hne : e ≠ e2) (hg : w.grownBy w' v2.ownBlock) : Rw w' e size v n xs :=
  h.grown hg (h.apart h2 hne)
theorem own_ge {w W : World} {S : Nat → Prop} {v v' : Value} (h : ∀ j, v.ownBlock = some j → w.heap.size ≤ j) (h2 : v'.ownBlock = v.ownBlock ∨ v'.ownBlock = some W.heap.size) (u : Upd w W S) : ∀ j, v'.ownBlock = some j → w.heap.size ≤ j := by
  intro j hj
  rcases h2 with e | e
  · exact h j (e.symm.trans hj)
  · have := Option.some.inj (e.symm.trans hj)
    have := u.size
    omega
theorem made2 (W : World) (Y : Obj) (cur : Array Value) (e size n' : Nat) (hs : cur.size = n' * size) : Rw ((W.drew.alloc Y).alloc (.cells cur e)) e size (.slice (some ⟨W.heap.size + 1, 0, none⟩) n' n') n' cur.toList := by
  have h := Rw.made (W.drew.alloc Y) cur e size n' hs
  have e1 : (W.drew.alloc Y).heap.size = W.heap.size + 1 := by
    show (W.heap.push Y).size = _
    simp
  rw [e1] at h
  exact h
end Go.Lat
namespace Go.Proofs.Ytcclkfkdafmemaa
open Go.RowKit Go.Lat

theorem Try.info30 : (Try.prog.info? 30).map (fun i => (i.zero, i.size, i.bytes)) = some (some (.agg #[.string ⟨#[]⟩, .string ⟨#[]⟩, .int .i64 0, .int .i64 0]), 4, 48) := by kernel_rfl
def cuts (l : List Lk) : List Lk := (l.take 20).map Lk.cut
set_option maxHeartbeats 3200000 in
theorem links_any (w : World) (v : Value) (l : List Lk) (h : PlArg w v l) :
    Calls Try.prog 23 #[v] w fun e w' => ∃ v1 v2, e = .returned (.tuple #[v1, v2]) ∧ Rw w' 30 4 v1 (cuts l).length (lkCells (cuts l)) ∧ Rw w' 31 4 v2 (cuts l).length (lkCells (cuts l)) ∧ (∀ k, v1.ownBlock = some k → w.heap.size ≤ k) ∧ (∀ k, v2.ownBlock = some k → w.heap.size ≤ k) ∧ Upd w w' (fun _ => False) := by
  obtain ⟨a, cap, rfl, hlc, hcm, hnil, hrow⟩ := h
  obtain ⟨i1, hi1, hz1a, hz1b, hz1c⟩ := info_parts Try.info30
  obtain ⟨i2, hi2, hz2a, hz2b, hz2c⟩ := info_parts Try.info31
  obtain ⟨L, hL⟩ : ∃ L, l.length = L := ⟨_, rfl⟩
  rw [hL] at hlc ⊢
  obtain ⟨N, hN⟩ : ∃ N, min L 20 = N := ⟨_, rfl⟩
  have hN2 : (min (L : Int) 20) = (N : Int) := by omega
  have n0 : (0 : Int) ≤ (N : Int) := by omega
  have n20 : N ≤ 20 := by omega
  have n1 : (N : Int) ≤ (cap : Int) := by omega
  have HL := hide hL
  have HN := hide hN
  have HR := hide hrow
  clear hL hN hrow
  go_enter Try.func23, Try.ntmps23
  go_wp2_with fail
  go_loopg [4, 5, 16] N (fun q va vb iv wr => ∃ k : Nat, k + q = N ∧ iv = .int .i64 k ∧ Rw wr 30 4 va k (lkCells ((l.take k).map Lk.cut)) ∧ Rw wr 31 4 vb k (lkCells ((l.take k).map Lk.cut)) ∧ (∀ j, va.ownBlock = some j → w.heap.size ≤ j) ∧ (∀ j, vb.ownBlock = some j → w.heap.size ≤ j) ∧ Upd w wr (fun _ => False))
  case atStart => exact ⟨0, by omega, rfl, Rw.nil _ _ _, Rw.nil _ _ _, by simp [Value.ownBlock], by simp [Value.ownBlock], Upd.refl _ _⟩
  case round =>
    obtain ⟨k, hk, rfl, ra, rb, oa, ob, hu⟩ := hrel
    by_cases hkN : k < N
    · obtain ⟨x, hx⟩ : ∃ x, l[k]? = some x := ⟨_, List.getElem?_eq_getElem (by rw [HL.out]; have := HN.out; omega)⟩
      obtain ⟨g, off, rfl, hg, c0, c1, c2, c3, -⟩ := HR.out k x hx
      have hE : (l.take (k + 1)).map Lk.cut = (l.take k).map Lk.cut ++ [x.cut] := by rw [List.take_add_one, hx]; simp
      obtain ⟨xb, xs, xc, xr⟩ := x
      simp only at c0 c1 c2 c3
      obtain ⟨tb, htb⟩ : ∃ t, xb.take 20 = t := ⟨_, rfl⟩
      obtain ⟨ts, hts⟩ : ∃ t, xs.take 20 = t := ⟨_, rfl⟩
      have d0 := (hu.cell g _ hg id).trans c0
      have d1 := (hu.cell g _ hg id).trans c1
      have d2 := (hu.cell g _ hg id).trans c2
      have d3 := (hu.cell g _ hg id).trans c3
      clear c0 c1 c2 c3
      have LK := link_at (wr.alloc (.cells #[enS xb, enS xs, .int .i64 xc, .int .i64 xr] 23)) xb xs tb ts xc xr htb hts
      have hE2 : lkCells ((l.take (k + 1)).map Lk.cut) = lkCells ((l.take k).map Lk.cut) ++ [enS tb, enS ts, .int .i64 xc, .int .i64 xr] := by
        rw [hE, lkCells_app]
        simp [lkCells, lkEnc, Lk.cut, htb, hts]
      have HE2 := hide hE2
      have HU := hide hu
      have HA := hide ra
      have HB := hide rb
      have hk0 : (0 : Int) ≤ (k : Int) := by omega
      have hk1 : (k : Int) < (N : Int) := by omega
      clear hE hE2 htb hts hu ra rb hx
      go_wp2_with fail
      refine Calls.mono LK ?_
      rintro e w2 ⟨rfl, u2⟩
      go_wp2_with fail
      obtain ⟨W, hW⟩ : ∃ W, (w2.alloc (.cells #[enS tb, enS ts, .int .i64 xc, .int .i64 xr] 30)).alloc (.cells #[enS tb, enS ts, .int .i64 xc, .int .i64 xr] 31) = W := ⟨_, rfl⟩
      obtain ⟨pA, hpA⟩ : ∃ p, w2.heap.size = p := ⟨_, rfl⟩
      have UW0 : Upd wr W (fun _ => False) := hW ▸ ((((Upd.refl wr _).alloc _).then u2 (fun _ _ => id)).alloc _).alloc _
      have hbA : W.heap[pA]? = some (.cells #[enS tb, enS ts, .int .i64 xc, .int .i64 xr] 30 (0, 0)) := by rw [← hW, ← hpA]; exact block_alloc (new1 _ _) _
      have hbB : W.heap[pA + 1]? = some (.cells #[enS tb, enS ts, .int .i64 xc, .int .i64 xr] 31 (0, 0)) := by rw [← hW, ← hpA]; exact new2 _ _ _
      have UD : Upd w W.drew (fun _ => False) := (HU.out.then UW0 (fun _ _ => id)).drew
      have HA0 : Rw W.drew 30 4 u4 k (lkCells ((l.take k).map Lk.cut)) := UW0.rw HA.out (fun _ _ => id)
      have HB0 : Rw W.drew 31 4 u5 k (lkCells ((l.take k).map Lk.cut)) := UW0.rw HB.out (fun _ _ => id)
      have hpw : wr.heap.size ≤ pA := by have := u2.size; simp at this; omega
      have naA : u4.ownBlock ≠ some pA := fun e => by have := HA.out.lt _ e; omega
      have naB : u4.ownBlock ≠ some (pA + 1) := fun e => by have := HA.out.lt _ e; omega
      have nbA : u5.ownBlock ≠ some pA := fun e => by have := HB.out.lt _ e; omega
      have nbB : u5.ownBlock ≠ some (pA + 1) := fun e => by have := HB.out.lt _ e; omega
      have hne : 30 ≠ 31 := by decide
      have RX1 : Rw (W.drew.alloc (.cells #[enS tb, enS ts, .int .i64 xc, .int .i64 xr] 30)) 30 4 (.slice (some ⟨W.heap.size, 0, none⟩) 1 1) 1 [enS tb, enS ts, .int .i64 xc, .int .i64 xr] := Rw.made W.drew _ _ _ 1 rfl
      have RY1 : Rw (W.drew.alloc (.cells #[enS tb, enS ts, .int .i64 xc, .int .i64 xr] 31)) 31 4 (.slice (some ⟨W.heap.size, 0, none⟩) 1 1) 1 [enS tb, enS ts, .int .i64 xc, .int .i64 xr] := Rw.made W.drew _ _ _ 1 rfl
      have RX2 : Rw ((W.drew.alloc (.cells #[enS tb, enS ts, .int .i64 xc, .int .i64 xr] 31)).alloc (.cells #[enS tb, enS ts, .int .i64 xc, .int .i64 xr] 30)) 30 4 (.slice (some ⟨W.heap.size + 1, 0, none⟩) 1 1) 1 [enS tb, enS ts, .int .i64 xc, .int .i64 xr] := made2 W _ _ _ _ 1 rfl
      have RY2 : Rw ((W.drew.alloc (.cells #[enS tb, enS ts, .int .i64 xc, .int .i64 xr] 30)).alloc (.cells #[enS tb, enS ts, .int .i64 xc, .int .i64 xr] 31)) 31 4 (.slice (some ⟨W.heap.size + 1, 0, none⟩) 1 1) 1 [enS tb, enS ts, .int .i64 xc, .int .i64 xr] := made2 W _ _ _ _ 1 rfl
      rw [hW, hpA]
      obtain ⟨x0, x1, x2, x3⟩ := cells4 hbA
      obtain ⟨y0, y1, y2, y3⟩ := cells4 hbB
      clear hW hpA u2 UW0 d0 d1 d2 d3 HR LK
      go_region_held3 (fun w' => w'.cell? ⟨pA, 0, none⟩ = some (enS tb) ∧ w'.cell? ⟨pA, 1, none⟩ = some (enS ts) ∧ w'.cell? ⟨pA, 2, none⟩ = some (.int .i64 xc) ∧ w'.cell? ⟨pA, 3, none⟩ = some (.int .i64 xr) ∧ w'.cell? ⟨pA + 1, 0, none⟩ = some (enS tb) ∧ w'.cell? ⟨pA + 1, 1, none⟩ = some (enS ts) ∧ w'.cell? ⟨pA + 1, 2, none⟩ = some (.int .i64 xc) ∧ w'.cell? ⟨pA + 1, 3, none⟩ = some (.int .i64 xr))
        (first | go_keep | (go_split_ands; first | exact ⟨hga.cell (by assumption) (Ne.symm naA), hga.cell (by assumption) (Ne.symm naA), hga.cell (by assumption) (Ne.symm naA), hga.cell (by assumption) (Ne.symm naA), hga.cell (by assumption) (Ne.symm naB), hga.cell (by assumption) (Ne.symm naB), hga.cell (by assumption) (Ne.symm naB), hga.cell (by assumption) (Ne.symm naB)⟩ | exact ⟨hgb.cell (by assumption) (Ne.symm nbA), hgb.cell (by assumption) (Ne.symm nbA), hgb.cell (by assumption) (Ne.symm nbA), hgb.cell (by assumption) (Ne.symm nbA), hgb.cell (by assumption) (Ne.symm nbB), hgb.cell (by assumption) (Ne.symm nbB), hgb.cell (by assumption) (Ne.symm nbB), hgb.cell (by assumption) (Ne.symm nbB)⟩))
        (first
          | (refine step_append_rw _ (by rfl) _ _ 34 34 (by rfl) 30 _ i1 _ 4 48 Try.underlying34 Try.underlying34 (by simp) hi1 hz1a hz1b hz1c rfl _ k (lkCells ((l.take k).map Lk.cut)) (by rfl) (HA0.alloc _) _ 1 [enS tb, enS ts, .int .i64 xc, .int .i64 xr] (by rfl) (Rw.src RX1) rfl (by simp [Value.oneCell']) (by omega) (by omega) ?_; intro ga gca wa hva hga hoa; have oga := own_ge oa hoa (UD.alloc _); have ua := Upd.grown (UD.alloc _) hga (fun j hj => .inl (oa j hj)); have pa := Rw.past (HB0.alloc _) (HA0.alloc _) (Ne.symm hne) hga)
          | (refine step_append_rw _ (by rfl) _ _ 34 34 (by rfl) 30 _ i1 _ 4 48 Try.underlying34 Try.underlying34 (by simp) hi1 hz1a hz1b hz1c rfl _ k (lkCells ((l.take k).map Lk.cut)) (by rfl) ((HA0.alloc _).alloc _) _ 1 [enS tb, enS ts, .int .i64 xc, .int .i64 xr] (by rfl) (Rw.src (RX1.alloc _)) rfl (by simp [Value.oneCell']) (by omega) (by omega) ?_; intro ga gca wa hva hga hoa; have oga := own_ge oa hoa ((UD.alloc _).alloc _); have ua := Upd.grown ((UD.alloc _).alloc _) hga (fun j hj => .inl (oa j hj)); have pa := Rw.past ((HB0.alloc _).alloc _) ((HA0.alloc _).alloc _) (Ne.symm hne) hga; have qa := Rw.past RY2 ((HA0.alloc _).alloc _) (Ne.symm hne) hga)
          | (refine step_append_rw _ (by rfl) _ _ 34 34 (by rfl) 30 _ i1 _ 4 48 Try.underlying34 Try.underlying34 (by simp) hi1 hz1a hz1b hz1c rfl _ k (lkCells ((l.take k).map Lk.cut)) (by rfl) ((HA0.alloc _).alloc _) _ 1 [enS tb, enS ts, .int .i64 xc, .int .i64 xr] (by rfl) (Rw.src RX2) rfl (by simp [Value.oneCell']) (by omega) (by omega) ?_; intro ga gca wa hva hga hoa; have oga := own_ge oa hoa ((UD.alloc _).alloc _); have ua := Upd.grown ((UD.alloc _).alloc _) hga (fun j hj => .inl (oa j hj)); have pa := Rw.past ((HB0.alloc _).alloc _) ((HA0.alloc _).alloc _) (Ne.symm hne) hga; have qa := Rw.past (RY1.alloc _) ((HA0.alloc _).alloc _) (Ne.symm hne) hga)
          | (refine step_append_rw _ (by rfl) _ _ 34 34 (by rfl) 30 _ i1 _ 4 48 Try.underlying34 Try.underlying34 (by simp) hi1 hz1a hz1b hz1c rfl _ k (lkCells ((l.take k).map Lk.cut)) (by rfl) pb _ 1 [enS tb, enS ts, .int .i64 xc, .int .i64 xr] (by rfl) (Rw.src qb) rfl (by simp [Value.oneCell']) (by omega) (by omega) ?_; intro ga gca wa hva hga hoa; have oga := own_ge oa hoa ub; have ua := Upd.grown ub hga (fun j hj => .inl (oa j hj)); have pa := Rw.past hvb pb (Ne.symm hne) hga)
          | (refine step_append_rw _ (by rfl) _ _ 34 34 (by rfl) 30 _ i1 _ 4 48 Try.underlying34 Try.underlying34 (by simp) hi1 hz1a hz1b hz1c rfl _ k (lkCells ((l.take k).map Lk.cut)) (by rfl) (pb.alloc _) _ 1 [enS tb, enS ts, .int .i64 xc, .int .i64 xr] (by rfl) (Rw.src (Rw.made wb _ _ _ 1 rfl)) rfl (by simp [Value.oneCell']) (by omega) (by omega) ?_; intro ga gca wa hva hga hoa; have oga := own_ge oa hoa (ub.alloc _); have ua := Upd.grown (ub.alloc _) hga (fun j hj => .inl (oa j hj)); have pa := Rw.past (hvb.alloc _) (pb.alloc _) (Ne.symm hne) hga)
          | (refine step_append_rw _ (by rfl) _ _ 60 60 (by rfl) 31 _ i2 _ 4 48 Try.underlying60 Try.underlying60 (by simp) hi2 hz2a hz2b hz2c rfl _ k (lkCells ((l.take k).map Lk.cut)) (by rfl) (HB0.alloc _) _ 1 [enS tb, enS ts, .int .i64 xc, .int .i64 xr] (by rfl) (Rw.src RY1) rfl (by simp [Value.oneCell']) (by omega) (by omega) ?_; intro gb gcb wb hvb hgb hob; have ogb := own_ge ob hob (UD.alloc _); have ub := Upd.grown (UD.alloc _) hgb (fun j hj => .inl (ob j hj)); have pb := Rw.past (HA0.alloc _) (HB0.alloc _) hne hgb)
          | (refine step_append_rw _ (by rfl) _ _ 60 60 (by rfl) 31 _ i2 _ 4 48 Try.underlying60 Try.underlying60 (by simp) hi2 hz2a hz2b hz2c rfl _ k (lkCells ((l.take k).map Lk.cut)) (by rfl) ((HB0.alloc _).alloc _) _ 1 [enS tb, enS ts, .int .i64 xc, .int .i64 xr] (by rfl) (Rw.src (RY1.alloc _)) rfl (by simp [Value.oneCell']) (by omega) (by omega) ?_; intro gb gcb wb hvb hgb hob; have ogb := own_ge ob hob ((UD.alloc _).alloc _); have ub := Upd.grown ((UD.alloc _).alloc _) hgb (fun j hj => .inl (ob j hj)); have pb := Rw.past ((HA0.alloc _).alloc _) ((HB0.alloc _).alloc _) hne hgb; have qb := Rw.past RX2 ((HB0.alloc _).alloc _) hne hgb)
          | (refine step_append_rw _ (by rfl) _ _ 60 60 (by rfl) 31 _ i2 _ 4 48 Try.underlying60 Try.underlying60 (by simp) hi2 hz2a hz2b hz2c rfl _ k (lkCells ((l.take k).map Lk.cut)) (by rfl) ((HB0.alloc _).alloc _) _ 1 [enS tb, enS ts, .int .i64 xc, .int .i64 xr] (by rfl) (Rw.src RY2) rfl (by simp [Value.oneCell']) (by omega) (by omega) ?_; intro gb gcb wb hvb hgb hob; have ogb := own_ge ob hob ((UD.alloc _).alloc _); have ub := Upd.grown ((UD.alloc _).alloc _) hgb (fun j hj => .inl (ob j hj)); have pb := Rw.past ((HA0.alloc _).alloc _) ((HB0.alloc _).alloc _) hne hgb; have qb := Rw.past (RX1.alloc _) ((HB0.alloc _).alloc _) hne hgb)
          | (refine step_append_rw _ (by rfl) _ _ 60 60 (by rfl) 31 _ i2 _ 4 48 Try.underlying60 Try.underlying60 (by simp) hi2 hz2a hz2b hz2c rfl _ k (lkCells ((l.take k).map Lk.cut)) (by rfl) pa _ 1 [enS tb, enS ts, .int .i64 xc, .int .i64 xr] (by rfl) (Rw.src qa) rfl (by simp [Value.oneCell']) (by omega) (by omega) ?_; intro gb gcb wb hvb hgb hob; have ogb := own_ge ob hob ua; have ub := Upd.grown ua hgb (fun j hj => .inl (ob j hj)); have pb := Rw.past hva pa hne hgb)
          | (refine step_append_rw _ (by rfl) _ _ 60 60 (by rfl) 31 _ i2 _ 4 48 Try.underlying60 Try.underlying60 (by simp) hi2 hz2a hz2b hz2c rfl _ k (lkCells ((l.take k).map Lk.cut)) (by rfl) (pa.alloc _) _ 1 [enS tb, enS ts, .int .i64 xc, .int .i64 xr] (by rfl) (Rw.src (Rw.made wa _ _ _ 1 rfl)) rfl (by simp [Value.oneCell']) (by omega) (by omega) ?_; intro gb gcb wb hvb hgb hob; have ogb := own_ge ob hob (ua.alloc _); have ub := Upd.grown (ua.alloc _) hgb (fun j hj => .inl (ob j hj)); have pb := Rw.past (hva.alloc _) (pa.alloc _) hne hgb))
      all_goals go_wp2_with fail
      all_goals go_roundg (gk - 1)
      case' measure => omega
      all_goals (first
        | exact ⟨k + 1, by omega, by go_num, by rw [HE2.out]; exact hva, by rw [HE2.out]; exact pa, oga, ogb, ua⟩
        | exact ⟨k + 1, by omega, by go_num, by rw [HE2.out]; exact pb, by rw [HE2.out]; exact hvb, oga, ogb, ub⟩
        | omega)
    · go_wp2_with fail
      go_ret2
      have e0 : k = N := by omega
      subst e0
      have e1 : cuts l = (l.take k).map Lk.cut := by
        unfold cuts
        congr 1
        rw [← HN.out, ← HL.out]
        rw [List.take_eq_take_iff]
        omega
      have e2 : (cuts l).length = k := by rw [e1]; simp; rw [HL.out]; have := HN.out; omega
      exact ⟨_, _, rfl, by rw [e2, e1]; exact ra, by rw [e2, e1]; exact rb, oa, ob, hu⟩
set_option maxHeartbeats 1600000 in
theorem sameLinks_true (w : World) (va vb : Value) (l : List Lk) (ha : Rw w 30 4 va l.length (lkCells l)) (hb : Rw w 31 4 vb l.length (lkCells l)) (hl : l.length ≤ 1000000) :
    Calls Try.prog 17 #[va, vb] w fun e w' => e = .returned (.bool true) ∧ Upd w w' (fun _ => False) := by
  obtain ⟨aa, ac, rfl, -⟩ := Rw.form ha
  obtain ⟨ba, bc, rfl, -⟩ := Rw.form hb
  obtain ⟨N, hN⟩ : ∃ N, l.length = N := ⟨_, rfl⟩
  rw [hN] at ha hb hl ⊢
  have HA := hide ha
  have HB := hide hb
  have HN := hide hN
  clear ha hb hN
  go_enter Try.func17, Try.ntmps17
  go_wp2_with fail
  go_loopg [14] N (fun q iv wr => ∃ k : Nat, k + q = N ∧ iv = .int .i64 k ∧ Upd w wr (fun _ => False))
  case atStart => exact ⟨0, by omega, rfl, Upd.refl _ _⟩
  case round =>
    obtain ⟨k, hk, rfl, hu⟩ := hrel
    have HU := hide hu
    by_cases hkN : k < N
    · obtain ⟨x, hx⟩ : ∃ x, l[k]? = some x := ⟨_, List.getElem?_eq_getElem (by rw [HN.out]; exact hkN)⟩
      obtain ⟨g1, o1, rfl, hg1, p0, p1, p2, p3⟩ := row_at (hu.rw HA.out (fun _ _ => id)) k x hx hkN
      obtain ⟨g2, o2, rfl, hg2, q0, q1, q2, q3⟩ := row_at (hu.rw HB.out (fun _ _ => id)) k x hx hkN
      have hk0 : (0 : Int) ≤ (k : Int) := by omega
      have hk1 : (k : Int) < (N : Int) := by omega
      obtain ⟨xb, xs, xc, xr⟩ := x
      simp only at p0 p1 p2 p3 q0 q1 q2 q3
      clear hu hx
      go_wp2_with fail
      go_quiet (fail)
      go_wp2_with fail
      go_roundg (gk - 1)
      case measure => omega
      case rel => exact ⟨k + 1, by omega, by go_num, (HU.out.alloc _).drewN _⟩
    · clear hu
      go_wp2_with fail
      go_ret
      exact ⟨rfl, HU.out⟩

set_option maxHeartbeats 1600000 in
theorem same_true (w : World) (x : Vl) : Calls Try.prog 20 #[x.val, x.val] w fun e w' => e = .returned (.bool true) ∧ Upd w w' (fun _ => False) := by
  obtain ⟨k, n, t, b, f⟩ := x
  unfold Vl.val
  simp only
  go_enter Try.func20, Try.ntmps20
  go_wp2_with fail
  go_ret
  exact ⟨rfl, ((Upd.refl w _).alloc _).alloc _⟩
/-- Two lists in order with the same links are one. -/
theorem sorted_uniq : ∀ {a b : List Lk}, a.Pairwise ltP → b.Pairwise ltP → (∀ x, x ∈ a ↔ x ∈ b) → a = b
  | [], [], _, _, _ => rfl
  | [], y :: b, _, _, h => by simpa using (h y).2 (by simp)
  | x :: a, [], _, _, h => by simpa using (h x).1 (by simp)
  | x :: a, y :: b, ha, hb, h => by
    have a1 := List.pairwise_cons.1 ha
    have b1 := List.pairwise_cons.1 hb
    have e : x = y := by
      rcases List.mem_cons.1 ((h x).1 (by simp)) with q | q
      · exact q
      · rcases List.mem_cons.1 ((h y).2 (by simp)) with q2 | q2
        · exact q2.symm
        · exact absurd (ltP_trans (b1.1 x q) (a1.1 y q2)) (ltP_irrefl _)
    subst e
    have e2 : a = b := sorted_uniq a1.2 b1.2 fun z => by
      constructor
      · intro hz
        rcases List.mem_cons.1 ((h z).1 (List.mem_cons_of_mem _ hz)) with q | q
        · subst q; exact absurd (a1.1 z hz) (ltP_irrefl _)
        · exact q
      · intro hz
        rcases List.mem_cons.1 ((h z).2 (List.mem_cons_of_mem _ hz)) with q | q
        · subst q; exact absurd (b1.1 z hz) (ltP_irrefl _)
        · exact q
    rw [e2]
end Go.Proofs.Ytcclkfkdafmemaa
