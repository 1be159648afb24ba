/- The reference's list as what is known; the walk of its Seen. -/
import Derived.Test.YtcclkfkdafmemaaCrE
import Derived.Test.YtcclkfkdafmemaaVlE
set_option maxRecDepth 100000
namespace Go.Proofs.Ytcclkfkdafmemaa
open Go.RowKit Go.Lat

theorem Rw.free {w : World} {e size : Nat} {a : Addr} {n c : Nat} {xs : List Value} (h : Rw w e size (.slice (some a) n c) n xs) (j : Nat) : w.frozen? ⟨a.block, j, none⟩ = false := by
  rcases h.2 with ⟨he, _⟩ | ⟨g, off, cap, cur, he, hg, _⟩
  · cases he
  · cases he
    simp [World.frozen?, hg]
/-- The reference's list reads as l, and l says what M says. -/
structure RefAt (w : World) (v : Value) (l : List Rf) (M : Lk → Option En) : Prop where
  r : Rw w 65 14 v l.length (rfCells l)
  s : (l.map Prod.fst).Pairwise ltP
  ok : ∀ z ∈ l, z.1.ok ∧ z.2.ok
  m : ∀ x, x.ok → (∀ z ∈ l, z.1 = x → M x = some z.2) ∧ ((∀ z ∈ l, z.1 ≠ x) → M x = none)
theorem RefAt.upd {w w' : World} {v : Value} {l : List Rf} {M : Lk → Option En} {S : Nat → Prop} (h : RefAt w v l M) (u : Upd w w' S) (hS : ∀ k, v.ownBlock = some k → ¬ S k) : RefAt w' v l M := ⟨u.rw h.r hS, h.s, h.ok, h.m⟩
theorem RefAt.nil (w : World) : RefAt w (.slice none 0 0) [] (fun _ => none) := ⟨by simpa [rfCells] using Rw.nil _ _ _, List.Pairwise.nil, by simp, fun x _ => ⟨by simp, fun _ => rfl⟩⟩
theorem RefAt.uniq {w : World} {v : Value} {l : List Rf} {M : Lk → Option En} (h : RefAt w v l M) {j k : Nat} {y z : Rf} (hj : l[j]? = some y) (hk : l[k]? = some z) (e : y.1 = z.1) : j = k := by
  have hs := h.s
  rw [List.pairwise_iff_getElem] at hs
  obtain ⟨h1, e1⟩ := List.getElem?_eq_some_iff.1 hj
  obtain ⟨h2, e2⟩ := List.getElem?_eq_some_iff.1 hk
  rcases Nat.lt_trichotomy j k with q | q | q
  · have := hs j k (by simpa using h1) (by simpa using h2) q
    simp only [List.getElem_map, e1, e2, e] at this
    exact absurd this (ltP_irrefl _)
  · exact q
  · have := hs k j (by simpa using h2) (by simpa using h1) q
    simp only [List.getElem_map, e1, e2, e] at this
    exact absurd this (ltP_irrefl _)
theorem RefAt.cases {w : World} {v : Value} {l : List Rf} {M : Lk → Option En} (h : RefAt w v l M) (x : Lk) (hx : x.ok) :
    (∃ (k : Nat) (z : Rf), l[k]? = some z ∧ z.1 = x ∧ M x = some z.2 ∧ z.2.ok ∧ ∀ (j : Nat) (y : Rf), j < k → l[j]? = some y → y.1 ≠ x) ∨ (M x = none ∧ ∀ z ∈ l, z.1 ≠ x) := by
  by_cases q : ∃ z ∈ l, z.1 = x
  · obtain ⟨z, hz, rfl⟩ := q
    obtain ⟨k, hk⟩ := List.mem_iff_getElem?.1 hz
    refine .inl ⟨k, z, hk, rfl, (h.m z.1 hx).1 z hz rfl, (h.ok z hz).2, fun j y hj hy e => ?_⟩
    have := h.uniq hy hk e
    omega
  · have q' : ∀ z ∈ l, z.1 ≠ x := fun z hz e => q ⟨z, hz, e⟩
    exact .inr ⟨(h.m x hx).2 q', q'⟩
/-- An entry of the list becomes another. -/
theorem RefAt.set {w w' : World} {v : Value} {l : List Rf} {M : Lk → Option En} (h : RefAt w v l M) {k : Nat} {z : Rf} (hz : l[k]? = some z) (e : En) (he : e.ok) (hr : Rw w' 65 14 v l.length (rfCells (l.set k (z.1, e)))) :
    RefAt w' v (l.set k (z.1, e)) (setF M z.1 (some e)) := by
  have hkl : k < l.length := (List.getElem?_eq_some_iff.1 hz).1
  have hmap : (l.set k (z.1, e)).map Prod.fst = l.map Prod.fst := by
    apply List.ext_getElem?
    intro j
    rw [List.getElem?_map, List.getElem?_map]
    by_cases q : k = j
    · subst q
      rw [List.getElem?_set_self hkl, hz]
      rfl
    · rw [List.getElem?_set_ne q]
  refine ⟨by simpa using hr, by rw [hmap]; exact h.s, fun y hy => ?_, fun x hx => ⟨fun y hy hyx => ?_, fun hno => ?_⟩⟩
  · rcases List.mem_or_eq_of_mem_set hy with q | rfl
    · exact h.ok y q
    · exact ⟨(h.ok z (List.mem_of_getElem? hz)).1, he⟩
  · obtain ⟨j, hj⟩ := List.mem_iff_getElem?.1 hy
    by_cases q : k = j
    · subst q
      rw [List.getElem?_set_self hkl] at hj
      obtain rfl := Option.some.inj hj
      rw [← hyx, setF_same]
    · rw [List.getElem?_set_ne q] at hj
      have hne : x ≠ z.1 := fun e => q (h.uniq hz hj (by rw [hyx, e]))
      rw [setF_other _ _ _ hne]
      exact (h.m x hx).1 y (List.mem_of_getElem? hj) hyx
  · have h0 : ∀ y ∈ l, y.1 ≠ x := by
      intro y hy e
      obtain ⟨j, hj⟩ := List.mem_iff_getElem?.1 hy
      by_cases q : k = j
      · subst q
        rw [hz] at hj
        obtain rfl := Option.some.inj hj
        exact hno (z.1, _) (List.mem_of_getElem? (List.getElem?_set_self hkl)) e
      · exact hno y (List.mem_of_getElem? (by rw [List.getElem?_set_ne q]; exact hj)) e
    have hne : x ≠ z.1 := fun e => h0 z (List.mem_of_getElem? hz) e.symm
    rw [setF_other _ _ _ hne]
    exact (h.m x hx).2 h0

set_option maxHeartbeats 3200000 in
theorem RSeen_hit (w : World) (va : Option Addr) (vc : Nat) (l : List Rf) (M : Lk → Option En) (h : RefAt w (.slice va l.length vc) l M) (hl : l.length ≤ 1000000) (x : Lk) (hx : x.ok) (k : Nat) (z : Rf) (hz : l[k]? = some z) (hzp : z.1 = x) (hfst : ∀ j y, j < k → l[j]? = some y → y.1 ≠ x) :
    Calls Try.prog 21 #[.slice va l.length vc, x.val] w fun e w' => e = .returned (seenV (some z.2)).val ∧ Upd w w' (fun _ => False) := by
  have F := fun w' (u : Upd w w' (fun _ => False)) => Find_hit w' va vc l (u.rw h.r (fun _ _ => id)) (fun z hz => (h.ok z hz).1) x hx hl k z hz hzp hfst
  have hkl : k < l.length := (List.getElem?_eq_some_iff.1 hz).1
  obtain ⟨g, off, rfl, hg, hc⟩ := rf_at h.r k z hz hkl
  have d4 := hc 4 _ rfl
  have d5 := hc 5 _ rfl
  have d6 := hc 6 _ rfl
  have d7 := hc 7 _ rfl
  have d8 := hc 8 _ rfl
  have d11 := hc 11 _ rfl
  have d13 := hc 13 _ rfl
  obtain ⟨N, hN⟩ : ∃ N, l.length = N := ⟨_, rfl⟩
  rw [hN] at F hkl hl ⊢
  have HF := hide F
  have hk0 : (0 : Int) ≤ (k : Int) := by omega
  have hk1 : (k : Int) < (N : Int) := by omega
  clear F hc hz hzp hfst hN h hx
  unfold seenV
  simp only [Option.getD_some]
  obtain ⟨x2, ⟨⟨vk, vn, vt, vb, vf⟩, ver, inc, has, stale, lost⟩⟩ := z
  obtain ⟨xb, xs, xc, xr⟩ := x
  unfold Lk.val at HF ⊢
  simp only at HF d4 d5 d6 d7 d8 d11 d13 ⊢
  have k4 : off + k * 14 + 4 + 1 = off + k * 14 + 5 := rfl
  cases lost with
  | true =>
    rw [if_pos rfl]
    have EE := fun w => RE_any w 8
    obtain ⟨ev, hev⟩ : ∃ v, mkE 8 = v := ⟨_, rfl⟩
    rw [hev] at EE ⊢
    obtain ⟨k0, n0, t0, b0, e0⟩ := ev
    unfold Vl.val at EE
    simp only at EE
    clear hev
    go_enter Try.func21, Try.ntmps21
    go_wp2_with fail
    refine Calls.mono (HF.out _ (((Upd.refl w _).alloc _).alloc _)) ?_
    rintro e w1 ⟨rfl, u1⟩
    have bR := u1.get (Vnew2 w (.cells (Lk.mk xb xs xc xr).cs 31) (.cells vZero.cs 47)) id
    have UU := (((Upd.refl w (fun _ => False)).alloc (.cells (Lk.mk xb xs xc xr).cs 31)).alloc (.cells vZero.cs 47)).then u1 (fun _ _ => id)
    have q4 := (UU.cell g _ hg id).trans d4
    have q5 := (UU.cell g _ hg id).trans d5
    have q6 := (UU.cell g _ hg id).trans d6
    have q7 := (UU.cell g _ hg id).trans d7
    have q8 := (UU.cell g _ hg id).trans d8
    have q11 := (UU.cell g _ hg id).trans d11
    have q13 := (UU.cell g _ hg id).trans d13
    have gl := Nat.lt_of_lt_of_le hg UU.size
    have HB1 := hide bR
    have HU1 := hide UU
    clear bR u1 UU HF d4 d5 d6 d7 d8 d11 d13
    go_wp2_with fail
    refine Calls.mono (EE _) ?_
    rintro e w2 ⟨rfl, u2⟩
    have bR := u2.get HB1.out id
    obtain ⟨c0, c1, c2, c3, c4⟩ := cells5 bR
    have xl := lt_at bR
    have f0 := free_at bR 0
    have f1 := free_at bR 1
    have f2 := free_at bR 2
    have f3 := free_at bR 3
    have f4 := free_at bR 4
    have HB := hide bR
    have HU := hide (HU1.out.then u2 (fun _ _ => id))
    clear bR u2 EE
    go_wp2_with fail
    (try simp only [Exit.inBlock, Exit.then])
    refine bodyPost_ret (ret_rv rfl _ _ (w.heap.size + 1) ⟨k0, n0, t0, b0, e0⟩ rfl (rblock5 HB.out _ _ _ _ _)) rfl ?_
    exact ⟨rfl, upd5 HU.out (by omega) _ _ _ _ _⟩
  | false =>
    rw [if_neg (by decide)]
    cases has with
    | true =>
      rw [if_pos rfl]
      go_enter Try.func21, Try.ntmps21
      go_wp2_with fail
      refine Calls.mono (HF.out _ (((Upd.refl w _).alloc _).alloc _)) ?_
      rintro e w1 ⟨rfl, u1⟩
      have bR := u1.get (Vnew2 w (.cells (Lk.mk xb xs xc xr).cs 31) (.cells vZero.cs 47)) id
      have UU := (((Upd.refl w (fun _ => False)).alloc (.cells (Lk.mk xb xs xc xr).cs 31)).alloc (.cells vZero.cs 47)).then u1 (fun _ _ => id)
      have q4 := (UU.cell g _ hg id).trans d4
      have q5 := (UU.cell g _ hg id).trans d5
      have q6 := (UU.cell g _ hg id).trans d6
      have q7 := (UU.cell g _ hg id).trans d7
      have q8 := (UU.cell g _ hg id).trans d8
      have q11 := (UU.cell g _ hg id).trans d11
      have q13 := (UU.cell g _ hg id).trans d13
      have gl := Nat.lt_of_lt_of_le hg UU.size
      obtain ⟨c0, c1, c2, c3, c4⟩ := cells5 bR
      have xl := lt_at bR
      have f0 := free_at bR 0
      have f1 := free_at bR 1
      have f2 := free_at bR 2
      have f3 := free_at bR 3
      have f4 := free_at bR 4
      have HB := hide bR
      have HU := hide UU
      clear bR u1 UU HF d4 d5 d6 d7 d8 d11 d13
      go_wp2_with fail
      (try simp only [Exit.inBlock, Exit.then])
      refine bodyPost_ret (ret_rv rfl _ _ (w.heap.size + 1) ⟨vk, vn, vt, vb, vf⟩ rfl (rblock5 HB.out _ _ _ _ _)) rfl ?_
      exact ⟨rfl, upd5 HU.out (by omega) _ _ _ _ _⟩
    | false =>
      rw [if_neg (by decide)]
      have EE := fun w => RE_any w 6
      obtain ⟨ev, hev⟩ : ∃ v, mkE 6 = v := ⟨_, rfl⟩
      rw [hev] at EE ⊢
      obtain ⟨k0, n0, t0, b0, e0⟩ := ev
      unfold Vl.val at EE
      simp only at EE
      clear hev
      go_enter Try.func21, Try.ntmps21
      go_wp2_with fail
      refine Calls.mono (HF.out _ (((Upd.refl w _).alloc _).alloc _)) ?_
      rintro e w1 ⟨rfl, u1⟩
      have bR := u1.get (Vnew2 w (.cells (Lk.mk xb xs xc xr).cs 31) (.cells vZero.cs 47)) id
      have UU := (((Upd.refl w (fun _ => False)).alloc (.cells (Lk.mk xb xs xc xr).cs 31)).alloc (.cells vZero.cs 47)).then u1 (fun _ _ => id)
      have q4 := (UU.cell g _ hg id).trans d4
      have q5 := (UU.cell g _ hg id).trans d5
      have q6 := (UU.cell g _ hg id).trans d6
      have q7 := (UU.cell g _ hg id).trans d7
      have q8 := (UU.cell g _ hg id).trans d8
      have q11 := (UU.cell g _ hg id).trans d11
      have q13 := (UU.cell g _ hg id).trans d13
      have gl := Nat.lt_of_lt_of_le hg UU.size
      have HB1 := hide bR
      have HU1 := hide UU
      clear bR u1 UU HF d4 d5 d6 d7 d8 d11 d13
      go_wp2_with fail
      refine Calls.mono (EE _) ?_
      rintro e w2 ⟨rfl, u2⟩
      have bR := u2.get HB1.out id
      obtain ⟨c0, c1, c2, c3, c4⟩ := cells5 bR
      have xl := lt_at bR
      have f0 := free_at bR 0
      have f1 := free_at bR 1
      have f2 := free_at bR 2
      have f3 := free_at bR 3
      have f4 := free_at bR 4
      have HB := hide bR
      have HU := hide (HU1.out.then u2 (fun _ _ => id))
      clear bR u2 EE
      go_wp2_with fail
      (try simp only [Exit.inBlock, Exit.then])
      refine bodyPost_ret (ret_rv rfl _ _ (w.heap.size + 1) ⟨k0, n0, t0, b0, e0⟩ rfl (rblock5 HB.out _ _ _ _ _)) rfl ?_
      exact ⟨rfl, upd5 HU.out (by omega) _ _ _ _ _⟩

set_option maxHeartbeats 3200000 in
theorem RSeen_miss (w : World) (va : Option Addr) (vc : Nat) (l : List Rf) (M : Lk → Option En) (h : RefAt w (.slice va l.length vc) l M) (hl : l.length ≤ 1000000) (x : Lk) (hx : x.ok) (hno : ∀ z ∈ l, z.1 ≠ x) :
    Calls Try.prog 21 #[.slice va l.length vc, x.val] w fun e w' => e = .returned (seenV none).val ∧ Upd w w' (fun _ => False) := by
  have F := fun w' (u : Upd w w' (fun _ => False)) => Find_miss w' va vc l (u.rw h.r (fun _ _ => id)) (fun z hz => (h.ok z hz).1) x hx hl hno
  have HF := hide F
  clear F hno h hx
  have e0 : seenV none = mkE 6 := rfl
  rw [e0]
  clear e0
  obtain ⟨xb, xs, xc, xr⟩ := x
  unfold Lk.val at HF ⊢
  simp only at HF ⊢
  have EE := fun w => RE_any w 6
  obtain ⟨ev, hev⟩ : ∃ v, mkE 6 = v := ⟨_, rfl⟩
  rw [hev] at EE ⊢
  obtain ⟨k0, n0, t0, b0, e0⟩ := ev
  unfold Vl.val at EE
  simp only at EE
  clear hev
  go_enter Try.func21, Try.ntmps21
  go_wp2_with fail
  refine Calls.mono (HF.out _ (((Upd.refl w _).alloc _).alloc _)) ?_
  rintro e w1 ⟨rfl, u1⟩
  have bR := u1.get (Vnew2 w (.cells (Lk.mk xb xs xc xr).cs 31) (.cells vZero.cs 47)) id
  have UU := (((Upd.refl w (fun _ => False)).alloc (.cells (Lk.mk xb xs xc xr).cs 31)).alloc (.cells vZero.cs 47)).then u1 (fun _ _ => id)
  have HB1 := hide bR
  have HU1 := hide UU
  clear bR u1 UU HF
  go_wp2_with fail
  refine Calls.mono (EE _) ?_
  rintro e w2 ⟨rfl, u2⟩
  have bR := u2.get HB1.out id
  obtain ⟨c0, c1, c2, c3, c4⟩ := cells5 bR
  have xl := lt_at bR
  have f0 := free_at bR 0
  have f1 := free_at bR 1
  have f2 := free_at bR 2
  have f3 := free_at bR 3
  have f4 := free_at bR 4
  have HB := hide bR
  have HU := hide (HU1.out.then u2 (fun _ _ => id))
  clear bR u2 EE
  go_wp2_with fail
  (try simp only [Exit.inBlock, Exit.then])
  refine bodyPost_ret (ret_rv rfl _ _ (w.heap.size + 1) ⟨k0, n0, t0, b0, e0⟩ rfl (rblock5 HB.out _ _ _ _ _)) rfl ?_
  exact ⟨rfl, upd5 HU.out (by omega) _ _ _ _ _⟩
theorem RSeen_any (w : World) (va : Option Addr) (vc : Nat) (l : List Rf) (M : Lk → Option En) (h : RefAt w (.slice va l.length vc) l M) (hl : l.length ≤ 1000000) (x : Lk) (hx : x.ok) :
    Calls Try.prog 21 #[.slice va l.length vc, x.val] w fun e w' => e = .returned (seenV (M x)).val ∧ Upd w w' (fun _ => False) := by
  rcases h.cases x hx with ⟨k, z, h1, h2, h3, -, h4⟩ | ⟨h1, h2⟩
  · rw [h3]
    exact RSeen_hit w va vc l M h hl x hx k z h1 h2 h4
  · rw [h1]
    exact RSeen_miss w va vc l M h hl x hx h2
end Go.Proofs.Ytcclkfkdafmemaa

