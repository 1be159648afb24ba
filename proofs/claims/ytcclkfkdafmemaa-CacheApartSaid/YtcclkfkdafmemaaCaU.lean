/- The walk of package cache's Want. -/
import Derived.Test.YtcclkfkdafmemaaCaT
set_option maxRecDepth 100000
namespace Go.Proofs.Ytcclkfkdafmemaa
open Go.RowKit Go.Lat Go.Sort

/-- What is known when just these links are wanted. -/
def wantM (M : Lk → Option En) (W : List Lk) : Lk → Option En := fun x => if x ∈ W then some ((M x).getD enZero) else none
theorem lk_at {w : World} {sa : Option Addr} {n c : Nat} {l : List Lk} (h : Rw w 30 4 (.slice sa n c) n (lkCells l)) (j : Nat) (x : Lk) (hx : l[j]? = some x) (hj : j < n) :
    ∃ g off, sa = some ⟨g, off, none⟩ ∧ g < w.heap.size ∧ w.cell? ⟨g, off + j * 4, none⟩ = some (enS x.b) ∧ w.cell? ⟨g, off + j * 4 + 1, none⟩ = some (enS x.s) ∧ w.cell? ⟨g, off + j * 4 + 2, none⟩ = some (.int .i64 x.c) ∧ w.cell? ⟨g, off + j * 4 + 3, none⟩ = some (.int .i64 x.r) := by
  obtain ⟨g, off, cap, hv, hg, hc⟩ := Rw.pos h (by omega)
  simp at hv
  have c0 := lkCells_get l j x hx
  exact ⟨g, off, hv.1, hg, hc _ _ (c0 0 (by omega)), hc _ _ (c0 1 (by omega)), hc _ _ (c0 2 (by omega)), hc _ _ (c0 3 (by omega))⟩
theorem Cas.imp {w : World} {b bm n : Nat} {D : DataW Value} {M M2 : Lk → Option En} (h : Cas w b bm n D M) (e : ∀ x, x.ok → M x = M2 x) : Cas w b bm n D M2 :=
  ⟨h.c, h.m, fun x hx => by rw [← e x hx]; exact h.has x hx, fun x hx => by rw [← e x hx]; exact h.val x hx⟩
theorem Cas.del {w w' : World} {b bm n m : Nat} {D : DataW Value} {M : Lk → Option En} (h : Cas w b bm n D M) (u : Upd w w' (fun k => k = bm)) {p : Lk} (hp : p.ok) (hm : w'.ownsMap Try.prog 30 heldElem bm m (D.del (lkLit p))) :
    Cas w' b bm m (D.del (lkLit p)) (setF M p none) := by
  refine ⟨u.get h.c h.ne, hm, fun q hq => ?_, fun q hq => ?_⟩
  · by_cases e : q = p
    · subst e
      rw [setF_same, Go.Maps.has_del_same]
      rfl
    · rw [setF_other _ _ _ e, Go.Maps.has_del_other (fun z => e (lkLit_inj hq hp z)), h.has q hq]
  · by_cases e : q = p
    · subst e
      rw [setF_same, Go.Maps.atKey_of_not_has Go.Maps.has_del_same]
      rfl
    · rw [setF_other _ _ _ e, Go.Maps.atKey_del_other (fun z => e (lkLit_inj hq hp z)), h.val q hq]
theorem take_mem {W : List Lk} {j : Nat} {x : Lk} (hx : W[j]? = some x) (y : Lk) : y ∈ W.take (j + 1) ↔ y ∈ W.take j ∨ y = x := by
  rw [List.take_add_one, hx]
  simp

set_option maxHeartbeats 6400000 in
theorem Want_any (w : World) (b bm n : Nat) (D : DataW Value) (M : Lk → Option En) (h : Cas w b bm n D M) (va : Option Addr) (vc : Nat) (W : List Lk) (hv : Rw w 30 4 (.slice va W.length vc) W.length (lkCells W)) (hok : ∀ x ∈ W, x.ok) (hn : n + W.length ≤ 1000000) :
    Calls Try.prog 9 #[.pointer (some ⟨b, 0, none⟩), .slice va W.length vc] w fun e w' => ∃ a1 c1 k1 a2 c2 k2, e = .returned (.tuple #[.slice a1 k1.length c1, .slice a2 k2.length c2]) ∧
      Row2 w w' (.slice a1 k1.length c1) (fun x => x ∈ W ∧ M x = none) k1 ∧ Row2 w w' (.slice a2 k2.length c2) (fun x => x ∉ W ∧ (M x).isSome = true) k2 ∧ k1.length ≤ W.length ∧ k2.length ≤ n ∧ (∃ n' D', n' ≤ n + W.length ∧ Cas w' b bm n' D' (wantM M W)) ∧ Upd w w' (fun k => k = bm) := by
  have hmm := @run_makeMap Try.prog
  obtain ⟨N, hN⟩ : ∃ N, W.length = N := ⟨_, rfl⟩
  rw [hN] at hv hn ⊢
  have blt := lt_at h.c
  have bmlt := h.m.lt
  obtain ⟨C, hC⟩ : ∃ C, w.heap.size = C := ⟨_, rfl⟩
  obtain ⟨W0, hW0⟩ : ∃ W0, ((w.alloc (.map #[] 0)).alloc (.map #[] 0)).alloc (.map #[] 0) = W0 := ⟨_, rfl⟩
  have u0 : Upd w W0 (fun _ => False) := hW0 ▸ (((Upd.refl w _).alloc _).alloc _).alloc _
  have s0 : W0.heap.size = C + 3 := by rw [← hW0, ← hC]; simp
  have g0 : Bag W0 C 0 (.map []) (fun _ => False) := by
    rw [← hW0, ← hC]
    exact (Bag.made w).upd (((Upd.refl _ (fun _ => False)).alloc _).alloc _) id
  have g1 : Bag W0 (C + 1) 0 (.map []) (fun _ => False) := by
    rw [← hW0, ← hC]
    have := (Bag.made (w.alloc (.map #[] 0))).upd ((Upd.refl _ (fun _ => False)).alloc (.map #[] 0)) id
    simpa using this
  have g2 : Bag W0 (C + 2) 0 (.map []) (fun _ => False) := by
    rw [← hW0, ← hC]
    have := Bag.made ((w.alloc (.map #[] 0)).alloc (.map #[] 0))
    simpa using this
  have HNN := hide hN
  have HV := hide hv
  have HH := hide h
  have HOK := hide hok
  have HC := hide hC
  have HW0 := hide hW0
  have HU0 := hide u0
  have HG0 := hide g0
  have HG1 := hide g1
  have HG2 := hide g2
  clear hN hv h hok hC hW0 u0 g0 g1 g2
  go_enter Try.func9, Try.ntmps9
  go_wp2_with fail
  simp only [HC.out]
  rw [HW0.out]
  go_loopg [23] N (fun q iv wr => ∃ (j k0 k2 : Nat) (D0 D2 : DataW Value), j + q = N ∧ iv = .int .i64 j ∧ k0 ≤ j ∧ k2 ≤ j ∧ Bag wr C k0 D0 (fun x => x ∈ W.take j ∧ M x = none) ∧ Bag wr (C + 1) 0 (.map []) (fun _ => False) ∧ Bag wr (C + 2) k2 D2 (fun x => x ∈ W.take j) ∧ Upd w wr (fun _ => False))
  case atStart => exact ⟨0, 0, 0, _, _, by omega, rfl, by omega, by omega, HG0.out.imp (by simp), HG1.out, HG2.out.imp (by simp), HU0.out⟩
  case round =>
    obtain ⟨j, k0, k2, D0, D2, hj, rfl, hk0, hk2, hb0, hb1, hb2, hu⟩ := hrel
    have HB0 := hide hb0
    have HB1 := hide hb1
    have HB2 := hide hb2
    have HU := hide hu
    have lt2 := hb2.m.lt
    clear hb0 hb1 hb2 hu
    by_cases hjN : j < N
    · obtain ⟨x, hx⟩ : ∃ x, W[j]? = some x := ⟨_, List.getElem?_eq_getElem (by rw [HNN.out]; exact hjN)⟩
      have pok := HOK.out x (List.mem_of_getElem? hx)
      obtain ⟨g, off, rfl, hg, d0, d1, d2, d3⟩ := lk_at (HU.out.rw HV.out (fun _ _ => id)) j x hx hjN
      have hj0 : (0 : Int) ≤ (j : Int) := by omega
      have hj1 : (j : Int) < (N : Int) := by omega
      have w1 : IntKind.i64.wrap ((j : Int) + 1) = (j : Int) + 1 := IntWalk.i64_in _ (by omega)
      have cc := HC.out
      have uo : Upd wr (wr.alloc (.cells x.cs 30)) (fun _ => False) := (Upd.refl wr _).alloc _
      have bx := Vnew1 wr (.cells x.cs 30)
      obtain ⟨W9, E9, m9, t9⟩ := (HB2.out.upd uo id).m.store lkK Try.underlying81 (by unfold maxLen; omega) (lk_key pok) (val := .bool true) (d := .held (.bool true)) (ps := []) rfl
      have u9 : Upd (wr.alloc (.cells x.cs 30)) W9 (fun k => k = C + 2) := (Upd.refl _ _).grown t9.grown (fun k e => .inr (Option.some.inj e).symm)
      have bx9 := u9.get bx (by omega)
      have U9 : Upd w W9 (fun _ => False) := (HU.out.then uo (fun _ _ => id)).then u9 (fun i hi e => by omega)
      have h9 := HH.out.upd U9 id id
      have B2 := ((HB2.out.upd uo id).put pok m9)
      have B0 := (HB0.out.upd uo id).upd u9 (by omega)
      have B1 := (HB1.out.upd uo id).upd u9 (by omega)
      have hvv := h9.val x pok
      have hhh := h9.has x pok
      have q1 := look_ok_held h9.m lkK Try.underlying77 (zeroEn _) (lk_key pok) hvv hhh
      have q2 := look_ok_held h9.m.drew lkK Try.underlying77 (zeroEn _) (lk_key pok) hvv hhh
      have q3 := look_ok_held (h9.m.alloc (.cells enZero.cs 67)) lkK Try.underlying77 (zeroEn _) (lk_key pok) hvv hhh
      have q4 := look_ok_held (h9.m.alloc (.cells enZero.cs 67)).drew lkK Try.underlying77 (zeroEn _) (lk_key pok) hvv hhh
      have z0 := cells1 h9.c
      have zlt := lt_at h9.c
      have HX := hide hx
      have HP := hide pok
      have HB2' := hide B2
      have HB0' := hide B0
      have HB1' := hide B1
      have HU9 := hide U9
      have s9 : wr.heap.size + 1 ≤ W9.heap.size := by have := u9.size; simpa using this
      clear hx m9 t9 uo u9 U9 h9 B2 B0 B1 hvv hhh HB0 HB1 HB2 HU
      cases hM : M x with
      | some E =>
        rw [hM] at q1 q2 q3 q4
        simp only [Option.isSome_some, Option.getD_some] at q1 q2 q3 q4
        have HM := hide hM
        clear hM
        obtain ⟨⟨vk, vn, vt, vb, vf⟩, ver, inc, has, stale, lost⟩ := E
        obtain ⟨xb, xs, xc, xr⟩ := x
        unfold Lk.val at E9 q1 q2 q3 q4
        unfold En.val at q1 q2 q3 q4
        unfold Lk.cs at bx bx9 E9
        simp only [enZero, En.cs] at E9 q1 q2 q3 q4 bx bx9 d0 d1 d2 d3
        obtain ⟨x0, x1, x2, x3⟩ := cells4 bx
        obtain ⟨y0, y1, y2, y3⟩ := cells4 bx9
        have yl := lt_at bx9
        clear bx bx9
        have uf : Upd W9 (W9.alloc (.cells #[.int .i64 vk, .int .i64 vn, .string ⟨vt.toArray⟩, .bool vb, .int .i64 vf, .int .i64 ver, .int .i64 inc, .bool has, .bool stale, .bool lost] 67)).drew (fun _ => False) := ((Upd.refl W9 _).alloc _).drew
        have F0 := hide ((HB0'.out.upd uf id).imp (T := fun y => y ∈ W.take (j + 1) ∧ M y = none) (fun y _ => by
          rw [take_mem HX.out]
          constructor
          · exact fun q => ⟨.inl q.1, q.2⟩
          · rintro ⟨q | rfl, q2⟩
            · exact ⟨q, q2⟩
            · rw [HM.out] at q2; cases q2))
        have F1 := hide (HB1'.out.upd uf id)
        have F2 := hide ((HB2'.out.upd uf id).imp (T := fun y => y ∈ W.take (j + 1)) (fun y _ => (take_mem HX.out y).symm))
        have FU := hide (HU9.out.then uf (fun _ _ => id))
        clear uf HX HP HB2' HB0' HB1' HU9 HM
        go_wp2_with fail
        go_region
        all_goals go_wp2_with fail
        all_goals go_roundg (gk - 1)
        all_goals first | omega | exact ⟨j + 1, k0, k2 + 1, _, _, by omega, by go_num, by omega, by omega, F0.out, F1.out, F2.out, FU.out⟩
      | none =>
        rw [hM] at q1 q2 q3 q4
        simp only [Option.isSome_none, Option.getD_none] at q1 q2 q3 q4
        have HM := hide hM
        clear hM
        have uf : Upd W9 (W9.alloc (.cells enZero.cs 67)).drew (fun _ => False) := ((Upd.refl W9 _).alloc _).drew
        have bf := HB0'.out.upd uf id
        obtain ⟨Wa, Ea, ma, ta⟩ := bf.m.store lkK Try.underlying81 (by unfold maxLen; omega) (lk_key HP.out) (val := .bool true) (d := .held (.bool true)) (ps := []) rfl
        have ua : Upd (W9.alloc (.cells enZero.cs 67)).drew Wa (fun k => k = C) := (Upd.refl _ _).grown ta.grown (fun k e => .inr (Option.some.inj e).symm)
        have F0 := hide ((bf.put HP.out ma).imp (T := fun y => y ∈ W.take (j + 1) ∧ M y = none) (fun y _ => by
          rw [take_mem HX.out]
          constructor
          · rintro (q | rfl)
            · exact ⟨.inl q.1, q.2⟩
            · exact ⟨.inr rfl, HM.out⟩
          · rintro ⟨q | rfl, q2⟩
            · exact .inl ⟨q, q2⟩
            · exact .inr rfl))
        have F1 := hide ((HB1'.out.upd uf id).upd ua (by omega))
        have F2 := hide (((HB2'.out.upd uf id).upd ua (by omega)).imp (T := fun y => y ∈ W.take (j + 1)) (fun y _ => (take_mem HX.out y).symm))
        have FU := hide ((HU9.out.then uf (fun _ _ => id)).then ua (fun i hi e => by omega))
        clear uf bf ma ta ua HX HP HB2' HB0' HB1' HU9 HM
        obtain ⟨xb, xs, xc, xr⟩ := x
        unfold Lk.val at E9 Ea q1 q2 q3 q4
        unfold En.val at q1 q2 q3 q4
        unfold Lk.cs at bx bx9 E9
        simp only [enZero, En.cs] at E9 Ea q1 q2 q3 q4 bx bx9 d0 d1 d2 d3
        obtain ⟨x0, x1, x2, x3⟩ := cells4 bx
        obtain ⟨y0, y1, y2, y3⟩ := cells4 bx9
        have yl := lt_at bx9
        clear bx bx9
        go_wp2_with fail
        go_region
        all_goals go_wp2_with fail
        all_goals go_roundg (gk - 1)
        all_goals first | omega | exact ⟨j + 1, k0 + 1, k2 + 1, _, _, by omega, by go_num, by omega, by omega, F0.out, F1.out, F2.out, FU.out⟩
    · have ejN : j = N := by omega
      subst ejN
      have htk : W.take j = W := List.take_of_length_le (by rw [HNN.out]; exact Nat.le_refl _)
      have b0 := HB0.out
      have b1 := HB1.out
      have b2 := HB2.out
      rw [htk] at b0 b2
      have hcs := HH.out.upd HU.out id id
      have z0 := cells1 hcs.c
      have zlt := lt_at hcs.c
      have hsz := World.ownsMap.size_le hcs.m
      have hcm := hcs.m
      obtain ⟨R2, hR2⟩ : ∃ R2, wr.heap.size = R2 := ⟨_, rfl⟩
      have cc := HC.out
      have HU2 := hide HU.out
      clear HB0 HB1 HB2 HU hcs htk
      go_wp2_with (at_range; refine wpList_range_own _ rfl _ 77 rfl 30 67 lkK Try.underlying77 heldElem bm n D rfl hcm ?_; intro w0 hrg0 hg0 hs0)
      go_frame
      have u0 : Upd wr w0 (fun _ => False) := (Upd.refl wr _).grown hg0 (fun k e => by cases e)
      rw [hR2] at hrg0 ⊢
      have HR0 := hide hrg0
      have HB0 := hide (b0.upd u0 id)
      have HB1 := hide (b1.upd u0 id)
      have HB2 := hide (b2.upd u0 id)
      have HU0' := hide (HU2.out.then u0 (fun _ _ => id))
      have HR := hide hR2
      clear hrg0 b0 b1 b2 u0 hg0 hs0 hcm HU2 hR2
      go_loopw [] (fun wr => ∃ (left : Lit → Bool) (cnt : Nat) (ss : List Lk) (D1 : DataW Value) (k : Nat), wr.ranges Try.prog 30 heldElem bm R2 n D left cnt ∧ Gone D left ss ∧ Bag wr C k0 D0 (fun x => x ∈ W ∧ M x = none) ∧ Bag wr (C + 1) k D1 (fun x => x ∈ ss ∧ x ∉ W) ∧ Bag wr (C + 2) k2 D2 (fun x => x ∈ W) ∧ k + cnt ≤ n ∧ Upd w wr (fun _ => False))
        (fun wr => wr.rangeLeft bm R2)
      case atStart => exact ⟨_, _, [], _, 0, HR0.out, Gone.start D, HB0.out, HB1.out.imp (by simp), HB2.out, by omega, HU0'.out⟩
      case round =>
        obtain ⟨left, cnt, ss, D1, k, hrg, hC, hb0, hb1, hb2, hk, hu⟩ := hrel
        have HO := hide hrg
        have HGC := hide hC
        have HB0 := hide hb0
        have HB1 := hide hb1
        have HB2 := hide hb2
        have HU := hide hu
        go_wp2_with (at_next; refine wpList_next_ranges _ rfl _ rfl 30 lkK heldElem (fun x : Lk => .agg #[enS x.b, enS x.s, .int .i64 x.c, .int .i64 x.r]) (fun v : Value => v) (fun key kl hk => by obtain ⟨x, _, e, _⟩ := lk_inv hk; exact ⟨x, e⟩) (fun v y _ => ⟨v, rfl⟩) bm R2 n D left cnt rfl hrg ?_ ?_)
        · intro hc0 hl0
          have hall := hC.all hl0
          have B1f : Bag wr (C + 1) k D1 (fun x => x ∉ W ∧ (M x).isSome = true) := hb1.imp fun x hx => by
            rw [hall x hx, HH.out.has x hx]
            exact and_comm
          have hm0 := hb0.m
          obtain ⟨R3, hR3⟩ : ∃ R3, wr.heap.size = R3 := ⟨_, rfl⟩
          have hcs := HH.out.upd hu id id
          have HCS := hide hcs
          have lt2' := hb2.m.lt
          have HB1f := hide B1f
          clear hrg hC hb0 hb1 hb2 hu hl0 hall B1f hcs HO HGC HB1
          have cc := HC.out
          go_wp2_with (at_range; refine wpList_range_own _ rfl _ 81 rfl 30 4 lkK Try.underlying81 heldElem C k0 D0 rfl hm0 ?_; intro w0 hrg0 hg0 hs0)
          go_frame
          have u0 : Upd wr w0 (fun _ => False) := (Upd.refl wr _).grown hg0 (fun k e => by cases e)
          rw [hR3] at hrg0 ⊢
          have s0' := World.ownsMap.size_le hm0
          have HR0' := hide hrg0
          have HCS0 := hide (HCS.out.upd u0 id id)
          have HB1g := hide (HB1f.out.upd u0 id)
          have HU3 := hide ((HU.out.then u0 (fun _ _ => id)).weaken (T := fun k => k = bm) (fun _ _ e => e.elim))
          have HR3 := hide hR3
          have HRC := hide (show w.heap.size ≤ R3 ∧ C + 2 < R3 from ⟨hR3 ▸ HU.out.size, hR3 ▸ lt2'⟩)
          have HM0 := hide hm0
          clear hrg0 u0 hg0 hs0 hm0 hR3 HCS HB1f HU
          go_loopw [] (fun wr => ∃ (left : Lit → Bool) (cnt : Nat) (ss : List Lk) (D3 : DataW Value) (n3 : Nat), wr.ranges Try.prog 30 heldElem C R3 k0 D0 left cnt ∧ Gone D0 left ss ∧ Cas wr b bm n3 D3 (fun y => if y ∈ ss then some enZero else M y) ∧ Bag wr (C + 1) k D1 (fun x => x ∉ W ∧ (M x).isSome = true) ∧ n3 + cnt ≤ n + k0 ∧ Upd w wr (fun k => k = bm))
            (fun wr => wr.rangeLeft C R3)
          case atStart => exact ⟨_, _, [], D, n, HR0'.out, Gone.start D0, HCS0.out.imp (by simp), HB1g.out, by omega, HU3.out⟩
          case round =>
            obtain ⟨left, cnt, ss, D3, n3, hrg, hC, hcs, hb1, hn3, hu⟩ := hrel
            have HO := hide hrg
            go_wp2_with (at_next; refine wpList_next_ranges _ rfl _ rfl 30 lkK heldElem (fun x : Lk => .agg #[enS x.b, enS x.s, .int .i64 x.c, .int .i64 x.r]) (fun v : Value => v) (fun key kl hk => by obtain ⟨x, _, e, _⟩ := lk_inv hk; exact ⟨x, e⟩) (fun v y _ => ⟨v, rfl⟩) C R3 k0 D0 left cnt rfl hrg ?_ ?_)
            · intro hc0 hl0
              have hall := hC.all hl0
              have B0f : Bag wr C k0 D0 (fun x => x ∈ W ∧ M x = none) := ⟨hrg.owns, HB0.out.has, HB0.out.val⟩
              have C3 := hcs.imp (M2 := fun y => if y ∈ W then some ((M y).getD enZero) else M y) (fun y hy => by
                have q := (hall y hy).trans (HB0.out.has y hy)
                by_cases hW : y ∈ W
                · cases hMy : M y with
                  | none => rw [if_pos (q.2 ⟨hW, hMy⟩), if_pos hW]; rfl
                  | some e => rw [if_neg (fun z => by have := (q.1 z).2; rw [hMy] at this; cases this), if_pos hW]; rfl
                · rw [if_neg (fun z => hW (q.1 z).1), if_neg hW])
              have hm1 := hb1.m
              have lt1 := hb1.m.lt
              have lt0 := B0f.m.lt
              have k1n := World.ownsMap.size_le hm1
              obtain ⟨R4, hR4⟩ : ∃ R4, wr.heap.size = R4 := ⟨_, rfl⟩
              have HR4 := hide (show w.heap.size ≤ R4 ∧ C + 1 < R4 ∧ C < R4 from ⟨hR4 ▸ hu.size, hR4 ▸ lt1, hR4 ▸ lt0⟩)
              have HB0f := hide B0f
              have HB1f' := hide hb1
              have HC3 := hide C3
              have HU := hide hu
              have hn3' : n3 ≤ n + k0 := by omega
              clear hrg hC hcs hb1 hu hl0 hall B0f C3 HO lt1 lt0 HB0 HB1g HB2
              have cc := HC.out
              go_wp2_with (at_range; refine wpList_range_own _ rfl _ 81 rfl 30 4 lkK Try.underlying81 heldElem (C + 1) k D1 rfl hm1 ?_; intro w0 hrg0 hg0 hs0)
              go_frame
              have u0 : Upd wr w0 (fun _ => False) := (Upd.refl wr _).grown hg0 (fun k e => by cases e)
              rw [hR4] at hrg0 ⊢
              have HRG0 := hide hrg0
              have HCS0' := hide (HC3.out.upd u0 id id)
              have HB0g := hide (HB0f.out.upd u0 id)
              have HU4 := hide (HU.out.then u0 (fun _ _ e => e.elim))
              have HB1h := hide HB1f'.out
              clear hrg0 u0 hg0 hs0 hm1 hR4 HC3 HB0f HU HB1f'
              go_loopw [] (fun wr => ∃ (left : Lit → Bool) (cnt : Nat) (ss : List Lk) (D4 : DataW Value), wr.ranges Try.prog 30 heldElem (C + 1) R4 k D1 left cnt ∧ Gone D1 left ss ∧ Cas wr b bm n3 D4 (fun y => if y ∈ ss then none else if y ∈ W then some ((M y).getD enZero) else M y) ∧ Bag wr C k0 D0 (fun x => x ∈ W ∧ M x = none) ∧ Upd w wr (fun k => k = bm))
                (fun wr => wr.rangeLeft (C + 1) R4)
              case atStart => exact ⟨_, _, [], D3, HRG0.out, Gone.start D1, HCS0'.out.imp (by simp), HB0g.out, HU4.out⟩
              case round =>
                obtain ⟨left, cnt, ss, D4, hrg, hC, hcs, hb0, hu⟩ := hrel
                have HO := hide hrg
                go_wp2_with (at_next; refine wpList_next_ranges _ rfl _ rfl 30 lkK heldElem (fun x : Lk => .agg #[enS x.b, enS x.s, .int .i64 x.c, .int .i64 x.r]) (fun v : Value => v) (fun key kl hk => by obtain ⟨x, _, e, _⟩ := lk_inv hk; exact ⟨x, e⟩) (fun v y _ => ⟨v, rfl⟩) (C + 1) R4 k D1 left cnt rfl hrg ?_ ?_)
                · intro hc0 hl0
                  have hall := hC.all hl0
                  have B1f : Bag wr (C + 1) k D1 (fun x => x ∉ W ∧ (M x).isSome = true) := ⟨hrg.owns, HB1h.out.has, HB1h.out.val⟩
                  have C4 := hcs.imp (M2 := wantM M W) (fun y hy => by
                    have q := (hall y hy).trans (HB1h.out.has y hy)
                    unfold wantM
                    by_cases hW : y ∈ W
                    · rw [if_neg (fun z => (q.1 z).1 hW), if_pos hW, if_pos hW]
                    · rw [if_neg hW, if_neg hW]
                      cases hMy : M y with
                      | none => rw [if_neg (fun z => by have := (q.1 z).2; rw [hMy] at this; cases this)]
                      | some e => rw [if_pos (q.2 ⟨hW, by rw [hMy]; rfl⟩)])
                  have HS1 := hide (sorted_bag wr C k0 D0 _ hb0 (by omega))
                  have HB1i := hide B1f
                  have HC4 := hide C4
                  have HU5 := hide hu
                  clear hrg hC hcs hb0 hu hl0 hall B1f C4
                  go_wp2_with fail
                  refine Calls.mono HS1.out ?_
                  rintro e w5 ⟨a1, c1, ks1, rfl, hR1, hl1, u5⟩
                  have HS2 := hide (sorted_bag w5 (C + 1) k D1 _ (HB1i.out.upd u5 id) (by omega))
                  have HR1 := hide hR1
                  have HU6 := hide u5
                  clear hR1 u5 HS1
                  go_wp2_with fail
                  refine Calls.mono HS2.out ?_
                  rintro e w6 ⟨a2, c2, ks2, rfl, hR2, hl2, u6⟩
                  have HR2 := hide hR2
                  have HU7 := hide u6
                  clear hR2 u6 HS2
                  go_wp2_with fail
                  go_ret2
                  exact ⟨a1, c1, ks1, a2, c2, ks2, rfl, ⟨HU7.out.rw HR1.out.rw (fun _ _ => id), HR1.out.ord, HR1.out.ok, HR1.out.mem, fun i hi => Nat.le_trans HU5.out.size (HR1.out.new i hi)⟩, ⟨HR2.out.rw, HR2.out.ord, HR2.out.ok, HR2.out.mem, fun i hi => Nat.le_trans (Nat.le_trans HU5.out.size HU6.out.size) (HR2.out.new i hi)⟩, by omega, by omega, ⟨n3, D4, by omega, (HC4.out.upd HU6.out id id).upd HU7.out id id⟩, (HU5.out.then HU6.out (fun _ _ e => e.elim)).then HU7.out (fun _ _ e => e.elim)⟩
                · intro x c kl y1 y2 w2 cnt2 hkey hlk hv hat hrg2 hlt hg2 hs2 hen
                  obtain ⟨x', pok, ex, rfl⟩ := lk_inv hkey
                  obtain rfl : x = x' := by
                    obtain ⟨a, b, c, d⟩ := x
                    obtain ⟨a', b', c', d'⟩ := x'
                    simpa [Lk.val] using ex
                  have hD := has_of_at hat
                  have hC2 := hC.step pok hD hlk
                  have cc := HC.out
                  have cb := hcs.ne
                  obtain ⟨RC, RC1, RC2⟩ := HR4.out
                  have u2 : Upd wr w2 (fun k => k = R4) := (Upd.refl wr _).grown hg2 (fun k e => .inr (Option.some.inj e).symm)
                  have uo : Upd w2 (w2.alloc (.cells x.cs 30)) (fun _ => False) := (Upd.refl w2 _).alloc _
                  have h3 := (hcs.upd u2 (by omega) (by omega)).upd uo id id
                  have b0 := (hb0.upd u2 (by omega)).upd uo id
                  have hrg3 := ranges_upd hrg2 uo id id
                  have U2 : Upd w (w2.alloc (.cells x.cs 30)) (fun k => k = bm) := (hu.then u2 (fun i hi e => by omega)).then uo (fun _ _ e => e.elim)
                  have bx := Vnew1 w2 (.cells x.cs 30)
                  have ud : Upd (w2.alloc (.cells x.cs 30)) (w2.alloc (.cells x.cs 30)).drew (fun _ => False) := (Upd.refl _ _).drew
                  have FC := hide (h3.upd ud id id)
                  have FB := hide (b0.upd ud id)
                  have FR := hide (ranges_upd hrg3 ud id id)
                  have FU := hide (U2.then ud (fun _ _ e => e.elim))
                  have FG := hide hC2
                  have FP := hide pok
                  have z0 := cells1 h3.c
                  have zlt := lt_at h3.c
                  clear ud U2 uo h3 b0 hrg3 hrg2 hrg hC2 hC hcs hb0 hu hkey hlk hv hat ex hg2 hs2 pok hD u2
                  obtain ⟨W5, hW5⟩ : ∃ W5, w2.alloc (.cells x.cs 30) = W5 := ⟨_, rfl⟩
                  have HW5 := hide hW5
                  rw [hW5] at FC FB FR FU z0 zlt bx
                  obtain ⟨X, hX⟩ : ∃ X, X = x := ⟨_, rfl⟩
                  have HXX := hide hX
                  rw [← hX] at FG FP FR
                  obtain ⟨pb, hpb⟩ : ∃ pb, w2.heap.size = pb := ⟨_, rfl⟩
                  rw [hpb] at bx
                  have HPB := hide hpb
                  clear hW5 hX hpb
                  obtain ⟨xb, xs, xc, xr⟩ := x
                  unfold Lk.cs at bx
                  simp only at bx hen
                  have hW5' : w2.alloc (.cells #[.string ⟨xb.toArray⟩, .string ⟨xs.toArray⟩, .int .i64 xc, .int .i64 xr] 30) = W5 := HW5.out
                  have HW5' := hide hW5'
                  obtain ⟨x0, x1, x2, x3⟩ := cells4 bx
                  have xl := lt_at bx
                  clear bx hW5'
                  go_wp2_with fail
                  rw [HW5'.out, HPB.out]
                  refine wp_region_still_tail 5 (by kernel_rfl) (by kernel_rfl) ?_
                  change wpStill _ _ W5.drew (fun a' => wpList _ _ _ _ a' W5.drew) _ _
                  simp only [List.take_succ_cons, List.take_zero, List.drop_succ_cons, List.drop_zero]
                  repeat still_step
                  refine wpStill_nil ?_
                  go_wp2_with (at_delete; go_loud (refine wpList_delete_own _ rfl _ _ 77 30 rfl 67 lkK Try.underlying77 heldElem bm n3 _ rfl FC.out.m _ _ rfl (by have q := lk_key FP.out; rw [HXX.out] at q; exact q) ?_); intro w6 hown6 hturn6; go_frame)
                  have u6 : Upd W5.drew w6 (fun k => k = bm) := (Upd.refl _ _).grown hturn6.grown (fun k e => .inr (Option.some.inj e).symm)
                  rw [← HXX.out] at hown6
                  have FR6 := ranges_upd FR.out u6 (by omega) (by omega)
                  refine ⟨⟨_, cnt2, _, _, FR6, FG.out, (Cas.del FC.out u6 FP.out hown6).imp (fun y _ => ?_), FB.out.upd u6 (by omega), FU.out.then u6 (fun _ _ e => e)⟩, Nat.lt_of_le_of_lt (Nat.le_of_eq FR6.left_eq) (by rw [HO.out.left_eq]; exact hlt)⟩
                  have hh : y ∈ ss ++ [X] ↔ y ∈ ss ∨ y = X := by simp
                  unfold setF
                  by_cases e : y = X
                  · simp [e]
                  · simp [e]
            · intro x c kl y1 y2 w2 cnt2 hkey hlk hv hat hrg2 hlt hg2 hs2 hen
              obtain ⟨x', pok, ex, rfl⟩ := lk_inv hkey
              obtain rfl : x = x' := by
                obtain ⟨a, b, c, d⟩ := x
                obtain ⟨a', b', c', d'⟩ := x'
                simpa [Lk.val] using ex
              have hD := has_of_at hat
              have hC2 := hC.step pok hD hlk
              have cc := HC.out
              have rr := HR3.out
              have s2 := hu.size
              have lc := hcs.m.lt
              have cb := hcs.ne
              have lb := lt_at hcs.c
              have u2 : Upd wr w2 (fun k => k = R3) := (Upd.refl wr _).grown hg2 (fun k e => .inr (Option.some.inj e).symm)
              obtain ⟨RC, RC2⟩ := HRC.out
              have uo : Upd w2 (w2.alloc (.cells x.cs 30)) (fun _ => False) := (Upd.refl w2 _).alloc _
              have h3 := (hcs.upd u2 (by omega) (by omega)).upd uo id id
              have b1 := (hb1.upd u2 (by omega)).upd uo id
              have hrg3 := ranges_upd hrg2 uo id id
              have U2 : Upd w (w2.alloc (.cells x.cs 30)) (fun k => k = bm) := (hu.then u2 (fun i hi e => by omega)).then uo (fun _ _ e => e.elim)
              have bx := Vnew1 w2 (.cells x.cs 30)
              obtain ⟨W9, E9, m9, t9⟩ := h3.m.drew.store lkK Try.underlying77 (by unfold maxLen; omega) (lk_key pok) (val := enZero.val) (d := .held enZero.val) (ps := []) rfl
              have u9 : Upd (w2.alloc (.cells x.cs 30)).drew W9 (fun k => k = bm) := (Upd.refl _ _).grown t9.grown (fun k e => .inr (Option.some.inj e).symm)
              have ud : Upd (w2.alloc (.cells x.cs 30)) (w2.alloc (.cells x.cs 30)).drew (fun _ => False) := (Upd.refl _ _).drew
              have FC := hide ((Cas.put (h3.upd ud id id) u9 pok enZero m9).imp (M2 := fun y => if y ∈ ss ++ [x] then some enZero else M y) (fun y _ => by
                unfold setF
                by_cases e : y = x
                · simp [e]
                · simp [e]))
              have F1 := hide ((b1.upd ud id).upd u9 (by omega))
              have FR := hide (ranges_upd (ranges_upd hrg3 ud id id) u9 (by omega) (by omega))
              have FU := hide ((U2.then ud (fun _ _ e => e.elim)).then u9 (fun _ _ e => e))
              have FG := hide hC2
              have z0 := cells1 h3.c
              have zlt := lt_at h3.c
              clear m9 t9 u9 ud U2 uo h3 b1 hrg3 hrg2 hrg hC2 hC hcs hb1 hu hkey hlk hv hat ex hg2 hs2 pok hD u2
              obtain ⟨xb, xs, xc, xr⟩ := x
              unfold Lk.cs at bx E9 z0 zlt
              unfold Lk.val En.val at E9
              simp only [enZero] at bx E9 hen z0 zlt
              obtain ⟨x0, x1, x2, x3⟩ := cells4 bx
              have xl := lt_at bx
              clear bx
              go_wp2_with fail
              go_region
              all_goals go_wp2_with fail
              all_goals exact ⟨⟨_, cnt2, _, _, n3 + 1, FR.out, FG.out, FC.out, F1.out, by omega, FU.out⟩, Nat.lt_of_le_of_lt (Nat.le_of_eq FR.out.left_eq) (by rw [HO.out.left_eq]; exact hlt)⟩
        · intro x c kl y1 y2 w2 cnt2 hkey hlk hv hat hrg2 hlt hg2 hs2 hen
          obtain ⟨x', pok, ex, rfl⟩ := lk_inv hkey
          obtain rfl : x = x' := by
            obtain ⟨a, b, c, d⟩ := x
            obtain ⟨a', b', c', d'⟩ := x'
            simpa [Lk.val] using ex
          have hD := has_of_at hat
          have hC2 := hC.step pok hD hlk
          have cc := HC.out
          have rr := HR.out
          have u2 : Upd wr w2 (fun k => k = R2) := (Upd.refl wr _).grown hg2 (fun k e => .inr (Option.some.inj e).symm)
          have U2 : Upd w w2 (fun _ => False) := hu.then u2 (fun i hi e => by omega)
          have uo : Upd w2 (w2.alloc (.cells x.cs 30)) (fun _ => False) := (Upd.refl w2 _).alloc _
          have b0 := (hb0.upd u2 (by omega)).upd uo id
          have b1 := (hb1.upd u2 (by omega)).upd uo id
          have b2 := (hb2.upd u2 (by omega)).upd uo id
          have hrg3 := ranges_upd hrg2 uo id id
          have bx := Vnew1 w2 (.cells x.cs 30)
          have L1 := look_held b2.m lkK Try.underlying81 (zeroBl _) (lk_key pok) (b2.val x pok)
          have h2 := b2.has x pok
          have HU2 := hide (U2.then uo (fun _ _ => id))
          have HP := hide pok
          have HC2 := hide hC2
          have HB0' := hide b0
          have HB1' := hide b1
          have HB2' := hide b2
          have HRG3 := hide hrg3
          clear U2 u2 uo b0 b1 b2 hrg3 hrg2 hrg hC2 hC hb0 hb1 hb2 hu hkey hlk hv hat ex hg2 hs2 HB0 HB1 HB2 HU HGC pok hD
          cases hq : Maps.has D2 (lkLit x) with
          | true =>
            rw [hq] at L1 h2
            have F1 := hide (HB1'.out.imp (T := fun y => y ∈ ss ++ [x] ∧ y ∉ W) (fun y _ => by
              have : x ∈ W := h2.1 rfl
              constructor
              · exact fun q => ⟨by simp [q.1], q.2⟩
              · rintro ⟨q, q2⟩
                rcases List.mem_append.1 q with q | q
                · exact ⟨q, q2⟩
                · simp at q; subst q; exact absurd this q2))
            clear hq h2
            obtain ⟨xb, xs, xc, xr⟩ := x
            unfold Lk.cs at bx L1
            unfold Lk.val at L1
            simp only at bx L1 hen
            obtain ⟨x0, x1, x2, x3⟩ := cells4 bx
            clear bx
            go_wp2_with fail
            exact ⟨⟨_, cnt2, _, _, k, HRG3.out, HC2.out, HB0'.out, F1.out, HB2'.out, by omega, HU2.out⟩, Nat.lt_of_le_of_lt (Nat.le_of_eq HRG3.out.left_eq) (by rw [HO.out.left_eq]; exact hlt)⟩
          | false =>
            rw [hq] at L1 h2
            have hxW : x ∉ W := fun z => by have := h2.2 z; cases this
            obtain ⟨Wa, Ea, ma, ta⟩ := HB1'.out.m.store lkK Try.underlying81 (by unfold maxLen; omega) (lk_key HP.out) (val := .bool true) (d := .held (.bool true)) (ps := []) rfl
            have ua : Upd (w2.alloc (.cells x.cs 30)) Wa (fun k => k = C + 1) := (Upd.refl _ _).grown ta.grown (fun k e => .inr (Option.some.inj e).symm)
            have F1 := hide ((HB1'.out.put HP.out ma).imp (T := fun y => y ∈ ss ++ [x] ∧ y ∉ W) (fun y _ => by
              constructor
              · rintro (q | rfl)
                · exact ⟨by simp [q.1], q.2⟩
                · exact ⟨by simp, hxW⟩
              · rintro ⟨q, q2⟩
                rcases List.mem_append.1 q with q | q
                · exact .inl ⟨q, q2⟩
                · simp at q; exact .inr q))
            have F0 := hide (HB0'.out.upd ua (by omega))
            have F2 := hide (HB2'.out.upd ua (by omega))
            have FR := hide (ranges_upd HRG3.out ua (by omega) (by omega))
            have FU := hide (HU2.out.then ua (fun i hi e => by omega))
            clear hq h2 ma ta ua hxW
            obtain ⟨xb, xs, xc, xr⟩ := x
            unfold Lk.cs at bx L1 Ea
            unfold Lk.val at L1 Ea
            simp only at bx L1 hen Ea
            obtain ⟨x0, x1, x2, x3⟩ := cells4 bx
            clear bx
            go_wp2_with fail
            exact ⟨⟨_, cnt2, _, _, k + 1, FR.out, HC2.out, F0.out, F1.out, F2.out, by omega, FU.out⟩, by rw [FR.out.left_eq, HO.out.left_eq]; exact hlt⟩
end Go.Proofs.Ytcclkfkdafmemaa
