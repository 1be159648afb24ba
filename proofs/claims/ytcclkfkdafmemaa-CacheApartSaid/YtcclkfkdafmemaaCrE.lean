/- The reference's entries as rows; Find, Links. -/
import Derived.Test.YtcclkfkdafmemaaCrD
set_option maxRecDepth 100000
namespace Go.Lat
open Go.RowKit
/-- A cell of a slice that reads is written. -/
theorem Rw.set {w : World} {e size g off n cap : Nat} {xs : List Value} (h : Rw w e size (.slice (some ⟨g, off, none⟩) n cap) n xs) (j : Nat) (u : Value) (hj : j < n * size) :
    Rw (w.setCell ⟨g, off + j, none⟩ u) e size (.slice (some ⟨g, off, none⟩) n cap) n (xs.set j u) := by
  obtain ⟨h1, h2⟩ := h
  refine ⟨by simpa using h1, ?_⟩
  rcases h2 with ⟨he, _⟩ | ⟨g', off', cap', cur, he, hg, hnc, hcs, htake⟩
  · cases he
  · cases he
    have hm : n * size ≤ cap * size := Nat.mul_le_mul_right _ hnc
    refine .inr ⟨g, off, cap, cur.setIfInBounds (off + j) u, rfl, block_setCell hg _ _, hnc, by simpa using hcs, ?_⟩
    rw [← htake]
    apply List.ext_getElem?
    intro k
    rw [List.getElem?_set]
    by_cases hk : k < n * size
    · rw [List.getElem?_take_of_lt hk, List.getElem?_take_of_lt hk, List.getElem?_drop, List.getElem?_drop, Array.getElem?_toList, Array.getElem?_toList, Array.getElem?_setIfInBounds]
      by_cases hjk : j = k
      · subst hjk
        have : off + j < cur.size := by omega
        have l1 : j < ((cur.toList.drop off).take (n * size)).length := by simp; omega
        simp [this]
        omega
      · have : ¬ (off + j = off + k) := by omega
        simp [hjk]
    · have l2 : ((cur.toList.drop off).take (n * size)).length ≤ k := by simp; omega
      have e1 : ¬ j = k := by omega
      rw [if_neg e1, List.getElem?_take_eq_none (by omega), List.getElem?_take_eq_none (by omega)]
def setMany : List Value → Nat → List Value → List Value
  | xs, _, [] => xs
  | xs, o, v :: vs => setMany (xs.set o v) (o + 1) vs
theorem setMany_len : ∀ (vs xs : List Value) (o : Nat), (setMany xs o vs).length = xs.length
  | [], _, _ => rfl
  | v :: vs, xs, o => by
    unfold setMany
    rw [setMany_len vs]
    simp
theorem setMany_get : ∀ (vs xs : List Value) (o t : Nat), t < xs.length → (setMany xs o vs)[t]? = if o ≤ t ∧ t < o + vs.length then vs[t - o]? else xs[t]?
  | [], xs, o, t, _ => by
    have : ¬ (o ≤ t ∧ t < o + ([] : List Value).length) := by simp
    rw [if_neg this]
    rfl
  | v :: vs, xs, o, t, h => by
    unfold setMany
    rw [setMany_get vs (xs.set o v) (o + 1) t (by simpa using h)]
    by_cases h1 : o + 1 ≤ t ∧ t < o + 1 + vs.length
    · rw [if_pos h1, if_pos (by simp; omega)]
      obtain ⟨d, rfl⟩ : ∃ d, t = o + 1 + d := ⟨t - (o + 1), by omega⟩
      have e1 : o + 1 + d - (o + 1) = d := by omega
      have e2 : o + 1 + d - o = d + 1 := by omega
      rw [e1, e2]
      rfl
    · rw [if_neg h1]
      by_cases h2 : o = t
      · subst h2
        rw [if_pos (by simp), List.getElem?_set_self h]
        simp
      · rw [List.getElem?_set_ne h2, if_neg (by simp; omega)]
end Go.Lat
namespace Go.Proofs.Ytcclkfkdafmemaa
open Go.RowKit Go.Lat

abbrev Rf := Lk × En
def rfEnc (z : Rf) : List Value := [enS z.1.b, enS z.1.s, .int .i64 z.1.c, .int .i64 z.1.r, .int .i64 z.2.v.k, .int .i64 z.2.v.n, enS z.2.v.t, .bool z.2.v.b, .int .i64 z.2.v.f, .int .i64 z.2.ver, .int .i64 z.2.inc, .bool z.2.has, .bool z.2.stale, .bool z.2.lost]
def rfCells (l : List Rf) : List Value := l.flatMap rfEnc
theorem rfCells_app (a b : List Rf) : rfCells (a ++ b) = rfCells a ++ rfCells b := by simp [rfCells]
theorem rfEnc_len (z : Rf) : (rfEnc z).length = 14 := rfl
theorem rfCells_len (a : List Rf) : (rfCells a).length = a.length * 14 := by
  induction a with
  | nil => rfl
  | cons x l ih =>
    have : rfCells (x :: l) = rfEnc x ++ rfCells l := by simp [rfCells]
    rw [this, List.length_append, ih, rfEnc_len]
    simp
    omega
theorem rfCells_get (l : List Rf) (j : Nat) (z : Rf) (h : l[j]? = some z) (t : Nat) (ht : t < 14) : (rfCells l)[j * 14 + t]? = (rfEnc z)[t]? := by
  induction l generalizing j with
  | nil => simp at h
  | cons y l ih =>
    have e1 : rfCells (y :: l) = rfEnc y ++ rfCells l := by simp [rfCells]
    cases j with
    | zero =>
      simp at h
      subst h
      rw [e1, List.getElem?_append_left (by rw [rfEnc_len]; omega)]
      simp
    | succ j =>
      have h' : l[j]? = some z := by simpa using h
      have := ih j h'
      rw [e1, List.getElem?_append_right (by rw [rfEnc_len]; omega), ← this]
      congr 1
      rw [rfEnc_len]
      omega
theorem rfCells_set (l : List Rf) (k : Nat) (z : Rf) (hk : k < l.length) : rfCells (l.set k z) = setMany (rfCells l) (k * 14) (rfEnc z) := by
  apply List.ext_getElem?
  intro t
  by_cases ht : t < l.length * 14
  · rw [setMany_get _ _ _ _ (by rw [rfCells_len]; exact ht), rfEnc_len]
    obtain ⟨q, r, hr, rfl⟩ : ∃ q r, r < 14 ∧ t = q * 14 + r := ⟨t / 14, t % 14, Nat.mod_lt _ (by decide), by omega⟩
    have hq : q < l.length := by omega
    by_cases e : q = k
    · subst e
      rw [if_pos (by omega), rfCells_get (l.set q z) q z (List.getElem?_set_self hq) r hr]
      congr 1
      omega
    · rw [if_neg (by omega)]
      obtain ⟨y, hy⟩ : ∃ y, l[q]? = some y := ⟨_, List.getElem?_eq_getElem hq⟩
      rw [rfCells_get l q y hy r hr, rfCells_get (l.set k z) q y (by rw [List.getElem?_set_ne (fun h => e h.symm)]; exact hy) r hr]
  · rw [List.getElem?_eq_none (by rw [rfCells_len]; simp; omega), List.getElem?_eq_none (by rw [setMany_len, rfCells_len]; omega)]
theorem rf_at {w : World} {sa : Option Addr} {n c : Nat} {l : List Rf} (h : Rw w 65 14 (.slice sa n c) n (rfCells l)) (j : Nat) (z : Rf) (hz : l[j]? = some z) (hj : j < n) :
    ∃ g off, sa = some ⟨g, off, none⟩ ∧ g < w.heap.size ∧ ∀ t u, (rfEnc z)[t]? = some u → w.cell? ⟨g, off + j * 14 + t, none⟩ = some u := by
  obtain ⟨g, off, cap, hv, hg, hc⟩ := Rw.pos h (by omega)
  simp at hv
  refine ⟨g, off, hv.1, hg, fun t u hu => ?_⟩
  have ht : t < 14 := by
    have := (List.getElem?_eq_some_iff.1 hu).1
    rwa [rfEnc_len] at this
  have := rfCells_get l j z hz t ht
  rw [Nat.add_assoc]
  exact hc _ _ (this.trans hu)

set_option maxHeartbeats 1600000 in
/-- Find: the place of a link that is there. -/
theorem Find_hit (w : World) (va : Option Addr) (vc : Nat) (L : List Rf) (hr : Rw w 65 14 (.slice va L.length vc) L.length (rfCells L)) (hok : ∀ z ∈ L, z.1.ok) (p : Lk) (hp : p.ok) (hl : L.length ≤ 1000000) (k : Nat) (z : Rf) (hz : L[k]? = some z) (hzp : z.1 = p) (hfst : ∀ j y, j < k → L[j]? = some y → y.1 ≠ p) :
    Calls Try.prog 38 #[.slice va L.length vc, p.val] w fun e w' => e = .returned (.int .i64 (k : Nat)) ∧ Upd w w' (fun _ => False) := by
  have hkl : k < L.length := (List.getElem?_eq_some_iff.1 hz).1
  obtain ⟨N, hN⟩ : ∃ N, L.length = N := ⟨_, rfl⟩
  rw [hN] at hr hl hkl ⊢
  obtain ⟨C, hC⟩ : ∃ C, w.heap.size = C := ⟨_, rfl⟩
  have b0 := Vnew1 w (.cells p.cs 31)
  rw [hC] at b0
  have EQ := fun (x : Lk) (hx : x.ok) w => eq_pl w hx hp
  have HN := hide hN
  have HR := hide hr
  have HOK := hide hok
  have HC := hide hC
  have HZ := hide hz
  have HZP := hide hzp
  have HFST := hide hfst
  have HB0 := hide b0
  have HEQ := hide EQ
  obtain ⟨P, hP⟩ : ∃ P, P = p := ⟨_, rfl⟩
  rw [← hP] at HZP HFST HEQ HB0
  have HPP := hide hP
  clear hN hr hok hC hz hzp hfst b0 EQ hP hp
  obtain ⟨pb, ps, pc, pr⟩ := p
  unfold Lk.val
  simp only
  go_enter Try.func38, Try.ntmps38
  go_wp2_with fail
  rw [HC.out]
  go_loopg [5] N (fun q iv wr => ∃ j : Nat, j + q = N ∧ j ≤ k ∧ iv = .int .i64 j ∧ wr.heap[C]? = some (.cells P.cs 31 (0, 0)) ∧ Upd w wr (fun _ => False))
  case atStart => exact ⟨0, by omega, by omega, rfl, by rw [HPP.out] at HB0 ⊢; exact HB0.out, (Upd.refl w _).alloc _⟩
  case round =>
    obtain ⟨j, hj, hjk, rfl, hb, hu⟩ := hrel
    have HB := hide hb
    have HU := hide hu
    clear hb hu
    have hjN : j < N := by omega
    obtain ⟨y, hy⟩ : ∃ x, L[j]? = some x := ⟨_, List.getElem?_eq_getElem (by rw [HN.out]; exact hjN)⟩
    have yok := HOK.out y (List.mem_of_getElem? hy)
    obtain ⟨g, off, rfl, hg, hc⟩ := rf_at (HU.out.rw HR.out (fun _ _ => id)) j y hy hjN
    have d0 := hc 0 _ rfl
    have d1 := hc 1 _ rfl
    have d2 := hc 2 _ rfl
    have d3 := hc 3 _ rfl
    rw [Nat.add_zero] at d0
    have hj0 : (0 : Int) ≤ (j : Int) := by omega
    have hj1 : (j : Int) < (N : Int) := by omega
    have EQ := HEQ.out y.1 yok
    have HY := hide hy
    have hb := HB.out
    rw [HPP.out] at hb
    unfold Lk.cs at hb
    simp only at hb
    obtain ⟨e0, e1, e2, e3⟩ := cells4 hb
    clear hb hy yok hc
    by_cases hjk2 : j = k
    · subst hjk2
      have e : y.1 = P := by
        have := HZ.out
        rw [HY.out] at this
        rw [Option.some.inj this]
        exact HZP.out
      have e' : decide (y.1 = P) = true := by simpa using e
      rw [e', HPP.out] at EQ
      clear e e' HY HZ HEQ
      obtain ⟨⟨xb, xs, xc, xr⟩, ye⟩ := y
      unfold Lk.val at EQ
      simp only at EQ d0 d1 d2 d3
      go_wp2_with fail
      go_quiet (fail)
      go_wp2_with fail
      go_ret
      exact ⟨rfl, HU.out.drewN _⟩
    · have hne := HFST.out j y (by omega) HY.out
      have e' : decide (y.1 = P) = false := by simpa using hne
      rw [e', HPP.out] at EQ
      clear e' hne HY HEQ
      obtain ⟨⟨xb, xs, xc, xr⟩, ye⟩ := y
      unfold Lk.val at EQ
      simp only at EQ d0 d1 d2 d3
      go_wp2_with fail
      go_quiet (fail)
      go_wp2_with fail
      go_roundg (gk - 1)
      case measure => omega
      case rel => exact ⟨j + 1, by omega, by omega, by go_num, HB.out, HU.out.drewN _⟩

set_option maxHeartbeats 1600000 in
/-- Find: a link that isn't there. -/
theorem Find_miss (w : World) (va : Option Addr) (vc : Nat) (L : List Rf) (hr : Rw w 65 14 (.slice va L.length vc) L.length (rfCells L)) (hok : ∀ z ∈ L, z.1.ok) (p : Lk) (hp : p.ok) (hl : L.length ≤ 1000000) (hno : ∀ z ∈ L, z.1 ≠ p) :
    Calls Try.prog 38 #[.slice va L.length vc, p.val] w fun e w' => e = .returned (.int .i64 (-1)) ∧ Upd w w' (fun _ => False) := by
  obtain ⟨N, hN⟩ : ∃ N, L.length = N := ⟨_, rfl⟩
  rw [hN] at hr hl ⊢
  obtain ⟨C, hC⟩ : ∃ C, w.heap.size = C := ⟨_, rfl⟩
  have b0 := Vnew1 w (.cells p.cs 31)
  rw [hC] at b0
  have EQ := fun (x : Lk) (hx : x.ok) w => eq_pl w hx hp
  have HN := hide hN
  have HR := hide hr
  have HOK := hide hok
  have HC := hide hC
  have HNO := hide hno
  have HB0 := hide b0
  have HEQ := hide EQ
  obtain ⟨P, hP⟩ : ∃ P, P = p := ⟨_, rfl⟩
  rw [← hP] at HNO HEQ HB0
  have HPP := hide hP
  clear hN hr hok hC hno b0 EQ hP hp
  obtain ⟨pb, ps, pc, pr⟩ := p
  unfold Lk.val
  simp only
  go_enter Try.func38, Try.ntmps38
  go_wp2_with fail
  rw [HC.out]
  go_loopg [5] N (fun q iv wr => ∃ j : Nat, j + q = N ∧ iv = .int .i64 j ∧ wr.heap[C]? = some (.cells P.cs 31 (0, 0)) ∧ Upd w wr (fun _ => False))
  case atStart => exact ⟨0, by omega, rfl, by rw [HPP.out] at HB0 ⊢; exact HB0.out, (Upd.refl w _).alloc _⟩
  case round =>
    obtain ⟨j, hj, rfl, hb, hu⟩ := hrel
    have HB := hide hb
    have HU := hide hu
    clear hb hu
    by_cases hjN : j < N
    · obtain ⟨y, hy⟩ : ∃ x, L[j]? = some x := ⟨_, List.getElem?_eq_getElem (by rw [HN.out]; exact hjN)⟩
      have yok := HOK.out y (List.mem_of_getElem? hy)
      have hne := HNO.out y (List.mem_of_getElem? hy)
      obtain ⟨g, off, rfl, hg, hc⟩ := rf_at (HU.out.rw HR.out (fun _ _ => id)) j y hy hjN
      have d0 := hc 0 _ rfl
      have d1 := hc 1 _ rfl
      have d2 := hc 2 _ rfl
      have d3 := hc 3 _ rfl
      rw [Nat.add_zero] at d0
      have hj0 : (0 : Int) ≤ (j : Int) := by omega
      have hj1 : (j : Int) < (N : Int) := by omega
      have EQ := HEQ.out y.1 yok
      have hb := HB.out
      rw [HPP.out] at hb
      unfold Lk.cs at hb
      simp only at hb
      obtain ⟨e0, e1, e2, e3⟩ := cells4 hb
      have e' : decide (y.1 = P) = false := by simpa using hne
      rw [e', HPP.out] at EQ
      clear hb hy yok hc e' hne HEQ
      obtain ⟨⟨xb, xs, xc, xr⟩, ye⟩ := y
      unfold Lk.val at EQ
      simp only at EQ d0 d1 d2 d3
      go_wp2_with fail
      go_quiet (fail)
      go_wp2_with fail
      go_roundg (gk - 1)
      case measure => omega
      case rel => exact ⟨j + 1, by omega, by go_num, HB.out, HU.out.drewN _⟩
    · have hj1 : ¬ (j : Int) < (N : Int) := by omega
      go_wp2_with fail
      go_ret
      exact ⟨rfl, HU.out⟩

set_option maxHeartbeats 3200000 in
theorem RLinks_any (w : World) (va : Option Addr) (vc : Nat) (L : List Rf) (hr : Rw w 65 14 (.slice va L.length vc) L.length (rfCells L)) (hok : ∀ z ∈ L, z.1.ok) (hl : L.length ≤ 1000000) :
    Calls Try.prog 19 #[.slice va L.length vc] w fun e w' => ∃ a c ks, e = .returned (.slice a ks.length c) ∧ Rw w' 31 4 (.slice a ks.length c) ks.length (lkCells ks) ∧ ks.Pairwise ltP ∧ (∀ x, x ∈ ks ↔ x ∈ L.map Prod.fst) ∧ ks.length ≤ L.length ∧
      (∀ k, (Value.slice a ks.length c).ownBlock = some k → w.heap.size ≤ k) ∧ Upd w w' (fun _ => False) := by
  obtain ⟨N, hN⟩ : ∃ N, L.length = N := ⟨_, rfl⟩
  rw [hN] at hr hl ⊢
  obtain ⟨iO, hiO, hO0, hO1, hO2⟩ := info_parts Try.info31
  have HN := hide hN
  have HR := hide hr
  have HOK := hide hok
  clear hN hr hok
  go_enter Try.func19, Try.ntmps19
  go_wp2_with fail
  go_loopg [3, 4] N (fun q ov iv wr => ∃ i : Nat, i + q = N ∧ iv = .int .i64 i ∧ Rw wr 31 4 ov i (lkCells ((L.take i).map Prod.fst)) ∧ (∀ k, ov.ownBlock = some k → w.heap.size ≤ k) ∧ Upd w wr (fun _ => False))
  case atStart => exact ⟨0, by omega, rfl, by simpa [lkCells] using Rw.nil _ _ _, fun k hk => (by cases hk), Upd.refl _ _⟩
  case round =>
    obtain ⟨i, hi, rfl, hra, hown, hu⟩ := hrel
    obtain ⟨oa, oc, rfl, -⟩ := Rw.form hra
    have HRA := hide hra
    have HOWN := hide hown
    have HU := hide hu
    clear hra hown hu
    by_cases hiN : i < N
    · obtain ⟨y, hy⟩ : ∃ x, L[i]? = some x := ⟨_, List.getElem?_eq_getElem (by rw [HN.out]; exact hiN)⟩
      obtain ⟨g, off, rfl, hg, hc⟩ := rf_at (HU.out.rw HR.out (fun _ _ => id)) i y hy hiN
      have d0 := hc 0 _ rfl
      have d1 := hc 1 _ rfl
      have d2 := hc 2 _ rfl
      have d3 := hc 3 _ rfl
      rw [Nat.add_zero] at d0
      have hj0 : (0 : Int) ≤ (i : Int) := by omega
      have hj1 : (i : Int) < (N : Int) := by omega
      have HT : Hid (L.take (i + 1) = L.take i ++ [y]) := hide (by rw [List.take_add_one, hy]; rfl)
      clear hc hy
      obtain ⟨⟨xb, xs, xc, xr⟩, ye⟩ := y
      simp only at d0 d1 d2 d3
      have HRX := hide (HRA.out.alloc (.cells #[enS xb, enS xs, .int .i64 xc, .int .i64 xr] 31))
      go_wp2_with (at_builtin; (refine wpList_append_rw _ rfl _ _ 60 60 rfl 31 _ iO _ 4 48 Try.underlying60 Try.underlying60 (by simp) hiO hO0 hO1 hO2 rfl _ _ _ rfl HRX.out _ 1 [enS xb, enS xs, .int .i64 xc, .int .i64 xr] rfl (Rw.src (Rw.made wr #[enS xb, enS xs, .int .i64 xc, .int .i64 xr] 31 4 1 rfl)) rfl (by simp [Value.oneCell']) (by omega) (by omega) ?_); intro ga gc w5 hv' hg' hob'; have HV5 := hide hv'; have HU5 := hide ((HU.out.alloc (.cells #[enS xb, enS xs, .int .i64 xc, .int .i64 xr] 31)).grown hg' (fun k e => .inl (HOWN.out k e))); have HNO5 := hide (own_lo hob' HOWN.out (by have := HU.out.size; simp; omega)); clear hv' hg' hob')
      go_roundg (gk - 1)
      case measure => omega
      case rel =>
        refine ⟨i + 1, by omega, by go_num, ?_, HNO5.out, HU5.out⟩
        rw [HT.out, List.map_append, lkCells_app]
        simpa [lkCells, lkEnc] using HV5.out
    · have hj1 : ¬ (i : Int) < (N : Int) := by omega
      have hiN' : i = N := by omega
      subst hiN'
      have htk : L.take i = L := List.take_of_length_le (by rw [HN.out]; omega)
      have hra := HRA.out
      rw [htk] at hra
      have hml : (L.map Prod.fst).length = i := by rw [List.length_map, HN.out]
      have S := fun w' a c h => RSorted_any w' a c (L.map Prod.fst) h (fun x hx => by obtain ⟨z, hz, rfl⟩ := List.mem_map.1 hx; exact HOK.out z hz) (by omega)
      rw [hml] at S
      have HS := hide (S wr oa oc hra)
      have HU := hide HU.out
      clear S hra htk hml HRA
      go_wp2_with (go_at_call 37; refine Calls.mono HS.out ?_; rintro e w1 ⟨a, c, ks, rfl, r1, r2, r3, r4, r5, u1⟩)
      go_ret
      exact ⟨a, c, ks, rfl, r1, r2, r3, r4, fun k hk => Nat.le_trans HU.out.size (r5 k hk), HU.out.then u1 (fun _ _ => id)⟩
end Go.Proofs.Ytcclkfkdafmemaa
