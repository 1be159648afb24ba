/- The walk of nums' Bin. -/
import Derived.Test.YtmfngdjhkpddoaaGreatDoorJ23
import Derived.Test.YtmfngdjhkpddoaaGreatDoorJ13
import Derived.Test.YtmfngdjhkpddoaaGreatDoorJ05
import Derived.Laws.OwnMore
import Derived.Deep.OwnRows
/- The walk of nums' Bin. -/
set_option maxRecDepth 100000
namespace Go.Proofs.YtmfngdjhkpddoaaGreatDoor
open Go.RowKit Go.Lat Go.Lib

theorem rw_two {w : World} {e : TypeId} {v x0 x1 : Value} (h : Rw w e 1 v 2 [x0, x1]) : ∃ g off cap, v = .slice (some ⟨g, off, none⟩) 2 cap ∧ g < w.heap.size ∧ w.cell? ⟨g, off, none⟩ = some x0 ∧ w.cell? ⟨g, off + 1, none⟩ = some x1 ∧
    ∀ b cs t, w.heap[b]? = some (.cells cs t (0, 0)) → t ≠ e → g ≠ b := by
  obtain ⟨g, off, cap, hv, hg, hc⟩ := Rw.pos h (by decide)
  refine ⟨g, off, cap, hv, hg, hc 0 _ rfl, hc 1 _ rfl, fun b cs t hb hne e => ?_⟩
  subst hv e
  rcases h.2 with ⟨h1, _⟩ | ⟨g', off', cap', cur, h1, h2, _⟩
  · cases h1
  · cases h1
    rw [hb] at h2
    cases h2
    exact hne rfl
theorem set5_cell {W : World} {G g off : Nat} (hne : g ≠ G) (hl : g < W.heap.size) (v0 v1 v2 v3 v4 : Value) : (((((W.setCell ⟨G, 0, none⟩ v0).setCell ⟨G, 1, none⟩ v1).setCell ⟨G, 2, none⟩ v2).setCell ⟨G, 3, none⟩ v3).setCell ⟨G, 4, none⟩ v4).cell? ⟨g, off, none⟩ = W.cell? ⟨g, off, none⟩ :=
  ((((((Upd.refl W (fun j => j = G)).setCell ⟨G, 0, none⟩ v0 (.inr rfl)).setCell ⟨G, 1, none⟩ v1 (.inr rfl)).setCell ⟨G, 2, none⟩ v2 (.inr rfl)).setCell ⟨G, 3, none⟩ v3 (.inr rfl)).setCell ⟨G, 4, none⟩ v4 (.inr rfl)).cell g off hl hne
/-- What an operator between two values tells. -/
noncomputable def binV (n : List UInt8) (x y : Vl) : Vl × Bool :=
  if n = [38] then (joinV (textF x) (textF y), true)
  else if isCmp n = true then (if (orderV x y).2 = 0 then mkB (holdB n (orderV x y).1) else mkE (orderV x y).2, true)
  else if numsE [x, y] = 0 then reckV n (numF x).1 (numF y).1
  else if (reckV n 0 10000).2 = true then (mkE (numsE [x, y]), true) else (vZero, false)
set_option maxHeartbeats 6400000 in
theorem Bin_any (w : World) (hg : Sig w) (hp : Pow w) (n : List UInt8) (x y : Vl) (hx : x.ok) (hy : y.ok) (lx : x.t.length ≤ 1000000) (ly : y.t.length ≤ 1000000) : Calls Tryz.prog 12 #[enS n, x.val, y.val] w fun e w' => e = .returned (.tuple #[(binV n x y).1.val, .bool (binV n x y).2]) ∧ Upd w w' (fun _ => False) := by
  have ho2 : oksV [x, y] := fun z hz => by
    rcases List.mem_cons.1 hz with rfl | hz
    · exact ⟨hx, lx⟩
    · obtain rfl := List.mem_singleton.1 hz
      exact ⟨hy, ly⟩
  by_cases hn : n = [38]
  · have e1 : binV n x y = (joinV (textF x) (textF y), true) := by unfold binV; rw [if_pos hn]
    have b1 : (n == [38]) = true := by simpa using hn
    rw [e1]
    have JA := fun W h1 h2 => joined_any W h1 h2 x y hx hy
    simp only
    obtain ⟨J, hJ⟩ : ∃ J, joinV (textF x) (textF y) = J := ⟨_, rfl⟩
    rw [hJ] at JA ⊢
    clear e1 hn hx hy lx ly ho2 hJ
    have HG := hide hg
    have HP := hide hp
    clear hg hp
    obtain ⟨xk, xn, xt, xb, xf⟩ := x
    obtain ⟨yk, yn, yt, yb, yf⟩ := y
    obtain ⟨⟨k0, n0, t0, b0, e0'⟩, hev⟩ : ∃ v, J = v := ⟨_, rfl⟩
    rw [hev] at JA ⊢
    unfold Vl.val at JA
    (try unfold Vl.val)
    simp only at JA ⊢
    clear hev
    have HU0 : Hid (Upd w (((w.alloc (.cells #[.int .i64 xk, .int .i64 xn, enS xt, .bool xb, .int .i64 xf] 26)).alloc (.cells #[.int .i64 yk, .int .i64 yn, enS yt, .bool yb, .int .i64 yf] 26)).alloc (.cells #[.int .i64 0, .int .i64 0, .string ⟨#[]⟩, .bool false, .int .i64 0] 26)) (fun _ => False)) := hide ((((Upd.refl w _).alloc _).alloc _).alloc _)
    have HX0 : Hid ((((w.alloc (.cells #[.int .i64 xk, .int .i64 xn, enS xt, .bool xb, .int .i64 xf] 26)).alloc (.cells #[.int .i64 yk, .int .i64 yn, enS yt, .bool yb, .int .i64 yf] 26)).alloc (.cells #[.int .i64 0, .int .i64 0, .string ⟨#[]⟩, .bool false, .int .i64 0] 26)).heap[w.heap.size]? = some (.cells #[.int .i64 xk, .int .i64 xn, enS xt, .bool xb, .int .i64 xf] 26 (0, 0))) := hide (block_alloc (block_alloc (Vnew1 w _) _) _)
    have HY0 : Hid ((((w.alloc (.cells #[.int .i64 xk, .int .i64 xn, enS xt, .bool xb, .int .i64 xf] 26)).alloc (.cells #[.int .i64 yk, .int .i64 yn, enS yt, .bool yb, .int .i64 yf] 26)).alloc (.cells #[.int .i64 0, .int .i64 0, .string ⟨#[]⟩, .bool false, .int .i64 0] 26)).heap[w.heap.size + 1]? = some (.cells #[.int .i64 yk, .int .i64 yn, enS yt, .bool yb, .int .i64 yf] 26 (0, 0))) := hide (block_alloc (Vnew2 w _ _) _)
    have HV0 : Hid ((((w.alloc (.cells #[.int .i64 xk, .int .i64 xn, enS xt, .bool xb, .int .i64 xf] 26)).alloc (.cells #[.int .i64 yk, .int .i64 yn, enS yt, .bool yb, .int .i64 yf] 26)).alloc (.cells #[.int .i64 0, .int .i64 0, .string ⟨#[]⟩, .bool false, .int .i64 0] 26)).heap[w.heap.size + 1 + 1]? = some (.cells #[.int .i64 0, .int .i64 0, .string ⟨#[]⟩, .bool false, .int .i64 0] 26 (0, 0))) := hide (by have := Vnew2 (w.alloc (.cells #[.int .i64 xk, .int .i64 xn, enS xt, .bool xb, .int .i64 xf] 26)) (.cells #[.int .i64 yk, .int .i64 yn, enS yt, .bool yb, .int .i64 yf] 26) (.cells #[.int .i64 0, .int .i64 0, .string ⟨#[]⟩, .bool false, .int .i64 0] 26); simpa using this)
    go_enter Tryz.func12, Tryz.ntmps12
    go_wp2_with fail
    with_reducible refine Calls.mono (JA _ (HG.out.upd HU0.out id) (HP.out.upd HU0.out id)) ?_
    rintro e w9 ⟨rfl, u9⟩
    have HU9 := hide (HU0.out.then u9 (fun _ _ => id))
    have bV := u9.get HV0.out id
    obtain ⟨v0, v1, v2, v3, v4⟩ := cells5 bV
    have vl := lt_at bV
    have fv0 := free_at bV 0
    have fv1 := free_at bV 1
    have fv2 := free_at bV 2
    have fv3 := free_at bV 3
    have fv4 := free_at bV 4
    have HB := hide bV
    clear bV u9
    go_wp2_with fail
    (try simp only [Exit.inBlock, Exit.then])
    refine bodyPost_ret (ret_vlb rfl _ _ (w.heap.size + 1 + 1) ⟨k0, n0, t0, b0, e0'⟩ rfl (block5 (x := vZero) HB.out _ _ _ _ _)) rfl ?_
    exact ⟨rfl, upd5 HU9.out (by omega) _ _ _ _ _⟩
  have b1 : (n == [38]) = false := by simpa using hn
  have OA := fun w => Order_any w x y hx hy lx ly
  have HA := fun w r => holds_any w n r
  by_cases hc : isCmp n = true
  · have e1 : binV n x y = (if (orderV x y).2 = 0 then mkB (holdB n (orderV x y).1) else mkE (orderV x y).2, true) := by unfold binV; rw [if_neg hn, if_pos hc]
    rw [e1]
    rw [hc] at HA
    obtain ⟨⟨r, f⟩, hr⟩ : ∃ r, orderV x y = r := ⟨_, rfl⟩
    rw [hr] at OA ⊢
    simp only at OA ⊢
    clear e1 hn hx hy lx ly ho2 hr hc hg hp
    obtain ⟨xk, xn, xt, xb, xf⟩ := x
    obtain ⟨yk, yn, yt, yb, yf⟩ := y
    unfold Vl.val at OA
    simp only at OA
    by_cases hf : f = 0
    · subst hf
      rw [if_pos rfl]
      obtain ⟨q, hq⟩ : ∃ q, holdB n r = q := ⟨_, rfl⟩
      have HH := fun w => HA w r
      rw [hq] at HH ⊢
      clear HA hq
      have BA := fun w => B_any w q
      obtain ⟨⟨k0, n0, t0, b0, e0'⟩, hev⟩ : ∃ v, mkB q = v := ⟨_, rfl⟩
      rw [hev] at BA ⊢
      unfold Vl.val at BA
      (try unfold Vl.val)
      simp only at BA ⊢
      clear hev
      (try unfold Vl.val)
      (try simp only)
      have HU0 : Hid (Upd w (((w.alloc (.cells #[.int .i64 xk, .int .i64 xn, enS xt, .bool xb, .int .i64 xf] 26)).alloc (.cells #[.int .i64 yk, .int .i64 yn, enS yt, .bool yb, .int .i64 yf] 26)).alloc (.cells #[.int .i64 0, .int .i64 0, .string ⟨#[]⟩, .bool false, .int .i64 0] 26)) (fun _ => False)) := hide ((((Upd.refl w _).alloc _).alloc _).alloc _)
      have HX0 : Hid ((((w.alloc (.cells #[.int .i64 xk, .int .i64 xn, enS xt, .bool xb, .int .i64 xf] 26)).alloc (.cells #[.int .i64 yk, .int .i64 yn, enS yt, .bool yb, .int .i64 yf] 26)).alloc (.cells #[.int .i64 0, .int .i64 0, .string ⟨#[]⟩, .bool false, .int .i64 0] 26)).heap[w.heap.size]? = some (.cells #[.int .i64 xk, .int .i64 xn, enS xt, .bool xb, .int .i64 xf] 26 (0, 0))) := hide (block_alloc (block_alloc (Vnew1 w _) _) _)
      have HY0 : Hid ((((w.alloc (.cells #[.int .i64 xk, .int .i64 xn, enS xt, .bool xb, .int .i64 xf] 26)).alloc (.cells #[.int .i64 yk, .int .i64 yn, enS yt, .bool yb, .int .i64 yf] 26)).alloc (.cells #[.int .i64 0, .int .i64 0, .string ⟨#[]⟩, .bool false, .int .i64 0] 26)).heap[w.heap.size + 1]? = some (.cells #[.int .i64 yk, .int .i64 yn, enS yt, .bool yb, .int .i64 yf] 26 (0, 0))) := hide (block_alloc (Vnew2 w _ _) _)
      have HV0 : Hid ((((w.alloc (.cells #[.int .i64 xk, .int .i64 xn, enS xt, .bool xb, .int .i64 xf] 26)).alloc (.cells #[.int .i64 yk, .int .i64 yn, enS yt, .bool yb, .int .i64 yf] 26)).alloc (.cells #[.int .i64 0, .int .i64 0, .string ⟨#[]⟩, .bool false, .int .i64 0] 26)).heap[w.heap.size + 1 + 1]? = some (.cells #[.int .i64 0, .int .i64 0, .string ⟨#[]⟩, .bool false, .int .i64 0] 26 (0, 0))) := hide (by have := Vnew2 (w.alloc (.cells #[.int .i64 xk, .int .i64 xn, enS xt, .bool xb, .int .i64 xf] 26)) (.cells #[.int .i64 yk, .int .i64 yn, enS yt, .bool yb, .int .i64 yf] 26) (.cells #[.int .i64 0, .int .i64 0, .string ⟨#[]⟩, .bool false, .int .i64 0] 26); simpa using this)
      go_enter Tryz.func12, Tryz.ntmps12
      go_wp2_with fail
      with_reducible refine Calls.mono (OA _) ?_
      rintro e w1 ⟨rfl, u1⟩
      have HU1 := hide (HU0.out.then u1 (fun _ _ => id))
      have HV1 := hide (u1.get HV0.out id)
      have HX1 := hide (u1.get HX0.out id)
      have HY1 := hide (u1.get HY0.out id)
      clear u1
      go_wp2_with fail
      with_reducible refine Calls.mono (HH _) ?_
      rintro e w8 ⟨rfl, hw8⟩
      obtain rfl := hw8.symm
      clear hw8
      go_wp2_with fail
      with_reducible refine Calls.mono (BA _) ?_
      rintro e w9 ⟨rfl, u9⟩
      have HU9 := hide (HU1.out.then u9 (fun _ _ => id))
      have bV := u9.get HV1.out id
      obtain ⟨v0, v1, v2, v3, v4⟩ := cells5 bV
      have vl := lt_at bV
      have fv0 := free_at bV 0
      have fv1 := free_at bV 1
      have fv2 := free_at bV 2
      have fv3 := free_at bV 3
      have fv4 := free_at bV 4
      have HB := hide bV
      clear bV u9
      go_wp2_with fail
      (try simp only [Exit.inBlock, Exit.then])
      refine bodyPost_ret (ret_vlb rfl _ _ (w.heap.size + 1 + 1) ⟨k0, n0, t0, b0, e0'⟩ rfl (block5 (x := vZero) HB.out _ _ _ _ _)) rfl ?_
      exact ⟨rfl, upd5 HU9.out (by omega) _ _ _ _ _⟩
    · rw [if_neg hf]
      have bf : (f != 0) = true := by simpa using hf
      have HH := fun w => HA w r
      clear HA hf
      have EA := fun w => E_any w f
      obtain ⟨⟨k0, n0, t0, b0, e0'⟩, hev⟩ : ∃ v, mkE f = v := ⟨_, rfl⟩
      rw [hev] at EA ⊢
      unfold Vl.val at EA
      (try unfold Vl.val)
      simp only at EA ⊢
      clear hev
      (try unfold Vl.val)
      (try simp only)
      have HU0 : Hid (Upd w (((w.alloc (.cells #[.int .i64 xk, .int .i64 xn, enS xt, .bool xb, .int .i64 xf] 26)).alloc (.cells #[.int .i64 yk, .int .i64 yn, enS yt, .bool yb, .int .i64 yf] 26)).alloc (.cells #[.int .i64 0, .int .i64 0, .string ⟨#[]⟩, .bool false, .int .i64 0] 26)) (fun _ => False)) := hide ((((Upd.refl w _).alloc _).alloc _).alloc _)
      have HX0 : Hid ((((w.alloc (.cells #[.int .i64 xk, .int .i64 xn, enS xt, .bool xb, .int .i64 xf] 26)).alloc (.cells #[.int .i64 yk, .int .i64 yn, enS yt, .bool yb, .int .i64 yf] 26)).alloc (.cells #[.int .i64 0, .int .i64 0, .string ⟨#[]⟩, .bool false, .int .i64 0] 26)).heap[w.heap.size]? = some (.cells #[.int .i64 xk, .int .i64 xn, enS xt, .bool xb, .int .i64 xf] 26 (0, 0))) := hide (block_alloc (block_alloc (Vnew1 w _) _) _)
      have HY0 : Hid ((((w.alloc (.cells #[.int .i64 xk, .int .i64 xn, enS xt, .bool xb, .int .i64 xf] 26)).alloc (.cells #[.int .i64 yk, .int .i64 yn, enS yt, .bool yb, .int .i64 yf] 26)).alloc (.cells #[.int .i64 0, .int .i64 0, .string ⟨#[]⟩, .bool false, .int .i64 0] 26)).heap[w.heap.size + 1]? = some (.cells #[.int .i64 yk, .int .i64 yn, enS yt, .bool yb, .int .i64 yf] 26 (0, 0))) := hide (block_alloc (Vnew2 w _ _) _)
      have HV0 : Hid ((((w.alloc (.cells #[.int .i64 xk, .int .i64 xn, enS xt, .bool xb, .int .i64 xf] 26)).alloc (.cells #[.int .i64 yk, .int .i64 yn, enS yt, .bool yb, .int .i64 yf] 26)).alloc (.cells #[.int .i64 0, .int .i64 0, .string ⟨#[]⟩, .bool false, .int .i64 0] 26)).heap[w.heap.size + 1 + 1]? = some (.cells #[.int .i64 0, .int .i64 0, .string ⟨#[]⟩, .bool false, .int .i64 0] 26 (0, 0))) := hide (by have := Vnew2 (w.alloc (.cells #[.int .i64 xk, .int .i64 xn, enS xt, .bool xb, .int .i64 xf] 26)) (.cells #[.int .i64 yk, .int .i64 yn, enS yt, .bool yb, .int .i64 yf] 26) (.cells #[.int .i64 0, .int .i64 0, .string ⟨#[]⟩, .bool false, .int .i64 0] 26); simpa using this)
      go_enter Tryz.func12, Tryz.ntmps12
      go_wp2_with fail
      with_reducible refine Calls.mono (OA _) ?_
      rintro e w1 ⟨rfl, u1⟩
      have HU1 := hide (HU0.out.then u1 (fun _ _ => id))
      have HV1 := hide (u1.get HV0.out id)
      have HX1 := hide (u1.get HX0.out id)
      have HY1 := hide (u1.get HY0.out id)
      clear u1
      go_wp2_with fail
      with_reducible refine Calls.mono (HH _) ?_
      rintro e w8 ⟨rfl, hw8⟩
      obtain rfl := hw8.symm
      clear hw8
      go_wp2_with fail
      with_reducible refine Calls.mono (EA _) ?_
      rintro e w9 ⟨rfl, u9⟩
      have HU9 := hide (HU1.out.then u9 (fun _ _ => id))
      have bV := u9.get HV1.out id
      obtain ⟨v0, v1, v2, v3, v4⟩ := cells5 bV
      have vl := lt_at bV
      have fv0 := free_at bV 0
      have fv1 := free_at bV 1
      have fv2 := free_at bV 2
      have fv3 := free_at bV 3
      have fv4 := free_at bV 4
      have HB := hide bV
      clear bV u9
      go_wp2_with fail
      (try simp only [Exit.inBlock, Exit.then])
      refine bodyPost_ret (ret_vlb rfl _ _ (w.heap.size + 1 + 1) ⟨k0, n0, t0, b0, e0'⟩ rfl (block5 (x := vZero) HB.out _ _ _ _ _)) rfl ?_
      exact ⟨rfl, upd5 HU9.out (by omega) _ _ _ _ _⟩
  · have hc' : isCmp n = false := by simpa using hc
    rw [hc'] at HA
    have NS := fun W p pc h => nums_any W [x, y] p pc h ho2 (by show 2 ≤ 1000000; decide)
    obtain ⟨⟨r, f⟩, hr⟩ : ∃ r, orderV x y = r := ⟨_, rfl⟩
    rw [hr] at OA
    have HH := fun w => HA w r
    have okx := numF_ok x
    have oky := numF_ok y
    obtain ⟨F, hF⟩ : ∃ F, numsE [x, y] = F := ⟨_, rfl⟩
    have en : nmCells (numsN [x, y]) = [.int .i64 (numF x).1, .int .i64 (numF y).1] := rfl
    rw [en] at NS
    rw [hF] at NS
    have ebin : binV n x y = if F = 0 then reckV n (numF x).1 (numF y).1 else if (reckV n 0 10000).2 = true then (mkE F, true) else (vZero, false) := by
      unfold binV
      rw [if_neg hn, if_neg hc, hF]
    rw [ebin]
    obtain ⟨⟨a, fa⟩, ha⟩ : ∃ r, numF x = r := ⟨_, rfl⟩
    obtain ⟨⟨b, fb⟩, hb⟩ : ∃ r, numF y = r := ⟨_, rfl⟩
    rw [ha] at NS okx ⊢
    rw [hb] at NS oky ⊢
    simp only at NS okx oky ⊢
    clear ebin en hF hr hc hc' hn HA hx hy lx ly ho2 hg hp ha hb
    have RA := fun w => reckon_any w n a b oky
    have RZ := fun w => reckon_any w n 0 10000 (by decide)
    obtain ⟨xk, xn, xt, xb, xf⟩ := x
    obtain ⟨yk, yn, yt, yb, yf⟩ := y
    unfold Vl.val at OA
    simp only at OA
    by_cases hF : F = 0
    · subst hF
      rw [if_pos rfl]
      clear RZ
      obtain ⟨⟨⟨k0, n0, t0, b0, e0'⟩, q⟩, hev⟩ : ∃ v, reckV n a b = v := ⟨_, rfl⟩
      rw [hev] at RA ⊢
      unfold Vl.val at RA ⊢
      simp only at RA ⊢
      clear hev okx oky
      have HU0 : Hid (Upd w (((w.alloc (.cells #[.int .i64 xk, .int .i64 xn, enS xt, .bool xb, .int .i64 xf] 26)).alloc (.cells #[.int .i64 yk, .int .i64 yn, enS yt, .bool yb, .int .i64 yf] 26)).alloc (.cells #[.int .i64 0, .int .i64 0, .string ⟨#[]⟩, .bool false, .int .i64 0] 26)) (fun _ => False)) := hide ((((Upd.refl w _).alloc _).alloc _).alloc _)
      have HX0 : Hid ((((w.alloc (.cells #[.int .i64 xk, .int .i64 xn, enS xt, .bool xb, .int .i64 xf] 26)).alloc (.cells #[.int .i64 yk, .int .i64 yn, enS yt, .bool yb, .int .i64 yf] 26)).alloc (.cells #[.int .i64 0, .int .i64 0, .string ⟨#[]⟩, .bool false, .int .i64 0] 26)).heap[w.heap.size]? = some (.cells #[.int .i64 xk, .int .i64 xn, enS xt, .bool xb, .int .i64 xf] 26 (0, 0))) := hide (block_alloc (block_alloc (Vnew1 w _) _) _)
      have HY0 : Hid ((((w.alloc (.cells #[.int .i64 xk, .int .i64 xn, enS xt, .bool xb, .int .i64 xf] 26)).alloc (.cells #[.int .i64 yk, .int .i64 yn, enS yt, .bool yb, .int .i64 yf] 26)).alloc (.cells #[.int .i64 0, .int .i64 0, .string ⟨#[]⟩, .bool false, .int .i64 0] 26)).heap[w.heap.size + 1]? = some (.cells #[.int .i64 yk, .int .i64 yn, enS yt, .bool yb, .int .i64 yf] 26 (0, 0))) := hide (block_alloc (Vnew2 w _ _) _)
      have HV0 : Hid ((((w.alloc (.cells #[.int .i64 xk, .int .i64 xn, enS xt, .bool xb, .int .i64 xf] 26)).alloc (.cells #[.int .i64 yk, .int .i64 yn, enS yt, .bool yb, .int .i64 yf] 26)).alloc (.cells #[.int .i64 0, .int .i64 0, .string ⟨#[]⟩, .bool false, .int .i64 0] 26)).heap[w.heap.size + 1 + 1]? = some (.cells #[.int .i64 0, .int .i64 0, .string ⟨#[]⟩, .bool false, .int .i64 0] 26 (0, 0))) := hide (by have := Vnew2 (w.alloc (.cells #[.int .i64 xk, .int .i64 xn, enS xt, .bool xb, .int .i64 xf] 26)) (.cells #[.int .i64 yk, .int .i64 yn, enS yt, .bool yb, .int .i64 yf] 26) (.cells #[.int .i64 0, .int .i64 0, .string ⟨#[]⟩, .bool false, .int .i64 0] 26); simpa using this)
      go_enter Tryz.func12, Tryz.ntmps12
      go_wp2_with fail
      with_reducible refine Calls.mono (OA _) ?_
      rintro e w1 ⟨rfl, u1⟩
      have HU1 := hide (HU0.out.then u1 (fun _ _ => id))
      have HV1 := hide (u1.get HV0.out id)
      have HX1 := hide (u1.get HX0.out id)
      have HY1 := hide (u1.get HY0.out id)
      clear u1
      go_wp2_with fail
      with_reducible refine Calls.mono (HH _) ?_
      rintro e w8 ⟨rfl, hw8⟩
      obtain rfl := hw8.symm
      clear hw8
      have bX := HX1.out
      obtain ⟨x0, x1, x2, x3, x4⟩ := cells5 bX
      have xl := lt_at bX
      clear bX
      have bY := HY1.out
      obtain ⟨y0, y1, y2, y3, y4⟩ := cells5 bY
      have yl := lt_at bY
      clear bY
      go_wp2_with fail
      have HM := hide (rdV_of_rw (T := 26) (a := some ⟨w1.heap.size, 0, none⟩) (c := 2) (l := [⟨xk, xn, xt, xb, xf⟩, ⟨yk, yn, yt, yb, yf⟩]) (Rw.made w1 #[.int .i64 xk, .int .i64 xn, enS xt, .bool xb, .int .i64 xf, .int .i64 yk, .int .i64 yn, enS yt, .bool yb, .int .i64 yf] 26 5 2 rfl))
      clear x0 x1 x2 x3 x4 xl y0 y1 y2 y3 y4 yl
      refine Calls.mono (NS _ _ 2 HM.out) ?_
      rintro e w3 ⟨v, rfl, hv, u3⟩
      have HU3 := hide ((HU1.out.alloc _).then u3 (fun _ _ => id))
      have HV3 := hide (u3.get (block_alloc HV1.out _) id)
      clear u3
      obtain ⟨g, off, cap, rfl, hgl, d0, d1, hap⟩ := rw_two (hv (by trivial))
      have hgV := hap _ _ _ HV3.out (by decide)
      have D0 : w3.drew.cell? ⟨g, off, none⟩ = some (.int .i64 a) := d0
      have HGL : g < w3.drew.heap.size := hgl
      have D1 : w3.drew.cell? ⟨g, off + 1, none⟩ = some (.int .i64 b) := d1
      have hU3 := HU3.out
      clear hv hap
      go_wp2_with fail
      go_region_held3 (fun w' => w'.cell? ⟨g, off, none⟩ = some (.int .i64 a) ∧ w'.cell? ⟨g, off + 1, none⟩ = some (.int .i64 b))
        (first | (go_keep; done) | (with_reducible exact ⟨(u9.cell g _ HGL id).trans D0, (u9.cell g _ HGL id).trans D1⟩) | (with_reducible exact ⟨(set5_cell hgV (Nat.lt_of_lt_of_le HGL u9.size) _ _ _ _ _).trans ((u9.cell g _ HGL id).trans D0), (set5_cell hgV (Nat.lt_of_lt_of_le HGL u9.size) _ _ _ _ _).trans ((u9.cell g _ HGL id).trans D1)⟩) | (with_reducible exact ⟨D0, D1⟩) | (with_reducible exact ⟨d0, d1⟩))
        (first
          | (go_at_call 39; with_reducible refine Calls.mono (RA _) ?_; rintro e w9 ⟨rfl, u9⟩; have HU9 := hide (HU3.out.drew.then u9 (fun _ _ => id)); have bV := u9.get HV3.out id; obtain ⟨v0, v1, v2, v3, v4⟩ := cells5 bV; have vl := lt_at bV; have fv0 := free_at bV 0; have fv1 := free_at bV 1; have fv2 := free_at bV 2; have fv3 := free_at bV 3; have fv4 := free_at bV 4; have HB := hide bV; clear bV))
      all_goals go_wp2_with fail
      all_goals (try simp only [Exit.inBlock, Exit.then])
      all_goals refine bodyPost_ret (ret_vlb rfl _ _ (w.heap.size + 1 + 1) ⟨k0, n0, t0, b0, e0'⟩ rfl (block5 (x := vZero) HB.out _ _ _ _ _)) rfl ?_
      all_goals exact ⟨rfl, upd5 HU9.out (by omega) _ _ _ _ _⟩
    · rw [if_neg hF]
      have bF : (F != 0) = true := by simpa using hF
      clear RA
      obtain ⟨⟨⟨zk, zn, zt, zb, zf⟩, q⟩, hz⟩ : ∃ v, reckV n 0 10000 = v := ⟨_, rfl⟩
      rw [hz] at RZ ⊢
      unfold Vl.val at RZ
      simp only at RZ ⊢
      clear hz okx oky
      cases q with
      | true =>
        rw [if_pos rfl]
        have EA := fun w => E_any w F
        obtain ⟨⟨k0, n0, t0, b0, e0'⟩, hev⟩ : ∃ v, mkE F = v := ⟨_, rfl⟩
        rw [hev] at EA ⊢
        unfold Vl.val at EA
        (try unfold Vl.val)
        simp only at EA ⊢
        clear hev
        (try unfold Vl.val)
        (try simp only)
        clear hF
        have HU0 : Hid (Upd w (((w.alloc (.cells #[.int .i64 xk, .int .i64 xn, enS xt, .bool xb, .int .i64 xf] 26)).alloc (.cells #[.int .i64 yk, .int .i64 yn, enS yt, .bool yb, .int .i64 yf] 26)).alloc (.cells #[.int .i64 0, .int .i64 0, .string ⟨#[]⟩, .bool false, .int .i64 0] 26)) (fun _ => False)) := hide ((((Upd.refl w _).alloc _).alloc _).alloc _)
        have HX0 : Hid ((((w.alloc (.cells #[.int .i64 xk, .int .i64 xn, enS xt, .bool xb, .int .i64 xf] 26)).alloc (.cells #[.int .i64 yk, .int .i64 yn, enS yt, .bool yb, .int .i64 yf] 26)).alloc (.cells #[.int .i64 0, .int .i64 0, .string ⟨#[]⟩, .bool false, .int .i64 0] 26)).heap[w.heap.size]? = some (.cells #[.int .i64 xk, .int .i64 xn, enS xt, .bool xb, .int .i64 xf] 26 (0, 0))) := hide (block_alloc (block_alloc (Vnew1 w _) _) _)
        have HY0 : Hid ((((w.alloc (.cells #[.int .i64 xk, .int .i64 xn, enS xt, .bool xb, .int .i64 xf] 26)).alloc (.cells #[.int .i64 yk, .int .i64 yn, enS yt, .bool yb, .int .i64 yf] 26)).alloc (.cells #[.int .i64 0, .int .i64 0, .string ⟨#[]⟩, .bool false, .int .i64 0] 26)).heap[w.heap.size + 1]? = some (.cells #[.int .i64 yk, .int .i64 yn, enS yt, .bool yb, .int .i64 yf] 26 (0, 0))) := hide (block_alloc (Vnew2 w _ _) _)
        have HV0 : Hid ((((w.alloc (.cells #[.int .i64 xk, .int .i64 xn, enS xt, .bool xb, .int .i64 xf] 26)).alloc (.cells #[.int .i64 yk, .int .i64 yn, enS yt, .bool yb, .int .i64 yf] 26)).alloc (.cells #[.int .i64 0, .int .i64 0, .string ⟨#[]⟩, .bool false, .int .i64 0] 26)).heap[w.heap.size + 1 + 1]? = some (.cells #[.int .i64 0, .int .i64 0, .string ⟨#[]⟩, .bool false, .int .i64 0] 26 (0, 0))) := hide (by have := Vnew2 (w.alloc (.cells #[.int .i64 xk, .int .i64 xn, enS xt, .bool xb, .int .i64 xf] 26)) (.cells #[.int .i64 yk, .int .i64 yn, enS yt, .bool yb, .int .i64 yf] 26) (.cells #[.int .i64 0, .int .i64 0, .string ⟨#[]⟩, .bool false, .int .i64 0] 26); simpa using this)
        go_enter Tryz.func12, Tryz.ntmps12
        go_wp2_with fail
        with_reducible refine Calls.mono (OA _) ?_
        rintro e w1 ⟨rfl, u1⟩
        have HU1 := hide (HU0.out.then u1 (fun _ _ => id))
        have HV1 := hide (u1.get HV0.out id)
        have HX1 := hide (u1.get HX0.out id)
        have HY1 := hide (u1.get HY0.out id)
        clear u1
        go_wp2_with fail
        with_reducible refine Calls.mono (HH _) ?_
        rintro e w8 ⟨rfl, hw8⟩
        obtain rfl := hw8.symm
        clear hw8
        have bX := HX1.out
        obtain ⟨x0, x1, x2, x3, x4⟩ := cells5 bX
        have xl := lt_at bX
        clear bX
        have bY := HY1.out
        obtain ⟨y0, y1, y2, y3, y4⟩ := cells5 bY
        have yl := lt_at bY
        clear bY
        go_wp2_with fail
        have HM := hide (rdV_of_rw (T := 26) (a := some ⟨w1.heap.size, 0, none⟩) (c := 2) (l := [⟨xk, xn, xt, xb, xf⟩, ⟨yk, yn, yt, yb, yf⟩]) (Rw.made w1 #[.int .i64 xk, .int .i64 xn, enS xt, .bool xb, .int .i64 xf, .int .i64 yk, .int .i64 yn, enS yt, .bool yb, .int .i64 yf] 26 5 2 rfl))
        clear x0 x1 x2 x3 x4 xl y0 y1 y2 y3 y4 yl
        refine Calls.mono (NS _ _ 2 HM.out) ?_
        rintro e w3 ⟨v, rfl, hv, u3⟩
        have HU3 := hide ((HU1.out.alloc _).then u3 (fun _ _ => id))
        have HV3 := hide (u3.get (block_alloc HV1.out _) id)
        clear u3
        clear hv
        go_wp2_with fail
        with_reducible refine Calls.mono (RZ _) ?_
        rintro e w4 ⟨rfl, u4⟩
        have HU4 := hide ((HU3.out.then u4 (fun _ _ => id)).alloc (.cells #[.int .i64 zk, .int .i64 zn, enS zt, .bool zb, .int .i64 zf] 26))
        have HV4 := hide (block_alloc (u4.get HV3.out id) (.cells #[.int .i64 zk, .int .i64 zn, enS zt, .bool zb, .int .i64 zf] 26))
        clear u4
        go_wp2_with fail
        with_reducible refine Calls.mono (EA _) ?_
        rintro e w9 ⟨rfl, u9⟩
        have HU9 := hide (HU4.out.then u9 (fun _ _ => id))
        have bV := u9.get HV4.out id
        obtain ⟨v0, v1, v2, v3, v4⟩ := cells5 bV
        have vl := lt_at bV
        have fv0 := free_at bV 0
        have fv1 := free_at bV 1
        have fv2 := free_at bV 2
        have fv3 := free_at bV 3
        have fv4 := free_at bV 4
        have HB := hide bV
        clear bV u9
        go_wp2_with fail
        (try simp only [Exit.inBlock, Exit.then])
        refine bodyPost_ret (ret_vlb rfl _ _ (w.heap.size + 1 + 1) ⟨k0, n0, t0, b0, e0'⟩ rfl (block5 (x := vZero) HB.out _ _ _ _ _)) rfl ?_
        exact ⟨rfl, upd5 HU9.out (by omega) _ _ _ _ _⟩
      | false =>
        rw [if_neg (by simp)]
        unfold vZero Vl.val
        simp only
        clear hF
        have HU0 : Hid (Upd w (((w.alloc (.cells #[.int .i64 xk, .int .i64 xn, enS xt, .bool xb, .int .i64 xf] 26)).alloc (.cells #[.int .i64 yk, .int .i64 yn, enS yt, .bool yb, .int .i64 yf] 26)).alloc (.cells #[.int .i64 0, .int .i64 0, .string ⟨#[]⟩, .bool false, .int .i64 0] 26)) (fun _ => False)) := hide ((((Upd.refl w _).alloc _).alloc _).alloc _)
        have HX0 : Hid ((((w.alloc (.cells #[.int .i64 xk, .int .i64 xn, enS xt, .bool xb, .int .i64 xf] 26)).alloc (.cells #[.int .i64 yk, .int .i64 yn, enS yt, .bool yb, .int .i64 yf] 26)).alloc (.cells #[.int .i64 0, .int .i64 0, .string ⟨#[]⟩, .bool false, .int .i64 0] 26)).heap[w.heap.size]? = some (.cells #[.int .i64 xk, .int .i64 xn, enS xt, .bool xb, .int .i64 xf] 26 (0, 0))) := hide (block_alloc (block_alloc (Vnew1 w _) _) _)
        have HY0 : Hid ((((w.alloc (.cells #[.int .i64 xk, .int .i64 xn, enS xt, .bool xb, .int .i64 xf] 26)).alloc (.cells #[.int .i64 yk, .int .i64 yn, enS yt, .bool yb, .int .i64 yf] 26)).alloc (.cells #[.int .i64 0, .int .i64 0, .string ⟨#[]⟩, .bool false, .int .i64 0] 26)).heap[w.heap.size + 1]? = some (.cells #[.int .i64 yk, .int .i64 yn, enS yt, .bool yb, .int .i64 yf] 26 (0, 0))) := hide (block_alloc (Vnew2 w _ _) _)
        have HV0 : Hid ((((w.alloc (.cells #[.int .i64 xk, .int .i64 xn, enS xt, .bool xb, .int .i64 xf] 26)).alloc (.cells #[.int .i64 yk, .int .i64 yn, enS yt, .bool yb, .int .i64 yf] 26)).alloc (.cells #[.int .i64 0, .int .i64 0, .string ⟨#[]⟩, .bool false, .int .i64 0] 26)).heap[w.heap.size + 1 + 1]? = some (.cells #[.int .i64 0, .int .i64 0, .string ⟨#[]⟩, .bool false, .int .i64 0] 26 (0, 0))) := hide (by have := Vnew2 (w.alloc (.cells #[.int .i64 xk, .int .i64 xn, enS xt, .bool xb, .int .i64 xf] 26)) (.cells #[.int .i64 yk, .int .i64 yn, enS yt, .bool yb, .int .i64 yf] 26) (.cells #[.int .i64 0, .int .i64 0, .string ⟨#[]⟩, .bool false, .int .i64 0] 26); simpa using this)
        go_enter Tryz.func12, Tryz.ntmps12
        go_wp2_with fail
        with_reducible refine Calls.mono (OA _) ?_
        rintro e w1 ⟨rfl, u1⟩
        have HU1 := hide (HU0.out.then u1 (fun _ _ => id))
        have HV1 := hide (u1.get HV0.out id)
        have HX1 := hide (u1.get HX0.out id)
        have HY1 := hide (u1.get HY0.out id)
        clear u1
        go_wp2_with fail
        with_reducible refine Calls.mono (HH _) ?_
        rintro e w8 ⟨rfl, hw8⟩
        obtain rfl := hw8.symm
        clear hw8
        have bX := HX1.out
        obtain ⟨x0, x1, x2, x3, x4⟩ := cells5 bX
        have xl := lt_at bX
        clear bX
        have bY := HY1.out
        obtain ⟨y0, y1, y2, y3, y4⟩ := cells5 bY
        have yl := lt_at bY
        clear bY
        go_wp2_with fail
        have HM := hide (rdV_of_rw (T := 26) (a := some ⟨w1.heap.size, 0, none⟩) (c := 2) (l := [⟨xk, xn, xt, xb, xf⟩, ⟨yk, yn, yt, yb, yf⟩]) (Rw.made w1 #[.int .i64 xk, .int .i64 xn, enS xt, .bool xb, .int .i64 xf, .int .i64 yk, .int .i64 yn, enS yt, .bool yb, .int .i64 yf] 26 5 2 rfl))
        clear x0 x1 x2 x3 x4 xl y0 y1 y2 y3 y4 yl
        refine Calls.mono (NS _ _ 2 HM.out) ?_
        rintro e w3 ⟨v, rfl, hv, u3⟩
        have HU3 := hide ((HU1.out.alloc _).then u3 (fun _ _ => id))
        have HV3 := hide (u3.get (block_alloc HV1.out _) id)
        clear u3
        clear hv
        go_wp2_with fail
        with_reducible refine Calls.mono (RZ _) ?_
        rintro e w4 ⟨rfl, u4⟩
        have HU4 := hide ((HU3.out.then u4 (fun _ _ => id)).alloc (.cells #[.int .i64 zk, .int .i64 zn, enS zt, .bool zb, .int .i64 zf] 26))
        have HV4 := hide (block_alloc (u4.get HV3.out id) (.cells #[.int .i64 zk, .int .i64 zn, enS zt, .bool zb, .int .i64 zf] 26))
        clear u4
        have bV := HV4.out
        obtain ⟨v0, v1, v2, v3, v4⟩ := cells5 bV
        have vl := lt_at bV
        have fv0 := free_at bV 0
        have fv1 := free_at bV 1
        have fv2 := free_at bV 2
        have fv3 := free_at bV 3
        have fv4 := free_at bV 4
        have HB := hide bV
        have HU9 := HU4
        clear bV
        go_wp2_with fail
        (try simp only [Exit.inBlock, Exit.then])
        refine bodyPost_ret (ret_vlb rfl _ _ (w.heap.size + 1 + 1) ⟨0, 0, [], false, 0⟩ rfl (block5 (x := vZero) HB.out _ _ _ _ _)) rfl ?_
        exact ⟨rfl, upd5 HU9.out (by omega) _ _ _ _ _⟩
end Go.Proofs.YtmfngdjhkpddoaaGreatDoor
/- The walks of the reference's digits. -/
set_option maxRecDepth 100000
namespace Go.Proofs.YtmfngdjhkpddoaaGreatDoor.Fl
open Go.RowKit Go.Lat

end Go.Proofs.YtmfngdjhkpddoaaGreatDoor.Fl
/- The walks of the reference's comparison of digits. -/
set_option maxRecDepth 100000
namespace Go.Proofs.YtmfngdjhkpddoaaGreatDoor.Fl
open Go.RowKit Go.Lat

end Go.Proofs.YtmfngdjhkpddoaaGreatDoor.Fl
/- An array of places in memory that is written in place. -/
set_option maxRecDepth 100000
namespace Go.Proofs.YtmfngdjhkpddoaaGreatDoor.Fl
open Go.RowKit Go.Lat

end Go.Proofs.YtmfngdjhkpddoaaGreatDoor.Fl
