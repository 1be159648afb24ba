/- The walk of search.see. -/
import Derived.Test.YtcdimledeomahaaWebI
set_option maxRecDepth 100000
namespace Go.Proofs.Ytcdimledeomahaa
open Go.RowKit Go.Lat

/-- What is met and what is left, when some links are come to. -/
def sees (M L : List Lk) : List Lk → List Lk × List Lk
  | [] => (M, L)
  | x :: xs => if x ∈ M then sees M L xs else sees (M ++ [x]) (L ++ [x]) xs

theorem SrAt.upd {w w' : World} {S : Nat → Prop} {b bm n : Nat} {wp nm ov lv : Value} {M L : List Lk} (h : SrAt w b bm n wp nm ov lv M L) (u : Upd w w' S) (h1 : ¬ S b) (h2 : ¬ S bm) (h3 : ∀ k, lv.ownBlock = some k → ¬ S k) : SrAt w' b bm n wp nm ov lv M L := by
  refine ⟨u.get h.c h1, ?_, u.rw h.l h3, h.nb, h.nm⟩
  obtain ⟨D, ⟨es, clock, hb, k⟩, hM⟩ := h.m
  exact ⟨D, ⟨es, clock, u.get hb h2, k⟩, hM⟩

theorem map_lt {w : World} {b n : Nat} {D : DataW Value} (h : w.ownsMap Try.prog 40 heldElem b n D) : b < w.heap.size := by
  obtain ⟨es, clock, hb, _⟩ := h
  exact lt_at hb
theorem map_ne {w : World} {b g n : Nat} {D : DataW Value} {cs : Array Value} {t : TypeId} (h : w.ownsMap Try.prog 40 heldElem b n D) (hg : w.heap[g]? = some (.cells cs t (0, 0))) : g ≠ b := by
  intro e
  subst e
  obtain ⟨es, clock, hb, _⟩ := h
  rw [hg] at hb
  cases hb

theorem own_or {W : World} {v v' : Value} {m : Nat} (h2 : v'.ownBlock = v.ownBlock ∨ v'.ownBlock = some W.heap.size) (hm : m < W.heap.size) : ∀ j, v'.ownBlock = some j → v.ownBlock = some j ∨ m < j := by
  intro j hj
  rcases h2 with e | e
  · exact .inl (e.symm.trans hj)
  · have := Option.some.inj (e.symm.trans hj)
    exact .inr (by omega)

set_option maxHeartbeats 3200000 in
theorem see_any (w : World) (b bm n : Nat) (wp nm ov lv v : Value) (M L xs : List Lk) (h : SrAt w b bm n wp nm ov lv M L) (hx : LksAt w v xs) (hxo : ∀ x ∈ xs, x.Ok) (hxl : xs.length ≤ 1000) (hn : n ≤ 100000) (hL : L.length ≤ 100000) (hv : ∀ k, v.ownBlock = some k → lv.ownBlock ≠ some k) :
    Calls Try.prog 38 #[.pointer (some ⟨b, 0, none⟩), v] w fun e w' => e = .returned (.tuple #[]) ∧ ∃ n' lv', n' ≤ n + xs.length ∧ SrAt w' b bm n' wp nm ov lv' (sees M L xs).1 (sees M L xs).2 ∧ (∀ k, lv'.ownBlock = some k → lv.ownBlock = some k ∨ w.heap.size ≤ k) ∧ Upd w w' (fun k => k = b ∨ k = bm ∨ lv.ownBlock = some k) := by
  obtain ⟨i0, hi0, hz0, hz1, hz2⟩ := info_parts Try.info40
  obtain ⟨sa, sc, rfl, -⟩ := Rw.form hx
  obtain ⟨N, hN⟩ : ∃ N, xs.length = N := ⟨_, rfl⟩
  replace hx : Rw w 40 4 (.slice sa xs.length sc) xs.length (lkCells xs) := hx
  have hbs : ∀ k, (Value.slice sa xs.length sc).ownBlock = some k → ¬ (k = b ∨ k = bm ∨ lv.ownBlock = some k) := by
    intro k hk e
    rcases hx.2 with ⟨e1, _⟩ | ⟨g, off, cap, cur, e1, hg, _⟩
    · rw [e1] at hk; cases hk
    · rw [e1] at hk
      have e2 : g = k := Option.some.inj hk
      subst e2
      rcases e with rfl | rfl | e
      · rw [h.c] at hg
        cases hg
      · obtain ⟨D, ⟨es, clock, hb, _⟩, _⟩ := h.m
        rw [hb] at hg
        cases hg
      · exact hv g (by rw [e1]; rfl) e
  rw [hN] at hxl hx hv hbs ⊢
  have HN := hide hN
  have HX := hide hx
  have HS := hide h
  have hlv : ∀ k, lv.ownBlock = some k → k < w.heap.size := h.l.lt
  have hbl := lt_at h.c
  have hbml : bm < w.heap.size := by obtain ⟨D, hD, _⟩ := h.m; exact map_lt hD
  have hbne : b ≠ bm := by obtain ⟨D, hD, _⟩ := h.m; exact map_ne hD h.c
  clear hN hx h
  go_enter Try.func38, Try.ntmps38
  go_wp2_with fail
  go_loopg [8] N (fun q iv wr => ∃ (k n' : Nat) (lv' : Value) (M' L' : List Lk), k + q = N ∧ iv = .int .i64 k ∧ n' ≤ n + k ∧ L'.length ≤ L.length + k ∧ SrAt wr b bm n' wp nm ov lv' M' L' ∧ sees M L xs = sees M' L' (xs.drop k) ∧
    (∀ k, lv'.ownBlock = some k → lv.ownBlock = some k ∨ w.heap.size ≤ k) ∧ Upd w wr (fun k => k = b ∨ k = bm ∨ lv.ownBlock = some k))
  case atStart => exact ⟨0, n, lv, M, L, by omega, rfl, by omega, by omega, HS.out, rfl, fun k hk => .inl hk, Upd.refl _ _⟩
  case round =>
    obtain ⟨k, n', lv', M', L', hk, rfl, hn', hL', hs, hse, ho, hu⟩ := hrel
    by_cases hkN : k < N
    · obtain ⟨x, hxk⟩ : ∃ x, xs[k]? = some x := ⟨_, List.getElem?_eq_getElem (by rw [HN.out]; exact hkN)⟩
      have hxx := hxo x (List.mem_of_getElem? hxk)
      have hdrop : xs.drop k = x :: xs.drop (k + 1) := by
        obtain ⟨hl, e⟩ := List.getElem?_eq_some_iff.1 hxk
        rw [List.drop_eq_getElem_cons hl, e]
      obtain ⟨g, off, rfl, hg, d0, d1, d2, d3⟩ := lk_at (hu.rw HX.out hbs) k x hxk hkN
      obtain ⟨e0, e1, e2, e3, e4⟩ := cells5 hs.c
      obtain ⟨D, hD, hM⟩ := hs.m
      have hkey := lk_key hxx
      have hk0 : (0 : Int) ≤ (k : Int) := by omega
      have hk1 : (k : Int) < (N : Int) := by omega
      have HU := hide hu
      have HSS := hide hs
      have HSE := hide hse
      have HD := hide hdrop
      have bl := lt_at hs.c
      clear hu hs hse hdrop hxk
      by_cases hm : x ∈ M'
      · have hv2 := hM.yes x hm
        obtain ⟨xb, xss, xc, xr⟩ := x
        simp only [Lk.val] at d0 d1 d2 d3 hkey
        have hl2 := look_held (hD.alloc (.cells #[encStr xb, encStr xss, .int .i64 xc, .int .i64 xr] 40)).drew linkK Try.underlying96 (zeroBool _) hkey hv2
        go_wp2_with fail
        go_region
        go_wp2_with fail
        go_roundg (gk - 1)
        case measure => omega
        case rel =>
          refine ⟨k + 1, n', lv', M', L', by omega, by go_num, by omega, by omega, HSS.out.upd (S := fun _ => False) ((Upd.refl _ _).alloc _).drew id id (fun _ _ => id), ?_, ho, (HU.out.alloc _).drew⟩
          rw [HSE.out, HD.out, sees, if_pos hm]
      · have hv2 := hM.no x hxx hm
        have hMA := MetV.add (World.ownsMap.isMap hD) hM hxx
        have hL4 := HSS.out.l
        obtain ⟨xb, xss, xc, xr⟩ := x
        simp only [Lk.val] at d0 d1 d2 d3 hkey
        have hl2 := look_held (hD.alloc (.cells #[encStr xb, encStr xss, .int .i64 xc, .int .i64 xr] 40)).drew linkK Try.underlying96 (zeroBool _) hkey hv2
        obtain ⟨w4, E4, m4, g4⟩ := World.ownsMap.update (hD.alloc (.cells #[encStr xb, encStr xss, .int .i64 xc, .int .i64 xr] 40)).drew.drew linkK Try.underlying96 (by unfold maxLen; omega) hkey (val := .bool true) (d := .held (.bool true)) (ps := []) rfl
        have hB4 := block_grown g4 (block_alloc HSS.out.c (.cells #[encStr xb, encStr xss, .int .i64 xc, .int .i64 xr] 40)) (fun e => hbne (Option.some.inj e).symm)
        have hX4 : w4.heap[wr.heap.size]? = some (.cells #[encStr xb, encStr xss, .int .i64 xc, .int .i64 xr] 40 (0, 0)) := block_grown g4 (new1 wr _) (fun e => by have := Option.some.inj e; have := map_lt hD; omega)
        have HB4 := hide hB4
        obtain ⟨f0, f1, f2, f3, f4⟩ := cells5 hB4
        obtain ⟨y0, y1, y2, y3⟩ := cells4 hX4
        have hR4 : Rw w4 40 4 lv' L'.length (lkCells L') := Rw.grown (w := (wr.alloc (.cells #[encStr xb, encStr xss, .int .i64 xc, .int .i64 xr] 40)).drew.drew) (Rw.alloc hL4 _) g4 (.inr (fun e => HSS.out.nm e))
        have bl4 := lt_at hB4
        have xl4 := lt_at hX4
        have HG4 := hide g4
        have HM4 := hide m4
        have HRV := hide hR4
        have HRR : Hid (∀ W : World, Rw (W.alloc (.cells #[encStr xb, encStr xss, .int .i64 xc, .int .i64 xr] 40)) 40 4 (.slice (some ⟨W.heap.size, 0, none⟩) 1 1) 1 [encStr xb, encStr xss, .int .i64 xc, .int .i64 xr]) := hide (fun W => Rw.made W _ _ 4 1 rfl)
        have hnb := HSS.out.nb
        obtain ⟨la, lc, rfl, -⟩ := Rw.form hR4
        clear hR4 g4 m4 hB4 hX4
        go_wp2_with fail
        go_region
        go_wp2_with fail
        go_region
        go_wp2_with fail
        go_region_law (refine step_append_rw _ (by rfl) _ _ 36 36 (by rfl) 40 _ i0 _ 4 48 Try.underlying36 Try.underlying36 (by simp) hi0 hz0 hz1 hz2 rfl _ _ _ (by rfl) (HRV.out.alloc _) _ 1 _ (by rfl) (Rw.src (HRR.out w4.drew)) rfl (by simp [Value.oneCell']) (by omega) (by omega) ?_; intro ga gc w5 hA hg5 ho5; have hb5 := block_grown hg5 (block_alloc HB4.out _) hnb; have g5 := cell_at hb5 4 _ rfl; have gf := free_at hb5 4; have HB5 := hide hb5; clear hb5)
        all_goals go_wp2_with fail
        all_goals go_roundg (gk - 1)
        case' measure => omega
        all_goals try (exact (by omega : gk - 1 < gk))
        all_goals have hW4 : w.heap.size ≤ w4.heap.size := by have := HU.out.size; omega
        all_goals have hob := own_or ho5 (show w4.heap.size < _ by simp)
        all_goals have bml := map_lt hD
        all_goals have nm0 := HSS.out.nm
        all_goals have nb5 : (Value.slice ga (L'.length + 1) gc).ownBlock ≠ some b := fun e => (hob b e).elim hnb (fun e => by omega)
        all_goals have nm5 : (Value.slice ga (L'.length + 1) gc).ownBlock ≠ some bm := fun e => (hob bm e).elim nm0 (fun e => by omega)
        all_goals refine ⟨k + 1, n' + 1, .slice ga (L'.length + 1) gc, M' ++ [⟨xb, xss, xc, xr⟩], L' ++ [⟨xb, xss, xc, xr⟩], by omega, by go_num, by omega, by simp; omega, ⟨?_, ?_, ?_, nb5, nm5⟩, ?_, ?_, ?_⟩
        all_goals first
          | exact block_setCell HB5.out 4 _
          | (refine ⟨_, ?_, hMA⟩
             obtain ⟨es, clock, hb, kk⟩ := HM4.out
             exact ⟨es, clock, (Below.heap_setCell _ _ _ _ (Ne.symm hbne)).trans (block_grown hg5 (block_alloc hb _) nm0), kk⟩)
          | (refine Rw.setCell ?_ _ _ nb5
             rw [lkCells_app]
             simpa [lkCells, Lk.cells] using hA)
          | (rw [HSE.out, HD.out, sees, if_neg hm])
          | (intro j hj
             rcases hob j hj with e | e
             · exact ho j e
             · exact .inr (by omega))
          | (refine Upd.setCell ?_ _ _ (.inr (.inl rfl))
             refine Upd.grown (Upd.alloc (Upd.drew (Upd.grown (HU.out.alloc _).drew.drew HG4.out (fun j e => .inr (.inr (.inl (Option.some.inj e).symm))))) _) hg5 (fun j e => ?_)
             rcases ho j e with e' | e'
             · exact .inr (.inr (.inr e'))
             · exact .inl e')
    · go_wp2_with fail
      go_end0
      have e0 : k = N := by omega
      subst e0
      have e1 : xs.drop k = [] := by rw [← HN.out]; simp
      rw [e1] at hse
      simp only [sees] at hse
      rw [hse]
      exact ⟨rfl, n', lv', by omega, hs, ho, hu⟩
end Go.Proofs.Ytcdimledeomahaa
