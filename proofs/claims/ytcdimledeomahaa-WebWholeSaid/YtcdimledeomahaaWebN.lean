/- The walk of search.comes. -/
import Derived.Test.YtcdimledeomahaaWebM
set_option maxRecDepth 100000
namespace Go.Proofs.Ytcdimledeomahaa
open Go.RowKit Go.Lat

theorem SrAt.sb {w : World} {b bm n : Nat} {wp nm ov lv : Value} {M L : List Lk} (h : SrAt w b bm n wp nm ov lv M L) : ∃ cs, w.heap[b]? = some (.cells cs 98 (0, 0)) := ⟨_, h.c⟩
theorem SrAt.sm {w : World} {b bm n : Nat} {wp nm ov lv : Value} {M L : List Lk} (h : SrAt w b bm n wp nm ov lv M L) : ∃ es clock, w.heap[bm]? = some (.map es clock) := by
  obtain ⟨D, ⟨es, clock, hb, _⟩, _⟩ := h.m
  exact ⟨es, clock, hb⟩

theorem Way.goes_step (s : Way) {n : Nat} {M L' : List Lk} {l : Lk} {r : Bool} (h : s.goes (n + 1) (M, L'.concat l) = some r) : (s.stop l = true ∧ r = true) ∨ (s.stop l = false ∧ 0 < n ∧ s.goes n (sees M L' (s.next l)) = some r) := by
  simp only [Way.goes, List.concat_eq_append, List.getLast?_append, List.getLast?_singleton, Option.some_or, List.dropLast_concat] at h
  cases hs : s.stop l with
  | true => simp [hs] at h; exact .inl ⟨rfl, h⟩
  | false =>
    simp [hs] at h
    refine .inr ⟨rfl, ?_, h⟩
    cases n with
    | zero => simp [Way.goes] at h
    | succ n => omega

theorem OnsAt.upd {w w' : World} {B : Nat → Prop} {v : Value} {os : List On} (h : OnsAt w B v os) (u : Upd w w' (fun _ => False)) : OnsAt w' B v os := by
  obtain ⟨xs, h1, h2⟩ := h
  refine ⟨xs, u.rw h1 (fun _ _ => id), fun i o ho => ?_⟩
  obtain ⟨rv, lv, q1, q2, q3, q4⟩ := h2 i o ho
  exact ⟨rv, lv, q1, u.rw q2 (fun _ _ => id), u.rw q3 (fun _ _ => id), q4⟩

theorem new1dd (w : World) (A : Obj) : (w.alloc A).drew.drew.heap[w.heap.size]? = some A := by
  have h := new1 w A
  exact h

theorem Rw.ne_block {w : World} {e size : Nat} {v : Value} {n : Nat} {xs : List Value} (h : Rw w e size v n xs) {g : Nat} {cs : Array Value} {t : TypeId} (hg : w.heap[g]? = some (.cells cs t (0, 0))) (hne : t ≠ e) : v.ownBlock ≠ some g := by
  intro hk
  rcases h.2 with ⟨rfl, _⟩ | ⟨g', off, cap, cur, rfl, hg', _⟩
  · cases hk
  · have e1 : g' = g := Option.some.inj hk
    subst e1
    rw [hg] at hg'
    simp at hg'
    exact hne hg'.2
theorem rw5 {w : World} {e size : Nat} {v : Value} {n : Nat} {xs : List Value} (h : Rw w e size v n xs) {g : Nat} (hne : v.ownBlock ≠ some g) (v0 v1 v2 v3 v4 : Value) :
    Rw (((((w.setCell ⟨g, 0, none⟩ v0).setCell ⟨g, 1, none⟩ v1).setCell ⟨g, 2, none⟩ v2).setCell ⟨g, 3, none⟩ v3).setCell ⟨g, 4, none⟩ v4) e size v n xs :=
  ((((h.setCell _ _ hne).setCell _ _ hne).setCell _ _ hne).setCell _ _ hne).setCell _ _ hne

theorem cut_back {w : World} {e size g off T cap : Nat} {xs : List Value} (h : Rw w e size (.slice (some ⟨g, off, none⟩) (T + 1) cap) (T + 1) xs) : Rw w e size (.slice (some ⟨g, off, none⟩) T cap) T (xs.take (T * size)) := by
  obtain ⟨h1, h2⟩ := h
  rcases h2 with ⟨he, _⟩ | ⟨g', off', cap', cur, he, hg, hnc, hcs, htake⟩
  · cases he
  · cases he
    have hm : T * size ≤ (T + 1) * size := Nat.mul_le_mul_right _ (by omega)
    refine ⟨by rw [List.length_take, h1]; omega, .inr ⟨g, off, cap, cur, rfl, hg, by omega, hcs, ?_⟩⟩
    rw [← htake, List.take_take, Nat.min_eq_left hm]

set_option maxHeartbeats 3200000 in
theorem comes_any (w : World) (s : Way) (ok : s.Ok) (b0 bmw nw : Nat) (Dw : DataW Value) (A B : Nat → Prop) (hB : ∀ k, B k → k < w.heap.size) (oa : Option Addr) (on oc b bm : Nat) (fv : Value) (from' : List Lk) (hL : Lies w s b0 bmw nw Dw A B (.slice oa on oc) b bm)
    (hS : SrAt w b bm 0 (.pointer (some ⟨b0, 0, none⟩)) (encStr s.name) (.slice oa on oc) (.slice none 0 0) [] []) (hf : LksAt w fv from') (hfo : ∀ x ∈ from', x.Ok) (hfl : from'.length ≤ 1000) (N : Nat) (hN : N ≤ 90) (r : Bool) (hr : s.goes (N + 1) (sees [] [] from') = some r) :
    Calls Try.prog 28 #[.pointer (some ⟨b, 0, none⟩), fv, s.p.val] w fun e w' => e = .returned (.bool r) ∧ Upd w w' (fun k => k = b ∨ k = bm) := by
  have u1 : Upd w (w.alloc (.cells #[encStr s.p.s, .int .i64 s.p.c, .int .i64 s.p.r] 32)) (fun _ => False) := (Upd.refl w _).alloc _
  have SE := see_any (w.alloc (.cells #[encStr s.p.s, .int .i64 s.p.c, .int .i64 s.p.r] 32)) b bm 0 _ _ _ _ fv [] [] from' (hS.upd u1 id id (fun _ _ => id)) (u1.rw hf (fun _ _ => id)) hfo hfl (by omega) (by simp) (by simp [Value.ownBlock])
  have hX := new1 w (.cells #[encStr s.p.s, .int .i64 s.p.c, .int .i64 s.p.r] 32)
  have hXb : w.heap.size ≠ b := fun e => by have := lt_at hS.c; omega
  have hXm : w.heap.size ≠ bm := fun e => by obtain ⟨es, clock, q⟩ := hS.sm; have := lt_at q; omega
  have HXX := hide hX
  have HLL := hide hL
  have HSS := hide hS
  have U1 := hide u1
  clear hX u1 hL hS
  unfold Pc.val
  go_enter Try.func28, Try.ntmps28
  go_wp2_with fail
  refine Calls.mono SE ?_
  rintro e w2 ⟨rfl, n2, lv2, hn2, s2, o2, u2⟩
  have hS3 : ∀ k, (k = b ∨ k = bm ∨ (Value.slice none 0 0).ownBlock = some k) → k = b ∨ k = bm := by
    rintro k (e | e | e)
    · exact .inl e
    · exact .inr e
    · cases e
  have u2' : Upd w w2 (fun k => k = b ∨ k = bm) := (U1.out.weaken (T := fun k => k = b ∨ k = bm) (fun _ _ => False.elim)).then u2 (fun k _ e => hS3 k e)
  have hX2 := u2.get HXX.out (fun e => (hS3 _ e).elim hXb hXm)
  have hLl := sees_len [] [] from'
  have hLo : ∀ x ∈ (sees [] [] from').2, x.Ok := fun x hx => (sees_sub [] [] from' x hx).elim (fun h => by cases h) (hfo x)
  go_wp2_with fail
  go_loopg [7, 8, 9] N (fun q v7 v8 v9 wr => ∃ (n : Nat) (lv : Value) (M L : List Lk), q ≤ N ∧ n ≤ 1000 * (N - q + 1) ∧ L.length ≤ 1000 * (N - q + 1) ∧ SrAt wr b bm n (.pointer (some ⟨b0, 0, none⟩)) (encStr s.name) (.slice oa on oc) lv M L ∧ (∀ k, lv.ownBlock = some k → w.heap.size ≤ k) ∧
    (∀ x ∈ L, x.Ok) ∧ s.goes (q + 1) (M, L) = some r ∧ wr.heap[w.heap.size]? = some (.cells #[encStr s.p.s, .int .i64 s.p.c, .int .i64 s.p.r] 32 (0, 0)) ∧ Upd w wr (fun k => k = b ∨ k = bm))
  case atStart =>
    refine ⟨n2, lv2, _, _, by omega, by omega, by simp at hLl; omega, s2, fun k hk => ?_, hLo, hr, hX2, u2'⟩
    rcases o2 k hk with e | e
    · cases e
    · have := U1.out.size; omega
  case round =>
    obtain ⟨n, lv, M, L, hq, hn, hLn, hs, ho, hok, hgo, hx, hu⟩ := hrel
    have HGO := hide hgo
    have HS := hide hs
    have HU := hide hu
    have HX := hide hx
    have HO := hide ho
    obtain ⟨e0, e1, e2, e3, e4⟩ := cells5 hs.c
    have fr4 := free_at hs.c 4
    have bl := lt_at hs.c
    rcases List.eq_nil_or_concat L with rfl | ⟨L', l, rfl⟩
    · have hrf : r = false := by simp [Way.goes] at hgo; exact hgo
      obtain ⟨la, lc, rfl, -⟩ := Rw.form hs.l
      clear hs hgo hu hx ho
      go_wp2_with fail
      go_ret
      subst hrf
      exact ⟨rfl, HU.out⟩
    · have hlen : (L' ++ [l]).length = L'.length + 1 := by simp
      have hl := hs.l
      rw [LksAt, List.concat_eq_append, hlen] at hl
      obtain ⟨la, lc, rfl, -⟩ := Rw.form hl
      obtain ⟨g, off, rfl, hg, d0, d1, d2, d3⟩ := lk_at hl L'.length l (by simp) (by omega)
      have hcap : L'.length + 1 ≤ lc := by
        rcases hl.2 with ⟨hv, _⟩ | ⟨g', off', cap', cur, hv, _, hc, _⟩
        · cases hv
        · cases hv; exact hc
      have hlok : l.Ok := hok l (by simp)
      obtain ⟨T, hT⟩ : ∃ T, L'.length = T := ⟨_, rfl⟩
      rw [hT] at d0 d1 d2 d3 hcap hl hlen e4
      have HT := hide hT
      have HLK := hide hl
      have w1 : IntKind.i64.wrap (T : Int) = (T : Int) := IntWalk.i64_in _ (by simp at hLn; omega)
      have j0 : (0 : Int) ≤ (T : Int) := by omega
      have j1 : (T : Int) < (T : Int) + 1 := by omega
      have j2 : (T : Int) ≤ (lc : Int) := by omega
      have j3 : decide (0 < T + 1) = true := by simp
      clear hs hgo hu hx ho hl hT hlen
      obtain ⟨lb, ls, lcc, lr⟩ := l
      simp only at d0 d1 d2 d3
      have hgX : g ≠ w.heap.size := by
        obtain ⟨cur, hb, _⟩ := Rw.block HLK.out
        intro e
        rw [e, HX.out] at hb
        simp at hb
      have dX : ∀ k, k = b ∨ k = bm → k < wr.heap.size := by
        rintro k (rfl | rfl)
        · exact bl
        · obtain ⟨es, clock, q⟩ := HS.out.sm; exact lt_at q
      go_wp2_with fail
      go_region
      go_wp2_with fail
      go_region
      go_wp2_with fail
      obtain ⟨W, hW⟩ : ∃ W, ((wr.setCell ⟨b, 4, none⟩ (.slice (some ⟨g, off, none⟩) T lc)).alloc (.cells #[encStr lb, encStr ls, .int .i64 lcc, .int .i64 lr] 40)).drew.drew = W := ⟨_, rfl⟩
      have uW : Upd wr W (fun k => k = b ∨ k = bm) := hW ▸ ((((Upd.refl wr _).setCell _ _ (.inr (.inl rfl))).alloc _).drew.drew)
      have hY : W.heap[wr.heap.size]? = some (.cells #[encStr lb, encStr ls, .int .i64 lcc, .int .i64 lr] 40 (0, 0)) := by
        rw [← hW]
        have := new1 (wr.setCell ⟨b, 4, none⟩ (.slice (some ⟨g, off, none⟩) T lc)) (.cells #[encStr lb, encStr ls, .int .i64 lcc, .int .i64 lr] 40)
        have e : (wr.setCell ⟨b, 4, none⟩ (.slice (some ⟨g, off, none⟩) T lc)).heap.size = wr.heap.size := by simp [World.setCell]
        rw [e] at this
        exact this
      have hXW : W.heap[w.heap.size]? = some (.cells #[encStr s.p.s, .int .i64 s.p.c, .int .i64 s.p.r] 32 (0, 0)) := uW.get HX.out (fun e => e.elim hXb hXm)
      have sW : SrAt W b bm n (.pointer (some ⟨b0, 0, none⟩)) (encStr s.name) (.slice oa on oc) (.slice (some ⟨g, off, none⟩) T lc) M L' := by
        have h := HS.out
        refine ⟨?_, ?_, ?_, h.nb, h.nm⟩
        · rw [← hW]; exact block_alloc (block_setCell h.c 4 _) _
        · obtain ⟨D, hD, hM⟩ := h.m
          refine ⟨D, ?_, hM⟩
          rw [← hW]
          exact ((hD.setCell (fun e => (map_ne hD h.c) e.symm) _).alloc _).drew.drew
        · have q := HLK.out
          have q2 := cut_back q
          rw [LksAt, HT.out, ← hW]
          refine Rw.alloc (Rw.setCell ?_ _ _ h.nb) _
          have e1 : lkCells (L' ++ [⟨lb, ls, lcc, lr⟩]) = lkCells L' ++ [encStr lb, encStr ls, .int .i64 lcc, .int .i64 lr] := by rw [lkCells_app]; rfl
          rw [e1] at q2
          rw [List.take_append_of_le_length (Nat.le_of_eq (by rw [lkCells_len, HT.out])), List.take_of_length_le (Nat.le_of_eq (by rw [lkCells_len, HT.out]))] at q2
          exact q2
      have lW : Lies W s b0 bmw nw Dw A B (.slice oa on oc) b bm := (HLL.out.keep HU.out HS.out.sb HS.out.sm).keep uW sW.sb sW.sm
      rw [hW]
      have HW1 := hide hW
      have UW := hide uW
      have SW := hide sW
      have LW := hide lW
      have HXW := hide hXW
      have HYW := hide hY
      clear hW uW hY hXW sW lW d0 d1 d2 d3 e0 e1 e2 e3 e4 fr4 dX
      by_cases hname : lb = s.name
      · have hst0 := hname
        subst hname
        obtain ⟨y0, y1, y2, y3⟩ := cells4 HYW.out
        obtain ⟨z0, z1, z2, z3, z4⟩ := cells5 SW.out.c
        have bW := lt_at SW.out.c
        have yW := lt_at HYW.out
        have AT : ∀ V : World, Upd W V (fun _ => False) → _ := fun V uV => at_any V B (.slice oa on oc) s.os ⟨ls, lcc, lr⟩ (OnsAt.upd LW.out.own uV) (by have := ok.own.1; omega)
        have hgW : g < W.heap.size := SW.out.l.lt g rfl
        have hLl2 : L'.length + 1 ≤ 1000 * (N - gk + 1) := by simpa using hLn
        have hbq : (s.name == s.name) = true := by simp
        have SEEN : ∀ (V : World) (v : Value) (xs : List Lk), Upd W V (fun _ => False) → LksAt V v xs → (∀ x ∈ xs, x.Ok) → xs.length ≤ 1000 → (∀ k, v.ownBlock = some k → k < w.heap.size) →
            Calls Try.prog 38 #[.pointer (some ⟨b, 0, none⟩), v] V fun e w' => e = .returned (.tuple #[]) ∧ ∃ n4 lv4, n4 ≤ n + xs.length ∧ SrAt w' b bm n4 (.pointer (some ⟨b0, 0, none⟩)) (encStr s.name) (.slice oa on oc) lv4 (sees M L' xs).1 (sees M L' xs).2 ∧ (∀ k, lv4.ownBlock = some k → w.heap.size ≤ k) ∧
              w'.heap[w.heap.size]? = some (.cells #[encStr s.p.s, .int .i64 s.p.c, .int .i64 s.p.r] 32 (0, 0)) ∧ Upd w w' (fun k => k = b ∨ k = bm) := by
          intro V v xs uV hv hxo hxl hvb
          have hg0 := HO.out g rfl
          refine Calls.mono (see_any V b bm n _ _ _ _ _ M L' xs (SW.out.upd uV id id (fun _ _ => id)) hv hxo hxl (by omega) (by omega) (fun k hk e => by have := hvb k hk; have e2 := Option.some.inj e; simp at e2; omega)) ?_
          rintro e w4 ⟨rfl, n4, lv4, hn4, s4, o4, u4⟩
          have UF : Upd w w4 (fun k => k = b ∨ k = bm) := ((HU.out.then UW.out (fun _ _ => id)).then uV (fun _ _ => False.elim)).then u4 (fun i hi e => by
              rcases e with e | e | e
              · exact .inl e
              · exact .inr e
              · have := HO.out i e; omega)
          refine ⟨rfl, n4, lv4, hn4, s4, fun k hk => ?_, ?_, UF⟩
          · rcases o4 k hk with e | e
            · exact HO.out k e
            · exact Nat.le_trans ((HU.out.then UW.out (fun _ _ => id)).then uV (fun _ _ => False.elim)).size e
          · exact u4.get (uV.get HXW.out id) (fun e => by
              rcases e with e | e | e
              · exact hXb e
              · exact hXm e
              · exact hgX (Option.some.inj e))
        cases hO : ownAt s.os ⟨ls, lcc, lr⟩ with
        | none =>
          have hst : s.stop ⟨s.name, ls, lcc, lr⟩ = false := by simp [Way.stop, hO]
          have hnx : s.next ⟨s.name, ls, lcc, lr⟩ = [] := by simp [Way.next, hO]
          obtain ⟨hgk, hg2⟩ : 0 < gk ∧ s.goes gk (sees M L' (s.next ⟨s.name, ls, lcc, lr⟩)) = some r := by
            rcases s.goes_step HGO.out with ⟨e, _⟩ | ⟨_, e⟩
            · rw [hst] at e; cases e
            · exact e
          rw [hnx] at hg2
          have AT0 : ∀ V : World, Upd W V (fun _ => False) → Calls Try.prog 25 #[.slice oa on oc, .agg #[encStr ls, .int .i64 lcc, .int .i64 lr]] V fun e w' => e = .returned (.tuple #[.agg #[.string ⟨#[]⟩, .int .i64 0, .int .i64 0, .slice none 0 0, .slice none 0 0], .bool false]) ∧ Upd V w' (fun _ => False) ∧ Upd W w' (fun _ => False) := by
            intro V uV
            refine Calls.mono (AT V uV) ?_
            rintro e w' ⟨u, ⟨rfl, _⟩ | ⟨i, o, rv, lv, _, h1, h2, h3, _⟩⟩
            · exact ⟨rfl, u, uV.then u (fun _ _ => id)⟩
            · rw [ownAt_some h1 h2 h3] at hO; cases hO
          have HG2 := hide hg2
          have UA : Upd W W.drew.drew (fun _ => False) := (Upd.refl W _).drew.drew
          have UB : Upd W (W.alloc (.cells #[.string ⟨#[]⟩, .int .i64 0, .int .i64 0, .slice none 0 0, .slice none 0 0] 38)).drew.drew (fun _ => False) := ((Upd.refl W _).alloc _).drew.drew
          clear hnx hst hg2 AT hO
          go_region
          go_wp2_with fail
          go_region_held3 (fun w' => w'.cell? ⟨b, 2, none⟩ = some (.slice oa on oc) ∧ w'.cell? ⟨wr.heap.size, 1, none⟩ = some (encStr ls) ∧ w'.cell? ⟨wr.heap.size, 2, none⟩ = some (.int .i64 lcc) ∧ w'.cell? ⟨wr.heap.size, 3, none⟩ = some (.int .i64 lr))
            (first | (go_split_ands; exact ⟨(Upd.cell (S := fun _ => False) (w := W) (by first | with_reducible exact uW3 | with_reducible exact uW3.alloc _ | with_reducible exact upd5 uW3 (Nat.le_refl _) _ _ _ _ _) b 2 bW id).trans z2, (Upd.cell (S := fun _ => False) (w := W) (by first | with_reducible exact uW3 | with_reducible exact uW3.alloc _ | with_reducible exact upd5 uW3 (Nat.le_refl _) _ _ _ _ _) wr.heap.size 1 yW id).trans y1, (Upd.cell (S := fun _ => False) (w := W) (by first | with_reducible exact uW3 | with_reducible exact uW3.alloc _ | with_reducible exact upd5 uW3 (Nat.le_refl _) _ _ _ _ _) wr.heap.size 2 yW id).trans y2, (Upd.cell (S := fun _ => False) (w := W) (by first | with_reducible exact uW3 | with_reducible exact uW3.alloc _ | with_reducible exact upd5 uW3 (Nat.le_refl _) _ _ _ _ _) wr.heap.size 3 yW id).trans y3⟩) | go_keep)
            (first
            | (go_at_call 25; with_reducible refine Calls.mono (AT0 W.drew.drew UA) ?_; rintro e w3 ⟨rfl, u3, uW3⟩)
            | (go_at_call 25; with_reducible refine Calls.mono (AT0 (W.alloc (.cells #[.string ⟨#[]⟩, .int .i64 0, .int .i64 0, .slice none 0 0, .slice none 0 0] 38)).drew.drew UB) ?_; rintro e w3 ⟨rfl, u3, uW3⟩; have hZ := u3.get (new1dd W _) id; have fz0 := free_at hZ 0; have fz1 := free_at hZ 1; have fz2 := free_at hZ 2; have fz3 := free_at hZ 3; have fz4 := free_at hZ 4; obtain ⟨zz0, zz1, zz2, zz3, zz4⟩ := cells5 hZ; have lz := lt_at hZ; have HZ := hide hZ; clear hZ))
          all_goals go_wp2_with fail
          all_goals refine Calls.mono (SEEN _ _ [] (by first | with_reducible exact uW3.alloc _ | with_reducible exact upd5 uW3 (Nat.le_refl _) _ _ _ _ _) (Rw.nil _ _ _) (by simp) (by simp) (by simp [Value.ownBlock])) ?_
          all_goals rintro e w4 ⟨rfl, n4, lv4, hn4, s4, o4, hx4, u4⟩
          all_goals go_wp2_with fail
          all_goals go_roundg (gk - 1)
          case' measure => omega
          all_goals try (exact (by omega : gk - 1 < gk))
          all_goals exact ⟨n4, lv4, M, L', by omega, by simp at hn4; omega, by omega, s4, o4, fun x hx => hok x (by simp [hx]), by rw [show gk - 1 + 1 = gk by omega]; exact HG2.out, hx4, u4⟩
        | some o =>
          have hom : o ∈ s.os := List.mem_of_find?_eq_some hO
          obtain ⟨hor, hol, hoo⟩ := ok.own.2 o hom
          have hnx : s.next ⟨s.name, ls, lcc, lr⟩ = o.links := by simp [Way.next, hO]
          have hst : s.stop ⟨s.name, ls, lcc, lr⟩ = decide (s.p ∈ o.reads) := by simp [Way.stop, hO]
          have hrt : s.p ∈ o.reads → r = true := by
            intro hp
            rcases s.goes_step HGO.out with ⟨_, e⟩ | ⟨e, _⟩
            · exact e
            · rw [hst] at e; simp [hp] at e
          have hrf : s.p ∉ o.reads → 0 < gk ∧ s.goes gk (sees M L' o.links) = some r := by
            intro hp
            rcases s.goes_step HGO.out with ⟨e, _⟩ | ⟨_, e⟩
            · rw [hst] at e; simp [hp] at e
            · rw [hnx] at e; exact e
          have AT1 : ∀ V : World, Upd W V (fun _ => False) → Calls Try.prog 25 #[.slice oa on oc, .agg #[encStr ls, .int .i64 lcc, .int .i64 lr]] V fun e w' => ∃ ra rc la lc2, e = .returned (.tuple #[.agg #[encStr o.p.s, .int .i64 o.p.c, .int .i64 o.p.r, .slice ra o.reads.length rc, .slice la o.links.length lc2], .bool true]) ∧ Upd V w' (fun _ => False) ∧ Upd W w' (fun _ => False) ∧
              Rw V 32 3 (.slice ra o.reads.length rc) o.reads.length (pcCells o.reads) ∧ Rw V 40 4 (.slice la o.links.length lc2) o.links.length (lkCells o.links) ∧ ∀ k, (Value.slice la o.links.length lc2).ownBlock = some k → B k := by
            intro V uV
            refine Calls.mono (AT V uV) ?_
            rintro e w' ⟨u, ⟨_, h1⟩ | ⟨i, o', rv, lv, rfl, h1, h2, h3, h4, h5, h6⟩⟩
            · rw [ownAt_none h1] at hO; cases hO
            · rw [ownAt_some h1 h2 h3] at hO
              cases hO
              obtain ⟨ra, rc, rfl, -⟩ := Rw.form h4
              obtain ⟨la, lc2, rfl, -⟩ := Rw.form h5
              exact ⟨ra, rc, la, lc2, rfl, u, uV.then u (fun _ _ => id), h4, h5, h6⟩
          have HRT := hide hrt
          have HRF := hide hrf
          have HOL := hide hoo
          have xW := lt_at HXW.out
          have UA : Upd W W.drew.drew (fun _ => False) := (Upd.refl W _).drew.drew
          have UB : Upd W (W.alloc (.cells #[.string ⟨#[]⟩, .int .i64 0, .int .i64 0, .slice none 0 0, .slice none 0 0] 38)).drew.drew (fun _ => False) := ((Upd.refl W _).alloc _).drew.drew
          clear hnx hst hrt hrf AT hO hoo hom
          go_region
          go_wp2_with fail
          go_region_held3 (fun w' => w'.cell? ⟨b, 2, none⟩ = some (.slice oa on oc) ∧ w'.cell? ⟨wr.heap.size, 1, none⟩ = some (encStr ls) ∧ w'.cell? ⟨wr.heap.size, 2, none⟩ = some (.int .i64 lcc) ∧ w'.cell? ⟨wr.heap.size, 3, none⟩ = some (.int .i64 lr))
            (first | (go_split_ands; exact ⟨(Upd.cell (S := fun _ => False) (w := W) (by first | with_reducible exact uW3 | with_reducible exact uW3.alloc _ | with_reducible exact upd5 uW3 (Nat.le_refl _) _ _ _ _ _) b 2 bW id).trans z2, (Upd.cell (S := fun _ => False) (w := W) (by first | with_reducible exact uW3 | with_reducible exact uW3.alloc _ | with_reducible exact upd5 uW3 (Nat.le_refl _) _ _ _ _ _) wr.heap.size 1 yW id).trans y1, (Upd.cell (S := fun _ => False) (w := W) (by first | with_reducible exact uW3 | with_reducible exact uW3.alloc _ | with_reducible exact upd5 uW3 (Nat.le_refl _) _ _ _ _ _) wr.heap.size 2 yW id).trans y2, (Upd.cell (S := fun _ => False) (w := W) (by first | with_reducible exact uW3 | with_reducible exact uW3.alloc _ | with_reducible exact upd5 uW3 (Nat.le_refl _) _ _ _ _ _) wr.heap.size 3 yW id).trans y3⟩) | go_keep)
            (first
            | (go_at_call 25; with_reducible refine Calls.mono (AT1 W.drew.drew UA) ?_; rintro e w3 ⟨ra, rc, la, lc2, rfl, u3, uW3, hp1, hl1, hlB⟩; have hx3 := uW3.get HXW.out id; obtain ⟨xx0, xx1, xx2⟩ := cells3 hx3; have xl3 := lt_at hx3; have HX3 := hide hx3; clear hx3)
            | (go_at_call 25; with_reducible refine Calls.mono (AT1 (W.alloc (.cells #[.string ⟨#[]⟩, .int .i64 0, .int .i64 0, .slice none 0 0, .slice none 0 0] 38)).drew.drew UB) ?_; rintro e w3 ⟨ra, rc, la, lc2, rfl, u3, uW3, hp1, hl1, hlB⟩; have hx3 := uW3.get HXW.out id; obtain ⟨xx0, xx1, xx2⟩ := cells3 hx3; have xl3 := lt_at hx3; have HX3 := hide hx3; clear hx3; have hZ := u3.get (new1dd W _) id; have fz0 := free_at hZ 0; have fz1 := free_at hZ 1; have fz2 := free_at hZ 2; have fz3 := free_at hZ 3; have fz4 := free_at hZ 4; obtain ⟨zz0, zz1, zz2, zz3, zz4⟩ := cells5 hZ; have lz := lt_at hZ; have HZ := hide hZ; clear hZ))
          · have hp3 := u3.rw hp1 (fun _ _ => id)
            have hl3 := u3.rw hl1 (fun _ _ => id)
            have U5 := uW3.alloc (.cells #[encStr o.p.s, .int .i64 o.p.c, .int .i64 o.p.r, .slice ra o.reads.length rc, .slice la o.links.length lc2] 38)
            have CN := Contains_any (w3.alloc (.cells #[encStr o.p.s, .int .i64 o.p.c, .int .i64 o.p.r, .slice ra o.reads.length rc, .slice la o.links.length lc2] 38)) _ o.reads s.p (Rw.alloc hp3 _) (by omega)
            have hT := new1 w3 (.cells #[encStr o.p.s, .int .i64 o.p.c, .int .i64 o.p.r, .slice ra o.reads.length rc, .slice la o.links.length lc2] 38)
            have hL5 := Rw.alloc hl3 (.cells #[encStr o.p.s, .int .i64 o.p.c, .int .i64 o.p.r, .slice ra o.reads.length rc, .slice la o.links.length lc2] 38)
            unfold Pc.val at CN
            have HT5 := hide hT
            have HL5 := hide hL5
            have HU5 := hide U5
            clear hT hL5 U5 hp3 hl3 hp1 hl1
            by_cases hpm : s.p ∈ o.reads
            · have hd : decide (s.p ∈ o.reads) = true := by simpa using hpm
              rw [hd] at CN
              have hrt : r = true := HRT.out hpm
              subst hrt
              clear hd hpm
              go_wp2_with fail
              refine Calls.mono CN ?_
              rintro e w5 ⟨rfl, u5⟩
              go_wp2_with fail
              go_ret
              exact ⟨rfl, ((HU.out.then UW.out (fun _ _ => id)).then HU5.out (fun _ _ => False.elim)).then u5 (fun _ _ => False.elim)⟩
            · have hd : decide (s.p ∈ o.reads) = false := by simpa using hpm
              rw [hd] at CN
              obtain ⟨hgk, hg2⟩ := HRF.out hpm
              have HG2 := hide hg2
              clear hd hpm hg2
              go_wp2_with fail
              refine Calls.mono CN ?_
              rintro e w5 ⟨rfl, u5⟩
              obtain ⟨tt0, tt1, tt2, tt3, tt4⟩ := cells5 (u5.get HT5.out id)
              go_wp2_with fail
              refine Calls.mono (SEEN w5 _ o.links (HU5.out.then u5 (fun _ _ => id)) (u5.rw HL5.out (fun _ _ => id)) HOL.out (by omega) (fun k hk => hB k (hlB k hk))) ?_
              rintro e w4 ⟨rfl, n4, lv4, hn4, s4, o4, hx4, u4⟩
              have hsl := sees_len M L' o.links
              have hso := sees_sub M L' o.links
              go_wp2_with fail
              go_roundg (gk - 1)
              case measure => omega
              case rel => exact ⟨n4, lv4, _, _, by omega, by omega, by omega, s4, o4, fun x hx => (hso x hx).elim (fun h => hok x (by simp [h])) (HOL.out x), by rw [show gk - 1 + 1 = gk by omega]; exact HG2.out, hx4, u4⟩
          · have hp3 := u3.rw hp1 (fun _ _ => id)
            have hl3 := u3.rw hl1 (fun _ _ => id)
            have n1 := Rw.ne_block hp3 HZ.out (by decide)
            have n2 := Rw.ne_block hl3 HZ.out (by decide)
            have U5 := upd5 uW3 (Nat.le_refl _) (encStr o.p.s) (.int .i64 o.p.c) (.int .i64 o.p.r) (.slice ra o.reads.length rc) (.slice la o.links.length lc2)
            have CN := Contains_any _ _ o.reads s.p (rw5 hp3 n1 (encStr o.p.s) (.int .i64 o.p.c) (.int .i64 o.p.r) (.slice ra o.reads.length rc) (.slice la o.links.length lc2)) (by omega)
            have hT := set5 HZ.out (encStr o.p.s) (.int .i64 o.p.c) (.int .i64 o.p.r) (.slice ra o.reads.length rc) (.slice la o.links.length lc2)
            have hL5 := rw5 hl3 n2 (encStr o.p.s) (.int .i64 o.p.c) (.int .i64 o.p.r) (.slice ra o.reads.length rc) (.slice la o.links.length lc2)
            unfold Pc.val at CN
            have HT5 := hide hT
            have HL5 := hide hL5
            have HU5 := hide U5
            clear hT hL5 U5 hp3 hl3 hp1 hl1
            by_cases hpm : s.p ∈ o.reads
            · have hd : decide (s.p ∈ o.reads) = true := by simpa using hpm
              rw [hd] at CN
              have hrt : r = true := HRT.out hpm
              subst hrt
              clear hd hpm
              go_wp2_with fail
              refine Calls.mono CN ?_
              rintro e w5 ⟨rfl, u5⟩
              go_wp2_with fail
              go_ret
              exact ⟨rfl, ((HU.out.then UW.out (fun _ _ => id)).then HU5.out (fun _ _ => False.elim)).then u5 (fun _ _ => False.elim)⟩
            · have hd : decide (s.p ∈ o.reads) = false := by simpa using hpm
              rw [hd] at CN
              obtain ⟨hgk, hg2⟩ := HRF.out hpm
              have HG2 := hide hg2
              clear hd hpm hg2
              go_wp2_with fail
              refine Calls.mono CN ?_
              rintro e w5 ⟨rfl, u5⟩
              obtain ⟨tt0, tt1, tt2, tt3, tt4⟩ := cells5 (u5.get HT5.out id)
              go_wp2_with fail
              refine Calls.mono (SEEN w5 _ o.links (HU5.out.then u5 (fun _ _ => id)) (u5.rw HL5.out (fun _ _ => id)) HOL.out (by omega) (fun k hk => hB k (hlB k hk))) ?_
              rintro e w4 ⟨rfl, n4, lv4, hn4, s4, o4, hx4, u4⟩
              have hsl := sees_len M L' o.links
              have hso := sees_sub M L' o.links
              go_wp2_with fail
              go_roundg (gk - 1)
              case measure => omega
              case rel => exact ⟨n4, lv4, _, _, by omega, by omega, by omega, s4, o4, fun x hx => (hso x hx).elim (fun h => hok x (by simp [h])) (HOL.out x), by rw [show gk - 1 + 1 = gk by omega]; exact HG2.out, hx4, u4⟩
      · obtain ⟨y0, y1, y2, y3⟩ := cells4 HYW.out
        obtain ⟨z0, z1, z2, z3, z4⟩ := cells5 SW.out.c
        have bW := lt_at SW.out.c
        have yW := lt_at HYW.out
        have hname' : ¬ s.name = lb := fun e => hname e.symm
        have hbq : (lb == s.name) = false := by simpa using hname
        have hst : s.stop ⟨lb, ls, lcc, lr⟩ = false := by simp [Way.stop, hname]
        have hnx : s.next ⟨lb, ls, lcc, lr⟩ = readsOf s.F ⟨lb, ls, lcc, lr⟩ := by simp [Way.next, hname]
        obtain ⟨hgk, hg2⟩ : 0 < gk ∧ s.goes gk (sees M L' (s.next ⟨lb, ls, lcc, lr⟩)) = some r := by
          rcases s.goes_step HGO.out with ⟨e, _⟩ | ⟨_, e⟩
          · rw [hst] at e; cases e
          · exact e
        rw [hnx] at hg2
        obtain ⟨rdl, rdo⟩ := ok.reads ⟨lb, ls, lcc, lr⟩
        obtain ⟨rd, hrd⟩ : ∃ rd, readsOf s.F ⟨lb, ls, lcc, lr⟩ = rd := ⟨_, rfl⟩
        have uD : Upd W W.drew.drew (fun k => k = b ∨ k = bm) := (Upd.refl W _).drew.drew
        have lD := LW.out.keep uD (SW.out.sb) (SW.out.sm)
        have RD := Reads_any W.drew.drew b0 bmw nw Dw lD.web A s.F lD.kn ⟨lb, ls, lcc, lr⟩ hlok.b (fun t ver es h => ⟨(ok.web t ver es h).1, fun e he => ((ok.web t ver es h).2 e he).1⟩)
        rw [hrd] at RD rdl rdo hg2
        have hLl2 : L'.length + 1 ≤ 1000 * (N - gk + 1) := by simpa using hLn
        have hgW : g < W.heap.size := SW.out.l.lt g rfl
        have HG2 := hide hg2
        have HRDO := hide rdo
        clear hnx hst hrd hg2 uD lD rdo
        unfold Lk.val at RD
        simp only at RD
        go_region
        go_wp2_with fail
        go_region_law (first
          | (go_simp; go_at_call 19; refine Calls.mono RD ?_; rintro e w3 ⟨a3, c3, rfl, r3, nb3, u3⟩; have S3 := SW.out.upd (((Upd.refl W (fun _ => False)).drew.drew).then u3 (fun _ _ => id)) id id (fun _ _ => id); have z0' := (cells5 S3.c).1)
          | (go_simp; go_at_call 38; refine Calls.mono (see_any w3 b bm n _ _ _ _ _ M L' _ S3 r3 HRDO.out rdl (by omega) (by omega) (fun k hk e => by have := nb3 k hk; have e2 := Option.some.inj e; simp at e2 this; omega)) ?_; rintro e w4 ⟨rfl, n4, lv4, hn4, s4, o4, u4⟩))
        all_goals go_wp2_with fail
        all_goals go_roundg (gk - 1)
        case' measure => omega
        all_goals try (exact (by omega : gk - 1 < gk))
        all_goals have hsl := sees_len M L' rd
        all_goals have UF : Upd w w4 (fun k => k = b ∨ k = bm) := ((HU.out.then UW.out (fun _ _ => id)).drew.drew.then u3 (fun _ _ => False.elim)).then u4 (fun i hi e => by
              rcases e with e | e | e
              · exact .inl e
              · exact .inr e
              · have := HO.out i e; omega)
        all_goals refine ⟨n4, lv4, _, _, by omega, by omega, by omega, s4, fun k hk => ?_, fun x hx => ?_, by rw [show gk - 1 + 1 = gk by omega]; exact HG2.out, ?_, UF⟩
        all_goals first
          | (rcases o4 k hk with e | e
             · exact HO.out k e
             · exact Nat.le_trans ((HU.out.then UW.out (fun _ _ => id)).drew.drew.then u3 (fun _ _ => False.elim)).size e)
          | (exact (sees_sub M L' rd x hx).elim (fun h => hok x (by simp [h])) (HRDO.out x))
          | (exact (u4.get (u3.get HXW.out id) (fun e => by
              rcases e with e | e | e
              · exact hXb e
              · exact hXm e
              · exact hgX (Option.some.inj e))))
end Go.Proofs.Ytcdimledeomahaa
