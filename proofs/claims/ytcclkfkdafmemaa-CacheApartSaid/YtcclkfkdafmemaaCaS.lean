/- The walks of package cache's each, Stale, Lose. -/
import Derived.Test.YtcclkfkdafmemaaCaF
import Derived.Test.YtcclkfkdafmemaaCaR
import Derived.Deep.RegionWith
set_option maxRecDepth 100000
namespace Go.Proofs.Ytcclkfkdafmemaa
open Go.RowKit Go.Lat Go.Sort

theorem ret_en1 {fn : Func} {p : Tmp} (h : fn.results = #[.cell p 67]) (tmps : Array Value) (W : World) (g : Nat) (x : En) (hp : tmps.getD p undef = .pointer (some ⟨g, 0, none⟩)) (hg : W.heap[g]? = some (.cells x.cs 67 (0, 0))) :
    (results fn tmps).run Try.prog W = .ok x.val W :=
  results_cell_row h tmps W g 67 x.cs (0, 0) _ hp hg Try.underlying67 rfl Try.infoE
def staleE (x : En) : En := ⟨x.v, x.ver, x.inc, x.has, true, x.lost⟩
def loseE (x : En) : En := ⟨x.v, x.ver, x.inc, x.has, false, true⟩
def MK (M : Lk → Option En) (F : En → En) (nm : List UInt8) (left : Lit → Bool) : Lk → Option En := fun x => if x.b = nm ∧ left (lkLit x) = false then (M x).map F else M x
def MB (M : Lk → Option En) (F : En → En) (nm : List UInt8) : Lk → Option En := fun x => if x.b = nm then (M x).map F else M x
theorem MK_some (M : Lk → Option En) (F : En → En) (nm : List UInt8) (left : Lit → Bool) (x : Lk) : (MK M F nm left x).isSome = (M x).isSome := by
  unfold MK
  split <;> simp

set_option maxHeartbeats 1600000 in
theorem Stale1_any (w : World) (x : En) : Calls Try.prog 41 #[x.val] w fun e w' => e = .returned (staleE x).val ∧ w' = (w.alloc (.cells (staleE x).cs 67)).alloc (.cells (staleE x).cs 67) := by
  obtain ⟨⟨vk, vn, vt, vb, vf⟩, ver, inc, has, stale, lost⟩ := x
  unfold staleE En.val
  simp only
  go_enter Try.func41, Try.ntmps41
  go_wp2
  refine bodyPost_ret (ret_en1 rfl _ _ (w.heap.size + 1) (staleE ⟨⟨vk, vn, vt, vb, vf⟩, ver, inc, has, stale, lost⟩) rfl (Vnew2 w _ _)) rfl ?_
  exact ⟨rfl, rfl⟩

set_option maxHeartbeats 3200000 in
theorem eachStale_any (w : World) (b bm n : Nat) (D : DataW Value) (M : Lk → Option En) (h : Cas w b bm n D M) (hn : n ≤ 1000000) (nm : List UInt8) : Calls Try.prog 40 #[.pointer (some ⟨b, 0, none⟩), enS nm, .func (Fn.func 41) #[] #[]] w fun e w' => e = .returned (.tuple #[]) ∧ (∃ D', Cas w' b bm n D' (MB M staleE nm)) ∧ Upd w w' (fun k => k = bm) := by
  have c0 := cells1 h.c
  have blt := lt_at h.c
  have bmlt := h.m.lt
  have hm := h.m
  have hne := h.ne
  have HN := hide h
  clear h
  go_enter Try.func40, Try.ntmps40
  go_wp2_with (at_range; refine wpList_range_own _ rfl _ 77 rfl 30 67 lkK Try.underlying77 heldElem bm n D rfl hm ?_; intro w0 hrg0 hg0 hs0)
  go_frame
  obtain ⟨r, hr⟩ : ∃ r, w.heap.size = r := ⟨_, rfl⟩
  have u0 : Upd w w0 (fun k => k = bm) := (Upd.refl w _).grown hg0 (fun k e => by cases e)
  rw [hr] at hrg0 ⊢
  have HR0 := hide hrg0
  have HU0 := hide u0
  have HR := hide hr
  clear hrg0 u0 hg0 hs0 hr hm
  go_loopw [] (fun wr => ∃ (left : Lit → Bool) (cnt : Nat) (Dc : DataW Value), wr.ranges Try.prog 30 heldElem bm r n Dc left cnt ∧ (∀ x : Lk, x.ok → Maps.has Dc (lkLit x) = (M x).isSome) ∧ (∀ x : Lk, x.ok → Dc.atKey (lkLit x) (.held enZero.val) = .held ((MK M staleE nm left x).getD enZero).val) ∧ Upd w wr (fun k => k = bm))
    (fun wr => wr.rangeLeft bm r)
  case atStart =>
    refine ⟨_, _, D, HR0.out, HN.out.has, fun x hx => ?_, HU0.out⟩
    rw [HN.out.val x hx]
    congr 3
    unfold MK
    split
    · rename_i q
      have := HN.out.has x hx
      rw [q.2] at this
      cases hM : M x with
      | none => rfl
      | some y => rw [hM] at this; cases this
    · rfl
  case round =>
    obtain ⟨left, cnt, Dc, hrg, hhas, hval, hu⟩ := hrel
    go_wp2_with (at_next; refine wpList_next_ranges _ rfl _ rfl 30 lkK heldElem (fun x : Lk => .agg #[enS x.b, enS x.s, .int .i64 x.c, .int .i64 x.r]) (fun v : Value => v) (fun key kl hk => by obtain ⟨x, _, e, _⟩ := lk_inv hk; exact ⟨x, e⟩) (fun v y _ => ⟨v, rfl⟩) bm r n Dc left cnt rfl hrg ?_ ?_)
    · intro hc0 hl0
      go_wp2
      go_end0
      have u9 := hu
      refine ⟨rfl, ⟨Dc, u9.get HN.out.c hne, hrg.owns, fun x hx => ?_, fun x hx => ?_⟩, u9⟩
      · rw [hhas x hx]
        unfold MB
        split <;> simp
      · rw [hval x hx]
        unfold MK MB
        simp [hl0]
    · intro x c kl y1 y2 w2 cnt2 hkey hlk hv hat hrg2 hlt hg2 hs2 hen
      obtain ⟨x', pok, ex, rfl⟩ := lk_inv hkey
      obtain rfl : x = x' := by
        obtain ⟨a, b, c, d⟩ := x
        obtain ⟨a', b', c', d'⟩ := x'
        simpa [Lk.val] using ex
      obtain rfl : DataW.held c = y1 := congrArg Prod.fst (Option.some.inj hv)
      have hD : Maps.has Dc (lkLit x) = true := has_of_at hat
      have hMs : (M x).isSome = true := (hhas x pok).symm.trans hD
      obtain ⟨E, hE⟩ := Option.isSome_iff_exists.1 hMs
      have hc : E.val = c := by
        have q := hat (.held enZero.val)
        have e0 : MK M staleE nm left x = M x := by
          unfold MK
          rw [if_neg]
          rintro ⟨_, z⟩
          rw [hlk] at z
          cases z
        rw [hval x pok, e0, hE] at q
        injection q
      subst hc
      have hrr := HR.out
      have u2 : Upd w w2 (fun k => k = bm) := hu.grown hg2 (fun k e => .inl (by have := Option.some.inj e; omega))
      have bB := u2.get HN.out.c hne
      have left2 : ∀ p : Lk, p.ok → p ≠ x → (left (lkLit p) && !(lkLit p).sameKey (lkLit x)) = left (lkLit p) := fun p hp e => by
        have : (lkLit p).sameKey (lkLit x) = false := Go.Maps.sameKey_ne (fun q => e (lkLit_inj hp pok q))
        simp [this]
      have self2 : (left (lkLit x) && !(lkLit x).sameKey (lkLit x)) = false := by
        have := WideAt.sameKey_self (isKey_lk x)
        simp [this]
      have HC := hide (fun w => Stale1_any w E)
      obtain ⟨W1, hW1⟩ : ∃ W1, (w2.alloc (.cells x.cs 30)).alloc (.cells E.cs 67) = W1 := ⟨_, rfl⟩
      have u21 : Upd w2 W1 (fun _ => False) := hW1 ▸ ((Upd.refl w2 _).alloc _).alloc _
      have bB1 := u21.get bB id
      have bx : W1.heap[w2.heap.size]? = some (.cells x.cs 30 (0, 0)) := hW1 ▸ block_alloc (Vnew1 w2 _) _
      have be : W1.heap[w2.heap.size + 1]? = some (.cells E.cs 67 (0, 0)) := hW1 ▸ Vnew2 w2 _ _
      have hrg1 := ranges_upd hrg2 u21 id id
      obtain ⟨W9, E9, R9, G9⟩ := ranges_store (t := 77) (ranges_upd hrg1 ((((Upd.refl W1 (fun _ => False))).alloc (.cells (staleE E).cs 67)).alloc (.cells (staleE E).cs 67)).drew id id) lkK Try.underlying77 (Nat.lt_of_le_of_lt hn (by decide)) (lk_key pok) (val := (staleE E).val) hD
      have U9 : Upd w W9 (fun k => k = bm) := (((u2.then u21 (fun _ _ => False.elim)).alloc _).alloc _).drew.grown G9 (fun k e => .inr (Option.some.inj e).symm)
      have HE9 := hide E9
      have HR9 := hide R9
      have HU9 := hide U9
      have HU1 := hide (u2.then u21 (fun _ _ => False.elim))
      have HRG1 := hide hrg1
      have HO := hide hrg
      have HH := hide hhas
      have HV := hide hval
      have HL := hide left2
      have HS := hide self2
      have HD := hide hD
      have HW1 := hide hW1
      have HE := hide hE
      have HP := hide pok
      clear hW1 E9 R9 G9 U9 u21 u2 hrg1 hrg hrg2 hhas hval left2 self2 hD hMs hkey hlk hv hat ex hu hg2 hs2 hE pok
      obtain ⟨xb, xs, xc, xr⟩ := x
      obtain ⟨⟨vk, vn, vt, vb, vf⟩, ver, inc, has, stale, lost⟩ := E
      unfold Lk.cs at bx
      unfold En.cs at be
      unfold En.val at hen
      simp only at bx be hen
      obtain ⟨x0, x1, x2, x3⟩ := cells4 bx
      obtain ⟨e0, e1, e2, e3, e4, e5, e6, e7, e8, e9⟩ := cells10 be
      have b1 := cells1 bB1
      have l1 := lt_at bx
      have l2 := lt_at be
      have l3 := lt_at bB1
      have f1 := free_at bx 0
      clear bB bB1 bx be
      by_cases hb : xb = nm
      · subst hb
        have hW1 : (w2.alloc (.cells #[.string ⟨xb.toArray⟩, .string ⟨xs.toArray⟩, .int .i64 xc, .int .i64 xr] 30)).alloc (.cells #[.int .i64 vk, .int .i64 vn, .string ⟨vt.toArray⟩, .bool vb, .int .i64 vf, .int .i64 ver, .int .i64 inc, .bool has, .bool stale, .bool lost] 67) = W1 := HW1.out
        have HW := hide hW1
        clear hW1 HW1
        have CC := HC.out
        have E9 := HE9.out
        unfold staleE En.val En.cs at CC E9
        unfold Lk.val at E9
        simp only at CC E9
        clear HC HE9
        have HF : Hid ((∃ (left : Lit → Bool) (cnt : Nat) (Dc : DataW Value), W9.ranges Try.prog 30 heldElem bm r n Dc left cnt ∧ (∀ x : Lk, x.ok → Maps.has Dc (lkLit x) = (M x).isSome) ∧ (∀ x : Lk, x.ok → Dc.atKey (lkLit x) (.held enZero.val) = .held ((MK M staleE xb left x).getD enZero).val) ∧ Upd w W9 (fun k => k = bm)) ∧ W9.rangeLeft bm r < wr.rangeLeft bm r) := by
          refine hide ⟨⟨_, cnt2, _, HR9.out, fun p hp => ?_, fun p hp => ?_, HU9.out⟩, by rw [HR9.out.left_eq, HO.out.left_eq]; exact hlt⟩
          · by_cases e : p = ⟨xb, xs, xc, xr⟩
            · rw [e, Go.Maps.has_put_same HRG1.out.owns.isMap (isKey_lk _), HE.out]
              rfl
            · rw [Go.Maps.has_put_other (fun z => e (lkLit_inj hp HP.out z)), HH.out p hp]
          · by_cases e : p = ⟨xb, xs, xc, xr⟩
            · rw [e, Go.Maps.atKey_put_same HRG1.out.owns.isMap (isKey_lk _)]
              congr 2
              unfold MK
              rw [if_pos ⟨rfl, HS.out⟩, HE.out]
              rfl
            · rw [Go.Maps.atKey_put_other (fun z => e (lkLit_inj hp HP.out z)), HV.out p hp]
              congr 3
              unfold MK
              have q := HL.out p hp e
              simp only [q]
        clear HR9 HU9 HU1 HO HH HV HL HS HD HE HP HRG1
        go_wp2_with fail
        rw [HW.out]
        go_region_with (go_at_call 41; refine Calls.mono (CC _) ?_; rintro e w5 ⟨rfl, rfl⟩)
        all_goals go_wp2_with fail
        all_goals exact HF.out
      · have d1 : (xb == nm) = false := by simp [hb]
        have hW1 : (w2.alloc (.cells #[.string ⟨xb.toArray⟩, .string ⟨xs.toArray⟩, .int .i64 xc, .int .i64 xr] 30)).alloc (.cells #[.int .i64 vk, .int .i64 vn, .string ⟨vt.toArray⟩, .bool vb, .int .i64 vf, .int .i64 ver, .int .i64 inc, .bool has, .bool stale, .bool lost] 67) = W1 := HW1.out
        have HW := hide hW1
        clear hW1 HW1
        go_wp2_with fail
        rw [HW.out]
        refine ⟨⟨_, cnt2, Dc, HRG1.out, HH.out, fun p hp => ?_, HU1.out⟩, by rw [HRG1.out.left_eq, HO.out.left_eq]; exact hlt⟩
        rw [HV.out p hp]
        congr 3
        unfold MK
        by_cases e : p = ⟨xb, xs, xc, xr⟩
        · subst e
          simp [hb]
        · have q := HL.out p hp e
          simp only [q]

set_option maxHeartbeats 1600000 in
theorem Lose1_any (w : World) (x : En) : Calls Try.prog 42 #[x.val] w fun e w' => e = .returned (loseE x).val ∧ w' = (w.alloc (.cells (loseE x).cs 67)).alloc (.cells (loseE x).cs 67) := by
  obtain ⟨⟨vk, vn, vt, vb, vf⟩, ver, inc, has, stale, lost⟩ := x
  unfold loseE En.val
  simp only
  go_enter Try.func42, Try.ntmps42
  go_wp2
  refine bodyPost_ret (ret_en1 rfl _ _ (w.heap.size + 1) (loseE ⟨⟨vk, vn, vt, vb, vf⟩, ver, inc, has, stale, lost⟩) rfl (Vnew2 w _ _)) rfl ?_
  exact ⟨rfl, rfl⟩

set_option maxHeartbeats 3200000 in
theorem eachLose_any (w : World) (b bm n : Nat) (D : DataW Value) (M : Lk → Option En) (h : Cas w b bm n D M) (hn : n ≤ 1000000) (nm : List UInt8) : Calls Try.prog 40 #[.pointer (some ⟨b, 0, none⟩), enS nm, .func (Fn.func 42) #[] #[]] w fun e w' => e = .returned (.tuple #[]) ∧ (∃ D', Cas w' b bm n D' (MB M loseE nm)) ∧ Upd w w' (fun k => k = bm) := by
  have c0 := cells1 h.c
  have blt := lt_at h.c
  have bmlt := h.m.lt
  have hm := h.m
  have hne := h.ne
  have HN := hide h
  clear h
  go_enter Try.func40, Try.ntmps40
  go_wp2_with (at_range; refine wpList_range_own _ rfl _ 77 rfl 30 67 lkK Try.underlying77 heldElem bm n D rfl hm ?_; intro w0 hrg0 hg0 hs0)
  go_frame
  obtain ⟨r, hr⟩ : ∃ r, w.heap.size = r := ⟨_, rfl⟩
  have u0 : Upd w w0 (fun k => k = bm) := (Upd.refl w _).grown hg0 (fun k e => by cases e)
  rw [hr] at hrg0 ⊢
  have HR0 := hide hrg0
  have HU0 := hide u0
  have HR := hide hr
  clear hrg0 u0 hg0 hs0 hr hm
  go_loopw [] (fun wr => ∃ (left : Lit → Bool) (cnt : Nat) (Dc : DataW Value), wr.ranges Try.prog 30 heldElem bm r n Dc left cnt ∧ (∀ x : Lk, x.ok → Maps.has Dc (lkLit x) = (M x).isSome) ∧ (∀ x : Lk, x.ok → Dc.atKey (lkLit x) (.held enZero.val) = .held ((MK M loseE nm left x).getD enZero).val) ∧ Upd w wr (fun k => k = bm))
    (fun wr => wr.rangeLeft bm r)
  case atStart =>
    refine ⟨_, _, D, HR0.out, HN.out.has, fun x hx => ?_, HU0.out⟩
    rw [HN.out.val x hx]
    congr 3
    unfold MK
    split
    · rename_i q
      have := HN.out.has x hx
      rw [q.2] at this
      cases hM : M x with
      | none => rfl
      | some y => rw [hM] at this; cases this
    · rfl
  case round =>
    obtain ⟨left, cnt, Dc, hrg, hhas, hval, hu⟩ := hrel
    go_wp2_with (at_next; refine wpList_next_ranges _ rfl _ rfl 30 lkK heldElem (fun x : Lk => .agg #[enS x.b, enS x.s, .int .i64 x.c, .int .i64 x.r]) (fun v : Value => v) (fun key kl hk => by obtain ⟨x, _, e, _⟩ := lk_inv hk; exact ⟨x, e⟩) (fun v y _ => ⟨v, rfl⟩) bm r n Dc left cnt rfl hrg ?_ ?_)
    · intro hc0 hl0
      go_wp2
      go_end0
      have u9 := hu
      refine ⟨rfl, ⟨Dc, u9.get HN.out.c hne, hrg.owns, fun x hx => ?_, fun x hx => ?_⟩, u9⟩
      · rw [hhas x hx]
        unfold MB
        split <;> simp
      · rw [hval x hx]
        unfold MK MB
        simp [hl0]
    · intro x c kl y1 y2 w2 cnt2 hkey hlk hv hat hrg2 hlt hg2 hs2 hen
      obtain ⟨x', pok, ex, rfl⟩ := lk_inv hkey
      obtain rfl : x = x' := by
        obtain ⟨a, b, c, d⟩ := x
        obtain ⟨a', b', c', d'⟩ := x'
        simpa [Lk.val] using ex
      obtain rfl : DataW.held c = y1 := congrArg Prod.fst (Option.some.inj hv)
      have hD : Maps.has Dc (lkLit x) = true := has_of_at hat
      have hMs : (M x).isSome = true := (hhas x pok).symm.trans hD
      obtain ⟨E, hE⟩ := Option.isSome_iff_exists.1 hMs
      have hc : E.val = c := by
        have q := hat (.held enZero.val)
        have e0 : MK M loseE nm left x = M x := by
          unfold MK
          rw [if_neg]
          rintro ⟨_, z⟩
          rw [hlk] at z
          cases z
        rw [hval x pok, e0, hE] at q
        injection q
      subst hc
      have hrr := HR.out
      have u2 : Upd w w2 (fun k => k = bm) := hu.grown hg2 (fun k e => .inl (by have := Option.some.inj e; omega))
      have bB := u2.get HN.out.c hne
      have left2 : ∀ p : Lk, p.ok → p ≠ x → (left (lkLit p) && !(lkLit p).sameKey (lkLit x)) = left (lkLit p) := fun p hp e => by
        have : (lkLit p).sameKey (lkLit x) = false := Go.Maps.sameKey_ne (fun q => e (lkLit_inj hp pok q))
        simp [this]
      have self2 : (left (lkLit x) && !(lkLit x).sameKey (lkLit x)) = false := by
        have := WideAt.sameKey_self (isKey_lk x)
        simp [this]
      have HC := hide (fun w => Lose1_any w E)
      obtain ⟨W1, hW1⟩ : ∃ W1, (w2.alloc (.cells x.cs 30)).alloc (.cells E.cs 67) = W1 := ⟨_, rfl⟩
      have u21 : Upd w2 W1 (fun _ => False) := hW1 ▸ ((Upd.refl w2 _).alloc _).alloc _
      have bB1 := u21.get bB id
      have bx : W1.heap[w2.heap.size]? = some (.cells x.cs 30 (0, 0)) := hW1 ▸ block_alloc (Vnew1 w2 _) _
      have be : W1.heap[w2.heap.size + 1]? = some (.cells E.cs 67 (0, 0)) := hW1 ▸ Vnew2 w2 _ _
      have hrg1 := ranges_upd hrg2 u21 id id
      obtain ⟨W9, E9, R9, G9⟩ := ranges_store (t := 77) (ranges_upd hrg1 ((((Upd.refl W1 (fun _ => False))).alloc (.cells (loseE E).cs 67)).alloc (.cells (loseE E).cs 67)).drew id id) lkK Try.underlying77 (Nat.lt_of_le_of_lt hn (by decide)) (lk_key pok) (val := (loseE E).val) hD
      have U9 : Upd w W9 (fun k => k = bm) := (((u2.then u21 (fun _ _ => False.elim)).alloc _).alloc _).drew.grown G9 (fun k e => .inr (Option.some.inj e).symm)
      have HE9 := hide E9
      have HR9 := hide R9
      have HU9 := hide U9
      have HU1 := hide (u2.then u21 (fun _ _ => False.elim))
      have HRG1 := hide hrg1
      have HO := hide hrg
      have HH := hide hhas
      have HV := hide hval
      have HL := hide left2
      have HS := hide self2
      have HD := hide hD
      have HW1 := hide hW1
      have HE := hide hE
      have HP := hide pok
      clear hW1 E9 R9 G9 U9 u21 u2 hrg1 hrg hrg2 hhas hval left2 self2 hD hMs hkey hlk hv hat ex hu hg2 hs2 hE pok
      obtain ⟨xb, xs, xc, xr⟩ := x
      obtain ⟨⟨vk, vn, vt, vb, vf⟩, ver, inc, has, stale, lost⟩ := E
      unfold Lk.cs at bx
      unfold En.cs at be
      unfold En.val at hen
      simp only at bx be hen
      obtain ⟨x0, x1, x2, x3⟩ := cells4 bx
      obtain ⟨e0, e1, e2, e3, e4, e5, e6, e7, e8, e9⟩ := cells10 be
      have b1 := cells1 bB1
      have l1 := lt_at bx
      have l2 := lt_at be
      have l3 := lt_at bB1
      have f1 := free_at bx 0
      clear bB bB1 bx be
      by_cases hb : xb = nm
      · subst hb
        have hW1 : (w2.alloc (.cells #[.string ⟨xb.toArray⟩, .string ⟨xs.toArray⟩, .int .i64 xc, .int .i64 xr] 30)).alloc (.cells #[.int .i64 vk, .int .i64 vn, .string ⟨vt.toArray⟩, .bool vb, .int .i64 vf, .int .i64 ver, .int .i64 inc, .bool has, .bool stale, .bool lost] 67) = W1 := HW1.out
        have HW := hide hW1
        clear hW1 HW1
        have CC := HC.out
        have E9 := HE9.out
        unfold loseE En.val En.cs at CC E9
        unfold Lk.val at E9
        simp only at CC E9
        clear HC HE9
        have HF : Hid ((∃ (left : Lit → Bool) (cnt : Nat) (Dc : DataW Value), W9.ranges Try.prog 30 heldElem bm r n Dc left cnt ∧ (∀ x : Lk, x.ok → Maps.has Dc (lkLit x) = (M x).isSome) ∧ (∀ x : Lk, x.ok → Dc.atKey (lkLit x) (.held enZero.val) = .held ((MK M loseE xb left x).getD enZero).val) ∧ Upd w W9 (fun k => k = bm)) ∧ W9.rangeLeft bm r < wr.rangeLeft bm r) := by
          refine hide ⟨⟨_, cnt2, _, HR9.out, fun p hp => ?_, fun p hp => ?_, HU9.out⟩, by rw [HR9.out.left_eq, HO.out.left_eq]; exact hlt⟩
          · by_cases e : p = ⟨xb, xs, xc, xr⟩
            · rw [e, Go.Maps.has_put_same HRG1.out.owns.isMap (isKey_lk _), HE.out]
              rfl
            · rw [Go.Maps.has_put_other (fun z => e (lkLit_inj hp HP.out z)), HH.out p hp]
          · by_cases e : p = ⟨xb, xs, xc, xr⟩
            · rw [e, Go.Maps.atKey_put_same HRG1.out.owns.isMap (isKey_lk _)]
              congr 2
              unfold MK
              rw [if_pos ⟨rfl, HS.out⟩, HE.out]
              rfl
            · rw [Go.Maps.atKey_put_other (fun z => e (lkLit_inj hp HP.out z)), HV.out p hp]
              congr 3
              unfold MK
              have q := HL.out p hp e
              simp only [q]
        clear HR9 HU9 HU1 HO HH HV HL HS HD HE HP HRG1
        go_wp2_with fail
        rw [HW.out]
        go_region_with (go_at_call 42; refine Calls.mono (CC _) ?_; rintro e w5 ⟨rfl, rfl⟩)
        all_goals go_wp2_with fail
        all_goals exact HF.out
      · have d1 : (xb == nm) = false := by simp [hb]
        have hW1 : (w2.alloc (.cells #[.string ⟨xb.toArray⟩, .string ⟨xs.toArray⟩, .int .i64 xc, .int .i64 xr] 30)).alloc (.cells #[.int .i64 vk, .int .i64 vn, .string ⟨vt.toArray⟩, .bool vb, .int .i64 vf, .int .i64 ver, .int .i64 inc, .bool has, .bool stale, .bool lost] 67) = W1 := HW1.out
        have HW := hide hW1
        clear hW1 HW1
        go_wp2_with fail
        rw [HW.out]
        refine ⟨⟨_, cnt2, Dc, HRG1.out, HH.out, fun p hp => ?_, HU1.out⟩, by rw [HRG1.out.left_eq, HO.out.left_eq]; exact hlt⟩
        rw [HV.out p hp]
        congr 3
        unfold MK
        by_cases e : p = ⟨xb, xs, xc, xr⟩
        · subst e
          simp [hb]
        · have q := HL.out p hp e
          simp only [q]

end Go.Proofs.Ytcclkfkdafmemaa
