/- The walks of package cache's Stale, Lose, Links. -/
import Derived.Test.YtcclkfkdafmemaaCaS
import Derived.Test.YtcclkfkdafmemaaCaH
set_option maxRecDepth 100000
namespace Go.Proofs.Ytcclkfkdafmemaa
open Go.RowKit Go.Lat Go.Sort

theorem Stale_any (w : World) (b bm n : Nat) (D : DataW Value) (M : Lk → Option En) (h : Cas w b bm n D M) (hn : n ≤ 1000000) (nm : List UInt8) : Calls Try.prog 25 #[.pointer (some ⟨b, 0, none⟩), enS nm] w fun e w' => e = .returned (.tuple #[]) ∧ (∃ D', Cas w' b bm n D' (MB M staleE nm)) ∧ Upd w w' (fun k => k = bm) := by
  have HC := hide (eachStale_any w b bm n D M h hn nm)
  clear h
  go_enter Try.func25, Try.ntmps25
  go_wp2_with (go_at_call 40; refine Calls.mono HC.out ?_; rintro e w1 ⟨rfl, h1, u1⟩)
  go_end0
  exact ⟨rfl, h1, u1⟩
theorem Lose_any (w : World) (b bm n : Nat) (D : DataW Value) (M : Lk → Option En) (h : Cas w b bm n D M) (hn : n ≤ 1000000) (nm : List UInt8) : Calls Try.prog 27 #[.pointer (some ⟨b, 0, none⟩), enS nm] w fun e w' => e = .returned (.tuple #[]) ∧ (∃ D', Cas w' b bm n D' (MB M loseE nm)) ∧ Upd w w' (fun k => k = bm) := by
  have HC := hide (eachLose_any w b bm n D M h hn nm)
  clear h
  go_enter Try.func27, Try.ntmps27
  go_wp2_with (go_at_call 40; refine Calls.mono HC.out ?_; rintro e w1 ⟨rfl, h1, u1⟩)
  go_end0
  exact ⟨rfl, h1, u1⟩
theorem Stale_nil (w : World) (nm : List UInt8) : Calls Try.prog 25 #[.pointer none, enS nm] w fun e w' => e = .returned (.tuple #[]) ∧ w' = w := by
  have HC : Calls Try.prog 40 #[.pointer none, enS nm, .func (Fn.func 41) #[] #[]] w fun e w' => e = .returned (.tuple #[]) ∧ w' = w := by
    go_enter Try.func40, Try.ntmps40
    go_wp2
    exact bodyPost_ret (results_none rfl _ _ _) rfl ⟨rfl, rfl⟩
  go_enter Try.func25, Try.ntmps25
  go_wp2_with (go_at_call 40; refine Calls.mono HC ?_; rintro e w1 ⟨rfl, rfl⟩)
  go_end0
  exact ⟨rfl, rfl⟩

/-- A map of links that are in it. -/
structure Bag (w : World) (b n : Nat) (D : DataW Value) (S : Lk → Prop) : Prop where
  m : w.ownsMap Try.prog 30 heldElem b n D
  has : ∀ x, x.ok → (Maps.has D (lkLit x) = true ↔ S x)
  val : ∀ x, x.ok → D.atKey (lkLit x) (.held (.bool false)) = .held (.bool (Maps.has D (lkLit x)))
theorem Bag.made (w : World) : Bag (w.alloc (.map #[] 0)) w.heap.size 0 (.map []) (fun _ => False) :=
  ⟨World.ownsMap_made w Try.prog 30 heldElem, fun x _ => by simp [Maps.has], fun x _ => atKey_none _ _⟩
theorem Bag.upd {w w' : World} {b n : Nat} {D : DataW Value} {P : Lk → Prop} {S : Nat → Prop} (h : Bag w b n D P) (u : Upd w w' S) (hb : ¬ S b) : Bag w' b n D P := ⟨own_upd h.m u hb, h.has, h.val⟩
theorem Bag.put {w w' : World} {b n m : Nat} {D : DataW Value} {S : Lk → Prop} (h : Bag w b n D S) {p : Lk} (hp : p.ok) (hm : w'.ownsMap Try.prog 30 heldElem b m (D.put (lkLit p) (.held (.bool true)))) : Bag w' b m (D.put (lkLit p) (.held (.bool true))) (fun x => S x ∨ x = p) := by
  have hD := h.m.isMap
  refine ⟨hm, fun q hq => ?_, fun q hq => ?_⟩
  · by_cases e : q = p
    · subst e
      simp [Go.Maps.has_put_same hD (isKey_lk _)]
    · rw [Go.Maps.has_put_other (fun z => e (lkLit_inj hq hp z)), h.has q hq]
      simp [e]
  · by_cases e : q = p
    · subst e
      rw [Go.Maps.atKey_put_same hD (isKey_lk _), Go.Maps.has_put_same hD (isKey_lk _)]
    · rw [Go.Maps.atKey_put_other (fun z => e (lkLit_inj hq hp z)), Go.Maps.has_put_other (fun z => e (lkLit_inj hq hp z)), h.val q hq]
theorem Bag.imp {w : World} {b n : Nat} {D : DataW Value} {S T : Lk → Prop} (h : Bag w b n D S) (e : ∀ x, x.ok → (S x ↔ T x)) : Bag w b n D T := ⟨h.m, fun x hx => (h.has x hx).trans (e x hx), h.val⟩
/-- A slice of links, in order, each once, new. -/
structure Row2 (w w' : World) (v : Value) (S : Lk → Prop) (ks : List Lk) : Prop where
  rw : Rw w' 30 4 v ks.length (lkCells ks)
  ord : ks.Pairwise ltP
  ok : ∀ x ∈ ks, x.ok
  mem : ∀ x, x.ok → (x ∈ ks ↔ S x)
  new : ∀ j, v.ownBlock = some j → w.heap.size ≤ j
theorem sorted_bag (w : World) (b n : Nat) (D : DataW Value) (S : Lk → Prop) (h : Bag w b n D S) (hn : n ≤ 1000000) :
    Calls Try.prog 28 #[.map (some b)] w fun e w' => ∃ a c ks, e = .returned (.slice a ks.length c) ∧ Row2 w w' (.slice a ks.length c) S ks ∧ ks.length ≤ n ∧ Upd w w' (fun _ => False) := by
  refine (sorted_any w b n D h.m hn).mono ?_
  rintro e w' ⟨a, c, ks, rfl, hR, u⟩
  have := World.ownsMap.size_le h.m
  exact ⟨a, c, ks, rfl, ⟨hR.rw, hR.ord, hR.ok, fun x hx => (hR.mem x hx).trans (h.has x hx), hR.new⟩, Nat.le_trans hR.len this, u⟩
theorem Links_nil (w : World) : Calls Try.prog 18 #[.pointer none] w fun e w' => e = .returned (.slice none 0 0) ∧ w' = w := by
  go_enter Try.func18, Try.ntmps18
  go_wp2
  go_ret
  exact ⟨rfl, rfl⟩
set_option maxHeartbeats 3200000 in
theorem Links_any (w : World) (b bm n : Nat) (D : DataW Value) (M : Lk → Option En) (h : Cas w b bm n D M) (hn : n ≤ 1000000) : Calls Try.prog 18 #[.pointer (some ⟨b, 0, none⟩)] w fun e w' => ∃ a c ks, e = .returned (.slice a ks.length c) ∧ Row2 w w' (.slice a ks.length c) (fun x => (M x).isSome = true) ks ∧ ks.length ≤ n ∧ Upd w w' (fun _ => False) := by
  have hmm := @run_makeMap Try.prog
  have c0 := cells1 h.c
  have blt := lt_at h.c
  have bmlt := h.m.lt
  have hsz := World.ownsMap.size_le h.m
  have hm1 := h.m.alloc (.map #[] 0)
  have hbag := Bag.made w
  have HN := hide h
  clear h
  go_enter Try.func18, Try.ntmps18
  go_wp2_with (at_range; refine wpList_range_own _ rfl _ 77 rfl 30 67 lkK Try.underlying77 heldElem bm n D rfl hm1 ?_; intro w0 hrg0 hg0 hs0)
  go_frame
  obtain ⟨ba, hba⟩ : ∃ ba, w.heap.size = ba := ⟨_, rfl⟩
  have hr : (w.alloc (.map #[] 0)).heap.size = ba + 1 := by simp [hba]
  obtain ⟨r, hr'⟩ : ∃ r, ba + 1 = r := ⟨_, rfl⟩
  have u0 : Upd w w0 (fun _ => False) := ((Upd.refl w (fun _ => False)).alloc _).grown hg0 (fun k e => by cases e)
  have bag0 : Bag w0 ba 0 (.map []) (fun _ => False) := by
    rw [hba] at hbag
    exact hbag.upd ((Upd.refl _ (fun _ => False)).grown hg0 (fun k e => by cases e)) id
  rw [hr, hr'] at hrg0
  simp only [hba, hr, hr']
  have HR0 := hide hrg0
  have HU0 := hide u0
  have HB0 := hide bag0
  have HBA := hide hba
  have HR := hide hr'
  clear hrg0 u0 hg0 hs0 hr hr' hm1 hbag bag0 hba
  go_loopw [] (fun wr => ∃ (left : Lit → Bool) (cnt : Nat) (ss : List Lk) (Da : DataW Value) (k : Nat), wr.ranges Try.prog 30 heldElem bm r n D left cnt ∧ Gone D left ss ∧ Bag wr ba k Da (fun x => x ∈ ss) ∧ k + cnt ≤ n ∧ Upd w wr (fun _ => False))
    (fun wr => wr.rangeLeft bm r)
  case atStart => exact ⟨_, _, [], _, 0, HR0.out, Gone.start D, HB0.out.imp (by simp), by omega, HU0.out⟩
  case round =>
    obtain ⟨left, cnt, ss, Da, k, hrg, hC, hbag, hk, hu⟩ := hrel
    go_wp2_with (at_next; refine wpList_next_ranges _ rfl _ rfl 30 lkK heldElem (fun x : Lk => .agg #[enS x.b, enS x.s, .int .i64 x.c, .int .i64 x.r]) (fun v : Value => v) (fun key kl hk => by obtain ⟨x, _, e, _⟩ := lk_inv hk; exact ⟨x, e⟩) (fun v y _ => ⟨v, rfl⟩) bm r n D left cnt rfl hrg ?_ ?_)
    · intro hc0 hl0
      have HS := hide (sorted_bag wr ba k Da _ hbag (by omega))
      have HU := hide hu
      have HC := hide (hC.all hl0)
      have HB := hide hbag
      clear hrg hC hbag hl0 hu
      go_wp2_with (go_at_call 28; refine Calls.mono HS.out ?_; rintro e w5 ⟨a, c, ks, rfl, hR, hl, u5⟩)
      go_ret
      refine ⟨a, c, ks, rfl, ⟨hR.rw, hR.ord, hR.ok, fun x hx => ?_, fun j hj => Nat.le_trans HU.out.size (hR.new j hj)⟩, by omega, HU.out.then u5 (fun _ _ => id)⟩
      rw [hR.mem x hx, HC.out x hx, HN.out.has x hx]
    · intro x c kl y1 y2 w2 cnt2 hkey hlk hv hat hrg2 hlt hg2 hs2 hen
      obtain ⟨x', pok, ex, rfl⟩ := lk_inv hkey
      obtain rfl : x = x' := by
        obtain ⟨a, b, c, d⟩ := x
        obtain ⟨a', b', c', d'⟩ := x'
        simpa [Lk.val] using ex
      have hC2 := hC.step pok (has_of_at hat) hlk
      have e1 := HR.out
      have e2 := HBA.out
      have u2 : Upd w w2 (fun _ => False) := hu.grown hg2 (fun k e => .inl (by have := Option.some.inj e; omega))
      have uo : Upd w2 (w2.alloc (.cells x.cs 30)) (fun _ => False) := (Upd.refl w2 _).alloc _
      have hb2 := (hbag.upd ((Upd.refl wr (fun k => k = r)).grown hg2 (fun k e => .inr (Option.some.inj e).symm)) (by omega)).upd uo id
      have hrg3 := ranges_upd hrg2 uo id id
      have bx := Vnew1 w2 (.cells x.cs 30)
      obtain ⟨W9, E9, m9, t9⟩ := hb2.m.store lkK Try.underlying81 (by unfold maxLen; omega) (lk_key pok) (val := .bool true) (d := .held (.bool true)) (ps := []) rfl
      have HB9 := hide (hb2.put pok m9)
      have HU9 := hide ((u2.then uo (fun _ _ => id)).grown t9.grown (fun k e => .inl (by have := Option.some.inj e; omega)))
      have HRG9 := hide (ranges_upd hrg3 ((Upd.refl _ (fun k => k = ba)).grown t9.grown (fun k e => .inr (Option.some.inj e).symm)) (by omega) (by omega))
      have HO := hide hrg
      have HC := hide hC2
      clear m9 t9 hb2 uo u2 hu hrg3 hrg2 hrg hC2 hC hbag hkey hlk hv hat ex hg2 hs2
      obtain ⟨xb, xs, xc, xr⟩ := x
      unfold Lk.cs at bx E9
      unfold Lk.val at E9
      simp only at bx E9 hen
      obtain ⟨x0, x1, x2, x3⟩ := cells4 bx
      clear bx
      go_wp2_with fail
      exact ⟨⟨_, cnt2, _, _, k + 1, HRG9.out, HC.out, HB9.out.imp (fun x _ => by simp), by omega, HU9.out⟩, by rw [HRG9.out.left_eq, HO.out.left_eq]; exact hlt⟩
end Go.Proofs.Ytcclkfkdafmemaa
