/- maps.Keys at the maps of links, its iterator. -/
import Derived.Test.YtcclkfkdafmemaaCaF0
import Derived.RangeFuncNested
import Derived.RangeFuncLeaves
import Derived.Sort.MapsRangeIn
import Derived.WalkKit
import Derived.OwnWalkIn
import Derived.TacticsInMore
import Derived.RegionIn
import Derived.LoopNIn
import Derived.LoopIn
set_option maxRecDepth 100000
namespace Go.Proofs.Ytcclkfkdafmemaa
open Go.RowKit Go.Lat Go.Sort
open Go.Maps (Keyed)

/-- What has come of a map's links. -/
structure Gone (D : DataW Value) (left : Lit → Bool) (ss : List Lk) : Prop where
  ok : ∀ x ∈ ss, x.ok
  nd : ss.Nodup
  mem : ∀ x, x.ok → (x ∈ ss ↔ Maps.has D (lkLit x) = true ∧ left (lkLit x) = false)
theorem Gone.start (D : DataW Value) : Gone D (Maps.has D) [] := ⟨by simp, List.nodup_nil, fun x _ => by simp⟩
theorem has_of_at {D : DataW Value} {kl : Lit} {y : DataW Value} (hat : ∀ z, D.atKey kl z = y) : Maps.has D kl = true := by
  cases hd : Maps.has D kl with
  | true => rfl
  | false =>
    have h1 := hat (.held (.bool false))
    have h2 := hat (.held (.bool true))
    rw [Go.Maps.atKey_of_not_has hd] at h1 h2
    rw [← h1] at h2
    cases h2
theorem Gone.fresh {D : DataW Value} {left : Lit → Bool} {ss : List Lk} (h : Gone D left ss) {x : Lk} (hx : x.ok) (hl : left (lkLit x) = true) : x ∉ ss := fun q => by
  have := ((h.mem x hx).1 q).2
  rw [hl] at this
  cases this
theorem Gone.step {D : DataW Value} {left : Lit → Bool} {ss : List Lk} (h : Gone D left ss) {x : Lk} (hx : x.ok) (hD : Maps.has D (lkLit x) = true) (hl : left (lkLit x) = true) : Gone D (fun z => left z && !z.sameKey (lkLit x)) (ss ++ [x]) := by
  have hf := h.fresh hx hl
  refine ⟨fun p hp => ?_, ?_, fun p hp => ?_⟩
  · rcases List.mem_append.1 hp with q | q
    · exact h.ok p q
    · simp at q
      subst q
      exact hx
  · rw [List.nodup_append]
    refine ⟨h.nd, by simp, fun a ha b hb e => ?_⟩
    simp at hb
    subst hb
    subst e
    exact hf ha
  · rw [List.mem_append, h.mem p hp]
    by_cases e : p = x
    · subst e
      have := WideAt.sameKey_self (isKey_lk p)
      simp [this, hD]
    · have : (lkLit p).sameKey (lkLit x) = false := Go.Maps.sameKey_ne (fun q => e (lkLit_inj hp hx q))
      simp [this, e]
theorem Gone.all {D : DataW Value} {left : Lit → Bool} {ss : List Lk} (h : Gone D left ss) (hl : ∀ kl, left kl = false) : ∀ x, x.ok → (x ∈ ss ↔ Maps.has D (lkLit x) = true) := fun x hx => by
  rw [h.mem x hx, hl]
  simp

/-- All links of a map, each once; a part of them. -/
structure AllOf (D : DataW Value) (ss : List Lk) : Prop where
  ok : ∀ x ∈ ss, x.ok
  nd : ss.Nodup
  mem : ∀ x, x.ok → (x ∈ ss ↔ Maps.has D (lkLit x) = true)
  len : ss.length ≤ Maps.size D

abbrev FW := Fence.wide
set_option maxHeartbeats 1600000 in
theorem keys1_in (n : Nat) (hn : 1 ≤ n) (l Bm b nn : Nat) (D0 : DataW Value) (J Jx : List Lk → World → Prop)
    (hY : ∀ pre (x : Lk) W, J pre W → pre.length < Maps.size D0 → YieldAt FW (n - 1) Try.prog l #[x.val] W fun e W' =>
      (e = .returned (.bool true) ∧ J (pre ++ [x]) W' ∧ KeepsWalks W W') ∨ (e = .returned (.bool false) ∧ Jx (pre ++ [x]) W'))
    (W : World) (hJ : AbidesFrom W.heap.size J) (hm : W.cell? ⟨Bm, 0, none⟩ = some (.map (some b))) (hown : W.ownsMap Try.prog 30 heldElem b nn D0) (h0 : J [] W) :
    CallsIn FW n Try.prog 55 #[.func (.yield l) #[] #[], .pointer (some ⟨Bm, 0, none⟩)] W fun e W' => (∃ v, e = .returned v) ∧
      ((∃ ss : List Lk, AllOf D0 ss ∧ J ss W') ∨ (∃ pre : List Lk, Jx pre W')) := by
  have hro : FW.round = none := rfl
  refine callsIn_of_wp Try.func55 rfl trivial ?_ hro
  simp only [Try.ntmps55, List.size_toArray, List.length_cons, List.length_nil, Nat.reduceAdd, Nat.reduceSub, Array.replicate_succ, Array.replicate_zero, List.push_toArray, List.append_toArray, List.nil_append, List.cons_append]
  gi_wp2_with (first
    | (gi_at_range; refine wpListIn_range_own _ rfl _ 81 rfl 30 4 lkK Try.underlying81 heldElem b nn D0 rfl hown ?_; intro w0 hrg0 hg0 hs0)
    | gi_in)
  go_frame
  gi_loopw [3] (fun _ wr => ∃ (left : Lit → Bool) (cnt : Nat) (ss : List Lk), wr.ranges Try.prog 30 heldElem b W.heap.size nn D0 left cnt ∧ ss.length + cnt ≤ Maps.size D0 ∧ Gone D0 left ss ∧ J ss wr)
    (fun _ wr => wr.rangeLeft b W.heap.size)
  case atStart =>
    exact ⟨_, _, [], hrg0, by simp, Gone.start D0, hJ [] W w0 none h0 hg0 (fun r e => by cases e)⟩
  case round =>
    obtain ⟨left, cnt, ss, hrg, hcs, hC, hJs⟩ := hrel
    gi_wp2_with (first
      | (gi_at_next; refine wpListIn_next_ranges _ rfl _ rfl 30 lkK heldElem (fun x : Lk => .agg #[enS x.b, enS x.s, .int .i64 x.c, .int .i64 x.r]) (fun v : Value => v) (fun key kl hk => by obtain ⟨x, _, e, _⟩ := lk_inv hk; exact ⟨x, e⟩) (fun v y _ => ⟨v, rfl⟩) b W.heap.size nn D0 left cnt rfl hrg ?_ ?_)
      | gi_in)
    · intro hc0 hl0
      gi_wp2
      go_end0
      exact ⟨⟨_, rfl⟩, .inl ⟨ss, ⟨hC.ok, hC.nd, hC.all hl0, by omega⟩, hJs⟩⟩
    · intro x c kl y1 y2 w2 cnt2 hkey hlk hv hat hrg2 hlt hg2 hs2 hen
      obtain ⟨x', pok, ex, rfl⟩ := lk_inv hkey
      obtain rfl : x = x' := by
        obtain ⟨a, b, c, d⟩ := x
        obtain ⟨a', b', c', d'⟩ := x'
        simpa [Lk.val] using ex
      have hD : Maps.has D0 (lkLit x) = true := has_of_at hat
      have hC2 := hC.step pok hD hlk
      have hJ2 : J ss w2 := hJ ss wr w2 (some W.heap.size) hJs hg2 (fun r e => by cases e; exact ⟨Nat.le_refl _, hrg.iter_walk⟩)
      have hJ3 : J ss (w2.alloc (.cells #[enS x.b, enS x.s, .int .i64 x.c, .int .i64 x.r] 30)) := hJ ss _ _ none hJ2 (World.grownBy_alloc w2 _ none) (fun r e => by cases e)
      have hrg3 := hrg2.of_walks (KeepsWalks.alloc w2 (.cells #[enS x.b, enS x.s, .int .i64 x.c, .int .i64 x.r] 30))
      obtain ⟨fn, tmps, assign, body, hy, hR⟩ := hY ss x _ hJ3 (by omega)
      have HR := hide hR
      have HC := hide hC2
      have HRG := hide hrg3
      have HO := hide hrg
      clear hC2 hC hR hrg3 hrg2 hrg hJ2 hJ3 hJs hkey hlk hv hat hD pok ex hs2 hg2
      obtain ⟨xb, xs, xc, xr⟩ := x
      dsimp only [enS, Lk.val] at hy hen
      gi_wp2
      refine HR.out.mono ?_
      rintro e W3 (⟨rfl, hJ4, hk4⟩ | ⟨rfl, hJx⟩)
      · gi_wp2
        have hrg4 := HRG.out.of_walks hk4
        go_roundw
        case rel => exact ⟨_, cnt2, _, hrg4, by simp; omega, HC.out, hJ4⟩
        case measure => rw [hrg4.left_eq, HO.out.left_eq]; exact hlt
      · gi_wp2
        refine bodyPost_ret (results_none rfl _ _ _) rfl ?_
        exact ⟨⟨_, rfl⟩, .inr ⟨_, hJx⟩⟩
/-- maps.Keys hands back a value whose rounds come link by link. -/
theorem keys_stops (n : Nat) (hn : 1 ≤ n) (Bm b nn : Nat) (D0 : DataW Value) (w : World) (hBm : Bm < w.heap.size) (hm : w.cell? ⟨Bm, 0, none⟩ = some (.map (some b))) (hown : w.ownsMap Try.prog 30 heldElem b nn D0) :
    SeqStopsK FW n Try.prog 55 #[.pointer (some ⟨Bm, 0, none⟩)] (fun x : Lk => #[x.val]) KeepsWalks (AllOf D0) (fun _ => True) (Maps.size D0) w := fun l J Jx W hW hJ _ hY h0 => by
  have hown' : W.ownsMap Try.prog 30 heldElem b nn D0 := by
    have hbl := hown.lt
    obtain ⟨es, clock, hb, Ft, hs, hD⟩ := hown
    exact ⟨es, clock, (hW.block b hbl).trans hb, Ft, hs, hD⟩
  refine (keys1_in n hn l Bm b nn D0 J Jx hY W hJ ((hW.cell (p := ⟨Bm, 0, none⟩) hBm).trans hm) hown' h0).mono ?_
  rintro e W' ⟨hv, h | ⟨pre, h⟩⟩
  · exact ⟨hv, .inl h⟩
  · exact ⟨hv, .inr ⟨pre, trivial, h⟩⟩
theorem Keys_any (w : World) (b : Nat) : Calls Try.prog 44 #[.map (some b)] w fun e w' => e = .returned (.func (.func 55) #[] #[.pointer (some ⟨w.heap.size, 0, none⟩)]) ∧ w' = w.alloc (.cells #[.map (some b)] 81) := by
  go_enter Try.func44, Try.ntmps44
  go_wp2
  go_ret
  exact ⟨rfl, rfl⟩
end Go.Proofs.Ytcclkfkdafmemaa
