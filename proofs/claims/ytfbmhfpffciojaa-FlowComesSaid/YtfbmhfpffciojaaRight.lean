/- The method right of the laws' object answers true where it should. -/
import Derived.Test.YtfbmhfpffciojaaEndsB
import Derived.Test.YtfbmhfpffciojaaStep
set_option maxRecDepth 100000
namespace Go.Proofs.Ytfbmhfpffciojaa
open Go.RowKit Go.Lat

theorem Rs.parts {w : World} {v : Value} {l : List ByteArray} (h : Rw w 9 1 v l.length (l.map .string)) :
    ∃ a cap, v = .slice a l.length cap ∧ l.length ≤ cap ∧ ∀ n (m : List ByteArray), n ≤ l.length → l.take n = m → Rs w (.slice a n cap) m := by
  obtain ⟨a, cap, rfl, hc, r⟩ := Rs.of h
  refine ⟨a, cap, rfl, hc, fun n m hn hm => ?_⟩
  subst hm
  have hl : (l.take n).length = n := by simp; omega
  refine ⟨a, cap, by rw [hl], by omega, fun h0 => ?_⟩
  rw [hl] at h0 ⊢
  obtain ⟨b, off, ha, hb, c⟩ := r (by omega)
  refine ⟨b, off, ha, hb, fun j hj => ?_⟩
  rw [c j (by omega)]
  simp [hj]

theorem Rs.heap {w w' : World} {v : Value} {l : List ByteArray} (h : Rs w v l) (e : w'.heap = w.heap) : Rs w' v l := by
  unfold Rs at *
  simpa only [World.cell?, e] using h

set_option maxHeartbeats 3200000 in
theorem right_true (w : World) (eb : Nat) (own : Nat → Nat) (V : Bool → Vs) (s : Bool → Sd) (hE : EndsAt w eb own V s) (sm : Small s)
    (h1 : ∀ c, (s c).inn.length ≤ (s (!c)).sent.length) (h2 : ∀ c, (s (!c)).sent.take (s c).inn.length = (s c).inn) (h3 : ∀ c, (s c).fl.base ≤ (s (!c)).inn.length) (h4 : ∀ c, (s c).sent.length = (s c).fl.base + (s c).fl.texts.length) :
    Calls Try.prog 10 #[.pointer (some ⟨eb, 0, none⟩)] w fun e w' => e = .returned (.bool true) ∧ ∃ n, w' = w.drewN n := by
  obtain ⟨c0, c1, c2, c3, c4, c5, c6, c7⟩ := hE.cells
  obtain ⟨a0, p0, e0, q0, r0⟩ := Rs.parts (hE.inn false)
  obtain ⟨a1, p1, e1, q1, r1⟩ := Rs.parts (hE.inn true)
  obtain ⟨a2, p2, e2, q2, r2⟩ := Rs.parts (hE.st false)
  obtain ⟨a3, p3, e3, q3, r3⟩ := Rs.parts (hE.st true)
  have i0 := r0 _ _ (Nat.le_refl _) (List.take_length)
  have i1 := r1 _ _ (Nat.le_refl _) (List.take_length)
  have s0 := r3 _ _ (h1 false) (h2 false)
  have s1 := r2 _ _ (h1 true) (h2 true)
  have l0 := h1 false
  have l1 := h1 true
  have b0 := h3 false
  have b1 := h3 true
  have t0 := h4 false
  have t1 := h4 true
  have m0 := sm.inn false
  have m1 := sm.inn true
  simp only [Bool.not_false, Bool.not_true] at l0 l1 b0 b1 s0 s1
  rw [e0] at c6
  rw [e1] at c7
  rw [e2] at c4
  rw [e3] at c5
  have F0 := hE.fl false
  have F1 := hE.fl true
  have ok0 := sm.ok false
  have ok1 := sm.ok true
  have o0 := ok0.bn
  have o1 := ok1.bn
  have v0 := ok0.nt
  have v1 := ok1.nt
  clear r0 r1 r2 r3 e0 e1 e2 e3 h1 h2 h3 h4 hE
  obtain ⟨wx0, hx0⟩ : ∃ x, (s false).fl.base + (s false).fl.texts.length - (s false).fl.next = x := ⟨_, rfl⟩
  obtain ⟨wx1, hx1⟩ : ∃ x, (s true).fl.base + (s true).fl.texts.length - (s true).fl.next = x := ⟨_, rfl⟩
  obtain ⟨wy0, hy0⟩ : ∃ x, (s false).fl.next - (s false).fl.base = x := ⟨_, rfl⟩
  obtain ⟨wy1, hy1⟩ : ∃ x, (s true).fl.next - (s true).fl.base = x := ⟨_, rfl⟩
  have W0 := fun n => Waits_at (w.drewN n) _ (V false).t (s false).fl F0 ok0 _ _ hx0 hy0
  have W1 := fun n => Waits_at (w.drewN n) _ (V true).t (s true).fl F1 ok1 _ _ hx1 hy1
  have z0 : (s false).sent.length - wx0 - wy0 ≤ (s true).inn.length := by omega
  have z1 : (s true).sent.length - wx1 - wy1 ≤ (s false).inn.length := by omega
  have y0 : wx0 + wy0 ≤ (s false).sent.length := by omega
  have y1 : wx1 + wy1 ≤ (s true).sent.length := by omega
  have n0 : (s false).sent.length ≤ 90000 := sm.sent false
  have n1 : (s true).sent.length ≤ 90000 := sm.sent true
  clear F0 F1 o0 o1 v0 v1 hx0 hx1 hy0 hy1 t0 t1 b0 b1 ok0 ok1
  have EQ0 := fun (w' : World) (h : w'.heap = w.heap) => equal_true w' _ _ _ (i0.heap h) (s0.heap h) (by omega)
  have EQ1 := fun (w' : World) (h : w'.heap = w.heap) => equal_true w' _ _ _ (i1.heap h) (s1.heap h) (by omega)
  clear i0 i1 s0 s1
  generalize (s false).inn.length = ni0 at *
  generalize (s true).inn.length = ni1 at *
  generalize (s false).sent.length = ns0 at *
  generalize (s true).sent.length = ns1 at *
  have d0 : decide (ns1 < ni0) = false := by simp; omega
  have d1 : decide (ns0 < ni1) = false := by simp; omega
  have g0 : ni0 ≤ p3 := by omega
  have g1 : ni1 ≤ p2 := by omega
  have k1 : IntKind.i64.wrap 1 = 1 := IntWalk.i64_in _ (by omega)
  have k0 : IntKind.i64.wrap 0 = 0 := IntWalk.i64_in _ (by omega)
  have j0 : IntKind.i64.wrap ((ns0 : Int) - (wx0 : Int)) = (ns0 : Int) - (wx0 : Int) := IntWalk.i64_in _ (by omega)
  have j1 : IntKind.i64.wrap ((ns1 : Int) - (wx1 : Int)) = (ns1 : Int) - (wx1 : Int) := IntWalk.i64_in _ (by omega)
  have j2 : IntKind.i64.wrap ((ns0 : Int) - (wx0 : Int) - (wy0 : Int)) = (ns0 : Int) - (wx0 : Int) - (wy0 : Int) := IntWalk.i64_in _ (by omega)
  have j3 : IntKind.i64.wrap ((ns1 : Int) - (wx1 : Int) - (wy1 : Int)) = (ns1 : Int) - (wx1 : Int) - (wy1 : Int) := IntWalk.i64_in _ (by omega)
  have j4 : decide ((ni1 : Int) < (ns0 : Int) - (wx0 : Int) - (wy0 : Int)) = false := by simp; omega
  have j5 : decide ((ni0 : Int) < (ns1 : Int) - (wx1 : Int) - (wy1 : Int)) = false := by simp; omega
  go_enter Try.func10, Try.ntmps10
  go_wp2_with fail
  refine wp_loop_rounds 3 ?_
  rw [rounds_succ]
  go_wp2_with fail
  go_quiet ((go_at_call 19; exact Calls.quiet_of (EQ0 _ rfl)))
  go_wp2_with fail
  refine Calls.mono (W0 _) ?_
  rintro e w1 ⟨rfl, n1, rfl⟩
  go_wp2_with fail
  go_quiet (fail)
  go_wp2_with fail
  rw [rounds_succ]
  go_wp2_with fail
  go_quiet ((go_at_call 19; exact quiet_plus (EQ1 _ rfl)))
  go_wp2_with fail
  refine Calls.mono (W1 _) ?_
  rintro e w2 ⟨rfl, n2, rfl⟩
  go_wp2_with fail
  go_quiet (fail)
  go_wp2_with fail
  rw [rounds_succ]
  go_wp2_with fail
  go_ret
  exact ⟨rfl, _, rfl⟩
end Go.Proofs.Ytfbmhfpffciojaa
