/- The law FlowOnce walked. -/
import Derived.Test.YtfbmhfpffciojaaPlain
import Derived.Test.YtfbmhfpffciojaaStepE
import Derived.Test.YtfbmhfpffciojaaRight
set_option maxRecDepth 100000
namespace Go.Proofs.Ytfbmhfpffciojaa
open Go.RowKit Go.Lat

def fresh (W : Nat) : Bool → Sd := fun _ => ⟨⟨W, 0, 0, 0, []⟩, [], [], []⟩

theorem fresh_inv (W : Nat) (h : W ≤ 64) : Inv 0 (fresh W) := fun c =>
  ⟨h, by simp [fresh], by simp [fresh], by simp [fresh], by simp [fresh], by simp [fresh], by simp [fresh], by simp [fresh], by simp [fresh], by simp [fresh]⟩

theorem begin_any (w : World) (win : Int) :
    Calls Try.prog 7 #[.int .i64 win] w fun e w' => ∃ eb own V W, 1 ≤ W ∧ W ≤ 64 ∧ e = .returned (.tuple #[.pointer (some ⟨eb, 0, none⟩), .bool true]) ∧
      EndsAt w' eb own V (fresh W) ∧ Upd w w' (fun _ => False) ∧ (∀ k, k < w.heap.size → own k = 99) := by
  obtain ⟨W, eW⟩ : ∃ W : Nat, 1 + max 0 win % 8 = (W : Int) := ⟨(1 + max 0 win % 8).toNat, by omega⟩
  have W1 : 1 ≤ W := by omega
  have W64 : W ≤ 64 := by omega
  go_enter Try.func7, Try.ntmps7
  go_wp2_with fail
  refine Calls.mono (New_ok w W W1 W64) ?_
  rintro e w1 ⟨rfl, hF1, hu1, hz1⟩
  go_wp2_with fail
  refine Calls.mono (New_ok w1 W W1 W64) ?_
  rintro e w2 ⟨rfl, hF2, hu2, hz2⟩
  have hF1' := hF1.upd hu2 id (fun _ _ => id)
  have H1 := hide hz1
  have H2 := hide hz2
  clear hz1 hz2
  go_wp2_with fail
  go_ret2
  have z1 := H1.out
  have z2 := H2.out
  have u := (hu1.then hu2 (fun _ _ => id)).alloc (.cells #[.pointer (some ⟨w.heap.size, 0, none⟩), .pointer (some ⟨w1.heap.size, 0, none⟩), .slice none 0 0, .slice none 0 0, .slice none 0 0, .slice none 0 0, .slice none 0 0, .slice none 0 0] 53)
  have u2 := (Upd.refl w2 (fun _ => False)).alloc (.cells #[.pointer (some ⟨w.heap.size, 0, none⟩), .pointer (some ⟨w1.heap.size, 0, none⟩), .slice none 0 0, .slice none 0 0, .slice none 0 0, .slice none 0 0, .slice none 0 0, .slice none 0 0] 53)
  have g1 := hF1'.upd u2 id (fun _ _ => id)
  have g2 := hF2.upd u2 id (fun _ _ => id)
  refine ⟨w2.heap.size, fun k => if k = w2.heap.size then 0 else if k = w.heap.size then 1 else if k = w1.heap.size then 2 else 99,
    fun c => ⟨if c then w1.heap.size else w.heap.size, .slice none 0 0, .slice none 0 0, .slice none 0 0, .slice none 0 0⟩, W, W1, W64, rfl, ⟨heap_alloc_new w2 _, by simp, ?_, ?_, ?_, ?_, ?_, ?_, ?_, ?_, ?_⟩, u, ?_⟩
  · intro c; cases c
    · exact g1
    · exact g2
  · intro c; cases c
    · have a1 : w.heap.size ≠ w2.heap.size := by omega
      simp [a1]
    · have a1 : w1.heap.size ≠ w2.heap.size := by omega
      have a2 : w1.heap.size ≠ w.heap.size := by omega
      simp [a1, a2]
  · intro c k hk; simp [Value.ownBlock] at hk
  · intro c; exact Rw.nil _ _ _
  · intro c k hk; simp [Value.ownBlock] at hk
  · intro c; exact Rw.nil _ _ _
  · intro c k hk; simp [Value.ownBlock] at hk
  · intro c; exact Rw.nil _ _ _
  · intro c k hk; simp [Value.ownBlock] at hk
  · intro k hk
    have a1 : k ≠ w2.heap.size := by omega
    have a2 : k ≠ w.heap.size := by omega
    have a3 : k ≠ w1.heap.size := by omega
    simp [a1, a2, a3]

/-- One step as plain data. -/
structure StepD where
  dov : Int
  at_ : Int
  other : Bool

def StepsAt (w : World) (v : Value) (n : Nat) (A : Nat → StepD) : Prop :=
  ∃ a cap, v = .slice a n cap ∧ n ≤ cap ∧ cap ≤ 9223372036854775807 ∧ (0 < n → ∃ b off, a = some ⟨b, off, none⟩ ∧ b < w.heap.size ∧ ∀ i, i < n →
    w.cell? ⟨b, off + i * 3, none⟩ = some (.int .i64 (A i).dov) ∧ w.cell? ⟨b, off + i * 3 + 1, none⟩ = some (.int .i64 (A i).at_) ∧ w.cell? ⟨b, off + i * 3 + 2, none⟩ = some (.bool (A i).other))

/-- What holds at every round's head. -/
def OnceRel (w : World) (eb N : Nat) (q : Nat) (i : Value) (wr : World) : Prop :=
  ∃ (k : Nat) (own : Nat → Nat) (V : Bool → Vs) (s : Bool → Sd), k + q = N ∧ i = .int .i64 k ∧ EndsAt wr eb own V s ∧ Inv k s ∧ Upd w wr (fun _ => False) ∧ (∀ j, j < w.heap.size → own j = 99)

theorem OnceRel.step {w wr wz : World} {eb N k q : Nat} {own own' : Nat → Nat} {V' : Bool → Vs} {s s' : Bool → Sd} {c : Bool} (hkq : k + q = N) (hq : 0 < q) (hI : Inv k s) (hU : Upd w wr (fun _ => False)) (ho : ∀ j, j < w.heap.size → own j = 99)
    (hM : Mid wr wz eb own own' V' s') (hr : StepRel c s s') (n : Nat) : OnceRel w eb N (q - 1) (.int .i64 (k + 1)) (wz.drewN n) :=
  ⟨k + 1, own', V', s', by omega, by go_num, hM.at_.upd ((Upd.refl _ _).drewN n), hI.step c hr, (hU.then hM.upd (fun i hi e => by rw [ho i hi] at e; omega)).drewN n, fun j hj => by rw [hM.old j (by have := hU.size; omega)]; exact ho j hj⟩

set_option maxHeartbeats 1600000 in
theorem FlowOnce_any (w : World) (win : Int) (v : Value) (n : Nat) (A : Nat → StepD) (hA : StepsAt w v n A) :
    Calls Try.prog 3 #[.int .i64 win, v] w fun e w' => e = .returned (.bool true) ∧ Upd w w' (fun _ => False) := by
  obtain ⟨a, cap, rfl, hnc, hcm, hcell⟩ := hA
  obtain ⟨N, eN⟩ : ∃ N : Nat, min (n : Int) 150 = (N : Int) := ⟨min n 150, by omega⟩
  have hNn : N ≤ n := by omega
  have hN80 : N ≤ 150 := by omega
  go_enter Try.func3, Try.ntmps3
  go_wp2_with fail
  refine Calls.mono (begin_any w win) ?_
  rintro e w1 ⟨eb, own, V, W, -, hW, rfl, hE, hu, ho⟩
  go_wp2_with fail
  refine Calls.mono (wakes_any w1) ?_
  rintro e w2 ⟨rfl, hu2⟩
  have hE2 := hE.upd hu2
  have u2 := hu.then hu2 (fun _ _ => id)
  clear hE hu hu2
  go_wp2_with fail
  go_loopg [26] N (fun q i wr => OnceRel w eb N q i wr)
  case atStart => exact ⟨0, own, V, fresh W, by omega, rfl, hE2, fresh_inv W hW, u2, ho⟩
  case round =>
    obtain ⟨k, own', V', s, hk, rfl, hE', hI, u, ho'⟩ := hrel
    by_cases hkN : k < N
    · obtain ⟨b0, off, rfl, hb0, hc⟩ := hcell (by omega)
      obtain ⟨c0, c1, c2⟩ := hc k (by omega)
      rw [← u.cell _ _ hb0 id] at c0 c1 c2
      clear hc hcell
      generalize A k = x at c0 c1 c2
      obtain ⟨dv, at_, oth⟩ := x
      simp only at c0 c1 c2
      have ha := (Upd.refl wr (fun _ => False)).alloc (.cells #[.int .i64 dv, .int .i64 at_, .bool oth] 28)
      have hEa := hE'.upd ha
      have ua := u.then ha (fun _ _ => id)
      have hI0 := hide hI
      go_wp2_with fail
      refine Calls.mono (step_any _ eb own' V' s dv at_ oth hEa (hI.small (by omega))) ?_
      rintro e w3 ⟨rfl, own3, V3, s3, M3, hr3⟩
      obtain ⟨i1, i2, i3, i4⟩ := (hI.step oth hr3).right
      go_wp2_with fail
      refine Calls.mono (right_true _ eb own3 V3 s3 M3.at_ ((hI.step oth hr3).small (by omega)) i1 i2 i3 i4) ?_
      rintro e w4 ⟨rfl, n4, rfl⟩
      go_wp2_with fail
      go_roundg (gk - 1)
      case measure => omega
      case rel => exact OnceRel.step hk (by omega) hI ua (fun j hj => ho' j hj) M3 hr3 n4
    · go_wp2_with fail
      go_ret
      exact ⟨rfl, u⟩
end Go.Proofs.Ytfbmhfpffciojaa
