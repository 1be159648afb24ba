/- The walk of the reference's rounded quotient of digits. -/
import Derived.Test.YtckpomcenkgekaaDoorFTimes
set_option maxRecDepth 100000
namespace Go.Proofs.YtckpomcenkgekaaDoor
open Go.RowKit Go.Lat

/-- A quotient, rounded. -/
def rnd (A B : Nat) : Nat := A / B + if 2 * (A % B) < B then 0 else 1

set_option maxHeartbeats 1600000 in
theorem nearest_any (w : World) (v1 v2 : Value) (A B : Nat) (h1 : DgAt w v1 (dg A)) (h2 : DgAt w v2 (dg B)) (hB : 0 < B) (hA : A < 10 ^ 100) (hB2 : B < 10 ^ 100) :
    Calls Tryd.prog 38 #[v1, v2] w fun e w' => ∃ v, e = .returned v ∧ DgAt w' v (dg (rnd A B)) ∧ Upd w w' (fun _ => False) := by
  have l1 := dg_len A 100 hA
  have l2 := dg_len B 100 hB2
  have l3 := dg_len (A / B) 100 (Nat.lt_of_le_of_lt (Nat.div_le_self ..) hA)
  have hmod := Nat.mod_lt A hB
  have l4 := dg_len (A % B) 100 (by omega)
  have l5 := dg_len (A % B + A % B) 101 (by rw [Nat.pow_succ]; omega)
  have O := fun w k1 k2 => Over1_any w v1 v2 (dg A) (dg B) k1 k2 (dg_norm _) (dg_norm _) (by rw [val_dg]; exact hB) (by omega) (by omega)
  simp only [val_dg] at O
  have P := fun w v k => plus1_any w v v (dg (A % B)) (dg (A % B)) k k (dg_norm _) (dg_norm _) (by omega) (by omega)
  simp only [val_dg] at P
  have L := fun w v k1 k2 => below1_any w v v2 (dg (A % B + A % B)) (dg B) k1 k2 (dg_norm _) (dg_norm _) (by omega)
  simp only [val_dg] at L
  have hd1 : dg 1 = [1] := by rw [dg_pos (by omega), dg_zero]
  have P2 := fun w v v' k1 k2 => plus1_any w v v' (dg (A / B)) [1] k1 k2 (dg_norm _) (by unfold Norm; decide) (by omega) (by decide)
  rw [show val [1] = 1 from by decide, val_dg] at P2
  unfold rnd
  have e2 : 2 * (A % B) = A % B + A % B := by omega
  rw [e2]
  obtain ⟨x, hx⟩ : ∃ x, decide (A % B + A % B < B) = x := ⟨_, rfl⟩
  rw [hx] at L
  clear l1 l2 l3 l4 l5 hmod hA hB2 hB hd1
  cases x with
  | true =>
    rw [if_pos (by simpa using hx), Nat.add_zero]
    clear hx P2
    go_enter Tryd.func38, Tryd.ntmps38
    go_wp2_with fail
    refine Calls.mono (O _ h1 h2) ?_
    rintro e w1 ⟨vq, vr, rfl, k1, k2, u1⟩
    go_wp2_with fail
    refine Calls.mono (P _ _ k2) ?_
    rintro e w2 ⟨v3, rfl, k3, u2⟩
    go_wp2_with fail
    refine Calls.mono (L _ _ k3 ((h2.upd u1).upd u2)) ?_
    rintro e w3 ⟨rfl, ⟨n3, hn3⟩⟩
    have u3 : Upd w2 w3 (fun _ => False) := by rw [hn3]; exact (Upd.refl w2 _).drewN n3
    clear hn3
    go_wp2_with fail
    go_ret
    exact ⟨_, rfl, (k1.upd u2).upd u3, (u1.then u2 (fun _ _ => id)).then u3 (fun _ _ => id)⟩
  | false =>
    rw [if_neg (by simpa using hx)]
    clear hx
    go_enter Tryd.func38, Tryd.ntmps38
    go_wp2_with fail
    refine Calls.mono (O _ h1 h2) ?_
    rintro e w1 ⟨vq, vr, rfl, k1, k2, u1⟩
    go_wp2_with fail
    refine Calls.mono (P _ _ k2) ?_
    rintro e w2 ⟨v3, rfl, k3, u2⟩
    go_wp2_with fail
    refine Calls.mono (L _ _ k3 ((h2.upd u1).upd u2)) ?_
    rintro e w3 ⟨rfl, ⟨n3, hn3⟩⟩
    have u3 : Upd w2 w3 (fun _ => False) := by rw [hn3]; exact (Upd.refl w2 _).drewN n3
    clear hn3
    go_wp2_with fail
    have m2 : DgAt (w3.alloc (.cells #[.int .i64 1] 3)) (.slice (some ⟨w3.heap.size, 0, none⟩) 1 1) [1] := Rw.made w3 _ _ 1 1 rfl
    refine Calls.mono (P2 _ _ _ (((k1.upd u2).upd u3).upd ((Upd.refl w3 _).alloc _)) m2) ?_
    rintro e w4 ⟨v4, rfl, k4, u4⟩
    go_wp2_with fail
    go_ret
    exact ⟨_, rfl, k4, (((u1.then u2 (fun _ _ => id)).then u3 (fun _ _ => id)).alloc _).then u4 (fun _ _ => id)⟩
end Go.Proofs.YtckpomcenkgekaaDoor
