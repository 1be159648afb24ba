/- The walk of the reference's Get. -/
import Derived.Test.YthahgablbdfodaaGreatDoorJ22
/- The walk of the reference's Get. -/
set_option maxRecDepth 100000
namespace Go.Proofs.YthahgablbdfodaaGreatDoor
open Go.RowKit Go.Lat Go.Lib

theorem ret_rget {fn : Func} {p q r : Tmp} (h : fn.results = #[.cell p 29, .tmp q, .tmp r]) (tmps : Array Value) (W : World) (g : Nat) (x : Vl) (hp : tmps.getD p undef = .pointer (some ⟨g, 0, none⟩)) (hg : W.heap[g]? = some (.cells x.cs 29 (0, 0))) :
    (results fn tmps).run Tryz.prog W = .ok (.tuple #[x.val, tmps.getD q undef, tmps.getD r undef]) W :=
  results_cell_tmp2_row h tmps W g 29 x.cs (0, 0) _ hp hg Tryz.underlying29 rfl Tryz.infoR

set_option maxHeartbeats 1600000 in
theorem RGet_out (w : World) (s : ByteArray) (a : Int) (h : (decide (a < 0) = true) ∨ (decide (a < 0) = false ∧ decide (a > (s.size : Int)) = true)) :
    Calls Tryz.prog 41 #[.string s, .int .i64 a] w (GetPost w vZero 0 3) := by
  rcases h with h | ⟨h, h'⟩
  all_goals (go_enter Tryz.func41, Tryz.ntmps41)
  all_goals (go_wp2_with fail)
  all_goals (try simp only [Exit.inBlock, Exit.then])
  all_goals refine bodyPost_ret (ret_rget rfl _ _ w.heap.size ⟨0, 0, [], false, 0⟩ rfl (Vnew1 w _)) rfl ?_
  all_goals exact ⟨rfl, (Upd.refl w _).alloc _⟩
set_option maxHeartbeats 1600000 in
theorem RGet_empty (w : World) (s : ByteArray) (a : Nat) (ha : a ≤ s.size) (hz : s.extract a s.size = ⟨#[]⟩) :
    Calls Tryz.prog 41 #[.string s, .int .i64 (a : Int)] w (GetPost w vZero 0 4) := by
  have d1 : decide ((a : Int) < 0) = false := decide_eq_false (by omega)
  have d2 : decide ((a : Int) > (s.size : Int)) = false := decide_eq_false (by omega)
  have d3 : decide (s.size < a) = false := decide_eq_false (by omega)
  have a0 : (0 : Int) ≤ (a : Int) := by omega
  have a1 : (a : Int) ≤ (s.size : Int) := by omega
  go_enter Tryz.func41, Tryz.ntmps41
  go_wp2_with fail
  (try simp only [Exit.inBlock, Exit.then])
  refine bodyPost_ret (ret_rget rfl _ _ w.heap.size ⟨0, 0, [], false, 0⟩ rfl (Vnew1 w _)) rfl ?_
  exact ⟨rfl, (Upd.refl w _).alloc _⟩
set_option maxHeartbeats 1600000 in
theorem RGet_blank (w : World) (s z : ByteArray) (a : Nat) (ha : a ≤ s.size) (hs : s.size ≤ 1000000) (h0 : 0 < z.size) (hk : z[0].toNat = 0) (hz : s.extract a s.size = z) (hG : goodV (Vl.mk 0 0 [] false 0) = true) :
    Calls Tryz.prog 41 #[.string s, .int .i64 (a : Int)] w (GetPost w (Vl.mk 0 0 [] false 0) ((a : Int) + 1) 0) := by
  have GA := fun w => RGood_any w (Vl.mk 0 0 [] false 0)
  rw [hG] at GA
  unfold Vl.val at GA
  simp only at GA
  clear hG
  have q1 : ((z.size : Int) == 0) = false := beq_eq_false_iff_ne.2 (by omega)
  have q0 : (z.size == 0) = false := beq_eq_false_iff_ne.2 (by omega)
  have q2 : decide ((z.size : Int) < 1) = false := decide_eq_false (by omega)
  have q3 : decide (z.size < 1) = false := decide_eq_false (by omega)
  have hwn : IntKind.i64.wrap ((a : Int) + 1) = (a : Int) + 1 := IntWalk.i64_in _ (by omega)
  have d1 : decide ((a : Int) < 0) = false := decide_eq_false (by omega)
  have d2 : decide ((a : Int) > (s.size : Int)) = false := decide_eq_false (by omega)
  have d3 : decide (s.size < a) = false := decide_eq_false (by omega)
  have a0 : (0 : Int) ≤ (a : Int) := by omega
  have a1 : (a : Int) ≤ (s.size : Int) := by omega
  go_enter Tryz.func41, Tryz.ntmps41
  go_wp2_with fail
  refine Calls.mono (GA _) ?_
  rintro e w1 ⟨rfl, u1⟩
  have bZ := u1.get (block_alloc (Vnew1 w (.cells #[.int .i64 0, .int .i64 0, .string ⟨#[]⟩, .bool false, .int .i64 0] 29)) (.cells (Vl.mk 0 0 [] false 0).cs 29)) id
  obtain ⟨c0, c1, c2, c3, c4⟩ := cells5 bZ
  have xl := lt_at bZ
  have f0 := free_at bZ 0
  have f1 := free_at bZ 1
  have f2 := free_at bZ 2
  have f3 := free_at bZ 3
  have f4 := free_at bZ 4
  have bV := u1.get (Vnew2 w (.cells #[.int .i64 0, .int .i64 0, .string ⟨#[]⟩, .bool false, .int .i64 0] 29) (.cells (Vl.mk 0 0 [] false 0).cs 29)) id
  obtain ⟨e0, e1, e2, e3, e4⟩ := cells5 bV
  have vl := lt_at bV
  clear bV
  have HBZ := hide (show w1.heap[w.heap.size]? = some (.cells vZero.cs 29 (0, 0)) from bZ)
  have HU1 := hide ((((Upd.refl w _).alloc _).alloc _).then u1 (fun _ _ => id))
  clear u1 GA bZ
  go_wp2_with fail
  (try simp only [Exit.inBlock, Exit.then])
  refine bodyPost_ret (ret_rget rfl _ _ w.heap.size (Vl.mk 0 0 [] false 0) rfl (rblock5 HBZ.out _ _ _ _ _)) rfl ?_
  exact ⟨rfl, upd5 HU1.out (Nat.le_refl _) _ _ _ _ _⟩
set_option maxHeartbeats 1600000 in
theorem RGet_other (w : World) (s z : ByteArray) (a : Nat) (ha : a ≤ s.size) (h0 : 0 < z.size) (n : Nat) (hn : 4 < n) (hn2 : n < 256) (hk : z[0].toNat = n) (hz : s.extract a s.size = z) (hG : goodV (Vl.mk (n : Int) 0 [] false 0) = false) :
    Calls Tryz.prog 41 #[.string s, .int .i64 (a : Int)] w (GetPost w vZero 0 4) := by
  have GA := fun w => RGood_any w (Vl.mk (n : Int) 0 [] false 0)
  rw [hG] at GA
  unfold Vl.val at GA
  simp only at GA
  clear hG
  have q1 : ((z.size : Int) == 0) = false := beq_eq_false_iff_ne.2 (by omega)
  have q0 : (z.size == 0) = false := beq_eq_false_iff_ne.2 (by omega)
  have b0 : ((n : Int) == 0) = false := beq_eq_false_iff_ne.2 (by omega)
  have b1 : ((n : Int) == 1) = false := beq_eq_false_iff_ne.2 (by omega)
  have b2 : ((n : Int) == 2) = false := beq_eq_false_iff_ne.2 (by omega)
  have b3 : ((n : Int) == 3) = false := beq_eq_false_iff_ne.2 (by omega)
  have b4 : ((n : Int) == 4) = false := beq_eq_false_iff_ne.2 (by omega)
  have hwk : wrap64 (n : Int) = (n : Int) := IntWalk.wrap64_in _ (by omega)
  have d1 : decide ((a : Int) < 0) = false := decide_eq_false (by omega)
  have d2 : decide ((a : Int) > (s.size : Int)) = false := decide_eq_false (by omega)
  have d3 : decide (s.size < a) = false := decide_eq_false (by omega)
  have a0 : (0 : Int) ≤ (a : Int) := by omega
  have a1 : (a : Int) ≤ (s.size : Int) := by omega
  go_enter Tryz.func41, Tryz.ntmps41
  go_wp2_with fail
  refine Calls.mono (GA _) ?_
  rintro e w1 ⟨rfl, u1⟩
  have bZ := u1.get (block_alloc (Vnew1 w (.cells #[.int .i64 0, .int .i64 0, .string ⟨#[]⟩, .bool false, .int .i64 0] 29)) (.cells (Vl.mk (n : Int) 0 [] false 0).cs 29)) id
  obtain ⟨c0, c1, c2, c3, c4⟩ := cells5 bZ
  have xl := lt_at bZ
  have f0 := free_at bZ 0
  have f1 := free_at bZ 1
  have f2 := free_at bZ 2
  have f3 := free_at bZ 3
  have f4 := free_at bZ 4
  have HBZ := hide (show w1.heap[w.heap.size]? = some (.cells vZero.cs 29 (0, 0)) from bZ)
  have HU1 := hide ((((Upd.refl w _).alloc _).alloc _).then u1 (fun _ _ => id))
  clear u1 GA bZ
  go_wp2_with fail
  (try simp only [Exit.inBlock, Exit.then])
  refine bodyPost_ret (ret_rget rfl _ _ w.heap.size ⟨0, 0, [], false, 0⟩ rfl (rblock5 HBZ.out _ _ _ _ _)) rfl ?_
  exact ⟨rfl, upd5 HU1.out (Nat.le_refl _) _ _ _ _ _⟩
set_option maxHeartbeats 1600000 in
theorem RGet_num_short (w : World) (s z : ByteArray) (a : Nat) (ha : a ≤ s.size) (h0 : 0 < z.size) (hk : z[0].toNat = 1) (hq : z.size < 9) (hz : s.extract a s.size = z) (hG : goodV (Vl.mk 1 0 [] false 0) = true) :
    Calls Tryz.prog 41 #[.string s, .int .i64 (a : Int)] w (GetPost w vZero 0 4) := by
  have GA := fun w => RGood_any w (Vl.mk 1 0 [] false 0)
  rw [hG] at GA
  unfold Vl.val at GA
  simp only at GA
  clear hG
  have q1 : ((z.size : Int) == 0) = false := beq_eq_false_iff_ne.2 (by omega)
  have q0 : (z.size == 0) = false := beq_eq_false_iff_ne.2 (by omega)
  have q2 : decide ((z.size : Int) ≥ 9) = false := decide_eq_false (by omega)
  have q3 : decide ((z.size : Int) < 9) = true := decide_eq_true (by omega)
  have q4 : decide (9 ≤ z.size) = false := decide_eq_false (by omega)
  have d1 : decide ((a : Int) < 0) = false := decide_eq_false (by omega)
  have d2 : decide ((a : Int) > (s.size : Int)) = false := decide_eq_false (by omega)
  have d3 : decide (s.size < a) = false := decide_eq_false (by omega)
  have a0 : (0 : Int) ≤ (a : Int) := by omega
  have a1 : (a : Int) ≤ (s.size : Int) := by omega
  go_enter Tryz.func41, Tryz.ntmps41
  go_wp2_with fail
  refine Calls.mono (GA _) ?_
  rintro e w1 ⟨rfl, u1⟩
  have bZ := u1.get (block_alloc (Vnew1 w (.cells #[.int .i64 0, .int .i64 0, .string ⟨#[]⟩, .bool false, .int .i64 0] 29)) (.cells (Vl.mk 1 0 [] false 0).cs 29)) id
  obtain ⟨c0, c1, c2, c3, c4⟩ := cells5 bZ
  have xl := lt_at bZ
  have f0 := free_at bZ 0
  have f1 := free_at bZ 1
  have f2 := free_at bZ 2
  have f3 := free_at bZ 3
  have f4 := free_at bZ 4
  have HBZ := hide (show w1.heap[w.heap.size]? = some (.cells vZero.cs 29 (0, 0)) from bZ)
  have HU1 := hide ((((Upd.refl w _).alloc _).alloc _).then u1 (fun _ _ => id))
  clear u1 GA bZ
  go_wp2_with fail
  (try simp only [Exit.inBlock, Exit.then])
  refine bodyPost_ret (ret_rget rfl _ _ w.heap.size ⟨0, 0, [], false, 0⟩ rfl (rblock5 HBZ.out _ _ _ _ _)) rfl ?_
  exact ⟨rfl, upd5 HU1.out (Nat.le_refl _) _ _ _ _ _⟩
set_option maxHeartbeats 1600000 in
theorem RGet_text_one (w : World) (s z : ByteArray) (a : Nat) (ha : a ≤ s.size) (h0 : 0 < z.size) (hk : z[0].toNat = 2) (h1 : z.size = 1) (hz : s.extract a s.size = z) (hG : goodV (Vl.mk 2 0 [] false 0) = true) :
    Calls Tryz.prog 41 #[.string s, .int .i64 (a : Int)] w (GetPost w vZero 0 4) := by
  have GA := fun w => RGood_any w (Vl.mk 2 0 [] false 0)
  rw [hG] at GA
  unfold Vl.val at GA
  simp only at GA
  clear hG
  have q1 : ((z.size : Int) == 0) = false := beq_eq_false_iff_ne.2 (by omega)
  have q0 : (z.size == 0) = false := beq_eq_false_iff_ne.2 (by omega)
  have d1 : decide ((a : Int) < 0) = false := decide_eq_false (by omega)
  have d2 : decide ((a : Int) > (s.size : Int)) = false := decide_eq_false (by omega)
  have d3 : decide (s.size < a) = false := decide_eq_false (by omega)
  have a0 : (0 : Int) ≤ (a : Int) := by omega
  have a1 : (a : Int) ≤ (s.size : Int) := by omega
  go_enter Tryz.func41, Tryz.ntmps41
  go_wp2_with fail
  refine Calls.mono (GA _) ?_
  rintro e w1 ⟨rfl, u1⟩
  have bZ := u1.get (block_alloc (Vnew1 w (.cells #[.int .i64 0, .int .i64 0, .string ⟨#[]⟩, .bool false, .int .i64 0] 29)) (.cells (Vl.mk 2 0 [] false 0).cs 29)) id
  obtain ⟨c0, c1, c2, c3, c4⟩ := cells5 bZ
  have xl := lt_at bZ
  have f0 := free_at bZ 0
  have f1 := free_at bZ 1
  have f2 := free_at bZ 2
  have f3 := free_at bZ 3
  have f4 := free_at bZ 4
  have HBZ := hide (show w1.heap[w.heap.size]? = some (.cells vZero.cs 29 (0, 0)) from bZ)
  have HU1 := hide ((((Upd.refl w _).alloc _).alloc _).then u1 (fun _ _ => id))
  clear u1 GA bZ
  go_wp2_with fail
  (try simp only [Exit.inBlock, Exit.then])
  refine bodyPost_ret (ret_rget rfl _ _ w.heap.size ⟨0, 0, [], false, 0⟩ rfl (rblock5 HBZ.out _ _ _ _ _)) rfl ?_
  exact ⟨rfl, upd5 HU1.out (Nat.le_refl _) _ _ _ _ _⟩
set_option maxHeartbeats 1600000 in
theorem RGet_text_short (w : World) (s z : ByteArray) (a : Nat) (ha : a ≤ s.size) (h0 : 0 < z.size) (hk : z[0].toNat = 2) (h1 : 1 < z.size) (n : Nat) (hc : z[1].toNat = n) (hn : n < 256) (hl : z.size < 2 + n) (hz : s.extract a s.size = z) (hG : goodV (Vl.mk 2 0 [] false 0) = true) :
    Calls Tryz.prog 41 #[.string s, .int .i64 (a : Int)] w (GetPost w vZero 0 4) := by
  have GA := fun w => RGood_any w (Vl.mk 2 0 [] false 0)
  rw [hG] at GA
  unfold Vl.val at GA
  simp only at GA
  clear hG
  have q1 : ((z.size : Int) == 0) = false := beq_eq_false_iff_ne.2 (by omega)
  have q0 : (z.size == 0) = false := beq_eq_false_iff_ne.2 (by omega)
  have q2 : decide ((z.size : Int) ≥ 2) = true := decide_eq_true (by omega)
  have q2n : decide (2 ≤ z.size) = true := decide_eq_true (by omega)
  have q4 : decide ((z.size : Int) < 2) = false := decide_eq_false (by omega)
  have q4n : decide (z.size < 2) = false := decide_eq_false (by omega)
  have hwk : IntKind.i64.wrap (2 + (n : Int)) = 2 + (n : Int) := IntWalk.i64_in _ (by omega)
  have q5 : decide ((z.size : Int) ≥ 2 + (n : Int)) = false := decide_eq_false (by omega)
  have q6 : decide ((z.size : Int) < 2 + (n : Int)) = true := decide_eq_true (by omega)
  have d1 : decide ((a : Int) < 0) = false := decide_eq_false (by omega)
  have d2 : decide ((a : Int) > (s.size : Int)) = false := decide_eq_false (by omega)
  have d3 : decide (s.size < a) = false := decide_eq_false (by omega)
  have a0 : (0 : Int) ≤ (a : Int) := by omega
  have a1 : (a : Int) ≤ (s.size : Int) := by omega
  go_enter Tryz.func41, Tryz.ntmps41
  go_wp2_with fail
  refine Calls.mono (GA _) ?_
  rintro e w1 ⟨rfl, u1⟩
  have bZ := u1.get (block_alloc (Vnew1 w (.cells #[.int .i64 0, .int .i64 0, .string ⟨#[]⟩, .bool false, .int .i64 0] 29)) (.cells (Vl.mk 2 0 [] false 0).cs 29)) id
  obtain ⟨c0, c1, c2, c3, c4⟩ := cells5 bZ
  have xl := lt_at bZ
  have f0 := free_at bZ 0
  have f1 := free_at bZ 1
  have f2 := free_at bZ 2
  have f3 := free_at bZ 3
  have f4 := free_at bZ 4
  have HBZ := hide (show w1.heap[w.heap.size]? = some (.cells vZero.cs 29 (0, 0)) from bZ)
  have HU1 := hide ((((Upd.refl w _).alloc _).alloc _).then u1 (fun _ _ => id))
  clear u1 GA bZ
  go_wp2_with fail
  (try simp only [Exit.inBlock, Exit.then])
  refine bodyPost_ret (ret_rget rfl _ _ w.heap.size ⟨0, 0, [], false, 0⟩ rfl (rblock5 HBZ.out _ _ _ _ _)) rfl ?_
  exact ⟨rfl, upd5 HU1.out (Nat.le_refl _) _ _ _ _ _⟩
set_option maxHeartbeats 1600000 in
theorem RGet_text (w : World) (s z : ByteArray) (a : Nat) (ha : a ≤ s.size) (hs : s.size ≤ 1000000) (h0 : 0 < z.size) (hk : z[0].toNat = 2) (h1 : 1 < z.size) (n : Nat) (hc : z[1].toNat = n) (hn : n < 256) (hl : 2 + n ≤ z.size) (t : List UInt8) (hsl : z.extract 2 (2 + n) = ⟨t.toArray⟩) (hz : s.extract a s.size = z) (hG : goodV (Vl.mk 2 0 t false 0) = true) :
    Calls Tryz.prog 41 #[.string s, .int .i64 (a : Int)] w (GetPost w (Vl.mk 2 0 t false 0) ((a : Int) + (2 + (n : Int))) 0) := by
  have GA := fun w => RGood_any w (Vl.mk 2 0 t false 0)
  rw [hG] at GA
  unfold Vl.val at GA
  simp only at GA
  clear hG
  have q1 : ((z.size : Int) == 0) = false := beq_eq_false_iff_ne.2 (by omega)
  have q0 : (z.size == 0) = false := beq_eq_false_iff_ne.2 (by omega)
  have q2 : decide ((z.size : Int) ≥ 2) = true := decide_eq_true (by omega)
  have q2n : decide (2 ≤ z.size) = true := decide_eq_true (by omega)
  have q4 : decide ((z.size : Int) < 2) = false := decide_eq_false (by omega)
  have q4n : decide (z.size < 2) = false := decide_eq_false (by omega)
  have hwk : IntKind.i64.wrap (2 + (n : Int)) = 2 + (n : Int) := IntWalk.i64_in _ (by omega)
  have r0 : (0 : Int) ≤ 2 + (n : Int) := by omega
  have r1 : (2 : Int) ≤ 2 + (n : Int) := by omega
  have r2 : 2 + (n : Int) ≤ (z.size : Int) := by omega
  have r3 : (2 + (n : Int)).toNat = 2 + n := by omega
  have q5 : decide ((z.size : Int) ≥ 2 + (n : Int)) = true := decide_eq_true (by omega)
  have q6 : decide ((z.size : Int) < 2 + (n : Int)) = false := decide_eq_false (by omega)
  have hwn : IntKind.i64.wrap ((a : Int) + (2 + (n : Int))) = (a : Int) + (2 + (n : Int)) := IntWalk.i64_in _ (by omega)
  have d1 : decide ((a : Int) < 0) = false := decide_eq_false (by omega)
  have d2 : decide ((a : Int) > (s.size : Int)) = false := decide_eq_false (by omega)
  have d3 : decide (s.size < a) = false := decide_eq_false (by omega)
  have a0 : (0 : Int) ≤ (a : Int) := by omega
  have a1 : (a : Int) ≤ (s.size : Int) := by omega
  go_enter Tryz.func41, Tryz.ntmps41
  go_wp2_with fail
  refine Calls.mono (GA _) ?_
  rintro e w1 ⟨rfl, u1⟩
  have bZ := u1.get (block_alloc (Vnew1 w (.cells #[.int .i64 0, .int .i64 0, .string ⟨#[]⟩, .bool false, .int .i64 0] 29)) (.cells (Vl.mk 2 0 t false 0).cs 29)) id
  obtain ⟨c0, c1, c2, c3, c4⟩ := cells5 bZ
  have xl := lt_at bZ
  have f0 := free_at bZ 0
  have f1 := free_at bZ 1
  have f2 := free_at bZ 2
  have f3 := free_at bZ 3
  have f4 := free_at bZ 4
  have bV := u1.get (Vnew2 w (.cells #[.int .i64 0, .int .i64 0, .string ⟨#[]⟩, .bool false, .int .i64 0] 29) (.cells (Vl.mk 2 0 t false 0).cs 29)) id
  obtain ⟨e0, e1, e2, e3, e4⟩ := cells5 bV
  have vl := lt_at bV
  clear bV
  have HBZ := hide (show w1.heap[w.heap.size]? = some (.cells vZero.cs 29 (0, 0)) from bZ)
  have HU1 := hide ((((Upd.refl w _).alloc _).alloc _).then u1 (fun _ _ => id))
  clear u1 GA bZ
  go_wp2_with fail
  (try simp only [Exit.inBlock, Exit.then])
  refine bodyPost_ret (ret_rget rfl _ _ w.heap.size (Vl.mk 2 0 t false 0) rfl (rblock5 HBZ.out _ _ _ _ _)) rfl ?_
  exact ⟨rfl, upd5 HU1.out (Nat.le_refl _) _ _ _ _ _⟩
set_option maxHeartbeats 1600000 in
theorem RGet_bool_one (w : World) (s z : ByteArray) (a : Nat) (ha : a ≤ s.size) (h0 : 0 < z.size) (hk : z[0].toNat = 3) (h1 : z.size = 1) (hz : s.extract a s.size = z) (hG : goodV (Vl.mk 3 0 [] false 0) = true) :
    Calls Tryz.prog 41 #[.string s, .int .i64 (a : Int)] w (GetPost w vZero 0 4) := by
  have GA := fun w => RGood_any w (Vl.mk 3 0 [] false 0)
  rw [hG] at GA
  unfold Vl.val at GA
  simp only at GA
  clear hG
  have q1 : ((z.size : Int) == 0) = false := beq_eq_false_iff_ne.2 (by omega)
  have q0 : (z.size == 0) = false := beq_eq_false_iff_ne.2 (by omega)
  have d1 : decide ((a : Int) < 0) = false := decide_eq_false (by omega)
  have d2 : decide ((a : Int) > (s.size : Int)) = false := decide_eq_false (by omega)
  have d3 : decide (s.size < a) = false := decide_eq_false (by omega)
  have a0 : (0 : Int) ≤ (a : Int) := by omega
  have a1 : (a : Int) ≤ (s.size : Int) := by omega
  go_enter Tryz.func41, Tryz.ntmps41
  go_wp2_with fail
  refine Calls.mono (GA _) ?_
  rintro e w1 ⟨rfl, u1⟩
  have bZ := u1.get (block_alloc (Vnew1 w (.cells #[.int .i64 0, .int .i64 0, .string ⟨#[]⟩, .bool false, .int .i64 0] 29)) (.cells (Vl.mk 3 0 [] false 0).cs 29)) id
  obtain ⟨c0, c1, c2, c3, c4⟩ := cells5 bZ
  have xl := lt_at bZ
  have f0 := free_at bZ 0
  have f1 := free_at bZ 1
  have f2 := free_at bZ 2
  have f3 := free_at bZ 3
  have f4 := free_at bZ 4
  have HBZ := hide (show w1.heap[w.heap.size]? = some (.cells vZero.cs 29 (0, 0)) from bZ)
  have HU1 := hide ((((Upd.refl w _).alloc _).alloc _).then u1 (fun _ _ => id))
  clear u1 GA bZ
  go_wp2_with fail
  (try simp only [Exit.inBlock, Exit.then])
  refine bodyPost_ret (ret_rget rfl _ _ w.heap.size ⟨0, 0, [], false, 0⟩ rfl (rblock5 HBZ.out _ _ _ _ _)) rfl ?_
  exact ⟨rfl, upd5 HU1.out (Nat.le_refl _) _ _ _ _ _⟩
set_option maxHeartbeats 1600000 in
theorem RGet_bool_f (w : World) (s z : ByteArray) (a : Nat) (ha : a ≤ s.size) (hs : s.size ≤ 1000000) (h0 : 0 < z.size) (hk : z[0].toNat = 3) (h1 : 1 < z.size) (hc : z[1].toNat = 0) (hz : s.extract a s.size = z) (hG : goodV (Vl.mk 3 0 [] false 0) = true) :
    Calls Tryz.prog 41 #[.string s, .int .i64 (a : Int)] w (GetPost w (Vl.mk 3 0 [] false 0) ((a : Int) + 2) 0) := by
  have GA := fun w => RGood_any w (Vl.mk 3 0 [] false 0)
  rw [hG] at GA
  unfold Vl.val at GA
  simp only at GA
  clear hG
  have q1 : ((z.size : Int) == 0) = false := beq_eq_false_iff_ne.2 (by omega)
  have q0 : (z.size == 0) = false := beq_eq_false_iff_ne.2 (by omega)
  have q2 : decide ((z.size : Int) ≥ 2) = true := decide_eq_true (by omega)
  have q2n : decide (2 ≤ z.size) = true := decide_eq_true (by omega)
  have q4 : decide ((z.size : Int) < 2) = false := decide_eq_false (by omega)
  have q4n : decide (z.size < 2) = false := decide_eq_false (by omega)
  have hwn : IntKind.i64.wrap ((a : Int) + 2) = (a : Int) + 2 := IntWalk.i64_in _ (by omega)
  have d1 : decide ((a : Int) < 0) = false := decide_eq_false (by omega)
  have d2 : decide ((a : Int) > (s.size : Int)) = false := decide_eq_false (by omega)
  have d3 : decide (s.size < a) = false := decide_eq_false (by omega)
  have a0 : (0 : Int) ≤ (a : Int) := by omega
  have a1 : (a : Int) ≤ (s.size : Int) := by omega
  go_enter Tryz.func41, Tryz.ntmps41
  go_wp2_with fail
  refine Calls.mono (GA _) ?_
  rintro e w1 ⟨rfl, u1⟩
  have bZ := u1.get (block_alloc (Vnew1 w (.cells #[.int .i64 0, .int .i64 0, .string ⟨#[]⟩, .bool false, .int .i64 0] 29)) (.cells (Vl.mk 3 0 [] false 0).cs 29)) id
  obtain ⟨c0, c1, c2, c3, c4⟩ := cells5 bZ
  have xl := lt_at bZ
  have f0 := free_at bZ 0
  have f1 := free_at bZ 1
  have f2 := free_at bZ 2
  have f3 := free_at bZ 3
  have f4 := free_at bZ 4
  have bV := u1.get (Vnew2 w (.cells #[.int .i64 0, .int .i64 0, .string ⟨#[]⟩, .bool false, .int .i64 0] 29) (.cells (Vl.mk 3 0 [] false 0).cs 29)) id
  obtain ⟨e0, e1, e2, e3, e4⟩ := cells5 bV
  have vl := lt_at bV
  clear bV
  have HBZ := hide (show w1.heap[w.heap.size]? = some (.cells vZero.cs 29 (0, 0)) from bZ)
  have HU1 := hide ((((Upd.refl w _).alloc _).alloc _).then u1 (fun _ _ => id))
  clear u1 GA bZ
  go_wp2_with fail
  (try simp only [Exit.inBlock, Exit.then])
  refine bodyPost_ret (ret_rget rfl _ _ w.heap.size (Vl.mk 3 0 [] false 0) rfl (rblock5 HBZ.out _ _ _ _ _)) rfl ?_
  exact ⟨rfl, upd5 HU1.out (Nat.le_refl _) _ _ _ _ _⟩
set_option maxHeartbeats 1600000 in
theorem RGet_bool_t (w : World) (s z : ByteArray) (a : Nat) (ha : a ≤ s.size) (hs : s.size ≤ 1000000) (h0 : 0 < z.size) (hk : z[0].toNat = 3) (h1 : 1 < z.size) (hc : z[1].toNat = 1) (hz : s.extract a s.size = z) (hG : goodV (Vl.mk 3 0 [] true 0) = true) :
    Calls Tryz.prog 41 #[.string s, .int .i64 (a : Int)] w (GetPost w (Vl.mk 3 0 [] true 0) ((a : Int) + 2) 0) := by
  have GA := fun w => RGood_any w (Vl.mk 3 0 [] true 0)
  rw [hG] at GA
  unfold Vl.val at GA
  simp only at GA
  clear hG
  have q1 : ((z.size : Int) == 0) = false := beq_eq_false_iff_ne.2 (by omega)
  have q0 : (z.size == 0) = false := beq_eq_false_iff_ne.2 (by omega)
  have q2 : decide ((z.size : Int) ≥ 2) = true := decide_eq_true (by omega)
  have q2n : decide (2 ≤ z.size) = true := decide_eq_true (by omega)
  have q4 : decide ((z.size : Int) < 2) = false := decide_eq_false (by omega)
  have q4n : decide (z.size < 2) = false := decide_eq_false (by omega)
  have hwn : IntKind.i64.wrap ((a : Int) + 2) = (a : Int) + 2 := IntWalk.i64_in _ (by omega)
  have d1 : decide ((a : Int) < 0) = false := decide_eq_false (by omega)
  have d2 : decide ((a : Int) > (s.size : Int)) = false := decide_eq_false (by omega)
  have d3 : decide (s.size < a) = false := decide_eq_false (by omega)
  have a0 : (0 : Int) ≤ (a : Int) := by omega
  have a1 : (a : Int) ≤ (s.size : Int) := by omega
  go_enter Tryz.func41, Tryz.ntmps41
  go_wp2_with fail
  refine Calls.mono (GA _) ?_
  rintro e w1 ⟨rfl, u1⟩
  have bZ := u1.get (block_alloc (Vnew1 w (.cells #[.int .i64 0, .int .i64 0, .string ⟨#[]⟩, .bool false, .int .i64 0] 29)) (.cells (Vl.mk 3 0 [] true 0).cs 29)) id
  obtain ⟨c0, c1, c2, c3, c4⟩ := cells5 bZ
  have xl := lt_at bZ
  have f0 := free_at bZ 0
  have f1 := free_at bZ 1
  have f2 := free_at bZ 2
  have f3 := free_at bZ 3
  have f4 := free_at bZ 4
  have bV := u1.get (Vnew2 w (.cells #[.int .i64 0, .int .i64 0, .string ⟨#[]⟩, .bool false, .int .i64 0] 29) (.cells (Vl.mk 3 0 [] true 0).cs 29)) id
  obtain ⟨e0, e1, e2, e3, e4⟩ := cells5 bV
  have vl := lt_at bV
  clear bV
  have HBZ := hide (show w1.heap[w.heap.size]? = some (.cells vZero.cs 29 (0, 0)) from bZ)
  have HU1 := hide ((((Upd.refl w _).alloc _).alloc _).then u1 (fun _ _ => id))
  clear u1 GA bZ
  go_wp2_with fail
  (try simp only [Exit.inBlock, Exit.then])
  refine bodyPost_ret (ret_rget rfl _ _ w.heap.size (Vl.mk 3 0 [] true 0) rfl (rblock5 HBZ.out _ _ _ _ _)) rfl ?_
  exact ⟨rfl, upd5 HU1.out (Nat.le_refl _) _ _ _ _ _⟩
set_option maxHeartbeats 1600000 in
theorem RGet_err_one (w : World) (s z : ByteArray) (a : Nat) (ha : a ≤ s.size) (h0 : 0 < z.size) (hk : z[0].toNat = 4) (h1 : z.size = 1) (hz : s.extract a s.size = z) (hG : goodV (Vl.mk 4 0 [] false 0) = false) :
    Calls Tryz.prog 41 #[.string s, .int .i64 (a : Int)] w (GetPost w vZero 0 4) := by
  have GA := fun w => RGood_any w (Vl.mk 4 0 [] false 0)
  rw [hG] at GA
  unfold Vl.val at GA
  simp only at GA
  clear hG
  have q1 : ((z.size : Int) == 0) = false := beq_eq_false_iff_ne.2 (by omega)
  have q0 : (z.size == 0) = false := beq_eq_false_iff_ne.2 (by omega)
  have d1 : decide ((a : Int) < 0) = false := decide_eq_false (by omega)
  have d2 : decide ((a : Int) > (s.size : Int)) = false := decide_eq_false (by omega)
  have d3 : decide (s.size < a) = false := decide_eq_false (by omega)
  have a0 : (0 : Int) ≤ (a : Int) := by omega
  have a1 : (a : Int) ≤ (s.size : Int) := by omega
  go_enter Tryz.func41, Tryz.ntmps41
  go_wp2_with fail
  refine Calls.mono (GA _) ?_
  rintro e w1 ⟨rfl, u1⟩
  have bZ := u1.get (block_alloc (Vnew1 w (.cells #[.int .i64 0, .int .i64 0, .string ⟨#[]⟩, .bool false, .int .i64 0] 29)) (.cells (Vl.mk 4 0 [] false 0).cs 29)) id
  obtain ⟨c0, c1, c2, c3, c4⟩ := cells5 bZ
  have xl := lt_at bZ
  have f0 := free_at bZ 0
  have f1 := free_at bZ 1
  have f2 := free_at bZ 2
  have f3 := free_at bZ 3
  have f4 := free_at bZ 4
  have HBZ := hide (show w1.heap[w.heap.size]? = some (.cells vZero.cs 29 (0, 0)) from bZ)
  have HU1 := hide ((((Upd.refl w _).alloc _).alloc _).then u1 (fun _ _ => id))
  clear u1 GA bZ
  go_wp2_with fail
  (try simp only [Exit.inBlock, Exit.then])
  refine bodyPost_ret (ret_rget rfl _ _ w.heap.size ⟨0, 0, [], false, 0⟩ rfl (rblock5 HBZ.out _ _ _ _ _)) rfl ?_
  exact ⟨rfl, upd5 HU1.out (Nat.le_refl _) _ _ _ _ _⟩
set_option maxHeartbeats 1600000 in
theorem RGet_err (w : World) (s z : ByteArray) (a : Nat) (ha : a ≤ s.size) (hs : s.size ≤ 1000000) (h0 : 0 < z.size) (hk : z[0].toNat = 4) (h1 : 1 < z.size) (n : Nat) (hc : z[1].toNat = n) (hn : n < 256) (hz : s.extract a s.size = z) (hG : goodV (Vl.mk 4 0 [] false (n : Int)) = true) :
    Calls Tryz.prog 41 #[.string s, .int .i64 (a : Int)] w (GetPost w (Vl.mk 4 0 [] false (n : Int)) ((a : Int) + 2) 0) := by
  have GA := fun w => RGood_any w (Vl.mk 4 0 [] false (n : Int))
  rw [hG] at GA
  unfold Vl.val at GA
  simp only at GA
  clear hG
  have q1 : ((z.size : Int) == 0) = false := beq_eq_false_iff_ne.2 (by omega)
  have q0 : (z.size == 0) = false := beq_eq_false_iff_ne.2 (by omega)
  have q2 : decide ((z.size : Int) ≥ 2) = true := decide_eq_true (by omega)
  have q2n : decide (2 ≤ z.size) = true := decide_eq_true (by omega)
  have q4 : decide ((z.size : Int) < 2) = false := decide_eq_false (by omega)
  have q4n : decide (z.size < 2) = false := decide_eq_false (by omega)
  have hwk : wrap64 (n : Int) = (n : Int) := IntWalk.wrap64_in _ (by omega)
  have hwn : IntKind.i64.wrap ((a : Int) + 2) = (a : Int) + 2 := IntWalk.i64_in _ (by omega)
  have d1 : decide ((a : Int) < 0) = false := decide_eq_false (by omega)
  have d2 : decide ((a : Int) > (s.size : Int)) = false := decide_eq_false (by omega)
  have d3 : decide (s.size < a) = false := decide_eq_false (by omega)
  have a0 : (0 : Int) ≤ (a : Int) := by omega
  have a1 : (a : Int) ≤ (s.size : Int) := by omega
  go_enter Tryz.func41, Tryz.ntmps41
  go_wp2_with fail
  refine Calls.mono (GA _) ?_
  rintro e w1 ⟨rfl, u1⟩
  have bZ := u1.get (block_alloc (Vnew1 w (.cells #[.int .i64 0, .int .i64 0, .string ⟨#[]⟩, .bool false, .int .i64 0] 29)) (.cells (Vl.mk 4 0 [] false (n : Int)).cs 29)) id
  obtain ⟨c0, c1, c2, c3, c4⟩ := cells5 bZ
  have xl := lt_at bZ
  have f0 := free_at bZ 0
  have f1 := free_at bZ 1
  have f2 := free_at bZ 2
  have f3 := free_at bZ 3
  have f4 := free_at bZ 4
  have bV := u1.get (Vnew2 w (.cells #[.int .i64 0, .int .i64 0, .string ⟨#[]⟩, .bool false, .int .i64 0] 29) (.cells (Vl.mk 4 0 [] false (n : Int)).cs 29)) id
  obtain ⟨e0, e1, e2, e3, e4⟩ := cells5 bV
  have vl := lt_at bV
  clear bV
  have HBZ := hide (show w1.heap[w.heap.size]? = some (.cells vZero.cs 29 (0, 0)) from bZ)
  have HU1 := hide ((((Upd.refl w _).alloc _).alloc _).then u1 (fun _ _ => id))
  clear u1 GA bZ
  go_wp2_with fail
  (try simp only [Exit.inBlock, Exit.then])
  refine bodyPost_ret (ret_rget rfl _ _ w.heap.size (Vl.mk 4 0 [] false (n : Int)) rfl (rblock5 HBZ.out _ _ _ _ _)) rfl ?_
  exact ⟨rfl, upd5 HU1.out (Nat.le_refl _) _ _ _ _ _⟩
set_option maxHeartbeats 1600000 in
theorem RGet_err_bad (w : World) (s z : ByteArray) (a : Nat) (ha : a ≤ s.size) (h0 : 0 < z.size) (hk : z[0].toNat = 4) (h1 : 1 < z.size) (n : Nat) (hc : z[1].toNat = n) (hn : n < 256) (hz : s.extract a s.size = z) (hG : goodV (Vl.mk 4 0 [] false (n : Int)) = false) :
    Calls Tryz.prog 41 #[.string s, .int .i64 (a : Int)] w (GetPost w vZero 0 4) := by
  have GA := fun w => RGood_any w (Vl.mk 4 0 [] false (n : Int))
  rw [hG] at GA
  unfold Vl.val at GA
  simp only at GA
  clear hG
  have q1 : ((z.size : Int) == 0) = false := beq_eq_false_iff_ne.2 (by omega)
  have q0 : (z.size == 0) = false := beq_eq_false_iff_ne.2 (by omega)
  have q2 : decide ((z.size : Int) ≥ 2) = true := decide_eq_true (by omega)
  have q2n : decide (2 ≤ z.size) = true := decide_eq_true (by omega)
  have q4 : decide ((z.size : Int) < 2) = false := decide_eq_false (by omega)
  have q4n : decide (z.size < 2) = false := decide_eq_false (by omega)
  have hwk : wrap64 (n : Int) = (n : Int) := IntWalk.wrap64_in _ (by omega)
  have d1 : decide ((a : Int) < 0) = false := decide_eq_false (by omega)
  have d2 : decide ((a : Int) > (s.size : Int)) = false := decide_eq_false (by omega)
  have d3 : decide (s.size < a) = false := decide_eq_false (by omega)
  have a0 : (0 : Int) ≤ (a : Int) := by omega
  have a1 : (a : Int) ≤ (s.size : Int) := by omega
  go_enter Tryz.func41, Tryz.ntmps41
  go_wp2_with fail
  refine Calls.mono (GA _) ?_
  rintro e w1 ⟨rfl, u1⟩
  have bZ := u1.get (block_alloc (Vnew1 w (.cells #[.int .i64 0, .int .i64 0, .string ⟨#[]⟩, .bool false, .int .i64 0] 29)) (.cells (Vl.mk 4 0 [] false (n : Int)).cs 29)) id
  obtain ⟨c0, c1, c2, c3, c4⟩ := cells5 bZ
  have xl := lt_at bZ
  have f0 := free_at bZ 0
  have f1 := free_at bZ 1
  have f2 := free_at bZ 2
  have f3 := free_at bZ 3
  have f4 := free_at bZ 4
  have HBZ := hide (show w1.heap[w.heap.size]? = some (.cells vZero.cs 29 (0, 0)) from bZ)
  have HU1 := hide ((((Upd.refl w _).alloc _).alloc _).then u1 (fun _ _ => id))
  clear u1 GA bZ
  go_wp2_with fail
  (try simp only [Exit.inBlock, Exit.then])
  refine bodyPost_ret (ret_rget rfl _ _ w.heap.size ⟨0, 0, [], false, 0⟩ rfl (rblock5 HBZ.out _ _ _ _ _)) rfl ?_
  exact ⟨rfl, upd5 HU1.out (Nat.le_refl _) _ _ _ _ _⟩
set_option maxHeartbeats 1600000 in
theorem RGet_bool_bad (w : World) (s z : ByteArray) (a : Nat) (ha : a ≤ s.size) (h0 : 0 < z.size) (hk : z[0].toNat = 3) (h1 : 1 < z.size) (n : Nat) (hc : z[1].toNat = n) (hn : 1 < n) (hn2 : n < 256) (hz : s.extract a s.size = z) :
    Calls Tryz.prog 41 #[.string s, .int .i64 (a : Int)] w (GetPost w vZero 0 4) := by
  have q1 : ((z.size : Int) == 0) = false := beq_eq_false_iff_ne.2 (by omega)
  have q0 : (z.size == 0) = false := beq_eq_false_iff_ne.2 (by omega)
  have q3 : decide ((n : Int) > 1) = true := decide_eq_true (by omega)
  have q5 : decide (1 < n) = true := decide_eq_true hn
  have q2 : decide ((z.size : Int) ≥ 2) = true := decide_eq_true (by omega)
  have q2n : decide (2 ≤ z.size) = true := decide_eq_true (by omega)
  have q4 : decide ((z.size : Int) < 2) = false := decide_eq_false (by omega)
  have q4n : decide (z.size < 2) = false := decide_eq_false (by omega)
  have d1 : decide ((a : Int) < 0) = false := decide_eq_false (by omega)
  have d2 : decide ((a : Int) > (s.size : Int)) = false := decide_eq_false (by omega)
  have d3 : decide (s.size < a) = false := decide_eq_false (by omega)
  have a0 : (0 : Int) ≤ (a : Int) := by omega
  have a1 : (a : Int) ≤ (s.size : Int) := by omega
  go_enter Tryz.func41, Tryz.ntmps41
  go_wp2_with fail
  (try simp only [Exit.inBlock, Exit.then])
  refine bodyPost_ret (ret_rget rfl _ _ w.heap.size ⟨0, 0, [], false, 0⟩ rfl (block_alloc (Vnew1 w _) _)) rfl ?_
  exact ⟨rfl, ((Upd.refl w _).alloc _).alloc _⟩
end Go.Proofs.YthahgablbdfodaaGreatDoor
/- The walk of the reference's Get at a number. -/
set_option maxRecDepth 100000
namespace Go.Proofs.YthahgablbdfodaaGreatDoor
open Go.RowKit Go.Lat Go.Lib

set_option maxHeartbeats 3200000 in
theorem RGet_num (w : World) (s z : ByteArray) (a : Nat) (ha : a ≤ s.size) (hs : s.size ≤ 1000000) (h0 : 0 < z.size) (hk : z[0].toNat = 1) (h9 : 9 ≤ z.size) (q : List UInt8) (hq : (z.data.toList.drop 1).take 8 = q) (hz : s.extract a s.size = z) (hG : goodV (Vl.mk 1 (numOf q) [] false 0) = true) :
    Calls Tryz.prog 41 #[.string s, .int .i64 (a : Int)] w (GetPost w (Vl.mk 1 (numOf q) [] false 0) ((a : Int) + 9) 0) := by
  have hq8 : q.length = 8 := by
    have : z.data.toList.length = z.size := rfl
    rw [← hq, List.length_take, List.length_drop]
    omega
  have hqz : ∀ (j : Nat) (c : UInt8), q[j]? = some c → ∀ h : j + 1 < z.size, z[j + 1] = c := by
    intro j c hc h
    have h1 := getB h
    have hj : j < 8 := by rw [← hq8]; exact (List.getElem?_eq_some_iff.1 hc).1
    rw [← hq, List.getElem?_take_of_lt hj, List.getElem?_drop, Nat.add_comm 1 j, h1] at hc
    exact Option.some.inj hc
  have GA := fun w => RGood_any w (Vl.mk 1 (numOf q) [] false 0)
  rw [hG] at GA
  unfold Vl.val at GA
  simp only at GA
  obtain ⟨M, hM⟩ : ∃ M : Int, numOf q = M := ⟨_, rfl⟩
  have hM2 : wrap64 (natOf q : Int) = M := by rw [← hM]; unfold numOf; rw [IntWalk.i64_left]
  rw [hM] at GA ⊢
  clear hG hM hq
  have HM := hide hM2
  have HQ8 := hide hq8
  have HQZ := hide hqz
  clear hM2 hq8 hqz
  have q1 : ((z.size : Int) == 0) = false := beq_eq_false_iff_ne.2 (by omega)
  have q0 : (z.size == 0) = false := beq_eq_false_iff_ne.2 (by omega)
  have q2 : decide ((z.size : Int) ≥ 9) = true := decide_eq_true (by omega)
  have q2n : decide (9 ≤ z.size) = true := decide_eq_true h9
  have q4 : decide ((z.size : Int) < 9) = false := decide_eq_false (by omega)
  have q4n : decide (z.size < 9) = false := decide_eq_false (by omega)
  have hwn : IntKind.i64.wrap ((a : Int) + 9) = (a : Int) + 9 := IntWalk.i64_in _ (by omega)
  have d1 : decide ((a : Int) < 0) = false := decide_eq_false (by omega)
  have d2 : decide ((a : Int) > (s.size : Int)) = false := decide_eq_false (by omega)
  have d3 : decide (s.size < a) = false := decide_eq_false (by omega)
  have a0 : (0 : Int) ≤ (a : Int) := by omega
  have a1 : (a : Int) ≤ (s.size : Int) := by omega
  obtain ⟨w2, hw2⟩ : ∃ w2, (w.alloc (.cells #[.int .i64 0, .int .i64 0, .string ⟨#[]⟩, .bool false, .int .i64 0] 29)).alloc (.cells #[.int .i64 1, .int .i64 0, .string ⟨#[]⟩, .bool false, .int .i64 0] 29) = w2 := ⟨_, rfl⟩
  have HR : Hid (w2.heap[w.heap.size]? = some (.cells vZero.cs 29 (0, 0))) := hide (hw2 ▸ block_alloc (Vnew1 w _) _)
  have HV : Hid (w2.heap[w.heap.size + 1]? = some (.cells (Vl.mk 1 0 [] false 0).cs 29 (0, 0))) := hide (hw2 ▸ Vnew2 w _ _)
  have HUV : Hid (Upd w w2 (fun _ => False)) := hide (hw2 ▸ ((Upd.refl w _).alloc _).alloc _)
  have HW2 := hide hw2
  clear hw2
  go_enter Tryz.func41, Tryz.ntmps41
  go_wp2_with fail
  go_loopg [10, 11] 8 (fun qq xv iv wr => ∃ j : Nat, j + qq = 8 ∧ iv = .int .i64 ((j : Int) + 1) ∧ xv = .int .u64 (natOf (q.take j) : Int) ∧ wr = w2)
  case atStart => exact ⟨0, by omega, by rfl, by rfl, HW2.out⟩
  case round =>
    obtain ⟨j, hj, rfl, rfl, hw⟩ := hrel
    replace hw := hw.symm
    subst hw
    by_cases hj8 : j < 8
    · obtain ⟨c, hc⟩ : ∃ c, q[j]? = some c := ⟨_, List.getElem?_eq_getElem (by rw [HQ8.out]; exact hj8)⟩
      have hjz : j + 1 < z.size := by omega
      have hx := HQZ.out j c hc hjz
      obtain ⟨hb1, hb2⟩ := natOf_step HQ8.out hc
      have c255 : c.toNat < 256 := c.toNat_lt
      obtain ⟨X, hX⟩ : ∃ X, natOf (q.take j) = X := ⟨_, rfl⟩
      have hsa : IntKind.u64.wrap (256 * (X : Int)) = 256 * (X : Int) := u64_wrap_id _ (by omega) (by omega)
      have hsb : IntKind.u64.wrap (256 * (X : Int) + (c.toNat : Int)) = ((natOf (q.take (j + 1)) : Nat) : Int) := by
        rw [hb2, hX, u64_wrap_id _ (by omega) (by omega)]
        omega
      rw [hX]
      have b1 : decide ((j : Int) + 1 < 9) = true := decide_eq_true (by omega)
      have hji : (0 : Int) ≤ (j : Int) + 1 := by omega
      have hji2 : (j : Int) + 1 < (z.size : Int) := by omega
      have hji3 : ((j : Int) + 1).toNat = j + 1 := by omega
      clear hb1 hb2 hc hX
      go_wp2_with fail
      go_roundg (gk - 1)
      case measure => omega
      case rel => exact ⟨j + 1, by omega, by first | rfl | go_num, by first | rfl | (rw [hsb]), rfl⟩
    · obtain rfl : j = 8 := by omega
      have e8 : q.take 8 = q := List.take_of_length_le (by rw [HQ8.out]; decide)
      rw [e8]
      have bV := HV.out
      obtain ⟨c0, c1, c2, c3, c4⟩ := cells5 bV
      have xl := lt_at bV
      have v1 := free_at bV 1
      have hm := HM.out
      clear bV e8
      go_wp2_with fail
      refine Calls.mono (GA _) ?_
      rintro e w3 ⟨rfl, u3⟩
      have uS : Upd w2 (w2.setCell ⟨w.heap.size + 1, 1, none⟩ (.int .i64 M)) (fun k => k = w.heap.size + 1) := (Upd.refl w2 _).setCell _ _ (.inr rfl)
      have bR := u3.get (uS.get HR.out (by omega)) id
      have bW := u3.get (block_setCell HV.out 1 (.int .i64 M)) id
      have HU3 : Hid (Upd w w3 (fun _ => False)) := hide ((HUV.out.setCell ⟨w.heap.size + 1, 1, none⟩ (.int .i64 M) (.inl (by show w.heap.size ≤ w.heap.size + 1; omega))).then u3 (fun _ _ => id))
      clear c0 c1 c2 c3 c4 xl v1 u3 uS GA
      have bW' : w3.heap[w.heap.size + 1]? = some (.cells #[.int .i64 1, .int .i64 M, .string ⟨#[]⟩, .bool false, .int .i64 0] 29 (0, 0)) := bW
      obtain ⟨e0, e1, e2, e3, e4⟩ := cells5 bW'
      have vl := lt_at bW'
      obtain ⟨c0, c1, c2, c3, c4⟩ := cells5 bR
      have xl := lt_at bR
      have f0 := free_at bR 0
      have f1 := free_at bR 1
      have f2 := free_at bR 2
      have f3 := free_at bR 3
      have f4 := free_at bR 4
      have HBR := hide bR
      clear bW bW' bR
      go_wp2_with fail
      (try simp only [Exit.inBlock, Exit.then])
      refine bodyPost_ret (ret_rget rfl _ _ w.heap.size ⟨1, M, [], false, 0⟩ rfl (rblock5 HBR.out _ _ _ _ _)) rfl ?_
      exact ⟨rfl, upd5 HU3.out (Nat.le_refl _) _ _ _ _ _⟩
set_option maxHeartbeats 3200000 in
theorem RGet_num_bad (w : World) (s z : ByteArray) (a : Nat) (ha : a ≤ s.size) (h0 : 0 < z.size) (hk : z[0].toNat = 1) (h9 : 9 ≤ z.size) (q : List UInt8) (hq : (z.data.toList.drop 1).take 8 = q) (hz : s.extract a s.size = z) (hG : goodV (Vl.mk 1 (numOf q) [] false 0) = false) :
    Calls Tryz.prog 41 #[.string s, .int .i64 (a : Int)] w (GetPost w vZero 0 4) := by
  have hq8 : q.length = 8 := by
    have : z.data.toList.length = z.size := rfl
    rw [← hq, List.length_take, List.length_drop]
    omega
  have hqz : ∀ (j : Nat) (c : UInt8), q[j]? = some c → ∀ h : j + 1 < z.size, z[j + 1] = c := by
    intro j c hc h
    have h1 := getB h
    have hj : j < 8 := by rw [← hq8]; exact (List.getElem?_eq_some_iff.1 hc).1
    rw [← hq, List.getElem?_take_of_lt hj, List.getElem?_drop, Nat.add_comm 1 j, h1] at hc
    exact Option.some.inj hc
  have GA := fun w => RGood_any w (Vl.mk 1 (numOf q) [] false 0)
  rw [hG] at GA
  unfold Vl.val at GA
  simp only at GA
  obtain ⟨M, hM⟩ : ∃ M : Int, numOf q = M := ⟨_, rfl⟩
  have hM2 : wrap64 (natOf q : Int) = M := by rw [← hM]; unfold numOf; rw [IntWalk.i64_left]
  rw [hM] at GA
  clear hG hM hq
  have HM := hide hM2
  have HQ8 := hide hq8
  have HQZ := hide hqz
  clear hM2 hq8 hqz
  have q1 : ((z.size : Int) == 0) = false := beq_eq_false_iff_ne.2 (by omega)
  have q0 : (z.size == 0) = false := beq_eq_false_iff_ne.2 (by omega)
  have q2 : decide ((z.size : Int) ≥ 9) = true := decide_eq_true (by omega)
  have q2n : decide (9 ≤ z.size) = true := decide_eq_true h9
  have q4 : decide ((z.size : Int) < 9) = false := decide_eq_false (by omega)
  have q4n : decide (z.size < 9) = false := decide_eq_false (by omega)

  have d1 : decide ((a : Int) < 0) = false := decide_eq_false (by omega)
  have d2 : decide ((a : Int) > (s.size : Int)) = false := decide_eq_false (by omega)
  have d3 : decide (s.size < a) = false := decide_eq_false (by omega)
  have a0 : (0 : Int) ≤ (a : Int) := by omega
  have a1 : (a : Int) ≤ (s.size : Int) := by omega
  obtain ⟨w2, hw2⟩ : ∃ w2, (w.alloc (.cells #[.int .i64 0, .int .i64 0, .string ⟨#[]⟩, .bool false, .int .i64 0] 29)).alloc (.cells #[.int .i64 1, .int .i64 0, .string ⟨#[]⟩, .bool false, .int .i64 0] 29) = w2 := ⟨_, rfl⟩
  have HR : Hid (w2.heap[w.heap.size]? = some (.cells vZero.cs 29 (0, 0))) := hide (hw2 ▸ block_alloc (Vnew1 w _) _)
  have HV : Hid (w2.heap[w.heap.size + 1]? = some (.cells (Vl.mk 1 0 [] false 0).cs 29 (0, 0))) := hide (hw2 ▸ Vnew2 w _ _)
  have HUV : Hid (Upd w w2 (fun _ => False)) := hide (hw2 ▸ ((Upd.refl w _).alloc _).alloc _)
  have HW2 := hide hw2
  clear hw2
  go_enter Tryz.func41, Tryz.ntmps41
  go_wp2_with fail
  go_loopg [10, 11] 8 (fun qq xv iv wr => ∃ j : Nat, j + qq = 8 ∧ iv = .int .i64 ((j : Int) + 1) ∧ xv = .int .u64 (natOf (q.take j) : Int) ∧ wr = w2)
  case atStart => exact ⟨0, by omega, by rfl, by rfl, HW2.out⟩
  case round =>
    obtain ⟨j, hj, rfl, rfl, hw⟩ := hrel
    replace hw := hw.symm
    subst hw
    by_cases hj8 : j < 8
    · obtain ⟨c, hc⟩ : ∃ c, q[j]? = some c := ⟨_, List.getElem?_eq_getElem (by rw [HQ8.out]; exact hj8)⟩
      have hjz : j + 1 < z.size := by omega
      have hx := HQZ.out j c hc hjz
      obtain ⟨hb1, hb2⟩ := natOf_step HQ8.out hc
      have c255 : c.toNat < 256 := c.toNat_lt
      obtain ⟨X, hX⟩ : ∃ X, natOf (q.take j) = X := ⟨_, rfl⟩
      have hsa : IntKind.u64.wrap (256 * (X : Int)) = 256 * (X : Int) := u64_wrap_id _ (by omega) (by omega)
      have hsb : IntKind.u64.wrap (256 * (X : Int) + (c.toNat : Int)) = ((natOf (q.take (j + 1)) : Nat) : Int) := by
        rw [hb2, hX, u64_wrap_id _ (by omega) (by omega)]
        omega
      rw [hX]
      have b1 : decide ((j : Int) + 1 < 9) = true := decide_eq_true (by omega)
      have hji : (0 : Int) ≤ (j : Int) + 1 := by omega
      have hji2 : (j : Int) + 1 < (z.size : Int) := by omega
      have hji3 : ((j : Int) + 1).toNat = j + 1 := by omega
      clear hb1 hb2 hc hX
      go_wp2_with fail
      go_roundg (gk - 1)
      case measure => omega
      case rel => exact ⟨j + 1, by omega, by first | rfl | go_num, by first | rfl | (rw [hsb]), rfl⟩
    · obtain rfl : j = 8 := by omega
      have e8 : q.take 8 = q := List.take_of_length_le (by rw [HQ8.out]; decide)
      rw [e8]
      have bV := HV.out
      obtain ⟨c0, c1, c2, c3, c4⟩ := cells5 bV
      have xl := lt_at bV
      have v1 := free_at bV 1
      have hm := HM.out
      clear bV e8
      go_wp2_with fail
      refine Calls.mono (GA _) ?_
      rintro e w3 ⟨rfl, u3⟩
      have uS : Upd w2 (w2.setCell ⟨w.heap.size + 1, 1, none⟩ (.int .i64 M)) (fun k => k = w.heap.size + 1) := (Upd.refl w2 _).setCell _ _ (.inr rfl)
      have bR := u3.get (uS.get HR.out (by omega)) id
      have bW := u3.get (block_setCell HV.out 1 (.int .i64 M)) id
      have HU3 : Hid (Upd w w3 (fun _ => False)) := hide ((HUV.out.setCell ⟨w.heap.size + 1, 1, none⟩ (.int .i64 M) (.inl (by show w.heap.size ≤ w.heap.size + 1; omega))).then u3 (fun _ _ => id))
      clear c0 c1 c2 c3 c4 xl v1 u3 uS GA
      have bW' : w3.heap[w.heap.size + 1]? = some (.cells #[.int .i64 1, .int .i64 M, .string ⟨#[]⟩, .bool false, .int .i64 0] 29 (0, 0)) := bW
      obtain ⟨e0, e1, e2, e3, e4⟩ := cells5 bW'
      have vl := lt_at bW'
      obtain ⟨c0, c1, c2, c3, c4⟩ := cells5 bR
      have xl := lt_at bR
      have f0 := free_at bR 0
      have f1 := free_at bR 1
      have f2 := free_at bR 2
      have f3 := free_at bR 3
      have f4 := free_at bR 4
      have HBR := hide bR
      clear bW bW' bR
      go_wp2_with fail
      (try simp only [Exit.inBlock, Exit.then])
      refine bodyPost_ret (ret_rget rfl _ _ w.heap.size ⟨0, 0, [], false, 0⟩ rfl (rblock5 HBR.out _ _ _ _ _)) rfl ?_
      exact ⟨rfl, upd5 HU3.out (Nat.le_refl _) _ _ _ _ _⟩
end Go.Proofs.YthahgablbdfodaaGreatDoor
