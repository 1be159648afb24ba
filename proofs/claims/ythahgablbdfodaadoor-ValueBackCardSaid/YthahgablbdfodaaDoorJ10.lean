/- The walk of package value's told. -/
import Derived.Test.YthahgablbdfodaaDoorJ09
import Derived.Lib.EndianBits
import Derived.Test.YthahgablbdfodaaDoorJ02
/- The walk of package value's told. -/
set_option maxRecDepth 100000
namespace Go.Proofs.YthahgablbdfodaaDoor
open Go.RowKit Go.Lat Go.Lib

set_option maxHeartbeats 1600000 in
theorem told_blank (w : World) (z : ByteArray) (h0 : 0 < z.size) (hk : z[0].toNat = 0) :
    Calls Tryd.prog 25 #[.string z] w fun e w' => e = .returned vZero.val ∧ Upd w w' (fun _ => False) := by
  go_enter Tryd.func25, Tryd.ntmps25
  go_wp2_with fail
  (try simp only [Exit.inBlock, Exit.then])
  refine bodyPost_ret (ret_vl rfl _ _ w.heap.size ⟨0, 0, [], false, 0⟩ rfl (block_alloc (Vnew1 w _) _)) rfl ?_
  exact ⟨rfl, ((Upd.refl w _).alloc _).alloc _⟩
set_option maxHeartbeats 1600000 in
theorem told_text (w : World) (z q : ByteArray) (h0 : 0 < z.size) (hk : z[0].toNat = 2) (h2 : 2 ≤ z.size) (hq : z.extract 2 z.size = q) :
    Calls Tryd.prog 25 #[.string z] w fun e w' => e = .returned (Vl.mk 2 0 q.data.toList false 0).val ∧ Upd w w' (fun _ => False) := by
  have e := enS_bk q
  unfold Vl.val
  simp only [e]
  clear e
  go_enter Tryd.func25, Tryd.ntmps25
  go_wp2_with fail
  (try simp only [Exit.inBlock, Exit.then])
  refine bodyPost_ret (results_cell_row rfl _ _ w.heap.size 28 #[.int .i64 2, .int .i64 0, .string q, .bool false, .int .i64 0] (0, 0) _ rfl (block_alloc (Vnew1 w _) _) Tryd.underlying28 rfl Tryd.infoV) rfl ?_
  exact ⟨rfl, ((Upd.refl w _).alloc _).alloc _⟩
set_option maxHeartbeats 1600000 in
theorem told_bool (w : World) (z : ByteArray) (h0 : 0 < z.size) (hk : z[0].toNat = 3) (h1 : 1 < z.size) (b : Bool) (hb : ((z[1].toNat : Int) == 1) = b) :
    Calls Tryd.prog 25 #[.string z] w fun e w' => e = .returned (Vl.mk 3 0 [] b 0).val ∧ Upd w w' (fun _ => False) := by
  go_enter Tryd.func25, Tryd.ntmps25
  go_wp2_with fail
  (try simp only [Exit.inBlock, Exit.then])
  refine bodyPost_ret (ret_vl rfl _ _ w.heap.size ⟨3, 0, [], b, 0⟩ rfl (block_alloc (Vnew1 w _) _)) rfl ?_
  exact ⟨rfl, ((Upd.refl w _).alloc _).alloc _⟩
set_option maxHeartbeats 1600000 in
theorem told_err (w : World) (z : ByteArray) (h0 : 0 < z.size) (hk : z[0].toNat = 4) (h1 : 1 < z.size) (f : Nat) (hf : z[1].toNat = f) (hw : wrap64 (f : Int) = (f : Int)) :
    Calls Tryd.prog 25 #[.string z] w fun e w' => e = .returned (Vl.mk 4 0 [] false (f : Int)).val ∧ Upd w w' (fun _ => False) := by
  go_enter Tryd.func25, Tryd.ntmps25
  go_wp2_with fail
  (try simp only [Exit.inBlock, Exit.then])
  refine bodyPost_ret (ret_vl rfl _ _ w.heap.size ⟨4, 0, [], false, (f : Int)⟩ rfl (block_alloc (Vnew1 w _) _)) rfl ?_
  exact ⟨rfl, ((Upd.refl w _).alloc _).alloc _⟩

/-- The number of bytes, the highest first. -/
def natOf (l : List UInt8) : Nat := l.foldl (fun n b => n * 256 + b.toNat) 0
theorem natOf_snoc (l : List UInt8) (b : UInt8) : natOf (l ++ [b]) = natOf l * 256 + b.toNat := by
  unfold natOf
  rw [List.foldl_append]
  rfl
theorem natOf_lt' : ∀ (l : List UInt8) (n : Nat), l.foldl (fun n b => n * 256 + b.toNat) n < (n + 1) * 256 ^ l.length
  | [], n => by simp
  | b :: l, n => by
    have h := natOf_lt' l (n * 256 + b.toNat)
    have hb := b.toNat_lt
    rw [List.foldl_cons, List.length_cons, Nat.pow_succ]
    have h2 : (n * 256 + b.toNat + 1) * 256 ^ l.length ≤ ((n + 1) * 256) * 256 ^ l.length := Nat.mul_le_mul_right _ (by omega)
    have h3 : (n + 1) * (256 ^ l.length * 256) = ((n + 1) * 256) * 256 ^ l.length := by rw [Nat.mul_comm (256 ^ l.length) 256, Nat.mul_assoc]
    omega
theorem natOf_lt (l : List UInt8) : natOf l < 256 ^ l.length := by
  have h := natOf_lt' l 0
  rw [Nat.zero_add, Nat.one_mul] at h
  exact h
/-- The number of eight bytes. -/
def numOf (l : List UInt8) : Int := IntKind.i64.wrap (natOf l : Int)
theorem shl_or (x c : Nat) (hx : x * 256 < 18446744073709551616) (hc : c < 256) : bits BinOp.or IntKind.u64 (IntKind.u64.wrap ((x : Int) * 256)) (c : Int) = ((x * 256 + c : Nat) : Int) := by
  rw [u64_wrap_id _ (by omega) (by omega)]
  rw [bits_join .u64 64 (by decide) wraps_u64 8 _ _ (by omega) (by omega) (by omega) (by omega) (by omega) (by omega)]
  omega
theorem natOf_step {l : List UInt8} (hl : l.length = 8) {j : Nat} {c : UInt8} (hc : l[j]? = some c) : natOf (l.take j) * 256 < 18446744073709551616 ∧ natOf (l.take (j + 1)) = natOf (l.take j) * 256 + c.toNat := by
  have hj : j < 8 := by rw [← hl]; exact (List.getElem?_eq_some_iff.1 hc).1
  constructor
  · have h := natOf_lt (l.take j)
    have h2 : (l.take j).length = j := by rw [List.length_take]; omega
    rw [h2] at h
    have h3 : 256 ^ (j + 1) ≤ 256 ^ 8 := Nat.pow_le_pow_right (by decide) (by omega)
    have h4 : (256 : Nat) ^ 8 = 18446744073709551616 := by decide
    rw [Nat.pow_succ] at h3
    omega
  · rw [List.take_add_one, hc]
    exact natOf_snoc _ _
set_option maxHeartbeats 3200000 in
theorem told_num (w : World) (z q : ByteArray) (h0 : 0 < z.size) (hk : z[0].toNat = 1) (hq : z.extract 1 z.size = q) (hq8 : q.size = 8) :
    Calls Tryd.prog 25 #[.string z] w fun e w' => e = .returned (Vl.mk 1 (numOf q.data.toList) [] false 0).val ∧ Upd w w' (fun _ => False) := by
  have h1z : (1 : Int) ≤ (z.size : Int) := by omega
  obtain ⟨w2, hw2⟩ : ∃ w2, (w.alloc (.cells #[.int .i64 0, .int .i64 0, .string ⟨#[]⟩, .bool false, .int .i64 0] 28)).alloc (.cells #[.int .i64 1, .int .i64 0, .string ⟨#[]⟩, .bool false, .int .i64 0] 28) = w2 := ⟨_, rfl⟩
  have bR : w2.heap[w.heap.size]? = some (.cells vZero.cs 28 (0, 0)) := hw2 ▸ block_alloc (Vnew1 w _) _
  have bV : w2.heap[w.heap.size + 1]? = some (.cells (Vl.mk 1 0 [] false 0).cs 28 (0, 0)) := hw2 ▸ Vnew2 w _ _
  have uV : Upd w w2 (fun _ => False) := hw2 ▸ ((Upd.refl w _).alloc _).alloc _
  have KW := Lib.run_convert_string_bytes (P := Tryd.prog) w2 9 55 5 q Tryd.underlying9 Tryd.underlying55 Tryd.underlying5
  have hB := Buf.made w2 5 q
  have hU := Buf.world w2 5 q
  obtain ⟨W, hW⟩ : ∃ W, bytesWorld w2 5 q = W := ⟨_, rfl⟩
  rw [hW] at hB hU KW
  obtain ⟨cap, hcap⟩ : ∃ cap, grownCap w2 q.size 0 5 = cap := ⟨_, rfl⟩
  rw [hcap, hq8] at KW
  obtain ⟨l, hl2⟩ : ∃ l, q.data.toList = l := ⟨_, rfl⟩
  have hl : l.length = 8 := by rw [← hl2, ← hq8]; rfl
  rw [hl2] at hB ⊢
  have hU2 : w2.heap.size ≤ W.heap.size := hU.size
  have gl := hB.lt
  obtain ⟨g, hg⟩ : ∃ g, w2.heap.size = g := ⟨_, rfl⟩
  rw [hg] at KW hB gl
  rw [← hw2] at KW
  have HB0 := hide hB
  have HL := hide hl
  have HU := hide hU
  have HR := hide bR
  have HV := hide bV
  have HUV := hide uV
  clear hW hcap hB hU hl hl2 bR bV uV hg hU2 hw2
  go_enter Tryd.func25, Tryd.ntmps25
  go_wp2_with fail
  obtain ⟨g, hg⟩ : ∃ g, w2.heap.size = g := ⟨_, rfl⟩
  have HG := hide hg
  clear KW
  go_loopg [4, 19] 8 (fun q v iv wr => ∃ j : Nat, j + q = 8 ∧ iv = .int .i64 (j : Int) ∧ v = .int .u64 (natOf (l.take j) : Int) ∧ wr = W)
  case atStart => exact ⟨0, by omega, by rfl, by rfl, by rfl⟩
  case round =>
    obtain ⟨j, hj, rfl, rfl, hw⟩ := hrel
    replace hw := hw.symm
    subst hw
    by_cases hj8 : j < 8
    · obtain ⟨c, hc⟩ : ∃ c, l[j]? = some c := ⟨_, List.getElem?_eq_getElem (by rw [HL.out]; exact hj8)⟩
      have c0 := HB0.out.cell hc
      have hi0 : (0 : Int) ≤ (j : Int) := by omega
      have hi1 : (j : Int) < 8 := by omega
      obtain ⟨hb1, hb2⟩ := natOf_step HL.out hc
      have hso := shl_or (natOf (l.take j)) c.toNat hb1 c.toNat_lt
      rw [← hb2] at hso
      have c255 : c.toNat < 256 := c.toNat_lt
      clear hb1 hb2
      go_wp2_with fail
      go_roundg (gk - 1)
      case measure => omega
      case rel => exact ⟨j + 1, by omega, by first | rfl | go_num, by first | rfl | (rw [hso]), rfl⟩
    · obtain rfl : j = 8 := by omega
      have e8 : l.take 8 = l := List.take_of_length_le (by rw [HL.out]; decide)
      rw [e8]
      have bV := HU.out.get HV.out id
      obtain ⟨c0, c1, c2, c3, c4⟩ := cells5 bV
      have xl := lt_at bV
      have v1 := free_at bV 1
      have bR := HU.out.get HR.out id
      obtain ⟨d0, d1, d2, d3, d4⟩ := cells5 bR
      have yl := lt_at bR
      have f0 := free_at bR 0
      have f1 := free_at bR 1
      have f2 := free_at bR 2
      have f3 := free_at bR 3
      have f4 := free_at bR 4
      have HBR := hide bR
      clear bV bR e8
      obtain ⟨N, hN⟩ : ∃ N : Int, (natOf l : Int) = N := ⟨_, rfl⟩
      rw [hN]
      have HN := hide hN
      clear hN
      go_wp2_with fail
      (try simp only [Exit.inBlock, Exit.then])
      have uS : Upd W (W.setCell ⟨w.heap.size + 1, 1, none⟩ (.int .i64 (wrap64 N))) (fun k => k = w.heap.size + 1) := (Upd.refl W _).setCell _ _ (.inr rfl)
      refine bodyPost_ret (ret_vl rfl _ _ w.heap.size ⟨1, wrap64 N, [], false, 0⟩ rfl (block5 (uS.get HBR.out (by omega)) _ _ _ _ _)) rfl ?_
      refine ⟨by rw [show numOf l = wrap64 N from by unfold numOf; rw [HN.out, IntWalk.i64_left]], upd5 ?_ (Nat.le_refl _) _ _ _ _ _⟩
      exact (HUV.out.then HU.out (fun _ _ => id)).setCell _ _ (.inl (by show w.heap.size ≤ w.heap.size + 1; omega))
end Go.Proofs.YthahgablbdfodaaDoor
/- The walk of package value's Get, given what long, told and Put answer. -/
set_option maxRecDepth 100000
namespace Go.Lat
theorem results_cell_tmp2_row {P : Program} {fn : Func} {p q r : Tmp} {ty : TypeId} (h : fn.results = #[.cell p ty, .tmp q, .tmp r]) (tmps : Array Value) (w : World) (g : Nat) (t : TypeId) (cs : Array Value) (fr : Nat × Nat) (d : TypeDesc)
    (hp : tmps.getD p undef = .pointer (some ⟨g, 0, none⟩)) (hg : w.heap[g]? = some (.cells cs t fr))
    (hu : P.underlying ty = some d) (hd : (match d with | .struct _ | .array _ _ => true | _ => false) = true) (hi : (P.info? ty).map (·.size) = some cs.size) :
    (results fn tmps).run P w = .ok (.tuple #[.agg cs, tmps.getD q undef, tmps.getD r undef]) w := by
  have hp' : tmps[p]?.getD undef = .pointer (some ⟨g, 0, none⟩) := by simpa using hp
  simp [results, h, hp', asAddr, run_loadVar_row w g t ty cs fr d hg hu hd hi, Result.andThen]
end Go.Lat
namespace Go.Proofs.YthahgablbdfodaaDoor
open Go.RowKit Go.Lat Go.Lib

abbrev GetPost (w : World) (v : Vl) (n e : Int) : Ending → World → Prop := fun x w' => x = .returned (.tuple #[v.val, .int .i64 n, .int .i64 e]) ∧ Upd w w' (fun _ => False)
theorem ret_get {fn : Func} {p q r : Tmp} (h : fn.results = #[.cell p 28, .tmp q, .tmp r]) (tmps : Array Value) (W : World) (g : Nat) (x : Vl) (hp : tmps.getD p undef = .pointer (some ⟨g, 0, none⟩)) (hg : W.heap[g]? = some (.cells x.cs 28 (0, 0))) :
    (results fn tmps).run Tryd.prog W = .ok (.tuple #[x.val, tmps.getD q undef, tmps.getD r undef]) W :=
  results_cell_tmp2_row h tmps W g 28 x.cs (0, 0) _ hp hg Tryd.underlying28 rfl Tryd.infoV

set_option maxHeartbeats 1600000 in
theorem Get_out (w : World) (s : ByteArray) (a : Int) (h : (decide (a < 0) = true) ∨ (decide (a < 0) = false ∧ decide (a > (s.size : Int)) = true)) :
    Calls Tryd.prog 10 #[.string s, .int .i64 a] w (GetPost w vZero 0 3) := by
  rcases h with h | ⟨h, h'⟩
  all_goals (go_enter Tryd.func10, Tryd.ntmps10)
  all_goals (go_wp2_with fail)
  all_goals (try simp only [Exit.inBlock, Exit.then])
  all_goals refine bodyPost_ret (ret_get rfl _ _ w.heap.size ⟨0, 0, [], false, 0⟩ rfl (Vnew1 w _)) rfl ?_
  all_goals exact ⟨rfl, (Upd.refl w _).alloc _⟩
set_option maxHeartbeats 1600000 in
theorem Get_empty (w : World) (s : ByteArray) (a : Nat) (ha : a ≤ s.size) (hz : s.extract a s.size = ⟨#[]⟩) :
    Calls Tryd.prog 10 #[.string s, .int .i64 (a : Int)] w (GetPost w vZero 0 4) := by
  have d1 : decide ((a : Int) < 0) = false := decide_eq_false (by omega)
  have d2 : decide ((a : Int) > (s.size : Int)) = false := decide_eq_false (by omega)
  have d3 : decide (s.size < a) = false := decide_eq_false (by omega)
  have a0 : (0 : Int) ≤ (a : Int) := by omega
  have a1 : (a : Int) ≤ (s.size : Int) := by omega
  go_enter Tryd.func10, Tryd.ntmps10
  go_wp2_with fail
  (try simp only [Exit.inBlock, Exit.then])
  refine bodyPost_ret (ret_get rfl _ _ w.heap.size ⟨0, 0, [], false, 0⟩ rfl (Vnew1 w _)) rfl ?_
  exact ⟨rfl, (Upd.refl w _).alloc _⟩
set_option maxHeartbeats 1600000 in
theorem Get_untold (w : World) (s : ByteArray) (a : Nat) (ha : a ≤ s.size) (l : List UInt8) (hz : s.extract a s.size = ⟨l.toArray⟩) (hl : (l == []) = false) (N : Int) (L : ∀ w, Calls Tryd.prog 24 #[enS l] w fun e w' => e = .returned (.tuple #[.int .i64 N, .bool false]) ∧ w' = w) :
    Calls Tryd.prog 10 #[.string s, .int .i64 (a : Int)] w (GetPost w vZero 0 4) := by
  have d1 : decide ((a : Int) < 0) = false := decide_eq_false (by omega)
  have d2 : decide ((a : Int) > (s.size : Int)) = false := decide_eq_false (by omega)
  have d3 : decide (s.size < a) = false := decide_eq_false (by omega)
  have a0 : (0 : Int) ≤ (a : Int) := by omega
  have a1 : (a : Int) ≤ (s.size : Int) := by omega
  go_enter Tryd.func10, Tryd.ntmps10
  go_wp2_with fail
  refine Calls.mono (L _) ?_
  rintro e w1 ⟨rfl, hw⟩
  replace hw := hw.symm
  subst hw
  go_wp2_with fail
  (try simp only [Exit.inBlock, Exit.then])
  refine bodyPost_ret (ret_get rfl _ _ w.heap.size ⟨0, 0, [], false, 0⟩ rfl (Vnew1 w _)) rfl ?_
  exact ⟨rfl, (Upd.refl w _).alloc _⟩
set_option maxHeartbeats 1600000 in
theorem Get_short (w : World) (s : ByteArray) (a : Nat) (ha : a ≤ s.size) (l : List UInt8) (hz : s.extract a s.size = ⟨l.toArray⟩) (hl : (l == []) = false) (N : Nat) (hN : l.length ≤ N) (L : ∀ w, Calls Tryd.prog 24 #[enS l] w fun e w' => e = .returned (.tuple #[.int .i64 (N : Int), .bool true]) ∧ w' = w) :
    Calls Tryd.prog 10 #[.string s, .int .i64 (a : Int)] w (GetPost w vZero 0 4) := by
  have d4 : decide ((l.length : Int) ≤ (N : Int)) = true := decide_eq_true (by omega)
  have d5 : decide (l.length ≤ N) = true := decide_eq_true hN
  have d1 : decide ((a : Int) < 0) = false := decide_eq_false (by omega)
  have d2 : decide ((a : Int) > (s.size : Int)) = false := decide_eq_false (by omega)
  have d3 : decide (s.size < a) = false := decide_eq_false (by omega)
  have a0 : (0 : Int) ≤ (a : Int) := by omega
  have a1 : (a : Int) ≤ (s.size : Int) := by omega
  go_enter Tryd.func10, Tryd.ntmps10
  go_wp2_with fail
  refine Calls.mono (L _) ?_
  rintro e w1 ⟨rfl, hw⟩
  replace hw := hw.symm
  subst hw
  go_wp2_with fail
  (try simp only [Exit.inBlock, Exit.then])
  refine bodyPost_ret (ret_get rfl _ _ w.heap.size ⟨0, 0, [], false, 0⟩ rfl (Vnew1 w _)) rfl ?_
  exact ⟨rfl, (Upd.refl w _).alloc _⟩
set_option maxHeartbeats 3200000 in
theorem Get_bad1 (w : World) (s : ByteArray) (a : Nat) (ha : a ≤ s.size) (l : List UInt8) (hz : s.extract a s.size = ⟨l.toArray⟩) (hl : (l == []) = false) (N : Nat) (hN : N < l.length) (hN2 : N ≤ 1000) (L : ∀ w, Calls Tryd.prog 24 #[enS l] w fun e w' => e = .returned (.tuple #[.int .i64 (N : Int), .bool true]) ∧ w' = w)
    (hd : List UInt8) (hh : (⟨l.toArray⟩ : ByteArray).extract 0 (1 + N) = ⟨hd.toArray⟩) (k n : Int) (t : List UInt8) (b : Bool) (f : Int) (T : ∀ w, Calls Tryd.prog 25 #[enS hd] w fun e w' => e = .returned (Vl.mk k n t b f).val ∧ Upd w w' (fun _ => False))
    (p : List UInt8) (E : Int) (PU : ∀ w, Calls Tryd.prog 8 #[(Vl.mk k n t b f).val] w (PutPost w (p, E))) (hE : (E != 0) = true) :
    Calls Tryd.prog 10 #[.string s, .int .i64 (a : Int)] w (GetPost w vZero 0 4) := by
  have d4 : decide ((l.length : Int) ≤ (N : Int)) = false := decide_eq_false (by omega)
  have d5 : decide (l.length ≤ N) = false := decide_eq_false (by omega)
  have hw1 : IntKind.i64.wrap (1 + (N : Int)) = ((1 + N : Nat) : Int) := by rw [IntWalk.i64_in _ (by omega)]; omega
  have m0 : (0 : Int) ≤ ((1 + N : Nat) : Int) := by omega
  have m1 : ((1 + N : Nat) : Int) ≤ (l.length : Int) := by omega
  obtain ⟨M, hM⟩ : ∃ M, 1 + N = M := ⟨_, rfl⟩
  rw [hM] at hw1 m0 m1 hh
  unfold Vl.val at T PU
  simp only at T PU
  have HM := hide hM
  clear hM
  have d1 : decide ((a : Int) < 0) = false := decide_eq_false (by omega)
  have d2 : decide ((a : Int) > (s.size : Int)) = false := decide_eq_false (by omega)
  have d3 : decide (s.size < a) = false := decide_eq_false (by omega)
  have a0 : (0 : Int) ≤ (a : Int) := by omega
  have a1 : (a : Int) ≤ (s.size : Int) := by omega
  go_enter Tryd.func10, Tryd.ntmps10
  go_wp2_with fail
  refine Calls.mono (L _) ?_
  rintro e w1 ⟨rfl, hw⟩
  replace hw := hw.symm
  subst hw
  go_wp2_with fail
  refine Calls.mono (T _) ?_
  rintro e w2 ⟨rfl, u2⟩
  have HZ := hide (u2.get (Vnew1 w (.cells vZero.cs 28)) id)
  have HU := hide (((Upd.refl w _).alloc _).then u2 (fun _ _ => id))
  clear u2 T L
  go_wp2_with fail
  refine Calls.mono (PU _) ?_
  rintro e w3 ⟨rfl, u3⟩
  have bZ := u3.get (block_alloc HZ.out (.cells (Vl.mk k n t b f).cs 28)) id
  obtain ⟨c0, c1, c2, c3, c4⟩ := cells5 bZ
  have xl := lt_at bZ
  have f0 := free_at bZ 0
  have f1 := free_at bZ 1
  have f2 := free_at bZ 2
  have f3 := free_at bZ 3
  have f4 := free_at bZ 4
  have bV := u3.get (Vnew1 w2 (.cells (Vl.mk k n t b f).cs 28)) id
  obtain ⟨e0, e1, e2, e3, e4⟩ := cells5 bV
  have vl := lt_at bV
  have HBZ := hide bZ
  have HU3 := hide ((HU.out.alloc _).then u3 (fun _ _ => id))
  clear u3 PU HZ HU bZ bV
  go_wp2_with fail
  (try simp only [Exit.inBlock, Exit.then])
  refine bodyPost_ret (ret_get rfl _ _ w.heap.size ⟨0, 0, [], false, 0⟩ rfl (block5 HBZ.out _ _ _ _ _)) rfl ?_
  exact ⟨rfl, upd5 HU3.out (Nat.le_refl _) _ _ _ _ _⟩
set_option maxHeartbeats 3200000 in
theorem Get_bad2 (w : World) (s : ByteArray) (a : Nat) (ha : a ≤ s.size) (l : List UInt8) (hz : s.extract a s.size = ⟨l.toArray⟩) (hl : (l == []) = false) (N : Nat) (hN : N < l.length) (hN2 : N ≤ 1000) (L : ∀ w, Calls Tryd.prog 24 #[enS l] w fun e w' => e = .returned (.tuple #[.int .i64 (N : Int), .bool true]) ∧ w' = w)
    (hd : List UInt8) (hh : (⟨l.toArray⟩ : ByteArray).extract 0 (1 + N) = ⟨hd.toArray⟩) (k n : Int) (t : List UInt8) (b : Bool) (f : Int) (T : ∀ w, Calls Tryd.prog 25 #[enS hd] w fun e w' => e = .returned (Vl.mk k n t b f).val ∧ Upd w w' (fun _ => False))
    (p : List UInt8) (E : Int) (PU : ∀ w, Calls Tryd.prog 8 #[(Vl.mk k n t b f).val] w (PutPost w (p, E))) (hE : (E != 0) = false) (hp : (p == hd) = false) :
    Calls Tryd.prog 10 #[.string s, .int .i64 (a : Int)] w (GetPost w vZero 0 4) := by
  have d4 : decide ((l.length : Int) ≤ (N : Int)) = false := decide_eq_false (by omega)
  have d5 : decide (l.length ≤ N) = false := decide_eq_false (by omega)
  have hw1 : IntKind.i64.wrap (1 + (N : Int)) = ((1 + N : Nat) : Int) := by rw [IntWalk.i64_in _ (by omega)]; omega
  have m0 : (0 : Int) ≤ ((1 + N : Nat) : Int) := by omega
  have m1 : ((1 + N : Nat) : Int) ≤ (l.length : Int) := by omega
  obtain ⟨M, hM⟩ : ∃ M, 1 + N = M := ⟨_, rfl⟩
  rw [hM] at hw1 m0 m1 hh
  unfold Vl.val at T PU
  simp only at T PU
  have HM := hide hM
  clear hM
  have d1 : decide ((a : Int) < 0) = false := decide_eq_false (by omega)
  have d2 : decide ((a : Int) > (s.size : Int)) = false := decide_eq_false (by omega)
  have d3 : decide (s.size < a) = false := decide_eq_false (by omega)
  have a0 : (0 : Int) ≤ (a : Int) := by omega
  have a1 : (a : Int) ≤ (s.size : Int) := by omega
  go_enter Tryd.func10, Tryd.ntmps10
  go_wp2_with fail
  refine Calls.mono (L _) ?_
  rintro e w1 ⟨rfl, hw⟩
  replace hw := hw.symm
  subst hw
  go_wp2_with fail
  refine Calls.mono (T _) ?_
  rintro e w2 ⟨rfl, u2⟩
  have HZ := hide (u2.get (Vnew1 w (.cells vZero.cs 28)) id)
  have HU := hide (((Upd.refl w _).alloc _).then u2 (fun _ _ => id))
  clear u2 T L
  go_wp2_with fail
  refine Calls.mono (PU _) ?_
  rintro e w3 ⟨rfl, u3⟩
  have bZ := u3.get (block_alloc HZ.out (.cells (Vl.mk k n t b f).cs 28)) id
  obtain ⟨c0, c1, c2, c3, c4⟩ := cells5 bZ
  have xl := lt_at bZ
  have f0 := free_at bZ 0
  have f1 := free_at bZ 1
  have f2 := free_at bZ 2
  have f3 := free_at bZ 3
  have f4 := free_at bZ 4
  have bV := u3.get (Vnew1 w2 (.cells (Vl.mk k n t b f).cs 28)) id
  obtain ⟨e0, e1, e2, e3, e4⟩ := cells5 bV
  have vl := lt_at bV
  have HBZ := hide bZ
  have HU3 := hide ((HU.out.alloc _).then u3 (fun _ _ => id))
  clear u3 PU HZ HU bZ bV
  go_wp2_with fail
  (try simp only [Exit.inBlock, Exit.then])
  refine bodyPost_ret (ret_get rfl _ _ w.heap.size ⟨0, 0, [], false, 0⟩ rfl (block5 HBZ.out _ _ _ _ _)) rfl ?_
  exact ⟨rfl, upd5 HU3.out (Nat.le_refl _) _ _ _ _ _⟩
set_option maxHeartbeats 3200000 in
theorem Get_good (w : World) (s : ByteArray) (a : Nat) (ha : a ≤ s.size) (l : List UInt8) (hz : s.extract a s.size = ⟨l.toArray⟩) (hl : (l == []) = false) (N : Nat) (hN : N < l.length) (hN2 : N ≤ 1000) (L : ∀ w, Calls Tryd.prog 24 #[enS l] w fun e w' => e = .returned (.tuple #[.int .i64 (N : Int), .bool true]) ∧ w' = w)
    (hd : List UInt8) (hh : (⟨l.toArray⟩ : ByteArray).extract 0 (1 + N) = ⟨hd.toArray⟩) (k n : Int) (t : List UInt8) (b : Bool) (f : Int) (T : ∀ w, Calls Tryd.prog 25 #[enS hd] w fun e w' => e = .returned (Vl.mk k n t b f).val ∧ Upd w w' (fun _ => False))
    (p : List UInt8) (E : Int) (PU : ∀ w, Calls Tryd.prog 8 #[(Vl.mk k n t b f).val] w (PutPost w (p, E))) (hs : s.size ≤ 1000000) (hE : (E != 0) = false) (hp : (p == hd) = true) :
    Calls Tryd.prog 10 #[.string s, .int .i64 (a : Int)] w (GetPost w ⟨k, n, t, b, f⟩ ((a : Int) + 1 + (N : Int)) 0) := by
  have d4 : decide ((l.length : Int) ≤ (N : Int)) = false := decide_eq_false (by omega)
  have d5 : decide (l.length ≤ N) = false := decide_eq_false (by omega)
  have hw1 : IntKind.i64.wrap (1 + (N : Int)) = ((1 + N : Nat) : Int) := by rw [IntWalk.i64_in _ (by omega)]; omega
  have m0 : (0 : Int) ≤ ((1 + N : Nat) : Int) := by omega
  have m1 : ((1 + N : Nat) : Int) ≤ (l.length : Int) := by omega
  obtain ⟨M, hM⟩ : ∃ M, 1 + N = M := ⟨_, rfl⟩
  rw [hM] at hw1 m0 m1 hh
  have hwa : IntKind.i64.wrap ((a : Int) + 1) = (a : Int) + 1 := IntWalk.i64_in _ (by omega)
  have hwb : IntKind.i64.wrap ((a : Int) + 1 + (N : Int)) = (a : Int) + 1 + (N : Int) := IntWalk.i64_in _ (by omega)
  unfold Vl.val at T PU
  simp only at T PU
  have HM := hide hM
  clear hM
  have d1 : decide ((a : Int) < 0) = false := decide_eq_false (by omega)
  have d2 : decide ((a : Int) > (s.size : Int)) = false := decide_eq_false (by omega)
  have d3 : decide (s.size < a) = false := decide_eq_false (by omega)
  have a0 : (0 : Int) ≤ (a : Int) := by omega
  have a1 : (a : Int) ≤ (s.size : Int) := by omega
  go_enter Tryd.func10, Tryd.ntmps10
  go_wp2_with fail
  refine Calls.mono (L _) ?_
  rintro e w1 ⟨rfl, hw⟩
  replace hw := hw.symm
  subst hw
  go_wp2_with fail
  refine Calls.mono (T _) ?_
  rintro e w2 ⟨rfl, u2⟩
  have HZ := hide (u2.get (Vnew1 w (.cells vZero.cs 28)) id)
  have HU := hide (((Upd.refl w _).alloc _).then u2 (fun _ _ => id))
  clear u2 T L
  go_wp2_with fail
  refine Calls.mono (PU _) ?_
  rintro e w3 ⟨rfl, u3⟩
  have bZ := u3.get (block_alloc HZ.out (.cells (Vl.mk k n t b f).cs 28)) id
  obtain ⟨c0, c1, c2, c3, c4⟩ := cells5 bZ
  have xl := lt_at bZ
  have f0 := free_at bZ 0
  have f1 := free_at bZ 1
  have f2 := free_at bZ 2
  have f3 := free_at bZ 3
  have f4 := free_at bZ 4
  have bV := u3.get (Vnew1 w2 (.cells (Vl.mk k n t b f).cs 28)) id
  obtain ⟨e0, e1, e2, e3, e4⟩ := cells5 bV
  have vl := lt_at bV
  have HBZ := hide bZ
  have HU3 := hide ((HU.out.alloc _).then u3 (fun _ _ => id))
  clear u3 PU HZ HU bZ bV
  go_wp2_with fail
  (try simp only [Exit.inBlock, Exit.then])
  refine bodyPost_ret (ret_get rfl _ _ w.heap.size ⟨k, n, t, b, f⟩ rfl (block5 HBZ.out _ _ _ _ _)) rfl ?_
  exact ⟨rfl, upd5 HU3.out (Nat.le_refl _) _ _ _ _ _⟩
end Go.Proofs.YthahgablbdfodaaDoor
/- The walk of the reference's Put at every value. -/
set_option maxRecDepth 100000
namespace Go.Proofs.YthahgablbdfodaaDoor
open Go.RowKit Go.Lat Go.Lib

theorem good_N {n : Int} (h : okNum n = true) : goodV ⟨1, n, [], false, 0⟩ = true := by
  have e : mkN n = ⟨1, n, [], false, 0⟩ := by unfold mkN; rw [if_pos h]
  unfold goodV
  simp only [show ¬ ((1 : Int) = 0) by decide, if_false, if_true]
  exact eqV_iff.2 e.symm
theorem good_T {t : List UInt8} (h : t.length ≤ 255) : goodV ⟨2, 0, t, false, 0⟩ = true := by
  have e : mkT t = ⟨2, 0, t, false, 0⟩ := by unfold mkT; rw [if_pos h]
  unfold goodV
  simp only [show ¬ ((2 : Int) = 0) by decide, show ¬ ((2 : Int) = 1) by decide, if_false, if_true]
  exact eqV_iff.2 e.symm
theorem good_B (b : Bool) : goodV ⟨3, 0, [], b, 0⟩ = true := by
  cases b <;> decide
theorem good_E {f : Int} (h : okFail f = true) : goodV ⟨4, 0, [], false, f⟩ = true := by
  have e : mkE f = ⟨4, 0, [], false, f⟩ := by unfold mkE; rw [if_pos h]
  unfold goodV
  simp only [show ¬ ((4 : Int) = 0) by decide, show ¬ ((4 : Int) = 1) by decide, show ¬ ((4 : Int) = 2) by decide, show ¬ ((4 : Int) = 3) by decide, if_false, if_true]
  exact eqV_iff.2 e.symm

theorem numB_ref (n : Int) (j : Nat) (p : Nat) (hp : p = 2 ^ (8 * (7 - j))) : (IntKind.u64.wrap ((IntKind.u64.wrap n).tdiv (p : Int))).tmod 256 % 256 = ((numB n j).toNat : Int) := by
  have h := numB_int n j
  have e2 : ((p : Nat) : Int) = (2 : Int) ^ (8 * (7 - j)) := by rw [hp]; exact Int.natCast_pow 2 _
  rw [← e2] at h
  rw [← h]
  have b : 0 ≤ IntKind.u64.wrap n ∧ IntKind.u64.wrap n < 18446744073709551616 := by
    have e : IntKind.u64.wrap n = n % 18446744073709551616 := by rfl
    rw [e]
    omega
  generalize IntKind.u64.wrap n = N at b
  have d0 : 0 ≤ N / (p : Int) := Int.ediv_nonneg b.1 (by omega)
  have d1 : N / (p : Int) ≤ N := Int.ediv_le_self _ b.1
  rw [Int.tdiv_eq_ediv_of_nonneg b.1]
  generalize N / (p : Int) = D at d0 d1
  have e : IntKind.u64.wrap D = D % 18446744073709551616 := by rfl
  rw [e, Int.emod_eq_of_lt d0 (by omega), Int.tmod_eq_emod_of_nonneg d0]
  omega
theorem pow_step (j : Nat) (h : j + 1 < 8) : 2 ^ (8 * (7 - j)) / 256 = 2 ^ (8 * (7 - (j + 1))) := by
  have e : 8 * (7 - j) = 8 * (7 - (j + 1)) + 8 := by omega
  rw [e, Nat.pow_add]
  exact Nat.mul_div_cancel _ (by decide)
end Go.Proofs.YthahgablbdfodaaDoor
/- Package value's Get at every text and place. -/
set_option maxRecDepth 100000
namespace Go.Proofs.YthahgablbdfodaaDoor
open Go.RowKit Go.Lat Go.Lib

/-- The value that bytes begin with, and how many bytes it takes. -/
def tellV : List UInt8 → Option (Vl × Nat)
  | [] => none
  | k :: q =>
    if k.toNat = 0 then some (vZero, 1)
    else if k.toNat = 1 then (if 8 ≤ q.length ∧ okNum (numOf (q.take 8)) = true then some (⟨1, numOf (q.take 8), [], false, 0⟩, 9) else none)
    else if k.toNat = 2 then (match q with | [] => none | c :: p => if c.toNat ≤ p.length then some (⟨2, 0, p.take c.toNat, false, 0⟩, 2 + c.toNat) else none)
    else if k.toNat = 3 then (match q with | [] => none | c :: _ => if c.toNat ≤ 1 then some (⟨3, 0, [], decide (c.toNat = 1), 0⟩, 2) else none)
    else if k.toNat = 4 then (match q with | [] => none | c :: _ => if okFail (c.toNat : Int) = true then some (⟨4, 0, [], false, (c.toNat : Int)⟩, 2) else none)
    else none
/-- The value of bytes at a place, the place behind it, and the error. -/
def getV (s : List UInt8) (a : Int) : Vl × Int × Int :=
  if a < 0 ∨ a > (s.length : Int) then (vZero, 0, 3) else match tellV (s.drop a.toNat) with
    | some (v, n) => (v, a + (n : Int), 0)
    | none => (vZero, 0, 4)

theorem natOf_append (x c : List UInt8) : natOf (x ++ c) = natOf x * 256 ^ c.length + natOf c := by
  have key : ∀ (c : List UInt8) (n : Nat), c.foldl (fun n b => n * 256 + b.toNat) n = n * 256 ^ c.length + natOf c := by
    intro c
    induction c with
    | nil => intro n; simp [natOf]
    | cons b c ih =>
      intro n
      have h1 := ih (n * 256 + b.toNat)
      have h2 := ih b.toNat
      rw [List.foldl_cons, h1]
      have e : natOf (b :: c) = b.toNat * 256 ^ c.length + natOf c := by
        unfold natOf
        rw [List.foldl_cons, Nat.zero_mul, Nat.zero_add]
        exact h2
      rw [e, List.length_cons, Nat.pow_succ, Nat.add_mul, Nat.mul_comm (256 ^ c.length) 256, ← Nat.mul_assoc]
      omega
  unfold natOf
  rw [List.foldl_append]
  exact key c _
theorem natOf_at {l : List UInt8} (hl : l.length = 8) {j : Nat} (hj : j < 8) : natOf l / 256 ^ (7 - j) % 256 = (l[j]'(by omega)).toNat := by
  have e : l = (l.take j ++ [l[j]'(by omega)]) ++ l.drop (j + 1) := by simp
  have hc : (l.drop (j + 1)).length = 7 - j := by rw [List.length_drop]; omega
  have hlt := natOf_lt (l.drop (j + 1))
  rw [hc] at hlt
  have hb := (l[j]'(by omega)).toNat_lt
  have h2 : natOf l = (natOf (l.take j) * 256 + (l[j]'(by omega)).toNat) * 256 ^ (7 - j) + natOf (l.drop (j + 1)) := by
    conv => lhs; rw [e]
    rw [natOf_append, hc, natOf_snoc]
  rw [h2, Nat.mul_comm, Nat.mul_add_div (Nat.pow_pos (by decide)), Nat.div_eq_of_lt hlt]
  omega
theorem numOf_mod (l : List UInt8) (hl : l.length = 8) : (numOf l % 18446744073709551616).toNat = natOf l := by
  have h := natOf_lt l
  rw [hl] at h
  have h4 : (256 : Nat) ^ 8 = 18446744073709551616 := by decide
  rw [h4] at h
  unfold numOf
  rw [IntWalk.i64_left]
  unfold wrap64
  omega
theorem numOf_ok (l : List UInt8) : i64ok (numOf l) := by
  unfold numOf i64ok
  rw [IntWalk.i64_left]
  unfold wrap64
  omega
theorem numBs_of (l : List UInt8) (hl : l.length = 8) : numBs (numOf l) 8 = l := by
  unfold numBs
  apply List.ext_getElem
  · simp [hl]
  · intro j h1 h2
    have hj : j < 8 := by simpa using h1
    simp only [List.getElem_map, List.getElem_range]
    unfold numB
    rw [numOf_mod l hl]
    apply UInt8.toNat_inj.1
    rw [UInt8.toNat_ofNat']
    have e : (2 : Nat) ^ (8 * (7 - j)) = 256 ^ (7 - j) := by rw [Nat.pow_mul]
    rw [e]
    exact natOf_at hl hj
theorem good_N_not {n : Int} (h : okNum n = false) : goodV ⟨1, n, [], false, 0⟩ = false := by
  unfold goodV
  simp only [show ¬ ((1 : Int) = 0) by decide, if_false, if_true]
  rw [Bool.eq_false_iff]
  intro e
  have e := eqV_iff.1 e
  unfold mkN at e
  rw [if_neg (by simp [h])] at e
  simp [mkE] at e
theorem good_E_not {f : Int} (h : okFail f = false) : goodV ⟨4, 0, [], false, f⟩ = false := by
  unfold goodV
  simp only [show ¬ ((4 : Int) = 0) by decide, show ¬ ((4 : Int) = 1) by decide, show ¬ ((4 : Int) = 2) by decide, show ¬ ((4 : Int) = 3) by decide, if_false, if_true]
  rw [Bool.eq_false_iff]
  intro e
  have e := eqV_iff.1 e
  unfold mkE at e
  rw [if_neg (by simp [h])] at e
  have : f = 3 := by simpa using e
  subst this
  exact absurd h (by decide)
theorem putV_bad {x : Vl} (h : goodV x = false) : putV x = ([], 4) := by
  unfold putV
  rw [if_neg (by simp [h])]
theorem extr_take (l : List UInt8) (m : Nat) : (⟨l.toArray⟩ : ByteArray).extract 0 m = ⟨(l.take m).toArray⟩ := by
  apply Go.WideShapes.bytes_inj
  have := take1 ⟨l.toArray⟩ m
  rw [this]
theorem extr_drop (s : ByteArray) (m : Nat) : s.extract m s.size = ⟨(s.data.toList.drop m).toArray⟩ := by
  apply Go.WideShapes.bytes_inj
  simp only [ByteArray.data_extract, Array.toList_extract, List.extract_eq_take_drop]
  rw [List.take_of_length_le]
  rw [List.length_drop]
  show s.data.toList.length - m ≤ s.size - m
  exact Nat.le_refl _
theorem longL (k : UInt8) (q : List UInt8) (w : World) : Calls Tryd.prog 24 #[enS (k :: q)] w fun e w' => e = .returned (.tuple #[.int .i64 (longV k.toNat (q.head?.map (·.toNat))).1, .bool (longV k.toNat (q.head?.map (·.toNat))).2]) ∧ w' = w := by
  refine long_any w ⟨(k :: q).toArray⟩ (Nat.succ_pos _) k rfl _ ?_
  cases q with
  | nil => rw [dif_neg (by show ¬ 1 < 1; decide)]; rfl
  | cons c p => rw [dif_pos (by show 1 < p.length + 1 + 1; omega)]; rfl
theorem drop2 (k c : UInt8) (p : List UInt8) : (⟨(k :: c :: p).toArray⟩ : ByteArray).extract 2 (⟨(k :: c :: p).toArray⟩ : ByteArray).size = ⟨p.toArray⟩ := by rw [extr_drop]; rfl
theorem drop1' (k : UInt8) (p : List UInt8) : (⟨(k :: p).toArray⟩ : ByteArray).extract 1 (⟨(k :: p).toArray⟩ : ByteArray).size = ⟨p.toArray⟩ := by rw [extr_drop]; rfl
theorem k_is {k : UInt8} {n : Nat} (hn : n < 256) (h : k.toNat = n) : k = UInt8.ofNat n := by
  apply UInt8.toNat_inj.1
  rw [h, UInt8.toNat_ofNat']
  omega

theorem Get_any (w : World) (s : ByteArray) (hs : s.size ≤ 1000) (a : Int) : Calls Tryd.prog 10 #[.string s, .int .i64 a] w (GetPost w (getV s.data.toList a).1 (getV s.data.toList a).2.1 (getV s.data.toList a).2.2) := by
  have hsl : s.data.toList.length = s.size := rfl
  unfold getV
  rw [hsl]
  by_cases h1 : a < 0
  · rw [if_pos (.inl h1)]
    exact Get_out w s a (.inl (by simpa using h1))
  · by_cases h2 : a > (s.size : Int)
    · rw [if_pos (.inr h2)]
      exact Get_out w s a (.inr ⟨by simpa using h1, by simpa using h2⟩)
    · rw [if_neg (by omega)]
      obtain ⟨A, rfl⟩ : ∃ A : Nat, a = (A : Int) := ⟨a.toNat, by omega⟩
      have ha : A ≤ s.size := by omega
      rw [Int.toNat_natCast]
      have hz := extr_drop s A
      have hll : (s.data.toList.drop A).length ≤ 1000 := by rw [List.length_drop, hsl]; omega
      obtain ⟨l, hl⟩ : ∃ l, s.data.toList.drop A = l := ⟨_, rfl⟩
      rw [hl] at hz hll ⊢
      clear hl hsl
      cases l with
      | nil => exact Get_empty w s A ha hz
      | cons k q =>
        have hne : ((k :: q) == []) = false := rfl
        have L := longL k q
        unfold tellV
        dsimp only
        rw [List.length_cons] at hll
        by_cases k0 : k.toNat = 0
        · rw [if_pos k0]
          rw [k0] at L
          obtain rfl := k_is (by decide) k0
          have P := fun w => Put_any w vZero vZero_ok
          rw [show putV vZero = ([0], 0) from rfl] at P
          have h := Get_good w s A ha (0 :: q) hz hne 0 (Nat.succ_pos _) (by decide) L [0] (by rw [extr_take]; rfl) 0 0 [] false 0 (fun w => told_blank w ⟨#[0]⟩ (by decide) rfl) [0] 0 P (by omega) rfl rfl
          have e : (A : Int) + 1 + ((0 : Nat) : Int) = (A : Int) + ((1 : Nat) : Int) := by omega
          rw [e] at h
          exact h
        · rw [if_neg k0]
          by_cases k1 : k.toNat = 1
          · rw [if_pos k1]
            rw [k1] at L
            obtain rfl := k_is (by decide) k1
            by_cases hq : q.length < 8
            · rw [if_neg (by omega)]
              exact Get_short w s A ha _ hz hne 8 (by rw [List.length_cons]; omega) L
            · have hq8 : (q.take 8).length = 8 := by rw [List.length_take]; omega
              have P := fun w => Put_any w ⟨1, numOf (q.take 8), [], false, 0⟩ ⟨i1, numOf_ok _, Nat.zero_le _, i0⟩
              have T := fun w => told_num w ⟨(1 :: q.take 8).toArray⟩ ⟨(q.take 8).toArray⟩ (Nat.succ_pos _) rfl (drop1' _ _) hq8
              by_cases hok : okNum (numOf (q.take 8)) = true
              · rw [if_pos ⟨by omega, hok⟩]
                have e2 : putV ⟨1, numOf (q.take 8), [], false, 0⟩ = (1 :: q.take 8, 0) := by
                  unfold putV
                  rw [if_pos (good_N hok)]
                  simp only [show ¬ ((1 : Int) = 0) by decide, if_false, if_true]
                  rw [numBs_of _ hq8]
                rw [e2] at P
                have h := Get_good w s A ha (1 :: q) hz hne 8 (by rw [List.length_cons]; omega) (by decide) L (1 :: q.take 8) (by rw [extr_take]; rfl) 1 (numOf (q.take 8)) [] false 0 T (1 :: q.take 8) 0 P (by omega) rfl (by simp)
                have e : (A : Int) + 1 + ((8 : Nat) : Int) = (A : Int) + ((9 : Nat) : Int) := by omega
                rw [e] at h
                exact h
              · rw [if_neg (fun h => hok h.2)]
                rw [putV_bad (good_N_not (by simpa using hok))] at P
                exact Get_bad1 w s A ha (1 :: q) hz hne 8 (by rw [List.length_cons]; omega) (by decide) L (1 :: q.take 8) (by rw [extr_take]; rfl) 1 (numOf (q.take 8)) [] false 0 T [] 4 P rfl
          · rw [if_neg k1]
            by_cases k2 : k.toNat = 2
            · rw [if_pos k2]
              rw [k2] at L
              obtain rfl := k_is (by decide) k2
              cases q with
              | nil => exact Get_untold w s A ha _ hz hne 0 L
              | cons c p =>
                have L2 : ∀ w, Calls Tryd.prog 24 #[enS (2 :: c :: p)] w fun e w' => e = .returned (.tuple #[.int .i64 ((1 + c.toNat : Nat) : Int), .bool true]) ∧ w' = w := by
                  intro w
                  have e : ((1 + c.toNat : Nat) : Int) = 1 + (c.toNat : Int) := by omega
                  rw [e]
                  exact L w
                have c255 := c.toNat_lt
                simp only [List.length_cons] at hll
                by_cases hc : c.toNat ≤ p.length
                · simp only [if_pos hc]
                  have hpl : (p.take c.toNat).length = c.toNat := by rw [List.length_take]; omega
                  have P := fun w => Put_any w ⟨2, 0, p.take c.toNat, false, 0⟩ ⟨i2, i0, by show (p.take c.toNat).length ≤ maxLen; rw [hpl]; exact Nat.le_trans (Nat.le_of_lt c255) (by decide), i0⟩
                  have e2 : putV ⟨2, 0, p.take c.toNat, false, 0⟩ = (2 :: c :: p.take c.toNat, 0) := by
                    unfold putV
                    rw [if_pos (good_T (by omega))]
                    simp only [show ¬ ((2 : Int) = 0) by decide, show ¬ ((2 : Int) = 1) by decide, if_false, if_true]
                    rw [hpl, UInt8.ofNat_toNat]
                  rw [e2] at P
                  have T := fun w => told_text w ⟨(2 :: c :: p.take c.toNat).toArray⟩ ⟨(p.take c.toNat).toArray⟩ (Nat.succ_pos _) rfl (by show 2 ≤ (p.take c.toNat).length + 1 + 1; omega) (drop2 _ _ _)
                  have h := Get_good w s A ha (2 :: c :: p) hz hne (1 + c.toNat) (by simp only [List.length_cons]; omega) (by omega) L2 (2 :: c :: p.take c.toNat) (by rw [extr_take]; rw [show 1 + (1 + c.toNat) = c.toNat + 1 + 1 by omega]; rfl) 2 0 (p.take c.toNat) false 0 T (2 :: c :: p.take c.toNat) 0 P (by omega) rfl (by simp)
                  have e : (A : Int) + 1 + ((1 + c.toNat : Nat) : Int) = (A : Int) + ((2 + c.toNat : Nat) : Int) := by omega
                  rw [e] at h
                  exact h
                · simp only [if_neg hc]
                  exact Get_short w s A ha _ hz hne (1 + c.toNat) (by simp only [List.length_cons]; omega) L2
            · rw [if_neg k2]
              by_cases k3 : k.toNat = 3
              · rw [if_pos k3]
                rw [k3] at L
                obtain rfl := k_is (by decide) k3
                cases q with
                | nil => exact Get_short w s A ha _ hz hne 1 (by simp) L
                | cons c p =>
                  obtain ⟨b, hb⟩ : ∃ b, ((c.toNat : Int) == 1) = b := ⟨_, rfl⟩
                  have P := fun w => Put_any w ⟨3, 0, [], b, 0⟩ (mkB_ok b)
                  have e2 : putV ⟨3, 0, [], b, 0⟩ = ([3, if b then 1 else 0], 0) := by
                    unfold putV
                    rw [if_pos (good_B b)]
                    simp only [show ¬ ((3 : Int) = 0) by decide, show ¬ ((3 : Int) = 1) by decide, show ¬ ((3 : Int) = 2) by decide, if_false, if_true]
                  rw [e2] at P
                  have T := fun w => told_bool w ⟨#[3, c]⟩ (Nat.succ_pos _) rfl (by show 1 < 2; decide) b hb
                  have hbd : b = decide (c.toNat = 1) := by rw [← hb, Bool.eq_iff_iff]; simp; omega
                  by_cases hc : c.toNat ≤ 1
                  · simp only [if_pos hc]
                    have ec : (if b then (1 : UInt8) else 0) = c := by
                      have h01 : c.toNat = 0 ∨ c.toNat = 1 := by omega
                      rcases h01 with h | h
                      · obtain rfl := k_is (by decide) h
                        rw [hbd]; rfl
                      · obtain rfl := k_is (by decide) h
                        rw [hbd]; rfl
                    rw [ec] at P
                    have h := Get_good w s A ha (3 :: c :: p) hz hne 1 (by simp) (by decide) L [3, c] (by rw [extr_take]; rfl) 3 0 [] b 0 T [3, c] 0 P (by omega) rfl (by simp)
                    have e : (A : Int) + 1 + ((1 : Nat) : Int) = (A : Int) + ((2 : Nat) : Int) := by omega
                    rw [e, hbd] at h
                    exact h
                  · simp only [if_neg hc]
                    have ec : (if b then (1 : UInt8) else 0) ≠ c := by
                      intro e
                      apply hc
                      rw [← e]
                      cases b <;> decide
                    exact Get_bad2 w s A ha (3 :: c :: p) hz hne 1 (by simp) (by decide) L [3, c] (by rw [extr_take]; rfl) 3 0 [] b 0 T _ 0 P rfl (by simpa using ec)
              · rw [if_neg k3]
                by_cases k4 : k.toNat = 4
                · rw [if_pos k4]
                  rw [k4] at L
                  obtain rfl := k_is (by decide) k4
                  cases q with
                  | nil => exact Get_short w s A ha _ hz hne 1 (by simp) L
                  | cons c p =>
                    have c255 := c.toNat_lt
                    have P := fun w => Put_any w ⟨4, 0, [], false, (c.toNat : Int)⟩ ⟨i4, i0, Nat.zero_le _, ⟨by show (-9223372036854775808 : Int) ≤ (c.toNat : Int); omega, by show (c.toNat : Int) ≤ 9223372036854775807; omega⟩⟩
                    have T := fun w => told_err w ⟨#[4, c]⟩ (Nat.succ_pos _) rfl (by show 1 < 2; decide) c.toNat rfl (IntWalk.wrap64_in _ (by omega))
                    by_cases hf : okFail (c.toNat : Int) = true
                    · simp only [if_pos hf]
                      have e2 : putV ⟨4, 0, [], false, (c.toNat : Int)⟩ = ([4, c], 0) := by
                        unfold putV
                        rw [if_pos (good_E hf)]
                        simp only [show ¬ ((4 : Int) = 0) by decide, show ¬ ((4 : Int) = 1) by decide, show ¬ ((4 : Int) = 2) by decide, show ¬ ((4 : Int) = 3) by decide, if_false]
                        rw [Int.toNat_natCast, UInt8.ofNat_toNat]
                      rw [e2] at P
                      have h := Get_good w s A ha (4 :: c :: p) hz hne 1 (by simp) (by decide) L [4, c] (by rw [extr_take]; rfl) 4 0 [] false (c.toNat : Int) T [4, c] 0 P (by omega) rfl (by simp)
                      have e : (A : Int) + 1 + ((1 : Nat) : Int) = (A : Int) + ((2 : Nat) : Int) := by omega
                      rw [e] at h
                      exact h
                    · simp only [if_neg hf]
                      rw [putV_bad (good_E_not (by simpa using hf))] at P
                      exact Get_bad1 w s A ha (4 :: c :: p) hz hne 1 (by simp) (by decide) L [4, c] (by rw [extr_take]; rfl) 4 0 [] false (c.toNat : Int) T [] 4 P rfl
                · rw [if_neg k4]
                  have e : longV k.toNat (q.head?.map (·.toNat)) = (0, false) := by
                    unfold longV
                    rw [if_neg k0, if_neg k1, if_neg k2, if_neg k3, if_neg k4]
                  rw [e] at L
                  exact Get_untold w s A ha _ hz hne 0 L
end Go.Proofs.YthahgablbdfodaaDoor
