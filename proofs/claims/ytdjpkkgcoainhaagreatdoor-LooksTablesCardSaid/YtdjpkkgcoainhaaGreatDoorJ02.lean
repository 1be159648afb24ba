/- A value: its cells, '==' of two; the walks of package value's constructors. -/
import Derived.Test.YtdjpkkgcoainhaaGreatDoorJ01
import Derived.DeepKeys
import Derived.Laws.Rows
/- A value: its cells, '==' of two; the walks of package value's constructors. -/
set_option maxRecDepth 100000
namespace Go.Proofs.YtdjpkkgcoainhaaGreatDoor
open Go.RowKit Go.Lat

theorem Vnew1 (w : World) (A : Obj) : (w.alloc A).heap[w.heap.size]? = some A := heap_alloc_new w A
theorem Vnew2 (w : World) (A B : Obj) : ((w.alloc A).alloc B).heap[w.heap.size + 1]? = some B := by
  have := heap_alloc_new (w.alloc A) B
  simpa using this
abbrev enS (s : List UInt8) : Value := .string ⟨s.toArray⟩
/-- A value as plain data. -/
structure Vl where
  k : Int
  n : Int
  t : List UInt8
  b : Bool
  f : Int
def Vl.cs (x : Vl) : Array Value := #[.int .i64 x.k, .int .i64 x.n, enS x.t, .bool x.b, .int .i64 x.f]
def Vl.val (x : Vl) : Value := .agg #[.int .i64 x.k, .int .i64 x.n, enS x.t, .bool x.b, .int .i64 x.f]
def i64ok (z : Int) : Prop := -9223372036854775808 ≤ z ∧ z ≤ 9223372036854775807
/-- What a Go value may be. -/
structure Vl.ok (x : Vl) : Prop where
  k : i64ok x.k
  n : i64ok x.n
  t : x.t.length ≤ maxLen
  f : i64ok x.f
theorem wf_i64 {z : Int} (h : i64ok z) : (Lit.int .i64 z).wf = true := by
  obtain ⟨h1, h2⟩ := h
  simp [Lit.wf, IntKind.min, IntKind.max, IntKind.signed, IntKind.bits]
  omega
def eqV (x y : Vl) : Bool := decide (x.k = y.k) && (decide (x.n = y.n) && (decide (x.t = y.t) && (decide (x.b = y.b) && decide (x.f = y.f))))
theorem eqV_iff {x y : Vl} : eqV x y = true ↔ x = y := by
  obtain ⟨a, b, c, d, e⟩ := x
  obtain ⟨a', b', c', d', e'⟩ := y
  simp [eqV]
def Vl.lits (x : Vl) : List Lit := [.int .i64 x.k, .int .i64 x.n, .string x.t, .bool x.b, .int .i64 x.f]
theorem vlits_inj {x y : Vl} (h : x.lits = y.lits) : x = y := by
  obtain ⟨a, b, c, d, e⟩ := x
  obtain ⟨a', b', c', d', e'⟩ := y
  simpa [Vl.lits] using h
section
theorem vlK : Tryz.prog.keyTypeAt 2 29 = true := by kernel_rfl
theorem vl_formed (x : Vl) : x.val.formed Tryz.prog 29 = true := by
  have h2 : Tryz.prog.cellsOf 29 = 5 := by kernel_rfl
  simp [Vl.val, Value.formed, Tryz.underlying29, h2]
theorem vl_lits {x : Vl} (h : x.ok) : Tryz.prog.keyLits 5 29 x.val.cells.toList = some x.lits := by
  obtain ⟨k, n, t, b, f⟩ := x
  obtain ⟨hk, hn, ht, hf⟩ := h
  simp only at hk hn ht hf
  have h0 : Tryz.prog.cellsOf 29 = 5 := by kernel_rfl
  have h1 : Tryz.prog.cellsOf 9 = 1 := by kernel_rfl
  have h2 : Tryz.prog.cellsOf 25 = 1 := by kernel_rfl
  have h3 : Tryz.prog.cellsOf 26 = 1 := by kernel_rfl
  have h4 : Tryz.prog.cellsOf 4 = 1 := by kernel_rfl
  have h5 : Tryz.prog.cellsOf 27 = 1 := by kernel_rfl
  have s5 : Tryz.prog.keyLits 4 9 [.string ⟨t.toArray⟩] = some [.string t] := by
    have hz' : (⟨t.toArray⟩ : ByteArray).size ≤ maxLen := ht
    simp [Program.keyLits, Tryz.underlying9, hz']
  have i1 : Tryz.prog.keyLits 4 25 [.int .i64 k] = some [.int .i64 k] := by
    simp [Program.keyLits, Tryz.underlying25, wf_i64 hk]
  have i2 : Tryz.prog.keyLits 4 26 [.int .i64 n] = some [.int .i64 n] := by
    simp [Program.keyLits, Tryz.underlying26, wf_i64 hn]
  have i3 : Tryz.prog.keyLits 4 4 [.bool b] = some [.bool b] := by
    simp [Program.keyLits, Tryz.underlying4]
  have i4 : Tryz.prog.keyLits 4 27 [.int .i64 f] = some [.int .i64 f] := by
    simp [Program.keyLits, Tryz.underlying27, wf_i64 hf]
  unfold Program.keyLits
  rw [Tryz.underlying29]
  simp [h0, h1, h2, h3, h4, h5, s5, i1, i2, i3, i4, Vl.val, Vl.lits, Value.cells]
theorem eqIn_vl (w : World) {x y : Vl} (hx : x.ok) (hy : y.ok) : (Op.equalIn 10000 29 x.val y.val).run Tryz.prog w = .ok (eqV x y) w := by
  obtain ⟨r, h1, h2⟩ := run_equalIn_deep 9998 2 29 vlK w 5 5 _ _ _ _ (vl_formed x) (vl_formed y) (vl_lits hx) (vl_lits hy)
  rw [h1]
  congr 1
  rw [Bool.eq_iff_iff, h2, eqV_iff]
  exact ⟨vlits_inj, fun e => by rw [e]⟩
theorem eq_vl (w : World) {x y : Vl} (hx : x.ok) (hy : y.ok) : (binOp .eql 29 x.val y.val).run Tryz.prog w = .ok (.bool (eqV x y)) w := by
  have h := eqIn_vl w hx hy
  unfold Vl.val at h ⊢
  rw [run_eql_struct, h]
  rfl
theorem neq_vl (w : World) {x y : Vl} (hx : x.ok) (hy : y.ok) : (binOp .neq 29 x.val y.val).run Tryz.prog w = .ok (.bool (!eqV x y)) w := by
  have h := eqIn_vl w hx hy
  unfold Vl.val at h ⊢
  rw [run_neq_struct, h]
  rfl
end

theorem Tryz.infoV : (Tryz.prog.info? 29).map (·.size) = some 5 := by kernel_rfl
/-- A function's end: its one result lies in a cell. -/
theorem ret_vl {fn : Func} {p : Tmp} (h : fn.results = #[.cell p 29]) (tmps : Array Value) (W : World) (g : Nat) (x : Vl) (hp : tmps.getD p undef = .pointer (some ⟨g, 0, none⟩)) (hg : W.heap[g]? = some (.cells x.cs 29 (0, 0))) :
    (results fn tmps).run Tryz.prog W = .ok x.val W :=
  results_cell_row h tmps W g 29 x.cs (0, 0) _ hp hg Tryz.underlying29 rfl Tryz.infoV

def okFail (f : Int) : Bool := decide (0 < f) && decide (f < 9)
def mkE (f : Int) : Vl := ⟨4, 0, [], false, if okFail f then f else 3⟩
def mkN (n : Int) : Vl := if okNum n then ⟨1, n, [], false, 0⟩ else mkE 2
def mkT (s : List UInt8) : Vl := if s.length ≤ 255 then ⟨2, 0, s, false, 0⟩ else mkE 3
def mkB (b : Bool) : Vl := ⟨3, 0, [], b, 0⟩

theorem fits_any (w : World) (n : Int) : Calls Tryz.prog 54 #[.int .i64 n] w fun e w' => e = .returned (.bool (okNum n)) ∧ Upd w w' (fun _ => False) := by
  have R := Raw_any w n
  cases h : okNum n with
  | true =>
    simp only [h, if_true] at R
    clear h
    go_enter Tryz.func54, Tryz.ntmps54
    go_wp2_with (go_at_call 74; refine Calls.mono R ?_; rintro e w1 ⟨rfl, u1⟩)
    go_ret
    exact ⟨rfl, u1⟩
  | false =>
    simp only [h, Bool.false_eq_true, if_false] at R
    clear h
    go_enter Tryz.func54, Tryz.ntmps54
    go_wp2_with (go_at_call 74; refine Calls.mono R ?_; rintro e w1 ⟨rfl, u1⟩)
    go_ret
    exact ⟨rfl, u1⟩
theorem is_any (w : World) (f : Int) : Calls Tryz.prog 48 #[.int .i64 f] w fun e w' => e = .returned (.bool (okFail f)) ∧ w' = w := by
  unfold okFail
  cases h : decide (0 < f) with
  | true =>
    go_enter Tryz.func48, Tryz.ntmps48
    go_wp2_with fail
    go_ret
    exact ⟨by simp, rfl⟩
  | false =>
    go_enter Tryz.func48, Tryz.ntmps48
    go_wp2_with fail
    go_ret
    exact ⟨by simp, rfl⟩
theorem B_any (w : World) (b : Bool) : Calls Tryz.prog 47 #[.bool b] w fun e w' => e = .returned (mkB b).val ∧ Upd w w' (fun _ => False) := by
  go_enter Tryz.func47, Tryz.ntmps47
  go_wp2_with fail
  (try simp only [Exit.inBlock, Exit.then])
  refine bodyPost_ret (ret_vl rfl _ _ w.heap.size (mkB b) rfl (Vnew1 w _)) rfl ?_
  exact ⟨rfl, (Upd.refl w _).alloc _⟩
theorem E_any (w : World) (f : Int) : Calls Tryz.prog 25 #[.int .i64 f] w fun e w' => e = .returned (mkE f).val ∧ Upd w w' (fun _ => False) := by
  have I := fun w => is_any w f
  unfold mkE
  cases h : okFail f with
  | true =>
    rw [h] at I
    simp only [if_true]
    clear h
    go_enter Tryz.func25, Tryz.ntmps25
    go_wp2_with (go_at_call 48; refine Calls.mono (I _) ?_; rintro e w' ⟨rfl, hw⟩; replace hw := hw.symm; subst hw)
    (try simp only [Exit.inBlock, Exit.then])
    refine bodyPost_ret (ret_vl rfl _ _ w.heap.size ⟨4, 0, [], false, f⟩ rfl (Vnew1 w _)) rfl ?_
    exact ⟨rfl, (Upd.refl w _).alloc _⟩
  | false =>
    rw [h] at I
    simp only [Bool.false_eq_true, if_false]
    clear h
    go_enter Tryz.func25, Tryz.ntmps25
    go_wp2_with (go_at_call 48; refine Calls.mono (I _) ?_; rintro e w' ⟨rfl, hw⟩; replace hw := hw.symm; subst hw)
    (try simp only [Exit.inBlock, Exit.then])
    refine bodyPost_ret (ret_vl rfl _ _ w.heap.size ⟨4, 0, [], false, 3⟩ rfl (Vnew1 w _)) rfl ?_
    exact ⟨rfl, (Upd.refl w _).alloc _⟩
end Go.Proofs.YtdjpkkgcoainhaaGreatDoor
/- The walks of package value's N, T, Good, sound, beside, rank. -/
set_option maxRecDepth 100000
namespace Go.Proofs.YtdjpkkgcoainhaaGreatDoor
open Go.RowKit Go.Lat

theorem i0 : i64ok 0 := ⟨by decide, by decide⟩
theorem i1 : i64ok 1 := ⟨by decide, by decide⟩
theorem i2 : i64ok 2 := ⟨by decide, by decide⟩
theorem i3 : i64ok 3 := ⟨by decide, by decide⟩
theorem i4 : i64ok 4 := ⟨by decide, by decide⟩
theorem okFail_i64 {f : Int} (h : okFail f = true) : i64ok f := by
  simp [okFail] at h
  exact ⟨by omega, by omega⟩
theorem mkE_ok (f : Int) : (mkE f).ok := by
  unfold mkE
  refine ⟨i4, i0, Nat.zero_le _, ?_⟩
  simp only
  split
  · rename_i h
    exact okFail_i64 h
  · exact i3
theorem okNum_i64 {n : Int} (h : okNum n = true) : i64ok n := by
  have := okNum_true h
  exact ⟨by omega, by omega⟩
theorem mkN_ok (n : Int) : (mkN n).ok := by
  unfold mkN
  split
  · rename_i h
    exact ⟨i1, okNum_i64 h, Nat.zero_le _, i0⟩
  · exact mkE_ok 2
theorem mkT_ok (s : List UInt8) : (mkT s).ok := by
  unfold mkT
  split
  · rename_i h
    exact ⟨i2, i0, Nat.le_trans h (by decide), i0⟩
  · exact mkE_ok 3
theorem mkB_ok (b : Bool) : (mkB b).ok := ⟨i3, i0, Nat.zero_le _, i0⟩
def vZero : Vl := ⟨0, 0, [], false, 0⟩
theorem vZero_ok : vZero.ok := ⟨i0, i0, Nat.zero_le _, i0⟩

/-- Five cells are stored. -/
theorem block5 {W : World} {g : Nat} {x : Vl} (h : W.heap[g]? = some (.cells x.cs 29 (0, 0))) (v0 v1 v2 v3 v4 : Value) :
    (((((W.setCell ⟨g, 0, none⟩ v0).setCell ⟨g, 1, none⟩ v1).setCell ⟨g, 2, none⟩ v2).setCell ⟨g, 3, none⟩ v3).setCell ⟨g, 4, none⟩ v4).heap[g]? = some (.cells #[v0, v1, v2, v3, v4] 29 (0, 0)) :=
  block_setCell (block_setCell (block_setCell (block_setCell (block_setCell h 0 v0) 1 v1) 2 v2) 3 v3) 4 v4
theorem upd5 {a W : World} {S : Nat → Prop} (h : Upd a W S) {g : Nat} (hg : a.heap.size ≤ g) (v0 v1 v2 v3 v4 : Value) :
    Upd a (((((W.setCell ⟨g, 0, none⟩ v0).setCell ⟨g, 1, none⟩ v1).setCell ⟨g, 2, none⟩ v2).setCell ⟨g, 3, none⟩ v3).setCell ⟨g, 4, none⟩ v4) S :=
  ((((h.setCell ⟨g, 0, none⟩ v0 (.inl hg)).setCell ⟨g, 1, none⟩ v1 (.inl hg)).setCell ⟨g, 2, none⟩ v2 (.inl hg)).setCell ⟨g, 3, none⟩ v3 (.inl hg)).setCell ⟨g, 4, none⟩ v4 (.inl hg)

theorem N_any (w : World) (n : Int) : Calls Tryz.prog 29 #[.int .i64 n] w fun e w' => e = .returned (mkN n).val ∧ Upd w w' (fun _ => False) := by
  have I := fun w => fits_any w n
  have EA := fun w => E_any w 2
  unfold mkN
  cases h : okNum n with
  | true =>
    rw [h] at I
    simp only [if_true]
    clear h EA
    go_enter Tryz.func29, Tryz.ntmps29
    go_wp2_with (go_at_call 54; refine Calls.mono (I _) ?_; rintro e w1 ⟨rfl, u1⟩
                 have bX := u1.get (Vnew1 w (.cells vZero.cs 29)) id
                 obtain ⟨c0, c1, c2, c3, c4⟩ := cells5 bX
                 have xl := lt_at bX
                 have f0 := free_at bX 0
                 have f1 := free_at bX 1
                 have f2 := free_at bX 2
                 have f3 := free_at bX 3
                 have f4 := free_at bX 4
                 have HX := hide bX
                 have HU := hide u1
                 clear bX u1)
    (try simp only [Exit.inBlock, Exit.then])
    refine bodyPost_ret (ret_vl rfl _ _ w.heap.size ⟨1, n, [], false, 0⟩ rfl (block5 HX.out _ _ _ _ _)) rfl ?_
    exact ⟨rfl, upd5 (((Upd.refl w _).alloc _).then HU.out (fun _ _ => id)) (Nat.le_refl _) _ _ _ _ _⟩
  | false =>
    rw [h] at I
    simp only [Bool.false_eq_true, if_false]
    clear h
    obtain ⟨ev, hev⟩ : ∃ v, mkE 2 = v := ⟨_, rfl⟩
    rw [hev] at EA ⊢
    obtain ⟨k0, n0, t0, b0, e0⟩ := ev
    have HEV := hide hev
    unfold Vl.val at EA
    simp only at EA
    clear hev
    go_enter Tryz.func29, Tryz.ntmps29
    go_wp2_with (first
      | (go_at_call 54; refine Calls.mono (I _) ?_; rintro e w1 ⟨rfl, u1⟩
         have bX := u1.get (Vnew1 w (.cells vZero.cs 29)) id
         have HX := hide bX
         have HU := hide u1
         clear bX u1)
      | (go_at_call 25; refine Calls.mono (EA _) ?_; rintro e w2 ⟨rfl, u2⟩
         have bX2 := u2.get HX.out id
         obtain ⟨c0, c1, c2, c3, c4⟩ := cells5 bX2
         have xl := lt_at bX2
         have f0 := free_at bX2 0
         have f1 := free_at bX2 1
         have f2 := free_at bX2 2
         have f3 := free_at bX2 3
         have f4 := free_at bX2 4
         have HX2 := hide bX2
         have HU2 := hide u2
         clear bX2 u2))
    (try simp only [Exit.inBlock, Exit.then])
    refine bodyPost_ret (ret_vl rfl _ _ w.heap.size ⟨k0, n0, t0, b0, e0⟩ rfl (block5 HX2.out _ _ _ _ _)) rfl ?_
    exact ⟨rfl, upd5 ((((Upd.refl w _).alloc _).then HU.out (fun _ _ => id)).then HU2.out (fun _ _ => id)) (Nat.le_refl _) _ _ _ _ _⟩
theorem T_any (w : World) (s : List UInt8) : Calls Tryz.prog 28 #[enS s] w fun e w' => e = .returned (mkT s).val ∧ Upd w w' (fun _ => False) := by
  have EA := fun w => E_any w 3
  unfold mkT
  by_cases h : s.length ≤ 255
  · rw [if_pos h]
    have d1 : decide ((255 : Int) < (s.length : Int)) = false := by simp; omega
    have d2 : decide (255 < s.length) = false := by simp; omega
    clear h EA
    go_enter Tryz.func28, Tryz.ntmps28
    go_wp2_with fail
    (try simp only [Exit.inBlock, Exit.then])
    refine bodyPost_ret (ret_vl rfl _ _ w.heap.size ⟨2, 0, s, false, 0⟩ rfl (Vnew1 w _)) rfl ?_
    exact ⟨rfl, (Upd.refl w _).alloc _⟩
  · rw [if_neg h]
    have d1 : decide ((255 : Int) < (s.length : Int)) = true := by simp; omega
    have d2 : decide (255 < s.length) = true := by simp; omega
    clear h
    obtain ⟨ev, hev⟩ : ∃ v, mkE 3 = v := ⟨_, rfl⟩
    rw [hev] at EA ⊢
    obtain ⟨k0, n0, t0, b0, e0⟩ := ev
    have HEV := hide hev
    unfold Vl.val at EA
    simp only at EA
    clear hev
    go_enter Tryz.func28, Tryz.ntmps28
    go_wp2_with (go_at_call 25; refine Calls.mono (EA _) ?_; rintro e w2 ⟨rfl, u2⟩
                 have bX2 := u2.get (Vnew1 w (.cells vZero.cs 29)) id
                 obtain ⟨c0, c1, c2, c3, c4⟩ := cells5 bX2
                 have xl := lt_at bX2
                 have f0 := free_at bX2 0
                 have f1 := free_at bX2 1
                 have f2 := free_at bX2 2
                 have f3 := free_at bX2 3
                 have f4 := free_at bX2 4
                 have HX2 := hide bX2
                 have HU2 := hide u2
                 clear bX2 u2)
    (try simp only [Exit.inBlock, Exit.then])
    refine bodyPost_ret (ret_vl rfl _ _ w.heap.size ⟨k0, n0, t0, b0, e0⟩ rfl (block5 HX2.out _ _ _ _ _)) rfl ?_
    exact ⟨rfl, upd5 (((Upd.refl w _).alloc _).then HU2.out (fun _ _ => id)) (Nat.le_refl _) _ _ _ _ _⟩

/-- May a value be? -/
def goodV (x : Vl) : Bool :=
  if x.k = 0 then eqV x vZero else if x.k = 1 then eqV x (mkN x.n) else if x.k = 2 then eqV x (mkT x.t) else if x.k = 3 then eqV x (mkB x.b) else if x.k = 4 then eqV x (mkE x.f) else false
end Go.Proofs.YtdjpkkgcoainhaaGreatDoor
/- The walks of package value's Good, sound, beside, rank. -/
set_option maxRecDepth 100000
namespace Go.Proofs.YtdjpkkgcoainhaaGreatDoor
open Go.RowKit Go.Lat

/-- Good where another value is made first. -/
theorem eq_at (x y : Vl) (hx : x.ok) (hy : y.ok) {q : Bool} (hq : eqV x y = q) : ∀ w, (binOp .eql 29 (.agg #[.int .i64 x.k, .int .i64 x.n, .string ⟨x.t.toArray⟩, .bool x.b, .int .i64 x.f]) (.agg #[.int .i64 y.k, .int .i64 y.n, .string ⟨y.t.toArray⟩, .bool y.b, .int .i64 y.f])).run Tryz.prog w = .ok (.bool q) w := fun w => by
  have := eq_vl w hx hy
  rw [hq] at this
  exact this

set_option maxHeartbeats 1600000 in
theorem Good_any (w : World) (x : Vl) (hx : x.ok) : Calls Tryz.prog 24 #[x.val] w fun e w' => e = .returned (.bool (goodV x)) ∧ Upd w w' (fun _ => False) := by
  unfold goodV
  have bX := Vnew1 w (.cells x.cs 29)
  obtain ⟨c0, c1, c2, c3, c4⟩ := cells5 bX
  have HX := hide bX
  have xl : w.heap.size < (w.alloc (.cells x.cs 29)).heap.size := lt_at bX
  by_cases h0 : x.k = 0
  · rw [if_pos h0]
    obtain ⟨q, hq⟩ : ∃ q, eqV x vZero = q := ⟨_, rfl⟩
    have EQ := eq_at x vZero hx vZero_ok hq
    obtain ⟨k, n, t, b, f⟩ := x
    obtain rfl : k = 0 := h0
    simp only [vZero] at EQ
    rw [hq]
    unfold Vl.val
    clear hq HX
    go_enter Tryz.func24, Tryz.ntmps24
    go_wp2_with fail
    go_ret
    exact ⟨rfl, (Upd.refl w _).alloc _⟩
  · rw [if_neg h0]
    have b0 : (x.k == 0) = false := by simpa using h0
    by_cases h1 : x.k = 1
    · rw [if_pos h1]
      obtain ⟨q, hq⟩ : ∃ q, eqV x (mkN x.n) = q := ⟨_, rfl⟩
      have EQ := eq_at x (mkN x.n) hx (mkN_ok _) hq
      rw [hq]
      have NA := fun w => N_any w x.n
      obtain ⟨v, hv⟩ : ∃ v, mkN x.n = v := ⟨_, rfl⟩
      rw [hv] at EQ NA
      obtain ⟨k0, n0, t0, e0, f0⟩ := v
      obtain ⟨k, n, t, b, f⟩ := x
      obtain rfl : k = 1 := h1
      unfold Vl.val at NA ⊢
      simp only at EQ NA
      clear hq hv h0
      go_enter Tryz.func24, Tryz.ntmps24
      go_wp2_with fail
      go_region_held3 (fun w' => w'.cell? ⟨w.heap.size, 0, none⟩ = some (.int .i64 1) ∧ w'.cell? ⟨w.heap.size, 1, none⟩ = some (.int .i64 n) ∧ w'.cell? ⟨w.heap.size, 2, none⟩ = some (.string ⟨t.toArray⟩) ∧ w'.cell? ⟨w.heap.size, 3, none⟩ = some (.bool b) ∧ w'.cell? ⟨w.heap.size, 4, none⟩ = some (.int .i64 f))
        (first | (go_split_ands; exact cells5 bY) | go_keep)
        (first | (go_at_call 29; refine Calls.mono (NA _) ?_; rintro e w2 ⟨rfl, u2⟩; have bY := u2.get HX.out id))
      go_wp2_with fail
      go_ret
      exact ⟨rfl, (((Upd.refl w _).alloc _).drew).then u2 (fun _ _ => id)⟩
    · rw [if_neg h1]
      have b1 : (x.k == 1) = false := by simpa using h1
      by_cases h2 : x.k = 2
      · rw [if_pos h2]
        obtain ⟨q, hq⟩ : ∃ q, eqV x (mkT x.t) = q := ⟨_, rfl⟩
        have EQ := eq_at x (mkT x.t) hx (mkT_ok _) hq
        rw [hq]
        have NA := fun w => T_any w x.t
        obtain ⟨v, hv⟩ : ∃ v, mkT x.t = v := ⟨_, rfl⟩
        rw [hv] at EQ NA
        obtain ⟨k0, n0, t0, e0, f0⟩ := v
        obtain ⟨k, n, t, b, f⟩ := x
        obtain rfl : k = 2 := h2
        unfold Vl.val at NA ⊢
        simp only at EQ NA
        clear hq hv h0
        go_enter Tryz.func24, Tryz.ntmps24
        go_wp2_with fail
        go_region_held3 (fun w' => w'.cell? ⟨w.heap.size, 0, none⟩ = some (.int .i64 2) ∧ w'.cell? ⟨w.heap.size, 1, none⟩ = some (.int .i64 n) ∧ w'.cell? ⟨w.heap.size, 2, none⟩ = some (.string ⟨t.toArray⟩) ∧ w'.cell? ⟨w.heap.size, 3, none⟩ = some (.bool b) ∧ w'.cell? ⟨w.heap.size, 4, none⟩ = some (.int .i64 f))
          (first | (go_split_ands; exact cells5 bY) | go_keep)
          (first | (go_at_call 28; refine Calls.mono (NA _) ?_; rintro e w2 ⟨rfl, u2⟩; have bY := u2.get HX.out id))
        go_wp2_with fail
        go_ret
        exact ⟨rfl, (((Upd.refl w _).alloc _).drew).then u2 (fun _ _ => id)⟩
      · rw [if_neg h2]
        have b2 : (x.k == 2) = false := by simpa using h2
        by_cases h3 : x.k = 3
        · rw [if_pos h3]
          obtain ⟨q, hq⟩ : ∃ q, eqV x (mkB x.b) = q := ⟨_, rfl⟩
          have EQ := eq_at x (mkB x.b) hx (mkB_ok _) hq
          rw [hq]
          have NA := fun w => B_any w x.b
          obtain ⟨v, hv⟩ : ∃ v, mkB x.b = v := ⟨_, rfl⟩
          rw [hv] at EQ NA
          obtain ⟨k0, n0, t0, e0, f0⟩ := v
          obtain ⟨k, n, t, b, f⟩ := x
          obtain rfl : k = 3 := h3
          unfold Vl.val at NA ⊢
          simp only at EQ NA
          clear hq hv h0
          go_enter Tryz.func24, Tryz.ntmps24
          go_wp2_with fail
          go_region_held3 (fun w' => w'.cell? ⟨w.heap.size, 0, none⟩ = some (.int .i64 3) ∧ w'.cell? ⟨w.heap.size, 1, none⟩ = some (.int .i64 n) ∧ w'.cell? ⟨w.heap.size, 2, none⟩ = some (.string ⟨t.toArray⟩) ∧ w'.cell? ⟨w.heap.size, 3, none⟩ = some (.bool b) ∧ w'.cell? ⟨w.heap.size, 4, none⟩ = some (.int .i64 f))
            (first | (go_split_ands; exact cells5 bY) | go_keep)
            (first | (go_at_call 47; refine Calls.mono (NA _) ?_; rintro e w2 ⟨rfl, u2⟩; have bY := u2.get HX.out id))
          go_wp2_with fail
          go_ret
          exact ⟨rfl, (((Upd.refl w _).alloc _).drew).then u2 (fun _ _ => id)⟩
        · rw [if_neg h3]
          have b3 : (x.k == 3) = false := by simpa using h3
          by_cases h4 : x.k = 4
          · rw [if_pos h4]
            obtain ⟨q, hq⟩ : ∃ q, eqV x (mkE x.f) = q := ⟨_, rfl⟩
            have EQ := eq_at x (mkE x.f) hx (mkE_ok _) hq
            rw [hq]
            have NA := fun w => E_any w x.f
            obtain ⟨v, hv⟩ : ∃ v, mkE x.f = v := ⟨_, rfl⟩
            rw [hv] at EQ NA
            obtain ⟨k0, n0, t0, e0, f0⟩ := v
            obtain ⟨k, n, t, b, f⟩ := x
            obtain rfl : k = 4 := h4
            unfold Vl.val at NA ⊢
            simp only at EQ NA
            clear hq hv h0
            go_enter Tryz.func24, Tryz.ntmps24
            go_wp2_with fail
            go_region_held3 (fun w' => w'.cell? ⟨w.heap.size, 0, none⟩ = some (.int .i64 4) ∧ w'.cell? ⟨w.heap.size, 1, none⟩ = some (.int .i64 n) ∧ w'.cell? ⟨w.heap.size, 2, none⟩ = some (.string ⟨t.toArray⟩) ∧ w'.cell? ⟨w.heap.size, 3, none⟩ = some (.bool b) ∧ w'.cell? ⟨w.heap.size, 4, none⟩ = some (.int .i64 f))
              (first | (go_split_ands; exact cells5 bY) | go_keep)
              (first | (go_at_call 25; refine Calls.mono (NA _) ?_; rintro e w2 ⟨rfl, u2⟩; have bY := u2.get HX.out id))
            go_wp2_with fail
            go_ret
            exact ⟨rfl, (((Upd.refl w _).alloc _).drew).then u2 (fun _ _ => id)⟩
          · rw [if_neg h4]
            have b4 : (x.k == 4) = false := by simpa using h4
            obtain ⟨k, n, t, b, f⟩ := x
            unfold Vl.val
            simp only at b0 b1 b2 b3 b4
            clear h0 h1 h2 h3 h4
            go_enter Tryz.func24, Tryz.ntmps24
            go_wp2_with fail
            go_ret
            exact ⟨rfl, (Upd.refl w _).alloc _⟩

/-- A value that may be, or the error that it counts as. -/
def soundV (x : Vl) : Vl := if goodV x = true then x else mkE 3
set_option maxHeartbeats 800000 in
theorem sound_any (w : World) (x : Vl) (hx : x.ok) : Calls Tryz.prog 40 #[x.val] w fun e w' => e = .returned (soundV x).val ∧ Upd w w' (fun _ => False) := by
  have GA := fun w => Good_any w x hx
  unfold soundV
  cases hg : goodV x with
  | true =>
    rw [hg] at GA
    simp only [if_true]
    obtain ⟨k, n, t, b, f⟩ := x
    unfold Vl.val at GA ⊢
    clear hg
    go_enter Tryz.func40, Tryz.ntmps40
    go_wp2_with (go_at_call 24; refine Calls.mono (GA _) ?_; rintro e w1 ⟨rfl, u1⟩
                 have bA := u1.get (block_alloc (Vnew1 w (.cells (Vl.mk k n t b f).cs 29)) _) id
                 have bX := u1.get (Vnew2 w (.cells (Vl.mk k n t b f).cs 29) (.cells vZero.cs 29)) id
                 obtain ⟨a0, a1, a2, a3, a4⟩ := cells5 bA
                 have al := lt_at bA
                 obtain ⟨c0, c1, c2, c3, c4⟩ := cells5 bX
                 have xl := lt_at bX
                 have f0 := free_at bX 0
                 have f1 := free_at bX 1
                 have f2 := free_at bX 2
                 have f3 := free_at bX 3
                 have f4 := free_at bX 4
                 have HX := hide bX
                 have HU := hide u1
                 clear bX bA u1)
    (try simp only [Exit.inBlock, Exit.then])
    refine bodyPost_ret (ret_vl rfl _ _ (w.heap.size + 1) ⟨k, n, t, b, f⟩ rfl (block5 HX.out _ _ _ _ _)) rfl ?_
    exact ⟨rfl, upd5 ((((Upd.refl w _).alloc _).alloc _).then HU.out (fun _ _ => id)) (by omega) _ _ _ _ _⟩
  | false =>
    rw [hg] at GA
    simp only [Bool.false_eq_true, if_false]
    have EA := fun w => E_any w 3
    obtain ⟨ev, hev⟩ : ∃ v, mkE 3 = v := ⟨_, rfl⟩
    rw [hev] at EA ⊢
    obtain ⟨k0, n0, t0, b0, e0⟩ := ev
    obtain ⟨k, n, t, b, f⟩ := x
    unfold Vl.val at GA EA ⊢
    simp only at EA
    clear hev hg
    go_enter Tryz.func40, Tryz.ntmps40
    go_wp2_with (first
      | (go_at_call 24; refine Calls.mono (GA _) ?_; rintro e w1 ⟨rfl, u1⟩
         have bX := u1.get (Vnew2 w (.cells (Vl.mk k n t b f).cs 29) (.cells vZero.cs 29)) id
         have HX := hide bX
         have HU := hide u1
         clear bX u1)
      | (go_at_call 25; refine Calls.mono (EA _) ?_; rintro e w2 ⟨rfl, u2⟩
         have bX := u2.get HX.out id
         obtain ⟨c0, c1, c2, c3, c4⟩ := cells5 bX
         have xl := lt_at bX
         have f0 := free_at bX 0
         have f1 := free_at bX 1
         have f2 := free_at bX 2
         have f3 := free_at bX 3
         have f4 := free_at bX 4
         have HX2 := hide bX
         have HU2 := hide u2
         clear bX u2))
    (try simp only [Exit.inBlock, Exit.then])
    refine bodyPost_ret (ret_vl rfl _ _ (w.heap.size + 1) ⟨k0, n0, t0, b0, e0⟩ rfl (block5 HX2.out _ _ _ _ _)) rfl ?_
    exact ⟨rfl, upd5 (((((Upd.refl w _).alloc _).alloc _).then HU.out (fun _ _ => id)).then HU2.out (fun _ _ => id)) (by omega) _ _ _ _ _⟩
end Go.Proofs.YtdjpkkgcoainhaaGreatDoor
/- The walks of the reference's E, N, T, B, Good, Sound. -/
set_option maxRecDepth 100000
namespace Go.Proofs.YtdjpkkgcoainhaaGreatDoor
open Go.RowKit Go.Lat

theorem Tryz.infoR : (Tryz.prog.info? 30).map (·.size) = some 5 := by kernel_rfl
theorem ret_rv {fn : Func} {p : Tmp} (h : fn.results = #[.cell p 30]) (tmps : Array Value) (W : World) (g : Nat) (x : Vl) (hp : tmps.getD p undef = .pointer (some ⟨g, 0, none⟩)) (hg : W.heap[g]? = some (.cells x.cs 30 (0, 0))) :
    (results fn tmps).run Tryz.prog W = .ok x.val W :=
  results_cell_row h tmps W g 30 x.cs (0, 0) _ hp hg Tryz.underlying30 rfl Tryz.infoR
theorem rblock5 {W : World} {g : Nat} {x : Vl} (h : W.heap[g]? = some (.cells x.cs 30 (0, 0))) (v0 v1 v2 v3 v4 : Value) :
    (((((W.setCell ⟨g, 0, none⟩ v0).setCell ⟨g, 1, none⟩ v1).setCell ⟨g, 2, none⟩ v2).setCell ⟨g, 3, none⟩ v3).setCell ⟨g, 4, none⟩ v4).heap[g]? = some (.cells #[v0, v1, v2, v3, v4] 30 (0, 0)) :=
  block_setCell (block_setCell (block_setCell (block_setCell (block_setCell h 0 v0) 1 v1) 2 v2) 3 v3) 4 v4

theorem RE_any (w : World) (f : Int) : Calls Tryz.prog 73 #[.int .i64 f] w fun e w' => e = .returned (mkE f).val ∧ Upd w w' (fun _ => False) := by
  unfold mkE
  by_cases h1 : f < 1
  · have h : okFail f = false := by simp [okFail]; omega
    have d1 : decide (f < 1) = true := by simpa using h1
    rw [h]
    simp only [Bool.false_eq_true, if_false]
    clear h h1
    go_enter Tryz.func73, Tryz.ntmps73
    go_wp2_with fail
    (try simp only [Exit.inBlock, Exit.then])
    refine bodyPost_ret (ret_rv rfl _ _ w.heap.size ⟨4, 0, [], false, 3⟩ rfl (Vnew1 w _)) rfl ?_
    exact ⟨rfl, (Upd.refl w _).alloc _⟩
  · have d1 : decide (f < 1) = false := by simpa using h1
    by_cases h2 : 8 < f
    · have h : okFail f = false := by simp [okFail]; omega
      have d2 : decide (8 < f) = true := by simpa using h2
      rw [h]
      simp only [Bool.false_eq_true, if_false]
      clear h h1 h2
      go_enter Tryz.func73, Tryz.ntmps73
      go_wp2_with fail
      (try simp only [Exit.inBlock, Exit.then])
      refine bodyPost_ret (ret_rv rfl _ _ w.heap.size ⟨4, 0, [], false, 3⟩ rfl (Vnew1 w _)) rfl ?_
      exact ⟨rfl, (Upd.refl w _).alloc _⟩
    · have h : okFail f = true := by simp [okFail]; omega
      have d2 : decide (8 < f) = false := by simpa using h2
      rw [h]
      simp only [if_true]
      clear h h1 h2
      go_enter Tryz.func73, Tryz.ntmps73
      go_wp2_with fail
      (try simp only [Exit.inBlock, Exit.then])
      refine bodyPost_ret (ret_rv rfl _ _ w.heap.size ⟨4, 0, [], false, f⟩ rfl (Vnew1 w _)) rfl ?_
      exact ⟨rfl, (Upd.refl w _).alloc _⟩
theorem RN_any (w : World) (n : Int) : Calls Tryz.prog 66 #[.int .i64 n] w fun e w' => e = .returned (mkN n).val ∧ Upd w w' (fun _ => False) := by
  have I := fun w => RefGood_any w n
  have EA := fun w => RE_any w 2
  unfold mkN
  cases h : okNum n with
  | true =>
    rw [h] at I
    simp only [if_true]
    clear h EA
    go_enter Tryz.func66, Tryz.ntmps66
    go_wp2_with (go_at_call 49; refine Calls.mono (I _) ?_; rintro e w' ⟨rfl, hw⟩; replace hw := hw.symm; subst hw)
    (try simp only [Exit.inBlock, Exit.then])
    refine bodyPost_ret (ret_rv rfl _ _ w.heap.size ⟨1, n, [], false, 0⟩ rfl (Vnew1 w _)) rfl ?_
    exact ⟨rfl, (Upd.refl w _).alloc _⟩
  | false =>
    rw [h] at I
    simp only [Bool.false_eq_true, if_false]
    clear h
    obtain ⟨ev, hev⟩ : ∃ v, mkE 2 = v := ⟨_, rfl⟩
    rw [hev] at EA ⊢
    obtain ⟨k0, n0, t0, b0, e0⟩ := ev
    unfold Vl.val at EA
    simp only at EA
    clear hev
    go_enter Tryz.func66, Tryz.ntmps66
    go_wp2_with (first
      | (go_at_call 49; refine Calls.mono (I _) ?_; rintro e w' ⟨rfl, hw⟩; replace hw := hw.symm; subst hw)
      | (go_at_call 73; refine Calls.mono (EA _) ?_; rintro e w2 ⟨rfl, u2⟩
         have bX2 := u2.get (Vnew1 w (.cells vZero.cs 30)) id
         obtain ⟨c0, c1, c2, c3, c4⟩ := cells5 bX2
         have xl := lt_at bX2
         have f0 := free_at bX2 0
         have f1 := free_at bX2 1
         have f2 := free_at bX2 2
         have f3 := free_at bX2 3
         have f4 := free_at bX2 4
         have HX2 := hide bX2
         have HU2 := hide u2
         clear bX2 u2))
    (try simp only [Exit.inBlock, Exit.then])
    refine bodyPost_ret (ret_rv rfl _ _ w.heap.size ⟨k0, n0, t0, b0, e0⟩ rfl (rblock5 HX2.out _ _ _ _ _)) rfl ?_
    exact ⟨rfl, upd5 (((Upd.refl w _).alloc _).then HU2.out (fun _ _ => id)) (Nat.le_refl _) _ _ _ _ _⟩
/-- The reference's word for what may be. -/
def rgoodV (x : Vl) : Bool :=
  let a := decide (x.n = 0); let b := decide (x.t = []); let c := !x.b; let d := decide (x.f = 0)
  if x.k = 0 then (a && b) && c && d else if x.k = 1 then (okNum x.n && b) && c && d else if x.k = 2 then (a && decide (x.t.length ≤ 255)) && c && d else if x.k = 3 then (a && b) && d else if x.k = 4 then ((a && b) && c && decide (1 ≤ x.f)) && decide (x.f ≤ 8) else false
theorem rgood_eq (x : Vl) : rgoodV x = goodV x := by
  obtain ⟨k, n, t, b, f⟩ := x
  unfold rgoodV goodV
  simp only
  by_cases h0 : k = 0
  · subst h0
    rw [if_pos rfl, if_pos rfl, Bool.eq_iff_iff, eqV_iff]
    simp [vZero]
    constructor
    · rintro ⟨⟨⟨rfl, rfl⟩, rfl⟩, rfl⟩; exact ⟨rfl, rfl, rfl, rfl⟩
    · rintro ⟨rfl, rfl, rfl, rfl⟩; exact ⟨⟨⟨rfl, rfl⟩, rfl⟩, rfl⟩
  · rw [if_neg h0, if_neg h0]
    by_cases h1 : k = 1
    · subst h1
      rw [if_pos rfl, if_pos rfl, Bool.eq_iff_iff, eqV_iff]
      unfold mkN
      cases ho : okNum n
      · simp [mkE]
      · simp
        constructor
        · rintro ⟨⟨rfl, rfl⟩, rfl⟩; exact ⟨rfl, rfl, rfl⟩
        · rintro ⟨rfl, rfl, rfl⟩; exact ⟨⟨rfl, rfl⟩, rfl⟩
    · rw [if_neg h1, if_neg h1]
      by_cases h2 : k = 2
      · subst h2
        rw [if_pos rfl, if_pos rfl, Bool.eq_iff_iff, eqV_iff]
        unfold mkT
        by_cases hl : t.length ≤ 255
        · simp [hl]
          constructor
          · rintro ⟨⟨rfl, rfl⟩, rfl⟩; exact ⟨rfl, rfl, rfl⟩
          · rintro ⟨rfl, rfl, rfl⟩; exact ⟨⟨rfl, rfl⟩, rfl⟩
        · simp [hl, mkE]
      · rw [if_neg h2, if_neg h2]
        by_cases h3 : k = 3
        · subst h3
          rw [if_pos rfl, if_pos rfl, Bool.eq_iff_iff, eqV_iff]
          simp [mkB]
          constructor
          · rintro ⟨⟨rfl, rfl⟩, rfl⟩; exact ⟨rfl, rfl, rfl⟩
          · rintro ⟨rfl, rfl, rfl⟩; exact ⟨⟨rfl, rfl⟩, rfl⟩
        · rw [if_neg h3, if_neg h3]
          by_cases h4 : k = 4
          · subst h4
            rw [if_pos rfl, if_pos rfl, Bool.eq_iff_iff, eqV_iff]
            unfold mkE
            cases ho : okFail f
            · have : ¬ (1 ≤ f ∧ f ≤ 8) := by simp [okFail] at ho; omega
              simp
              constructor
              · rintro ⟨⟨_, h⟩, h'⟩; exact absurd ⟨h, h'⟩ this
              · rintro ⟨_, _, _, rfl⟩; simp at this
            · have : 1 ≤ f ∧ f ≤ 8 := by simp [okFail] at ho; omega
              simp [this.1, this.2]
              constructor
              · rintro ⟨⟨rfl, rfl⟩, rfl⟩; exact ⟨rfl, rfl, rfl⟩
              · rintro ⟨rfl, rfl, rfl⟩; exact ⟨⟨rfl, rfl⟩, rfl⟩
          · rw [if_neg h4, if_neg h4]
end Go.Proofs.YtdjpkkgcoainhaaGreatDoor
/- The walks of the reference's Good, Sound; of package value's beside, rank. -/
set_option maxRecDepth 100000
namespace Go.Proofs.YtdjpkkgcoainhaaGreatDoor
open Go.RowKit Go.Lat

theorem beq0 (f : Int) : (f == 0) = decide (f = 0) := by
  rw [Bool.eq_iff_iff]
  simp
set_option maxHeartbeats 1600000 in
theorem RGood_any (w : World) (x : Vl) : Calls Tryz.prog 26 #[x.val] w fun e w' => e = .returned (.bool (goodV x)) ∧ Upd w w' (fun _ => False) := by
  rw [← rgood_eq]
  have I := fun w => RefGood_any w x.n
  obtain ⟨k, n, t, b, f⟩ := x
  unfold rgoodV Vl.val
  simp only at I ⊢
  by_cases h0 : k = 0
  · subst h0
    rw [if_pos rfl]
    go_enter Tryz.func26, Tryz.ntmps26
    go_wp2_with fail
    all_goals go_ret
    all_goals refine ⟨?_, (Upd.refl w _).alloc _⟩
    all_goals first | rfl | (simp_all; done) | (simp_all; rfl) | (simp_all; exact beq0 _) | (simp_all; omega) | (simp_all; intro _; omega)
  · rw [if_neg h0]
    have b0 : (k == 0) = false := by simpa using h0
    by_cases h1 : k = 1
    · subst h1
      rw [if_pos rfl]
      obtain ⟨q, hq⟩ : ∃ q, okNum n = q := ⟨_, rfl⟩
      rw [hq] at I ⊢
      clear hq h0
      go_enter Tryz.func26, Tryz.ntmps26
      go_wp2_with (go_at_call 49; refine Calls.mono (I _) ?_; rintro e w' ⟨rfl, hw⟩; replace hw := hw.symm; subst hw)
      all_goals go_ret
      all_goals refine ⟨?_, (Upd.refl w _).alloc _⟩
      all_goals first | rfl | (simp_all; done) | (simp_all; rfl) | (simp_all; exact beq0 _) | (simp_all; omega) | (simp_all; intro _; omega)
    · rw [if_neg h1]
      have b1 : (k == 1) = false := by simpa using h1
      by_cases h2 : k = 2
      · subst h2
        rw [if_pos rfl]
        have d0 : ∀ q : Bool, decide (t.length ≤ 255) = q → decide ((t.length : Int) ≤ 255) = q := by
          intro q hq
          rw [← hq, Bool.eq_iff_iff]
          simp
          omega
        obtain ⟨q, hq⟩ : ∃ q, decide (t.length ≤ 255) = q := ⟨_, rfl⟩
        have d1 := d0 q hq
        rw [hq]
        clear h0 h1 d0
        go_enter Tryz.func26, Tryz.ntmps26
        go_wp2_with fail
        all_goals go_ret
        all_goals refine ⟨?_, (Upd.refl w _).alloc _⟩
        all_goals first | rfl | (simp_all; done) | (simp_all; rfl) | (simp_all; exact beq0 _) | (simp_all; omega) | (simp_all; intro _; omega)
      · rw [if_neg h2]
        have b2 : (k == 2) = false := by simpa using h2
        by_cases h3 : k = 3
        · subst h3
          rw [if_pos rfl]
          clear h0 h1 h2
          go_enter Tryz.func26, Tryz.ntmps26
          go_wp2_with fail
          all_goals go_ret
          all_goals refine ⟨?_, (Upd.refl w _).alloc _⟩
          all_goals first | rfl | (simp_all; done) | (simp_all; rfl) | (simp_all; exact beq0 _) | (simp_all; omega) | (simp_all; intro _; omega)
        · rw [if_neg h3]
          have b3 : (k == 3) = false := by simpa using h3
          by_cases h4 : k = 4
          · subst h4
            rw [if_pos rfl]
            clear h0 h1 h2 h3
            go_enter Tryz.func26, Tryz.ntmps26
            go_wp2_with fail
            all_goals go_ret
            all_goals refine ⟨?_, (Upd.refl w _).alloc _⟩
            all_goals first | rfl | (simp_all; done) | (simp_all; rfl) | (simp_all; exact beq0 _) | (simp_all; omega) | (simp_all; intro _; omega)
          · rw [if_neg h4]
            have b4 : (k == 4) = false := by simpa using h4
            clear h0 h1 h2 h3 h4
            go_enter Tryz.func26, Tryz.ntmps26
            go_wp2_with fail
            all_goals go_ret
            all_goals refine ⟨?_, (Upd.refl w _).alloc _⟩
            all_goals first | rfl | (simp_all; done) | (simp_all; rfl) | (simp_all; exact beq0 _) | (simp_all; omega) | (simp_all; intro _; omega)

theorem rank_any (w : World) (b : Bool) : Calls Tryz.prog 46 #[.bool b] w fun e w' => e = .returned (.int .i64 (if b then 1 else 0)) ∧ w' = w := by
  cases b with
  | true =>
    go_enter Tryz.func46, Tryz.ntmps46
    go_wp2_with fail
    go_ret
    exact ⟨rfl, rfl⟩
  | false =>
    go_enter Tryz.func46, Tryz.ntmps46
    go_wp2_with fail
    go_ret
    exact ⟨rfl, rfl⟩
end Go.Proofs.YtdjpkkgcoainhaaGreatDoor
