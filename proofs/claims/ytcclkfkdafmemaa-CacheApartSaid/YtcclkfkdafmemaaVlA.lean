/- A value: its cells, '==' of two; the walks of package value's constructors. -/
import Derived.Test.YtcclkfkdafmemaaFxB0
import Derived.DeepKeys
import Derived.Laws.Rows
set_option maxRecDepth 100000
namespace Go.Proofs.Ytcclkfkdafmemaa
open Go.RowKit Go.Lat

theorem Vnew1 (w : World) (A : Obj) : (w.alloc A).heap[w.heap.size]? = some A := heap_alloc_new w A
theorem Vnew2 (w : World) (A B : Obj) : ((w.alloc A).alloc B).heap[w.heap.size + 1]? = some B := by
  have := heap_alloc_new (w.alloc A) B
  simpa using this
abbrev enS (s : List UInt8) : Value := .string ⟨s.toArray⟩
/-- A value as plain data. -/
structure Vl where
  k : Int
  n : Int
  t : List UInt8
  b : Bool
  f : Int
def Vl.cs (x : Vl) : Array Value := #[.int .i64 x.k, .int .i64 x.n, enS x.t, .bool x.b, .int .i64 x.f]
def Vl.val (x : Vl) : Value := .agg #[.int .i64 x.k, .int .i64 x.n, enS x.t, .bool x.b, .int .i64 x.f]
def i64ok (z : Int) : Prop := -9223372036854775808 ≤ z ∧ z ≤ 9223372036854775807
/-- What a Go value may be. -/
structure Vl.ok (x : Vl) : Prop where
  k : i64ok x.k
  n : i64ok x.n
  t : x.t.length ≤ maxLen
  f : i64ok x.f
theorem wf_i64 {z : Int} (h : i64ok z) : (Lit.int .i64 z).wf = true := by
  obtain ⟨h1, h2⟩ := h
  simp [Lit.wf, IntKind.min, IntKind.max, IntKind.signed, IntKind.bits]
  omega
def eqV (x y : Vl) : Bool := decide (x.k = y.k) && (decide (x.n = y.n) && (decide (x.t = y.t) && (decide (x.b = y.b) && decide (x.f = y.f))))
theorem eqV_iff {x y : Vl} : eqV x y = true ↔ x = y := by
  obtain ⟨a, b, c, d, e⟩ := x
  obtain ⟨a', b', c', d', e'⟩ := y
  simp [eqV]
def Vl.lits (x : Vl) : List Lit := [.int .i64 x.k, .int .i64 x.n, .string x.t, .bool x.b, .int .i64 x.f]
theorem vlits_inj {x y : Vl} (h : x.lits = y.lits) : x = y := by
  obtain ⟨a, b, c, d, e⟩ := x
  obtain ⟨a', b', c', d', e'⟩ := y
  simpa [Vl.lits] using h
section
theorem vlK : Try.prog.keyTypeAt 2 46 = true := by kernel_rfl
theorem vl_formed (x : Vl) : x.val.formed Try.prog 46 = true := by
  have h2 : Try.prog.cellsOf 46 = 5 := by kernel_rfl
  simp [Vl.val, Value.formed, Try.underlying46, h2]
theorem vl_lits {x : Vl} (h : x.ok) : Try.prog.keyLits 5 46 x.val.cells.toList = some x.lits := by
  obtain ⟨k, n, t, b, f⟩ := x
  obtain ⟨hk, hn, ht, hf⟩ := h
  simp only at hk hn ht hf
  have h0 : Try.prog.cellsOf 46 = 5 := by kernel_rfl
  have h1 : Try.prog.cellsOf 9 = 1 := by kernel_rfl
  have h2 : Try.prog.cellsOf 42 = 1 := by kernel_rfl
  have h3 : Try.prog.cellsOf 43 = 1 := by kernel_rfl
  have h4 : Try.prog.cellsOf 4 = 1 := by kernel_rfl
  have h5 : Try.prog.cellsOf 44 = 1 := by kernel_rfl
  have s5 : Try.prog.keyLits 4 9 [.string ⟨t.toArray⟩] = some [.string t] := by
    have hz' : (⟨t.toArray⟩ : ByteArray).size ≤ maxLen := ht
    simp [Program.keyLits, Try.underlying9, hz']
  have i1 : Try.prog.keyLits 4 42 [.int .i64 k] = some [.int .i64 k] := by
    simp [Program.keyLits, Try.underlying42, wf_i64 hk]
  have i2 : Try.prog.keyLits 4 43 [.int .i64 n] = some [.int .i64 n] := by
    simp [Program.keyLits, Try.underlying43, wf_i64 hn]
  have i3 : Try.prog.keyLits 4 4 [.bool b] = some [.bool b] := by
    simp [Program.keyLits, Try.underlying4]
  have i4 : Try.prog.keyLits 4 44 [.int .i64 f] = some [.int .i64 f] := by
    simp [Program.keyLits, Try.underlying44, wf_i64 hf]
  unfold Program.keyLits
  rw [Try.underlying46]
  simp [h0, h1, h2, h3, h4, h5, s5, i1, i2, i3, i4, Vl.val, Vl.lits, Value.cells]
theorem eqIn_vl (w : World) {x y : Vl} (hx : x.ok) (hy : y.ok) : (Op.equalIn 10000 46 x.val y.val).run Try.prog w = .ok (eqV x y) w := by
  obtain ⟨r, h1, h2⟩ := run_equalIn_deep 9998 2 46 vlK w 5 5 _ _ _ _ (vl_formed x) (vl_formed y) (vl_lits hx) (vl_lits hy)
  rw [h1]
  congr 1
  rw [Bool.eq_iff_iff, h2, eqV_iff]
  exact ⟨vlits_inj, fun e => by rw [e]⟩
theorem eq_vl (w : World) {x y : Vl} (hx : x.ok) (hy : y.ok) : (binOp .eql 46 x.val y.val).run Try.prog w = .ok (.bool (eqV x y)) w := by
  have h := eqIn_vl w hx hy
  unfold Vl.val at h ⊢
  rw [run_eql_struct, h]
  rfl
theorem neq_vl (w : World) {x y : Vl} (hx : x.ok) (hy : y.ok) : (binOp .neq 46 x.val y.val).run Try.prog w = .ok (.bool (!eqV x y)) w := by
  have h := eqIn_vl w hx hy
  unfold Vl.val at h ⊢
  rw [run_neq_struct, h]
  rfl
end

theorem Try.infoV : (Try.prog.info? 46).map (·.size) = some 5 := by kernel_rfl
/-- A function's end: its one result lies in a cell. -/
theorem ret_vl {fn : Func} {p : Tmp} (h : fn.results = #[.cell p 46]) (tmps : Array Value) (W : World) (g : Nat) (x : Vl) (hp : tmps.getD p undef = .pointer (some ⟨g, 0, none⟩)) (hg : W.heap[g]? = some (.cells x.cs 46 (0, 0))) :
    (results fn tmps).run Try.prog W = .ok x.val W :=
  results_cell_row h tmps W g 46 x.cs (0, 0) _ hp hg Try.underlying46 rfl Try.infoV

def okFail (f : Int) : Bool := decide (0 < f) && decide (f < 9)
def mkE (f : Int) : Vl := ⟨4, 0, [], false, if okFail f then f else 3⟩
def mkN (n : Int) : Vl := if okNum n then ⟨1, n, [], false, 0⟩ else mkE 2
def mkT (s : List UInt8) : Vl := if s.length ≤ 255 then ⟨2, 0, s, false, 0⟩ else mkE 3
def mkB (b : Bool) : Vl := ⟨3, 0, [], b, 0⟩

theorem fits_any (w : World) (n : Int) : Calls Try.prog 49 #[.int .i64 n] w fun e w' => e = .returned (.bool (okNum n)) ∧ Upd w w' (fun _ => False) := by
  have R := Raw_any w n
  cases h : okNum n with
  | true =>
    simp only [h, if_true] at R
    clear h
    go_enter Try.func49, Try.ntmps49
    go_wp2_with (go_at_call 58; refine Calls.mono R ?_; rintro e w1 ⟨rfl, u1⟩)
    go_ret
    exact ⟨rfl, u1⟩
  | false =>
    simp only [h, Bool.false_eq_true, if_false] at R
    clear h
    go_enter Try.func49, Try.ntmps49
    go_wp2_with (go_at_call 58; refine Calls.mono R ?_; rintro e w1 ⟨rfl, u1⟩)
    go_ret
    exact ⟨rfl, u1⟩
theorem is_any (w : World) (f : Int) : Calls Try.prog 32 #[.int .i64 f] w fun e w' => e = .returned (.bool (okFail f)) ∧ w' = w := by
  unfold okFail
  cases h : decide (0 < f) with
  | true =>
    go_enter Try.func32, Try.ntmps32
    go_wp2_with fail
    go_ret
    exact ⟨by simp, rfl⟩
  | false =>
    go_enter Try.func32, Try.ntmps32
    go_wp2_with fail
    go_ret
    exact ⟨by simp, rfl⟩
theorem B_any (w : World) (b : Bool) : Calls Try.prog 24 #[.bool b] w fun e w' => e = .returned (mkB b).val ∧ Upd w w' (fun _ => False) := by
  go_enter Try.func24, Try.ntmps24
  go_wp2_with fail
  (try simp only [Exit.inBlock, Exit.then])
  refine bodyPost_ret (ret_vl rfl _ _ w.heap.size (mkB b) rfl (Vnew1 w _)) rfl ?_
  exact ⟨rfl, (Upd.refl w _).alloc _⟩
theorem E_any (w : World) (f : Int) : Calls Try.prog 15 #[.int .i64 f] w fun e w' => e = .returned (mkE f).val ∧ Upd w w' (fun _ => False) := by
  have I := fun w => is_any w f
  unfold mkE
  cases h : okFail f with
  | true =>
    rw [h] at I
    simp only [if_true]
    clear h
    go_enter Try.func15, Try.ntmps15
    go_wp2_with (go_at_call 32; refine Calls.mono (I _) ?_; rintro e w' ⟨rfl, hw⟩; replace hw := hw.symm; subst hw)
    (try simp only [Exit.inBlock, Exit.then])
    refine bodyPost_ret (ret_vl rfl _ _ w.heap.size ⟨4, 0, [], false, f⟩ rfl (Vnew1 w _)) rfl ?_
    exact ⟨rfl, (Upd.refl w _).alloc _⟩
  | false =>
    rw [h] at I
    simp only [Bool.false_eq_true, if_false]
    clear h
    go_enter Try.func15, Try.ntmps15
    go_wp2_with (go_at_call 32; refine Calls.mono (I _) ?_; rintro e w' ⟨rfl, hw⟩; replace hw := hw.symm; subst hw)
    (try simp only [Exit.inBlock, Exit.then])
    refine bodyPost_ret (ret_vl rfl _ _ w.heap.size ⟨4, 0, [], false, 3⟩ rfl (Vnew1 w _)) rfl ?_
    exact ⟨rfl, (Upd.refl w _).alloc _⟩
end Go.Proofs.Ytcclkfkdafmemaa
