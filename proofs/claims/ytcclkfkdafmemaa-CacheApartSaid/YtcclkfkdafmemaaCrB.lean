/- '==' of two links, at the program's type and the document's; '==' of two of the document's values; '==' of two entries. -/
import Derived.Test.YtcclkfkdafmemaaCaB
set_option maxRecDepth 100000
namespace Go.Proofs.Ytcclkfkdafmemaa
open Go.RowKit Go.Lat

theorem lits_lk {x y : Lk} (h : x.lits = y.lits) : x = y := by
  obtain ⟨a, b, c, d⟩ := x
  obtain ⟨a', b', c', d'⟩ := y
  simpa [Lk.lits] using h
section
theorem lkKT : Try.prog.keyTypeAt 3 30 = true := by kernel_rfl
theorem plKT : Try.prog.keyTypeAt 2 31 = true := by kernel_rfl
theorem rvKT : Try.prog.keyTypeAt 2 47 = true := by kernel_rfl
theorem lk_formed (x : Lk) : x.val.formed Try.prog 30 = true := by
  have h2 : Try.prog.cellsOf 30 = 4 := by kernel_rfl
  simp [Lk.val, Value.formed, Try.underlying30, h2]
theorem pl_formed (x : Lk) : x.val.formed Try.prog 31 = true := by
  have h2 : Try.prog.cellsOf 31 = 4 := by kernel_rfl
  simp [Lk.val, Value.formed, Try.underlying31, h2]
theorem rv_formed (x : Vl) : x.val.formed Try.prog 47 = true := by
  have h2 : Try.prog.cellsOf 47 = 5 := by kernel_rfl
  simp [Vl.val, Value.formed, Try.underlying47, h2]
theorem lk_lits' {x : Lk} (h : x.ok) : Try.prog.keyLits 5 30 x.val.cells.toList = some x.lits := lk_lits 2 h
theorem pl_lits {x : Lk} (h : x.ok) : Try.prog.keyLits 5 31 x.val.cells.toList = some x.lits := by
  obtain ⟨b, s, c, r⟩ := x
  obtain ⟨hb, hs, hc, hr⟩ := h
  simp only at hb hs hc hr
  have h0 : Try.prog.cellsOf 31 = 4 := by kernel_rfl
  have h1 : Try.prog.cellsOf 9 = 1 := by kernel_rfl
  have h2 : Try.prog.cellsOf 3 = 1 := by kernel_rfl
  have s5 : ∀ t : List UInt8, t.length ≤ maxLen → Try.prog.keyLits 4 9 [.string ⟨t.toArray⟩] = some [.string t] := by
    intro t ht
    have hz' : (⟨t.toArray⟩ : ByteArray).size ≤ maxLen := ht
    simp [Program.keyLits, Try.underlying9, hz']
  have i1 : ∀ z : Int, i64ok z → Try.prog.keyLits 4 3 [.int .i64 z] = some [.int .i64 z] := by
    intro z hz
    simp [Program.keyLits, Try.underlying3, wf_i64 hz]
  unfold Program.keyLits
  rw [Try.underlying31]
  simp [h0, h1, h2, s5, i1, hb, hs, hc, hr, Lk.val, Lk.lits, Value.cells]
theorem rv_lits {x : Vl} (h : x.ok) : Try.prog.keyLits 5 47 x.val.cells.toList = some x.lits := by
  obtain ⟨k, n, t, b, f⟩ := x
  obtain ⟨hk, hn, ht, hf⟩ := h
  simp only at hk hn ht hf
  have h0 : Try.prog.cellsOf 47 = 5 := by kernel_rfl
  have h1 : Try.prog.cellsOf 9 = 1 := by kernel_rfl
  have h2 : Try.prog.cellsOf 3 = 1 := by kernel_rfl
  have h3 : Try.prog.cellsOf 2 = 1 := by kernel_rfl
  have h4 : Try.prog.cellsOf 4 = 1 := by kernel_rfl
  have s5 : Try.prog.keyLits 4 9 [.string ⟨t.toArray⟩] = some [.string t] := by
    have hz' : (⟨t.toArray⟩ : ByteArray).size ≤ maxLen := ht
    simp [Program.keyLits, Try.underlying9, hz']
  have i1 : ∀ z : Int, i64ok z → Try.prog.keyLits 4 3 [.int .i64 z] = some [.int .i64 z] := by
    intro z hz
    simp [Program.keyLits, Try.underlying3, wf_i64 hz]
  have i2 : Try.prog.keyLits 4 2 [.int .i64 n] = some [.int .i64 n] := by
    simp [Program.keyLits, Try.underlying2, wf_i64 hn]
  have i3 : Try.prog.keyLits 4 4 [.bool b] = some [.bool b] := by
    simp [Program.keyLits, Try.underlying4]
  unfold Program.keyLits
  rw [Try.underlying47]
  simp [h0, h1, h2, h3, h4, s5, i1, i2, i3, hk, hf, Vl.val, Vl.lits, Value.cells]
theorem eq_lk (w : World) {x y : Lk} (hx : x.ok) (hy : y.ok) : (binOp .eql 30 x.val y.val).run Try.prog w = .ok (.bool (decide (x = y))) w := by
  obtain ⟨r, h1, h2⟩ := run_equalIn_deep 9997 3 30 lkKT w 5 5 _ _ _ _ (lk_formed x) (lk_formed y) (lk_lits' hx) (lk_lits' hy)
  have e : r = decide (x = y) := by
    rw [Bool.eq_iff_iff, h2, decide_eq_true_iff]
    exact ⟨lits_lk, fun e => by rw [e]⟩
  unfold Lk.val at h1 ⊢
  rw [run_eql_struct, h1, e]
  rfl
theorem eq_pl (w : World) {x y : Lk} (hx : x.ok) (hy : y.ok) : (binOp .eql 31 x.val y.val).run Try.prog w = .ok (.bool (decide (x = y))) w := by
  obtain ⟨r, h1, h2⟩ := run_equalIn_deep 9998 2 31 plKT w 5 5 _ _ _ _ (pl_formed x) (pl_formed y) (pl_lits hx) (pl_lits hy)
  have e : r = decide (x = y) := by
    rw [Bool.eq_iff_iff, h2, decide_eq_true_iff]
    exact ⟨lits_lk, fun e => by rw [e]⟩
  unfold Lk.val at h1 ⊢
  rw [run_eql_struct, h1, e]
  rfl
theorem eq_rv (w : World) {x y : Vl} (hx : x.ok) (hy : y.ok) : (binOp .eql 47 x.val y.val).run Try.prog w = .ok (.bool (eqV x y)) w := by
  obtain ⟨r, h1, h2⟩ := run_equalIn_deep 9998 2 47 rvKT w 5 5 _ _ _ _ (rv_formed x) (rv_formed y) (rv_lits hx) (rv_lits hy)
  have e : r = eqV x y := by
    rw [Bool.eq_iff_iff, h2, eqV_iff]
    exact ⟨vlits_inj, fun e => by rw [e]⟩
  unfold Vl.val at h1 ⊢
  rw [run_eql_struct, h1, e]
  rfl

/-- What an entry may hold. -/
structure En.ok (x : En) : Prop where
  v : x.v.ok
  ver : i64ok x.ver
  inc : i64ok x.inc
def En.lits (x : En) : List Lit := [.int .i64 x.v.k, .int .i64 x.v.n, .string x.v.t, .bool x.v.b, .int .i64 x.v.f, .int .i64 x.ver, .int .i64 x.inc, .bool x.has, .bool x.stale, .bool x.lost]
theorem lits_en {x y : En} (h : x.lits = y.lits) : x = y := by
  obtain ⟨⟨a, b, c, d, e⟩, v, i, p, q, r⟩ := x
  obtain ⟨⟨a', b', c', d', e'⟩, v', i', p', q', r'⟩ := y
  simp [En.lits] at h
  obtain ⟨rfl, rfl, rfl, rfl, rfl, rfl, rfl, rfl, rfl, rfl⟩ := h
  rfl
theorem enKT : Try.prog.keyTypeAt 3 67 = true := by kernel_rfl
theorem en_formed (x : En) : x.val.formed Try.prog 67 = true := by
  have h2 : Try.prog.cellsOf 67 = 10 := by kernel_rfl
  simp [En.val, Value.formed, Try.underlying67, h2]
theorem en_lits {x : En} (h : x.ok) : Try.prog.keyLits 6 67 x.val.cells.toList = some x.lits := by
  obtain ⟨v, ver, inc, has, stale, lost⟩ := x
  obtain ⟨hv, hver, hinc⟩ := h
  have L := vl_lits hv
  obtain ⟨k, n, t, b, f⟩ := v
  simp only at hver hinc
  unfold Vl.val Vl.lits at L
  simp only [Value.cells] at L
  have h0 : Try.prog.cellsOf 46 = 5 := by kernel_rfl
  have h9 : Try.prog.cellsOf 67 = 10 := by kernel_rfl
  have h3 : Try.prog.cellsOf 2 = 1 := by kernel_rfl
  have h4 : Try.prog.cellsOf 4 = 1 := by kernel_rfl
  have i2 : ∀ z : Int, i64ok z → Try.prog.keyLits 5 2 [.int .i64 z] = some [.int .i64 z] := by
    intro z hz
    simp [Program.keyLits, Try.underlying2, wf_i64 hz]
  have i3 : ∀ b : Bool, Try.prog.keyLits 5 4 [.bool b] = some [.bool b] := by
    intro b
    simp [Program.keyLits, Try.underlying4]
  unfold Program.keyLits
  rw [Try.underlying67]
  simp [h0, h9, h3, h4, i2, i3, L, hver, hinc, En.val, En.lits, Value.cells]
instance : DecidableEq En := fun a b => decidable_of_iff (eqV a.v b.v = true ∧ a.ver = b.ver ∧ a.inc = b.inc ∧ a.has = b.has ∧ a.stale = b.stale ∧ a.lost = b.lost) (by
  obtain ⟨v, a2, a3, a4, a5, a6⟩ := a
  obtain ⟨v', b2, b3, b4, b5, b6⟩ := b
  simp [eqV_iff])
theorem eqIn_en (w : World) {x y : En} (hx : x.ok) (hy : y.ok) : (Op.equalIn 10000 67 x.val y.val).run Try.prog w = .ok (decide (x = y)) w := by
  obtain ⟨r, h1, h2⟩ := run_equalIn_deep 9997 3 67 enKT w 6 6 _ _ _ _ (en_formed x) (en_formed y) (en_lits hx) (en_lits hy)
  have e : r = decide (x = y) := by
    rw [Bool.eq_iff_iff, h2, decide_eq_true_iff]
    exact ⟨lits_en, fun e => by rw [e]⟩
  rw [h1, e]
theorem eq_en (w : World) {x y : En} (hx : x.ok) (hy : y.ok) : (binOp .eql 67 x.val y.val).run Try.prog w = .ok (.bool (decide (x = y))) w := by
  have h := eqIn_en w hx hy
  unfold En.val at h ⊢
  rw [run_eql_struct, h]
  rfl
theorem neq_en (w : World) {x y : En} (hx : x.ok) (hy : y.ok) : (binOp .neq 67 x.val y.val).run Try.prog w = .ok (.bool (!decide (x = y))) w := by
  have h := eqIn_en w hx hy
  unfold En.val at h ⊢
  rw [run_neq_struct, h]
  rfl
end
end Go.Proofs.Ytcclkfkdafmemaa
