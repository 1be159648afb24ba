/- The maps of package cache: their keys, their elements. -/
import Derived.Test.YtcclkfkdafmemaaMaps
import Derived.Test.YtcclkfkdafmemaaTop
import Derived.ProofKit
import Derived.Test.YtcclkfkdafmemaaVlA
set_option maxRecDepth 100000
namespace Go.Proofs.Ytcclkfkdafmemaa
open Go.RowKit Go.Lat
open Go.Maps (Keyed)

theorem Try.laidOut : laidOutB Try.prog = true := by kernel_rfl
theorem lkLaw : WideMaps.KeyLaw Try.prog 30 := deep_law_laid Try.laidOut (m := 3) (by decide) (of_decide_eq_true (by kernel_rfl)) (by kernel_rfl) (by rw [Try.underlying30])
theorem lkK : Keyed Try.prog 30 := Keyed.of_law lkLaw

/-- A link: a book, a sheet, a column and a row. -/
structure Lk where
  b : List UInt8
  s : List UInt8
  c : Int
  r : Int
def Lk.cs (x : Lk) : Array Value := #[enS x.b, enS x.s, .int .i64 x.c, .int .i64 x.r]
def Lk.val (x : Lk) : Value := .agg #[enS x.b, enS x.s, .int .i64 x.c, .int .i64 x.r]
structure Lk.ok (x : Lk) : Prop where
  b : x.b.length ≤ maxLen
  s : x.s.length ≤ maxLen
  c : i64ok x.c
  r : i64ok x.r
def Lk.lits (x : Lk) : List Lit := [.string x.b, .string x.s, .int .i64 x.c, .int .i64 x.r]
def lkLit (x : Lk) : Lit := .string (keyBytes x.lits)
theorem lk_lits (d : Nat) {x : Lk} (h : x.ok) : Try.prog.keyLits (d + 3) 30 [enS x.b, enS x.s, .int .i64 x.c, .int .i64 x.r] = some x.lits := by
  obtain ⟨b, s, c, r⟩ := x
  obtain ⟨hb, hs, hc, hr⟩ := h
  simp only at hb hs hc hr
  have h0 : Try.prog.cellsOf 30 = 4 := by kernel_rfl
  have h1 : Try.prog.cellsOf 9 = 1 := by kernel_rfl
  have h2 : Try.prog.cellsOf 28 = 2 := by kernel_rfl
  have h3 : Try.prog.cellsOf 3 = 1 := by kernel_rfl
  have s1 : ∀ (d : Nat) (t : List UInt8), t.length ≤ maxLen → Try.prog.keyLits (d + 1) 9 [.string ⟨t.toArray⟩] = some [.string t] := by
    intro d t ht
    have hz' : (⟨t.toArray⟩ : ByteArray).size ≤ maxLen := ht
    simp [Program.keyLits, Try.underlying9, hz']
  have i1 : ∀ (d : Nat) (z : Int), i64ok z → Try.prog.keyLits (d + 1) 3 [.int .i64 z] = some [.int .i64 z] := by
    intro d z hz
    simp [Program.keyLits, Try.underlying3, wf_i64 hz]
  have c1 : Try.prog.keyLits (d + 2) 28 [.int .i64 c, .int .i64 r] = some [.int .i64 c, .int .i64 r] := by
    unfold Program.keyLits
    rw [Try.underlying28]
    simp [h2, h3, i1, hc, hr]
  unfold Program.keyLits
  rw [Try.underlying30]
  simp [h0, h1, h2, s1, c1, hb, hs, Lk.lits]
theorem lk_key {x : Lk} (h : x.ok) : keyOf Try.prog 30 x.val = some (lkLit x) := by
  have h1 : Try.prog.keyType 30 = true := by kernel_rfl
  have h2 : Try.prog.cellsOf 30 = 4 := by kernel_rfl
  unfold keyOf Lk.val
  rw [Try.underlying30]
  simp only [h1, Bool.true_and]
  have h4 : (Value.agg #[enS x.b, enS x.s, .int .i64 x.c, .int .i64 x.r]).formed Try.prog 30 = true := by
    simp [Value.formed, Try.underlying30, h2]
  rw [if_pos h4]
  have h7 : 1 < Try.prog.types.size := of_decide_eq_true (by kernel_rfl)
  obtain ⟨d, hd⟩ : ∃ d, Try.prog.types.size = d + 2 := ⟨Try.prog.types.size - 2, by omega⟩
  rw [hd]
  have := lk_lits d h
  simp [Value.cells, this, lkLit]
theorem lkLit_inj {x y : Lk} (hx : x.ok) (hy : y.ok) (h : lkLit x = lkLit y) : x = y := by
  have k1 := lk_key hx
  have k2 := lk_key hy
  rw [← h] at k2
  have := lkK.inj k1 k2
  obtain ⟨a, b, c, d⟩ := x
  obtain ⟨a', b', c', d'⟩ := y
  simpa [Lk.val] using this

/-- What is known of a link. -/
structure En where
  v : Vl
  ver : Int
  inc : Int
  has : Bool
  stale : Bool
  lost : Bool
def En.cs (x : En) : Array Value := #[.int .i64 x.v.k, .int .i64 x.v.n, enS x.v.t, .bool x.v.b, .int .i64 x.v.f, .int .i64 x.ver, .int .i64 x.inc, .bool x.has, .bool x.stale, .bool x.lost]
def En.val (x : En) : Value := .agg #[.int .i64 x.v.k, .int .i64 x.v.n, enS x.v.t, .bool x.v.b, .int .i64 x.v.f, .int .i64 x.ver, .int .i64 x.inc, .bool x.has, .bool x.stale, .bool x.lost]
def enZero : En := ⟨⟨0, 0, [], false, 0⟩, 0, 0, false, false, false⟩
theorem zeroEn (w : World) : (zeroValue 67).run Try.prog w = .ok enZero.val w := by kernel_rfl
theorem zeroBl (w : World) : (zeroValue 4).run Try.prog w = .ok (.bool false) w := by kernel_rfl
end Go.Proofs.Ytcclkfkdafmemaa
