/- The cache laws' arguments, opened. -/
import Derived.Test.YtcclkfkdafmemaaCaB
import Derived.Test.YtcclkfkdafmemaaRows
import Derived.ChangeMaps5
set_option maxRecDepth 100000
namespace Go.Proofs.Ytcclkfkdafmemaa
open Go.ChangeShapes Go.WideShapes Go.ChangeAt Go.RowKit Go.Deep Go.Lat

/-- An argument of places. -/
def PlArg (w : World) (v : Value) (l : List Lk) : Prop :=
  ∃ (a : Option Addr) (cap : Nat), v = .slice a l.length cap ∧ l.length ≤ cap ∧ cap ≤ maxLen ∧ (a = none → cap = 0) ∧
    ∀ i x, l[i]? = some x → ∃ g off, a = some ⟨g, off, none⟩ ∧ g < w.heap.size ∧ w.cell? ⟨g, off + i * 4, none⟩ = some (enS x.b) ∧ w.cell? ⟨g, off + i * 4 + 1, none⟩ = some (enS x.s) ∧ w.cell? ⟨g, off + i * 4 + 2, none⟩ = some (.int .i64 x.c) ∧ w.cell? ⟨g, off + i * 4 + 3, none⟩ = some (.int .i64 x.r) ∧ x.ok
theorem PlArg.upd {w w' : World} {S : Nat → Prop} {v : Value} {l : List Lk} (h : PlArg w v l) (u : Upd w w' S) (hS : ∀ k, k < w.heap.size → ¬ S k) : PlArg w' v l := by
  obtain ⟨a, cap, e, h1, h2, h3, h4⟩ := h
  refine ⟨a, cap, e, h1, h2, h3, fun i x hx => ?_⟩
  obtain ⟨g, off, e1, hg, k0, k1, k2, k3, o⟩ := h4 i x hx
  exact ⟨g, off, e1, Nat.lt_of_lt_of_le hg u.size, (u.cell g _ hg (hS g hg)).trans k0, (u.cell g _ hg (hS g hg)).trans k1, (u.cell g _ hg (hS g hg)).trans k2, (u.cell g _ hg (hS g hg)).trans k3, o⟩
/-- A call as data. -/
structure AcD where
  dov : Int
  l : List Lk
  p : Lk
  ver : Int
  inc : Int
  v : Vl
  has : Bool
  stale : Bool
  lost : Bool
def AcD.cs (x : AcD) (lv : Value) : List Value := [.int .i64 x.dov, lv, enS x.p.b, enS x.p.s, .int .i64 x.p.c, .int .i64 x.p.r, .int .i64 x.ver, .int .i64 x.inc, .int .i64 x.v.k, .int .i64 x.v.n, enS x.v.t, .bool x.v.b, .int .i64 x.v.f, .bool x.has, .bool x.stale, .bool x.lost]
structure AcD.ok (x : AcD) : Prop where
  dov : i64ok x.dov
  p : x.p.ok
  ver : i64ok x.ver
  inc : i64ok x.inc
  v : x.v.ok
/-- An argument of calls. -/
def AcArg (w : World) (v : Value) (l : List AcD) : Prop :=
  ∃ (a : Option Addr) (cap : Nat), v = .slice a l.length cap ∧ l.length ≤ cap ∧ cap ≤ maxLen ∧ (a = none → cap = 0) ∧
    ∀ i x, l[i]? = some x → ∃ g off lv, a = some ⟨g, off, none⟩ ∧ g < w.heap.size ∧ (∀ j y, (x.cs lv)[j]? = some y → w.cell? ⟨g, off + i * 16 + j, none⟩ = some y) ∧ PlArg w lv x.l ∧ x.ok
theorem AcArg.upd {w w' : World} {S : Nat → Prop} {v : Value} {l : List AcD} (h : AcArg w v l) (u : Upd w w' S) (hS : ∀ k, k < w.heap.size → ¬ S k) : AcArg w' v l := by
  obtain ⟨a, cap, e, h1, h2, h3, h4⟩ := h
  refine ⟨a, cap, e, h1, h2, h3, fun i x hx => ?_⟩
  obtain ⟨g, off, lv, e1, hg, k, hl, o⟩ := h4 i x hx
  exact ⟨g, off, lv, e1, Nat.lt_of_lt_of_le hg u.size, fun j y hy => (u.cell g _ hg (hS g hg)).trans (k j y hy), hl.upd u hS, o⟩

theorem Try.own : ownKnob Try.prog.godebug = none := by kernel_rfl
section
variable {H : Type} {enc : TypeId × Value → H} {W : World} {base : Nat} {spare : Nat → Bool} {held : Bool}

theorem enS_string (s : ByteArray) : enS s.data.toList = .string s := by
  show Value.string ⟨s.data.toList.toArray⟩ = .string s
  simp
theorem take1 {cs : List Value} {j : Nat} (h : j < cs.length) : (cs.drop j).take 1 = [cs[j]] := by
  rw [List.drop_eq_getElem_cons h]
  rfl
/-- A place. -/
theorem place_open {n : Nat} {cs : List Value} {y : DataW H × List MemPlace} (h : DataW.trod enc Try.prog W base spare held n 23 cs = some y) :
    ∃ x : Lk, cs = [enS x.b, enS x.s, .int .i64 x.c, .int .i64 x.r] ∧ x.ok := by
  obtain ⟨ys, m, rfl, rfl, hl, hyl, hf⟩ := DataW.trod_struct Try.underlying23 h
  have h4 : Try.prog.cellsOf 23 = 4 := by kernel_rfl
  have hs : Try.prog.cellsOf 9 = 1 := by kernel_rfl
  have hi : Try.prog.cellsOf 3 = 1 := by kernel_rfl
  rw [h4] at hl
  have f0 := hf 0 _ rfl
  have f1 := hf 1 _ rfl
  have f2 := hf 2 _ rfl
  have f3 := hf 3 _ rfl
  change DataW.trod enc Try.prog W base spare held _ 9 ((cs.drop 0).take (Try.prog.cellsOf 9)) = _ at f0
  change DataW.trod enc Try.prog W base spare held _ 9 ((cs.drop 1).take (Try.prog.cellsOf 9)) = _ at f1
  change DataW.trod enc Try.prog W base spare held _ 3 ((cs.drop 2).take (Try.prog.cellsOf 3)) = _ at f2
  change DataW.trod enc Try.prog W base spare held _ 3 ((cs.drop 3).take (Try.prog.cellsOf 3)) = _ at f3
  rw [hs] at f0 f1
  rw [hi] at f2 f3
  have hyl4 : ys.length = 4 := hyl
  rw [take1 (by omega), List.getElem?_eq_getElem (by omega)] at f0 f1 f2 f3
  obtain ⟨s0, e0, _, b0⟩ := DataW.trod_string Try.underlying9 f0
  obtain ⟨s1, e1, _, b1⟩ := DataW.trod_string Try.underlying9 f1
  obtain ⟨n2, e2, _, w2⟩ := DataW.trod_int Try.underlying3 f2
  obtain ⟨n3, e3, _, w3⟩ := DataW.trod_int Try.underlying3 f3
  simp only [List.cons.injEq, and_true] at e0 e1 e2 e3
  refine ⟨⟨s0.data.toList, s1.data.toList, n2, n3⟩, ?_, ⟨b0, b1, bounds_int w2, bounds_int w3⟩⟩
  simp only [enS_string]
  apply List.ext_getElem?
  intro j
  match j with
  | 0 => rw [List.getElem?_eq_getElem (by omega), e0]; rfl
  | 1 => rw [List.getElem?_eq_getElem (by omega), e1]; rfl
  | 2 => rw [List.getElem?_eq_getElem (by omega), e2]; rfl
  | 3 => rw [List.getElem?_eq_getElem (by omega), e3]; rfl
  | j + 4 => rw [List.getElem?_eq_none (by omega), List.getElem?_eq_none (by simp)]
/-- A value as plain data. -/
theorem value_open {n : Nat} {cs : List Value} {y : DataW H × List MemPlace} (h : DataW.trod enc Try.prog W base spare held n 39 cs = some y) :
    ∃ x : Vl, cs = [.int .i64 x.k, .int .i64 x.n, enS x.t, .bool x.b, .int .i64 x.f] ∧ x.ok := by
  obtain ⟨ys, m, rfl, rfl, hl, hyl, hf⟩ := DataW.trod_struct Try.underlying39 h
  have h5 : Try.prog.cellsOf 39 = 5 := by kernel_rfl
  have hs : Try.prog.cellsOf 9 = 1 := by kernel_rfl
  have hi : Try.prog.cellsOf 3 = 1 := by kernel_rfl
  have hi6 : Try.prog.cellsOf 2 = 1 := by kernel_rfl
  have hb : Try.prog.cellsOf 4 = 1 := by kernel_rfl
  rw [h5] at hl
  have f0 := hf 0 _ rfl
  have f1 := hf 1 _ rfl
  have f2 := hf 2 _ rfl
  have f3 := hf 3 _ rfl
  have f4 := hf 4 _ rfl
  change DataW.trod enc Try.prog W base spare held _ 3 ((cs.drop 0).take (Try.prog.cellsOf 3)) = _ at f0
  change DataW.trod enc Try.prog W base spare held _ 2 ((cs.drop 1).take (Try.prog.cellsOf 2)) = _ at f1
  change DataW.trod enc Try.prog W base spare held _ 9 ((cs.drop 2).take (Try.prog.cellsOf 9)) = _ at f2
  change DataW.trod enc Try.prog W base spare held _ 4 ((cs.drop 3).take (Try.prog.cellsOf 4)) = _ at f3
  change DataW.trod enc Try.prog W base spare held _ 3 ((cs.drop 4).take (Try.prog.cellsOf 3)) = _ at f4
  rw [hi] at f0 f4
  rw [hi6] at f1
  rw [hs] at f2
  rw [hb] at f3
  have hyl5 : ys.length = 5 := hyl
  rw [take1 (by omega), List.getElem?_eq_getElem (by omega)] at f0 f1 f2 f3 f4
  obtain ⟨n0, e0, _, w0⟩ := DataW.trod_int Try.underlying3 f0
  obtain ⟨n1, e1, _, w1⟩ := DataW.trod_int Try.underlying2 f1
  obtain ⟨s2, e2, _, b2⟩ := DataW.trod_string Try.underlying9 f2
  obtain ⟨q3, e3, _⟩ := DataW.trod_bool Try.underlying4 f3
  obtain ⟨n4, e4, _, w4⟩ := DataW.trod_int Try.underlying3 f4
  simp only [List.cons.injEq, and_true] at e0 e1 e2 e3 e4
  refine ⟨⟨n0, n1, s2.data.toList, q3, n4⟩, ?_, ⟨bounds_int w0, bounds_int w1, b2, bounds_int w4⟩⟩
  simp only [enS_string]
  apply List.ext_getElem?
  intro j
  match j with
  | 0 => rw [List.getElem?_eq_getElem (by omega), e0]; rfl
  | 1 => rw [List.getElem?_eq_getElem (by omega), e1]; rfl
  | 2 => rw [List.getElem?_eq_getElem (by omega), e2]; rfl
  | 3 => rw [List.getElem?_eq_getElem (by omega), e3]; rfl
  | 4 => rw [List.getElem?_eq_getElem (by omega), e4]; rfl
  | j + 5 => rw [List.getElem?_eq_none (by omega), List.getElem?_eq_none (by simp)]
/-- An argument of places. -/
theorem places_open {n : Nat} {v : Value} {y : DataW H × List MemPlace} (h : DataW.trod enc Try.prog W base spare held n 37 [v] = some y) : ∃ l, PlArg W v l := by
  rcases open_slice Try.underlying37 h with ⟨h0, _⟩ | ⟨a, len, cap, m, n', D, Pl, hcs, hb, hl, hm, hmm, hx, hi⟩
  · simp at h0
    subst h0
    exact ⟨[], none, 0, rfl, by simp, by simp, fun _ => rfl, fun i x hx => by simp at hx⟩
  · simp at hcs
    subst hcs
    have h4 : Try.prog.cellsOf 23 = 4 := by kernel_rfl
    have hall : ∀ i, i < len → ∃ x : Lk, W.cell? (a.add (i * 4)) = some (enS x.b) ∧ W.cell? (a.add (i * 4 + 1)) = some (enS x.s) ∧ W.cell? (a.add (i * 4 + 2)) = some (.int .i64 x.c) ∧ W.cell? (a.add (i * 4 + 3)) = some (.int .i64 x.r) ∧ x.ok := by
      intro i hil
      obtain ⟨cs', hc, ht⟩ := hi i (by rw [hmm]; split <;> omega)
      rw [h4] at hc
      obtain ⟨_, hcl, hat⟩ := World.cells?_some hc
      obtain ⟨x, rfl, o⟩ := place_open ht
      refine ⟨x, ?_, ?_, ?_, ?_, o⟩
      · have := hat 0 (by omega); rw [Go.Deep.add_add] at this; simpa using this
      · have := hat 1 (by omega); rw [Go.Deep.add_add] at this; simpa using this
      · have := hat 2 (by omega); rw [Go.Deep.add_add] at this; simpa using this
      · have := hat 3 (by omega); rw [Go.Deep.add_add] at this; simpa using this
    obtain ⟨A, hA⟩ := choose_fn (⟨[], [], 0, 0⟩ : Lk) hall
    refine ⟨(List.range len).map A, some a, cap, by simp, by simpa using hl, hm, by simp, fun i x hx => ?_⟩
    have hil : i < len := by have := (List.getElem?_eq_some_iff.1 hx).1; simpa using this
    have hxA : A i = x := by simpa [hil] using hx
    subst hxA
    obtain ⟨z0, -⟩ := hA 0 (by omega)
    have hs := cell_spot z0
    obtain ⟨k0, k1, k2, k3, o⟩ := hA i hil
    obtain ⟨ab, ao, asp⟩ := a
    have hsp : asp = none := by
      cases asp with
      | none => rfl
      | some q => simp [Addr.add] at hs
    subst hsp
    simp only [add_off, ← Nat.add_assoc] at k0 k1 k2 k3
    exact ⟨ab, ao, rfl, World.block_lt_of_cell? W _ k0, k0, k1, k2, k3, o⟩
/-- An argument of calls. -/
theorem acts_open {n : Nat} {v : Value} {y : DataW H × List MemPlace} (h : DataW.trod enc Try.prog W base spare held n 24 [v] = some y) : ∃ l, AcArg W v l := by
  rcases open_slice Try.underlying24 h with ⟨h0, _⟩ | ⟨a, len, cap, m, n', D, Pl, hcs, hb, hl, hm, hmm, hx, hi⟩
  · simp at h0
    subst h0
    exact ⟨[], none, 0, rfl, by simp, by simp, fun _ => rfl, fun i x hx => by simp at hx⟩
  · simp at hcs
    subst hcs
    have h16 : Try.prog.cellsOf 41 = 16 := by kernel_rfl
    have h4 : Try.prog.cellsOf 23 = 4 := by kernel_rfl
    have h5 : Try.prog.cellsOf 39 = 5 := by kernel_rfl
    have hi1 : Try.prog.cellsOf 3 = 1 := by kernel_rfl
    have hi6 : Try.prog.cellsOf 2 = 1 := by kernel_rfl
    have hb1 : Try.prog.cellsOf 4 = 1 := by kernel_rfl
    have h1 : Try.prog.cellsOf 37 = 1 := by kernel_rfl
    have hall : ∀ i, i < len → ∃ x : AcD, ∃ lv, (∀ j y, (x.cs lv)[j]? = some y → W.cell? (a.add (i * 16 + j)) = some y) ∧ PlArg W lv x.l ∧ x.ok := by
      intro i hil
      obtain ⟨cs', hc, ht⟩ := hi i (by rw [hmm]; split <;> omega)
      rw [h16] at hc
      obtain ⟨_, hcl, hat⟩ := World.cells?_some hc
      obtain ⟨ys, m', rfl, hd, hl6, hyl, hf⟩ := DataW.trod_struct Try.underlying41 ht
      have hyl9 : ys.length = 9 := hyl
      have f0 := hf 0 _ rfl
      have f1 := hf 1 _ rfl
      have f2 := hf 2 _ rfl
      have f3 := hf 3 _ rfl
      have f4 := hf 4 _ rfl
      have f5 := hf 5 _ rfl
      have f6 := hf 6 _ rfl
      have f7 := hf 7 _ rfl
      have f8 := hf 8 _ rfl
      change DataW.trod enc Try.prog W base spare held _ 3 ((cs'.drop 0).take (Try.prog.cellsOf 3)) = _ at f0
      change DataW.trod enc Try.prog W base spare held _ 37 ((cs'.drop 1).take (Try.prog.cellsOf 37)) = _ at f1
      change DataW.trod enc Try.prog W base spare held _ 23 ((cs'.drop 2).take (Try.prog.cellsOf 23)) = _ at f2
      change DataW.trod enc Try.prog W base spare held _ 2 ((cs'.drop 6).take (Try.prog.cellsOf 2)) = _ at f3
      change DataW.trod enc Try.prog W base spare held _ 2 ((cs'.drop 7).take (Try.prog.cellsOf 2)) = _ at f4
      change DataW.trod enc Try.prog W base spare held _ 39 ((cs'.drop 8).take (Try.prog.cellsOf 39)) = _ at f5
      change DataW.trod enc Try.prog W base spare held _ 4 ((cs'.drop 13).take (Try.prog.cellsOf 4)) = _ at f6
      change DataW.trod enc Try.prog W base spare held _ 4 ((cs'.drop 14).take (Try.prog.cellsOf 4)) = _ at f7
      change DataW.trod enc Try.prog W base spare held _ 4 ((cs'.drop 15).take (Try.prog.cellsOf 4)) = _ at f8
      rw [hi1] at f0
      rw [h1] at f1
      rw [h4] at f2
      rw [hi6] at f3 f4
      rw [h5] at f5
      rw [hb1] at f6 f7 f8
      rw [take1 (by omega)] at f0 f1 f3 f4 f6 f7 f8
      rw [List.getElem?_eq_getElem (by omega)] at f0 f1 f2 f3 f4 f5 f6 f7 f8
      obtain ⟨n0, e0, _, w0⟩ := DataW.trod_int Try.underlying3 f0
      obtain ⟨l, hl⟩ := places_open f1
      obtain ⟨p, hp4, po⟩ := place_open f2
      obtain ⟨n3, e3, _, w3⟩ := DataW.trod_int Try.underlying2 f3
      obtain ⟨n4, e4, _, w4⟩ := DataW.trod_int Try.underlying2 f4
      obtain ⟨x, hx5, xo⟩ := value_open f5
      obtain ⟨q6, e6, _⟩ := DataW.trod_bool Try.underlying4 f6
      obtain ⟨q7, e7, _⟩ := DataW.trod_bool Try.underlying4 f7
      obtain ⟨q8, e8, _⟩ := DataW.trod_bool Try.underlying4 f8
      simp only [List.cons.injEq, and_true] at e0 e3 e4 e6 e7 e8
      have qp : ∀ j, j < 4 → cs'[2 + j]? = [enS p.b, enS p.s, .int .i64 p.c, .int .i64 p.r][j]? := by
        intro j hj
        rw [← hp4]
        simp [hj]
      have qv : ∀ j, j < 5 → cs'[8 + j]? = [.int .i64 x.k, .int .i64 x.n, enS x.t, .bool x.b, .int .i64 x.f][j]? := by
        intro j hj
        rw [← hx5]
        simp [hj]
      have hcs : cs' = (AcD.mk n0 l p n3 n4 x q6 q7 q8).cs (cs'[1]'(by omega)) := by
        apply List.ext_getElem?
        intro j
        match j with
        | 0 => rw [List.getElem?_eq_getElem (by omega), e0]; rfl
        | 1 => rw [List.getElem?_eq_getElem (by omega)]; rfl
        | 2 => exact qp 0 (by omega)
        | 3 => exact qp 1 (by omega)
        | 4 => exact qp 2 (by omega)
        | 5 => exact qp 3 (by omega)
        | 6 => rw [List.getElem?_eq_getElem (by omega), e3]; rfl
        | 7 => rw [List.getElem?_eq_getElem (by omega), e4]; rfl
        | 8 => exact qv 0 (by omega)
        | 9 => exact qv 1 (by omega)
        | 10 => exact qv 2 (by omega)
        | 11 => exact qv 3 (by omega)
        | 12 => exact qv 4 (by omega)
        | 13 => rw [List.getElem?_eq_getElem (by omega), e6]; rfl
        | 14 => rw [List.getElem?_eq_getElem (by omega), e7]; rfl
        | 15 => rw [List.getElem?_eq_getElem (by omega), e8]; rfl
        | j + 16 => rw [List.getElem?_eq_none (by omega), List.getElem?_eq_none (by simp [AcD.cs])]
      refine ⟨⟨n0, l, p, n3, n4, x, q6, q7, q8⟩, cs'[1]'(by omega), fun j y hy => ?_, hl, ⟨bounds_int w0, po, bounds_int w3, bounds_int w4, xo⟩⟩
      rw [← hcs] at hy
      obtain ⟨hj, ey⟩ := List.getElem?_eq_some_iff.1 hy
      have := hat j (by omega)
      rw [Go.Deep.add_add] at this
      exact this.trans hy
    have hall' : ∀ i, i < len → ∃ z : AcD × Value, (∀ j y, (z.1.cs z.2)[j]? = some y → W.cell? (a.add (i * 16 + j)) = some y) ∧ PlArg W z.2 z.1.l ∧ z.1.ok := by
      intro i hil
      obtain ⟨x, lv, k⟩ := hall i hil
      exact ⟨(x, lv), k⟩
    obtain ⟨A, hA⟩ := choose_fn ((⟨0, [], ⟨[], [], 0, 0⟩, 0, 0, ⟨0, 0, [], false, 0⟩, false, false, false⟩, undef) : AcD × Value) hall'
    refine ⟨(List.range len).map fun i => (A i).1, some a, cap, by simp, by simpa using hl, hm, by simp, fun i x hx => ?_⟩
    have hil : i < len := by have := (List.getElem?_eq_some_iff.1 hx).1; simpa using this
    have hxA : (A i).1 = x := by simpa [hil] using hx
    subst hxA
    obtain ⟨z0, -⟩ := hA 0 (by omega)
    have hs := cell_spot (z0 0 _ rfl)
    obtain ⟨k0, k1, k2⟩ := hA i hil
    obtain ⟨ab, ao, asp⟩ := a
    have hsp : asp = none := by
      cases asp with
      | none => rfl
      | some q => simp [Addr.add] at hs
    subst hsp
    simp only [add_off, ← Nat.add_assoc] at k0
    exact ⟨ab, ao, (A i).2, rfl, World.block_lt_of_cell? W _ (k0 0 _ rfl), k0, k1, k2⟩
end
end Go.Proofs.Ytcclkfkdafmemaa
