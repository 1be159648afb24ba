/- The web laws' arguments, opened. -/
import Derived.Test.YtcdimledeomahaaWebH
import Derived.Test.YtcdimledeomahaaTop
set_option maxRecDepth 100000
namespace Go.Proofs.Ytcdimledeomahaa
open Go.ChangeShapes Go.WideShapes Go.ChangeAt Go.RowKit Go.Deep Go.Lat

section
variable {H : Type} {enc : TypeId × Value → H} {W : World} {base : Nat} {spare : Nat → Bool} {held : Bool}

theorem enc_string (s : ByteArray) : encStr s.data.toList = .string s := by
  show Value.string ⟨s.data.toList.toArray⟩ = .string s
  simp

theorem take1 {cs : List Value} {j : Nat} (h : j < cs.length) : (cs.drop j).take 1 = [cs[j]] := by
  rw [List.drop_eq_getElem_cons h]
  rfl

/-- A place. -/
theorem place_open {n : Nat} {cs : List Value} {y : DataW H × List MemPlace} (h : DataW.trod enc Try.prog W base spare held n 75 cs = some y) :
    ∃ x : Lk, cs = [encStr x.b, encStr x.s, .int .i64 x.c, .int .i64 x.r] := by
  obtain ⟨ys, m, rfl, rfl, hl, hyl, hf⟩ := DataW.trod_struct Try.underlying75 h
  have h4 : Try.prog.cellsOf 75 = 4 := by kernel_rfl
  have hs : Try.prog.cellsOf 9 = 1 := by kernel_rfl
  have hi : Try.prog.cellsOf 3 = 1 := by kernel_rfl
  rw [h4] at hl
  have f0 := hf 0 _ rfl
  have f1 := hf 1 _ rfl
  have f2 := hf 2 _ rfl
  have f3 := hf 3 _ rfl
  change DataW.trod enc Try.prog W base spare held _ 9 ((cs.drop 0).take (Try.prog.cellsOf 9)) = _ at f0
  change DataW.trod enc Try.prog W base spare held _ 9 ((cs.drop 1).take (Try.prog.cellsOf 9)) = _ at f1
  change DataW.trod enc Try.prog W base spare held _ 3 ((cs.drop 2).take (Try.prog.cellsOf 3)) = _ at f2
  change DataW.trod enc Try.prog W base spare held _ 3 ((cs.drop 3).take (Try.prog.cellsOf 3)) = _ at f3
  rw [hs] at f0 f1
  rw [hi] at f2 f3
  have hyl4 : ys.length = 4 := hyl
  rw [take1 (by omega), List.getElem?_eq_getElem (by omega)] at f0 f1 f2 f3
  obtain ⟨s0, e0, _, _⟩ := DataW.trod_string Try.underlying9 f0
  obtain ⟨s1, e1, _, _⟩ := DataW.trod_string Try.underlying9 f1
  obtain ⟨n2, e2, _, _⟩ := DataW.trod_int Try.underlying3 f2
  obtain ⟨n3, e3, _, _⟩ := DataW.trod_int Try.underlying3 f3
  simp only [List.cons.injEq, and_true] at e0 e1 e2 e3
  refine ⟨⟨s0.data.toList, s1.data.toList, n2, n3⟩, ?_⟩
  simp only [enc_string]
  apply List.ext_getElem?
  intro j
  match j with
  | 0 => rw [List.getElem?_eq_getElem (by omega), e0]; rfl
  | 1 => rw [List.getElem?_eq_getElem (by omega), e1]; rfl
  | 2 => rw [List.getElem?_eq_getElem (by omega), e2]; rfl
  | 3 => rw [List.getElem?_eq_getElem (by omega), e3]; rfl
  | j + 4 => rw [List.getElem?_eq_none (by omega), List.getElem?_eq_none (by simp)]

theorem add_add' (a : Addr) (i j : Nat) : (a.add i).add j = a.add (i + j) := by
  rw [Go.Deep.add_add]

/-- An argument of places. -/
theorem places_open {n : Nat} {v : Value} {y : DataW H × List MemPlace} (h : DataW.trod enc Try.prog W base spare held n 54 [v] = some y) : ∃ l, PlArg W v l := by
  rcases open_slice Try.underlying54 h with ⟨h0, _⟩ | ⟨a, len, cap, m, n', D, Pl, hcs, hb, hl, hm, hmm, hx, hi⟩
  · simp at h0
    subst h0
    exact ⟨[], none, 0, rfl, by simp, by simp, fun _ => rfl, fun i x hx => by simp at hx⟩
  · simp at hcs
    subst hcs
    have h4 : Try.prog.cellsOf 75 = 4 := by kernel_rfl
    have hall : ∀ i, i < len → ∃ x : Lk, W.cell? (a.add (i * 4)) = some (encStr x.b) ∧ W.cell? (a.add (i * 4 + 1)) = some (encStr x.s) ∧ W.cell? (a.add (i * 4 + 2)) = some (.int .i64 x.c) ∧ W.cell? (a.add (i * 4 + 3)) = some (.int .i64 x.r) := by
      intro i hil
      obtain ⟨cs', hc, ht⟩ := hi i (by rw [hmm]; split <;> omega)
      rw [h4] at hc
      obtain ⟨_, hcl, hat⟩ := World.cells?_some hc
      obtain ⟨x, rfl⟩ := place_open ht
      refine ⟨x, ?_, ?_, ?_, ?_⟩
      · have := hat 0 (by omega); rw [Go.Deep.add_add] at this; simpa using this
      · have := hat 1 (by omega); rw [Go.Deep.add_add] at this; simpa using this
      · have := hat 2 (by omega); rw [Go.Deep.add_add] at this; simpa using this
      · have := hat 3 (by omega); rw [Go.Deep.add_add] at this; simpa using this
    obtain ⟨A, hA⟩ := choose_fn (⟨[], [], 0, 0⟩ : Lk) hall
    refine ⟨(List.range len).map A, some a, cap, by simp, by simpa using hl, hm, by simp, fun i x hx => ?_⟩
    have hil : i < len := by have := (List.getElem?_eq_some_iff.1 hx).1; simpa using this
    have hxA : A i = x := by simpa [hil] using hx
    subst hxA
    obtain ⟨z0, -⟩ := hA 0 (by omega)
    have hs := cell_spot z0
    obtain ⟨k0, k1, k2, k3⟩ := hA i hil
    obtain ⟨ab, ao, asp⟩ := a
    have hsp : asp = none := by
      cases asp with
      | none => rfl
      | some q => simp [Addr.add] at hs
    subst hsp
    simp only [add_off, ← Nat.add_assoc] at k0 k1 k2 k3
    exact ⟨ab, ao, rfl, World.block_lt_of_cell? W _ k0, k0, k1, k2, k3⟩

/-- An argument of cells. -/
theorem cells_open {n : Nat} {v : Value} {y : DataW H × List MemPlace} (h : DataW.trod enc Try.prog W base spare held n 59 [v] = some y) : ∃ l, ClArg W v l := by
  rcases open_slice Try.underlying59 h with ⟨h0, _⟩ | ⟨a, len, cap, m, n', D, Pl, hcs, hb, hl, hm, hmm, hx, hi⟩
  · simp at h0
    subst h0
    exact ⟨[], none, 0, rfl, by simp, by simp, fun _ => rfl, fun i x hx => by simp at hx⟩
  · simp at hcs
    subst hcs
    have h6 : Try.prog.cellsOf 112 = 6 := by kernel_rfl
    have h4 : Try.prog.cellsOf 75 = 4 := by kernel_rfl
    have h1 : Try.prog.cellsOf 54 = 1 := by kernel_rfl
    have hall : ∀ i, i < len → ∃ x : Cl, ∃ lv sa sl sc, W.cell? (a.add (i * 6)) = some (encStr x.p.b) ∧ W.cell? (a.add (i * 6 + 1)) = some (encStr x.p.s) ∧ W.cell? (a.add (i * 6 + 2)) = some (.int .i64 x.p.c) ∧ W.cell? (a.add (i * 6 + 3)) = some (.int .i64 x.p.r) ∧ W.cell? (a.add (i * 6 + 4)) = some lv ∧ W.cell? (a.add (i * 6 + 5)) = some (.slice sa sl sc) ∧ PlArg W lv x.links := by
      intro i hil
      obtain ⟨cs', hc, ht⟩ := hi i (by rw [hmm]; split <;> omega)
      rw [h6] at hc
      obtain ⟨_, hcl, hat⟩ := World.cells?_some hc
      obtain ⟨ys, m', rfl, hd, hl6, hyl, hf⟩ := DataW.trod_struct Try.underlying112 ht
      have hyl3 : ys.length = 3 := hyl
      have f0 := hf 0 _ rfl
      have f1 := hf 1 _ rfl
      have f2 := hf 2 _ rfl
      change DataW.trod enc Try.prog W base spare held _ 75 ((cs'.drop 0).take (Try.prog.cellsOf 75)) = _ at f0
      change DataW.trod enc Try.prog W base spare held _ 54 ((cs'.drop 4).take (Try.prog.cellsOf 54)) = _ at f1
      change DataW.trod enc Try.prog W base spare held _ 54 ((cs'.drop 5).take (Try.prog.cellsOf 54)) = _ at f2
      rw [h4] at f0
      rw [h1] at f1 f2
      rw [take1 (by omega)] at f1 f2
      rw [List.getElem?_eq_getElem (by omega)] at f0 f1 f2
      obtain ⟨x, hx4⟩ := place_open f0
      obtain ⟨l, hl⟩ := places_open f1
      obtain ⟨l2, hl2⟩ := places_open f2
      obtain ⟨sa, sc, e5, _⟩ := hl2
      have q : ∀ j, j < 4 → cs'[j]? = [encStr x.b, encStr x.s, .int .i64 x.c, .int .i64 x.r][j]? := by
        intro j hj
        rw [← hx4]
        simp [hj]
      have p : ∀ j (hj : j < 6), W.cell? (a.add (i * 6 + j)) = cs'[j]? := by
        intro j hj
        have := hat j hj
        rw [Go.Deep.add_add] at this
        rw [this, List.getElem?_eq_getElem (by omega)]
      refine ⟨⟨x, l⟩, cs'[4]'(by omega), sa, l2.length, sc, ?_, ?_, ?_, ?_, ?_, ?_, hl⟩
      · have := p 0 (by omega); rw [q 0 (by omega)] at this; simpa using this
      · have := p 1 (by omega); rw [q 1 (by omega)] at this; simpa using this
      · have := p 2 (by omega); rw [q 2 (by omega)] at this; simpa using this
      · have := p 3 (by omega); rw [q 3 (by omega)] at this; simpa using this
      · have := p 4 (by omega); rw [List.getElem?_eq_getElem (by omega)] at this; exact this
      · have := p 5 (by omega); rw [List.getElem?_eq_getElem (by omega)] at this; rw [this]; exact congrArg some e5
    obtain ⟨A, hA⟩ := choose_fn (⟨⟨[], [], 0, 0⟩, []⟩ : Cl) hall
    refine ⟨(List.range len).map A, some a, cap, by simp, by simpa using hl, hm, by simp, fun i x hx => ?_⟩
    have hil : i < len := by have := (List.getElem?_eq_some_iff.1 hx).1; simpa using this
    have hxA : A i = x := by simpa [hil] using hx
    subst hxA
    obtain ⟨_, _, _, _, z0, -⟩ := hA 0 (by omega)
    have hs := cell_spot z0
    obtain ⟨lv, sa, sl, sc, k0, k1, k2, k3, k4, k5, k6⟩ := hA i hil
    obtain ⟨ab, ao, asp⟩ := a
    have hsp : asp = none := by
      cases asp with
      | none => rfl
      | some q => simp [Addr.add] at hs
    subst hsp
    simp only [add_off, ← Nat.add_assoc] at k0 k1 k2 k3 k4 k5
    exact ⟨ab, ao, lv, sa, sl, sc, rfl, World.block_lt_of_cell? W _ k0, k0, k1, k2, k3, k4, k5, k6⟩
end
end Go.Proofs.Ytcdimledeomahaa
