/- The keys of links; the walk of search.see. -/
import Derived.Test.YtcdimledeomahaaWebF
import Derived.Test.YtcdimledeomahaaTop
import Derived.Test.YtcdimledeomahaaCap
set_option maxRecDepth 100000
namespace Go.Proofs.Ytcdimledeomahaa
open Go.RowKit Go.Lat
open Go.Maps (Keyed)

theorem Try.laidOut : laidOutB Try.prog = true := by kernel_rfl
theorem linkLaw : WideMaps.KeyLaw Try.prog 40 := deep_law_laid Try.laidOut (m := 4) (by decide) (of_decide_eq_true (by kernel_rfl)) (by kernel_rfl) (by rw [Try.underlying40])
theorem linkK : Keyed Try.prog 40 := Keyed.of_law linkLaw
def lkLit (l : Lk) : Lit := .string (keyBytes [.string l.b, .string l.s, .int .i64 l.c, .int .i64 l.r])

theorem link_key (l : Lk) (hb : l.b.length ≤ maxLen) (hs : l.s.length ≤ maxLen) (hc : (Lit.int .i64 l.c).wf = true) (hr : (Lit.int .i64 l.r).wf = true) : keyOf Try.prog 40 l.val = some (lkLit l) := by
  have h1 : Try.prog.keyType 40 = true := by kernel_rfl
  have h2 : Try.prog.cellsOf 40 = 4 := by kernel_rfl
  have h3 : Try.prog.cellsOf 9 = 1 := by kernel_rfl
  have h3' : Try.prog.cellsOf 30 = 2 := by kernel_rfl
  have h3'' : Try.prog.cellsOf 3 = 1 := by kernel_rfl
  obtain ⟨lb, ls, lc, lr⟩ := l
  unfold Lk.val keyOf
  simp only at hb hs hc hr ⊢
  rw [Try.underlying40]
  simp only [h1, Bool.true_and]
  have h4 : (Value.agg #[encStr lb, encStr ls, .int .i64 lc, .int .i64 lr]).formed Try.prog 40 = true := by
    simp [Value.formed, Try.underlying40, h2]
  rw [if_pos h4]
  have h5 : ∀ d, ∀ z : List UInt8, z.length ≤ maxLen → Try.prog.keyLits (d + 1) 9 [encStr z] = some [.string z] := by
    intro d z hz
    have hz' : (⟨z.toArray⟩ : ByteArray).size ≤ maxLen := hz
    simp [Program.keyLits, Try.underlying9, hz']
  have h6 : ∀ d, ∀ z : Int, (Lit.int .i64 z).wf = true → Try.prog.keyLits (d + 1) 3 [.int .i64 z] = some [.int .i64 z] := by
    intro d z hz
    simp [Program.keyLits, Try.underlying3, hz]
  have h7 : ∀ d, Try.prog.keyLits (d + 2) 30 [.int .i64 lc, .int .i64 lr] = some [.int .i64 lc, .int .i64 lr] := by
    intro d
    unfold Program.keyLits
    rw [Try.underlying30]
    simp [h3', h3'', h6, hc, hr]
  have h8 : 2 < Try.prog.types.size := of_decide_eq_true (by kernel_rfl)
  obtain ⟨d, hd⟩ : ∃ d, Try.prog.types.size = d + 3 := ⟨Try.prog.types.size - 3, by omega⟩
  rw [hd]
  unfold Program.keyLits
  rw [Try.underlying40]
  simp [h2, h3, h3', h5, h7, hb, hs, Value.cells, lkLit]

/-- A link whose key is one. -/
structure Lk.Ok (l : Lk) : Prop where
  b : l.b.length ≤ maxLen
  s : l.s.length ≤ maxLen
  c : (Lit.int .i64 l.c).wf = true
  r : (Lit.int .i64 l.r).wf = true
theorem lk_key {l : Lk} (h : l.Ok) : keyOf Try.prog 40 l.val = some (lkLit l) := link_key l h.b h.s h.c h.r
theorem lkLit_inj {l m : Lk} (h : l.Ok) (h' : m.Ok) (e : lkLit l = lkLit m) : l = m := by
  have k1 := lk_key h
  have k2 := lk_key h'
  rw [← e] at k2
  have := linkK.inj k1 k2
  obtain ⟨a, b, c, d⟩ := l
  obtain ⟨a', b', c', d'⟩ := m
  simpa [Lk.val] using this
theorem isKey_lk (l : Lk) : WideAt.IsKeyLit (lkLit l) := trivial
theorem zeroBool (w : World) : (zeroValue 4).run Try.prog w = .ok (.bool false) w := by kernel_rfl

/-- The links that were come to. -/
structure MetV (D : DataW Value) (M : List Lk) : Prop where
  ok : ∀ l ∈ M, l.Ok
  yes : ∀ l ∈ M, D.atKey (lkLit l) (.held (.bool false)) = .held (.bool true)
  no : ∀ l, l.Ok → l ∉ M → D.atKey (lkLit l) (.held (.bool false)) = .held (.bool false)
theorem MetV.nil : MetV (.map []) [] := ⟨by simp, by simp, fun l _ _ => Go.Maps.atKey_of_not_has rfl _⟩
theorem MetV.add {D : DataW Value} {M : List Lk} (hD : Go.Maps.IsMap D) (h : MetV D M) {l : Lk} (hl : l.Ok) : MetV (D.put (lkLit l) (.held (.bool true))) (M ++ [l]) := by
  refine ⟨fun m hm => ?_, fun m hm => ?_, fun m hm hn => ?_⟩
  · rw [List.mem_append] at hm
    rcases hm with hm | hm
    · exact h.ok m hm
    · simp at hm; subst hm; exact hl
  · by_cases e : m = l
    · subst e
      exact Go.Maps.atKey_put_same hD (isKey_lk m) _ _
    · have hm' : m ∈ M := by simpa [e] using hm
      rw [Go.Maps.atKey_put_other (fun e' => e (lkLit_inj (h.ok m hm') hl e'))]
      exact h.yes m hm'
  · simp at hn
    rw [Go.Maps.atKey_put_other (fun e' => hn.2 (lkLit_inj hm hl e'))]
    exact h.no m hm hn.1

/-- A search: its web, its book's name, its own cells; what was met; what is left. -/
structure SrAt (w : World) (b bm n : Nat) (wp nm ov lv : Value) (M L : List Lk) : Prop where
  c : w.heap[b]? = some (.cells #[wp, nm, ov, .map (some bm), lv] 98 (0, 0))
  m : ∃ D, w.ownsMap Try.prog 40 heldElem bm n D ∧ MetV D M
  l : LksAt w lv L
  nb : lv.ownBlock ≠ some b
  nm : lv.ownBlock ≠ some bm
end Go.Proofs.Ytcdimledeomahaa
