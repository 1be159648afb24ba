/- The keys of places. -/
import Derived.Test.YtcdimledeomahaaWholeD
set_option maxRecDepth 100000
namespace Go.Proofs.Ytcdimledeomahaa
open Go.RowKit Go.Lat
open Go.Maps (Keyed)

theorem placeLaw : WideMaps.KeyLaw Try.prog 32 := deep_law_laid Try.laidOut (m := 4) (by decide) (of_decide_eq_true (by kernel_rfl)) (by kernel_rfl) (by rw [Try.underlying32])
theorem placeK : Keyed Try.prog 32 := Keyed.of_law placeLaw
def pcLit (p : Pc) : Lit := .string (keyBytes [.string p.s, .int .i64 p.c, .int .i64 p.r])
structure Pc.Ok (p : Pc) : Prop where
  s : p.s.length ≤ maxLen
  c : (Lit.int .i64 p.c).wf = true
  r : (Lit.int .i64 p.r).wf = true
theorem pc_key {p : Pc} (h : p.Ok) : keyOf Try.prog 32 p.val = some (pcLit p) := by
  have h1 : Try.prog.keyType 32 = true := by kernel_rfl
  have h2 : Try.prog.cellsOf 32 = 3 := by kernel_rfl
  have h3 : Try.prog.cellsOf 9 = 1 := by kernel_rfl
  have h3' : Try.prog.cellsOf 30 = 2 := by kernel_rfl
  have h3'' : Try.prog.cellsOf 3 = 1 := by kernel_rfl
  obtain ⟨hs, hc, hr⟩ := h
  obtain ⟨ls, lc, lr⟩ := p
  unfold Pc.val keyOf
  simp only at hs hc hr ⊢
  rw [Try.underlying32]
  simp only [h1, Bool.true_and]
  have h4 : (Value.agg #[encStr ls, .int .i64 lc, .int .i64 lr]).formed Try.prog 32 = true := by
    simp [Value.formed, Try.underlying32, h2]
  rw [if_pos h4]
  have h5 : ∀ d, ∀ z : List UInt8, z.length ≤ maxLen → Try.prog.keyLits (d + 1) 9 [encStr z] = some [.string z] := by
    intro d z hz
    have hz' : (⟨z.toArray⟩ : ByteArray).size ≤ maxLen := hz
    simp [Program.keyLits, Try.underlying9, hz']
  have h6 : ∀ d, ∀ z : Int, (Lit.int .i64 z).wf = true → Try.prog.keyLits (d + 1) 3 [.int .i64 z] = some [.int .i64 z] := by
    intro d z hz
    simp [Program.keyLits, Try.underlying3, hz]
  have h7 : ∀ d, Try.prog.keyLits (d + 2) 30 [.int .i64 lc, .int .i64 lr] = some [.int .i64 lc, .int .i64 lr] := by
    intro d
    unfold Program.keyLits
    rw [Try.underlying30]
    simp [h3', h3'', h6, hc, hr]
  have h8 : 2 < Try.prog.types.size := of_decide_eq_true (by kernel_rfl)
  obtain ⟨d, hd⟩ : ∃ d, Try.prog.types.size = d + 3 := ⟨Try.prog.types.size - 3, by omega⟩
  rw [hd]
  unfold Program.keyLits
  rw [Try.underlying32]
  simp [h2, h3, h3', h5, h7, hs, Value.cells, pcLit]
theorem pcLit_inj {p q : Pc} (h : p.Ok) (h' : q.Ok) (e : pcLit p = pcLit q) : p = q := by
  have k1 := pc_key h
  have k2 := pc_key h'
  rw [← e] at k2
  have := placeK.inj k1 k2
  obtain ⟨a, b, c⟩ := p
  obtain ⟨a', b', c'⟩ := q
  simpa [Pc.val] using this
theorem pcN_ok {n : Nat} (h : n < 10) : (pcN n).Ok := by
  have hn' : n = 0 ∨ n = 1 ∨ n = 2 ∨ n = 3 ∨ n = 4 ∨ n = 5 ∨ n = 6 ∨ n = 7 ∨ n = 8 ∨ n = 9 := by omega
  rcases hn' with rfl | rfl | rfl | rfl | rfl | rfl | rfl | rfl | rfl | rfl <;> exact ⟨by decide, by decide, by decide⟩
theorem isKey_pc (p : Pc) : WideAt.IsKeyLit (pcLit p) := trivial
end Go.Proofs.Ytcdimledeomahaa
