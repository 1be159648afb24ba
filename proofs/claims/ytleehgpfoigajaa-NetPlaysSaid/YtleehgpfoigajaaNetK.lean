/- The map of package net: its keys, its zero element. -/
import Derived.Test.YtleehgpfoigajaaMaps
import Derived.Test.YtleehgpfoigajaaTop
import Derived.ProofKit
set_option maxRecDepth 100000
namespace Go.Proofs.Ytleehgpfoigajaa
open Go.RowKit Go.Lat
open Go.Maps (Keyed)

theorem Try.laidOut : laidOutB Try.prog = true := by kernel_rfl

theorem pairLaw : WideMaps.KeyLaw Try.prog 56 := deep_law_laid Try.laidOut (m := 2) (by decide) (of_decide_eq_true (by kernel_rfl)) (by kernel_rfl) (by rw [Try.underlying56])
theorem pairK : Keyed Try.prog 56 := Keyed.of_law pairLaw

def pairLit (f t : ByteArray) : Lit := .string (keyBytes [.string f.data.toList, .string t.data.toList])

theorem pair_key (f t : ByteArray) (hf : f.size ≤ maxLen) (ht : t.size ≤ maxLen) : keyOf Try.prog 56 (.agg #[.string f, .string t]) = some (pairLit f t) := by
  have h1 : Try.prog.keyType 56 = true := by kernel_rfl
  have h2 : Try.prog.cellsOf 56 = 2 := by kernel_rfl
  have h3 : Try.prog.cellsOf 9 = 1 := by kernel_rfl
  unfold keyOf
  rw [Try.underlying56]
  simp only [h1, Bool.true_and]
  have h4 : (Value.agg #[.string f, .string t]).formed Try.prog 56 = true := by
    simp [Value.formed, Try.underlying56, h2]
  rw [if_pos h4]
  have h5 : ∀ d, Try.prog.keyLits (d + 1) 9 [.string f] = some [.string f.data.toList] := by
    intro d
    simp [Program.keyLits, Try.underlying9, hf]
  have h6 : ∀ d, Try.prog.keyLits (d + 1) 9 [.string t] = some [.string t.data.toList] := by
    intro d
    simp [Program.keyLits, Try.underlying9, ht]
  have h7 : 0 < Try.prog.types.size := of_decide_eq_true (by kernel_rfl)
  obtain ⟨d, hd⟩ : ∃ d, Try.prog.types.size = d + 1 := ⟨Try.prog.types.size - 1, by omega⟩
  rw [hd]
  unfold Program.keyLits
  rw [Try.underlying56]
  simp [h2, h3, h5, h6, Value.cells, pairLit]

theorem pairLit_inj {f t f' t' : ByteArray} (hf : f.size ≤ maxLen) (ht : t.size ≤ maxLen) (hf' : f'.size ≤ maxLen) (ht' : t'.size ≤ maxLen) (h : pairLit f t = pairLit f' t') : f = f' ∧ t = t' := by
  have k1 := pair_key f t hf ht
  have k2 := pair_key f' t' hf' ht'
  rw [← h] at k2
  have := pairK.inj k1 k2
  simpa using this

theorem zeroE (w : World) : (zeroValue 57).run Try.prog w = .ok (.slice none 0 0) w := by kernel_rfl
end Go.Proofs.Ytleehgpfoigajaa
