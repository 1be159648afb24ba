/- '==' of two pairs of texts. -/
import Derived.Test.YtleehgpfoigajaaNtC
import Derived.Test.YtleehgpfoigajaaNtS
set_option maxRecDepth 100000
namespace Go.Proofs.Ytleehgpfoigajaa
open Go.RowKit Go.Lat Go.Sort

theorem arrK : Try.prog.keyTypeAt 2 40 = true := by kernel_rfl
theorem arr_formed (x : Pr) : (Value.agg #[encStr x.1, encStr x.2]).formed Try.prog 40 = true := by
  have h2 : Try.prog.cellsOf 40 = 2 := by kernel_rfl
  simp [Value.formed, Try.underlying40, h2]
theorem arr_lits {x : Pr} (h : prOk x) : Try.prog.keyLits 5 40 (Value.agg #[encStr x.1, encStr x.2]).cells.toList = some [.string x.1, .string x.2] := by
  obtain ⟨f, t⟩ := x
  obtain ⟨hf, ht⟩ := h
  simp only at hf ht ⊢
  have h3 : Try.prog.cellsOf 9 = 1 := by kernel_rfl
  have h4 : Try.prog.cellsOf 40 = 2 := by kernel_rfl
  have h5 : ∀ d, ∀ z : List UInt8, z.length ≤ maxLen → Try.prog.keyLits (d + 1) 9 [encStr z] = some [.string z] := by
    intro d z hz
    have hz' : (⟨z.toArray⟩ : ByteArray).size ≤ maxLen := hz
    simp [Program.keyLits, Try.underlying9, hz']
  unfold Program.keyLits
  rw [Try.underlying40]
  have hr : List.range 2 = [0, 1] := rfl
  simp [h3, h4, h5 3, hf, ht, hr, Value.cells]
theorem eqIn_pr (w : World) {x y : Pr} (hx : prOk x) (hy : prOk y) : (Op.equalIn 10000 40 (.agg #[encStr x.1, encStr x.2]) (.agg #[encStr y.1, encStr y.2])).run Try.prog w = .ok (decide (x = y)) w := by
  obtain ⟨r, h1, h2⟩ := run_equalIn_deep 9998 2 40 arrK w 5 5 _ _ _ _ (arr_formed x) (arr_formed y) (arr_lits hx) (arr_lits hy)
  rw [h1]
  congr 1
  rw [Bool.eq_iff_iff, h2, decide_eq_true_iff]
  obtain ⟨a, b⟩ := x
  obtain ⟨c, d⟩ := y
  simp
theorem eq_pr (w : World) {x y : Pr} (hx : prOk x) (hy : prOk y) : (binOp .eql 40 (.agg #[encStr x.1, encStr x.2]) (.agg #[encStr y.1, encStr y.2])).run Try.prog w = .ok (.bool (decide (x = y))) w := by
  rw [run_eql_struct, eqIn_pr w hx hy]
  rfl
theorem neq_pr (w : World) {x y : Pr} (hx : prOk x) (hy : prOk y) : (binOp .neq 40 (.agg #[encStr x.1, encStr x.2]) (.agg #[encStr y.1, encStr y.2])).run Try.prog w = .ok (.bool (!decide (x = y))) w := by
  rw [run_neq_struct, eqIn_pr w hx hy]
  rfl
end Go.Proofs.Ytleehgpfoigajaa
