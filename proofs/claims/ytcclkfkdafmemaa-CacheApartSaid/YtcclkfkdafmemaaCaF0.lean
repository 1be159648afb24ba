/- Whatever is a key of the maps of package cache is a link. -/
import Derived.Test.YtcclkfkdafmemaaCaE
set_option maxRecDepth 100000
namespace Go.Proofs.Ytcclkfkdafmemaa
open Go.RowKit Go.Lat Go.Sort
open Go.Maps (Keyed)

theorem i64_of_wf {z : Int} (h : (Lit.int .i64 z).wf = true) : i64ok z := by
  simp [Lit.wf, IntKind.min, IntKind.max, IntKind.signed, IntKind.bits] at h
  exact ⟨by omega, by omega⟩
theorem lk_inv {key : Value} {kl : Lit} (h : keyOf Try.prog 30 key = some kl) : ∃ x : Lk, x.ok ∧ key = x.val ∧ kl = lkLit x := by
  have h1 : Try.prog.keyType 30 = true := by kernel_rfl
  have h2 : Try.prog.cellsOf 30 = 4 := by kernel_rfl
  have h3 : Try.prog.cellsOf 9 = 1 := by kernel_rfl
  have h4 : Try.prog.cellsOf 28 = 2 := by kernel_rfl
  have h5 : Try.prog.cellsOf 3 = 1 := by kernel_rfl
  have h0 := h
  unfold keyOf at h
  rw [Try.underlying30] at h
  simp only [h1, Bool.true_and] at h
  by_cases hf : key.formed Try.prog 30 = true
  · rw [if_pos hf] at h
    have hag : ∃ cs : Array Value, key = .agg cs ∧ cs.size = 4 := by
      cases key <;> simp [Value.formed, Try.underlying30, h2] at hf
      exact ⟨_, rfl, hf⟩
    obtain ⟨⟨cs⟩, rfl, hcs⟩ := hag
    obtain ⟨a, b, c, e, rfl⟩ : ∃ a b c e, cs = [a, b, c, e] := by
      match cs, hcs with
      | [a, b, c, e], _ => exact ⟨a, b, c, e, rfl⟩
      | [], h => simp at h
      | [_], h => simp at h
      | [_, _], h => simp at h
      | [_, _, _], h => simp at h
      | _ :: _ :: _ :: _ :: _ :: _, h => simp at h
    have h7 : 1 < Try.prog.types.size := of_decide_eq_true (by kernel_rfl)
    obtain ⟨d, hd⟩ : ∃ d, Try.prog.types.size = d + 2 := ⟨Try.prog.types.size - 2, by omega⟩
    rw [hd] at h
    unfold Program.keyLits at h
    rw [Try.underlying30] at h
    have hs : ∀ (d : Nat) (v : Value), (∀ s, v ≠ .string s ∨ ¬ s.size ≤ maxLen) → Try.prog.keyLits (d + 1) 9 [v] = none := by
      intro d v hv
      cases v <;> simp [Program.keyLits, Try.underlying9]
      rename_i s
      rcases hv s with q | q
      · exact absurd rfl q
      · omega
    have hy : ∀ (d : Nat) (s : ByteArray), s.size ≤ maxLen → Try.prog.keyLits (d + 1) 9 [.string s] = some [.string s.data.toList] := by
      intro d s q
      simp [Program.keyLits, Try.underlying9, q]
    have str : ∀ v, (∃ s, v = Value.string s ∧ s.size ≤ maxLen) ∨ (∀ s, v ≠ .string s ∨ ¬ s.size ≤ maxLen) := by
      intro v
      by_cases q : ∃ s, v = Value.string s ∧ s.size ≤ maxLen
      · exact .inl q
      · refine .inr fun s => ?_
        by_cases z : v = .string s
        · exact .inr fun y => q ⟨s, z, y⟩
        · exact .inl z
    have hi : ∀ (d : Nat) (v : Value), (∀ z, v ≠ .int .i64 z ∨ ¬ i64ok z) → Try.prog.keyLits (d + 1) 3 [v] = none := by
      intro d v hv
      cases v <;> simp [Program.keyLits, Try.underlying3]
      rename_i k z
      rintro rfl
      rcases hv z with q | q
      · exact absurd rfl q
      · exact Bool.eq_false_iff.2 fun y => q (i64_of_wf y)
    have hj : ∀ (d : Nat) (z : Int), i64ok z → Try.prog.keyLits (d + 1) 3 [.int .i64 z] = some [.int .i64 z] := by
      intro d z hz
      simp [Program.keyLits, Try.underlying3, wf_i64 hz]
    have num : ∀ v, (∃ z, v = Value.int .i64 z ∧ i64ok z) ∨ (∀ z, v ≠ .int .i64 z ∨ ¬ i64ok z) := by
      intro v
      by_cases q : ∃ z, v = Value.int .i64 z ∧ i64ok z
      · exact .inl q
      · refine .inr fun s => ?_
        by_cases z : v = .int .i64 s
        · exact .inr fun y => q ⟨s, z, y⟩
        · exact .inl z
    have c0 : ∀ (d : Nat) (u v : Value), (∀ z, u ≠ .int .i64 z ∨ ¬ i64ok z) → Try.prog.keyLits (d + 2) 28 [u, v] = none := by
      intro d u v hu
      unfold Program.keyLits
      rw [Try.underlying28]
      simp [h4, h5, hi d u hu]
    have c1 : ∀ (d : Nat) (z : Int) (v : Value), i64ok z → (∀ z, v ≠ .int .i64 z ∨ ¬ i64ok z) → Try.prog.keyLits (d + 2) 28 [.int .i64 z, v] = none := by
      intro d z v hz hv
      unfold Program.keyLits
      rw [Try.underlying28]
      simp [h4, h5, hi d v hv, hj d z hz]
    rcases str a with ⟨s, rfl, sl⟩ | na
    · rcases str b with ⟨t, rfl, tl⟩ | nb
      · rcases num c with ⟨cz, rfl, cl'⟩ | nc
        · rcases num e with ⟨ez, rfl, el⟩ | ne
          · refine ⟨⟨s.data.toList, t.data.toList, cz, ez⟩, ⟨sl, tl, cl', el⟩, ?_, ?_⟩
            · show Value.agg #[.string s, .string t, .int .i64 cz, .int .i64 ez] = .agg #[.string ⟨s.data.toList.toArray⟩, .string ⟨t.data.toList.toArray⟩, .int .i64 cz, .int .i64 ez]
              simp
            · have := lk_key (x := ⟨s.data.toList, t.data.toList, cz, ez⟩) ⟨sl, tl, cl', el⟩
              have hq : keyOf Try.prog 30 (.agg #[.string s, .string t, .int .i64 cz, .int .i64 ez]) = some kl := h0
              have e1 : (Lk.mk s.data.toList t.data.toList cz ez).val = .agg #[.string s, .string t, .int .i64 cz, .int .i64 ez] := by
                show Value.agg #[.string ⟨s.data.toList.toArray⟩, .string ⟨t.data.toList.toArray⟩, .int .i64 cz, .int .i64 ez] = _
                simp
              rw [e1, hq] at this
              exact Option.some.inj this
          · simp [h2, h3, h4, hy, sl, tl, c1 d cz e cl' ne, Value.cells] at h
        · simp [h2, h3, h4, hy, sl, tl, c0 d c e nc, Value.cells] at h
      · simp [h2, h3, h4, hs _ b nb, Value.cells] at h
    · simp [h2, h3, h4, hs _ a na, Value.cells] at h
  · rw [if_neg hf] at h
    cases h
end Go.Proofs.Ytcclkfkdafmemaa
