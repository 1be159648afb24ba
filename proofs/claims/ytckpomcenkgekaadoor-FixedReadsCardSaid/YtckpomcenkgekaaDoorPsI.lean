/- The program's and the reference's Parse are alike at every text of at most 1000 bytes. -/
import Derived.Test.YtckpomcenkgekaaDoorPsE
import Derived.Test.YtckpomcenkgekaaDoorPsF
import Derived.Test.YtckpomcenkgekaaDoorPsG
import Derived.Test.YtckpomcenkgekaaDoorPsH
import Derived.Test.YtckpomcenkgekaaDoorPsD
set_option maxRecDepth 100000
namespace Go.Proofs.YtckpomcenkgekaaDoor
open Go.RowKit Go.Lat

/-- How a text begins. -/
theorem prefix_forms (s : ByteArray) : ∃ (t : ByteArray) (neg : Bool), t.size ≤ s.size ∧ (∀ w, Calls Tryd.prog 41 #[.string s, .string ⟨#[45]⟩] w fun e w' => e = .returned (.tuple #[.string t, .bool neg]) ∧ w' = w) ∧
    ((neg = true ∧ ∃ h : 0 < s.size, s[0].toNat = 45 ∧ s.extract 1 s.size = t) ∨ (neg = false ∧ s = t ∧ s.size = 0) ∨ (neg = false ∧ s = t ∧ ∃ h : 0 < s.size, s[0].toNat ≠ 45)) := by
  by_cases h0 : s.size = 0
  · have hl : s.data.toList = [] := List.eq_nil_of_length_eq_zero h0
    refine ⟨s, false, Nat.le_refl _, ?_, .inr (.inl ⟨rfl, rfl, h0⟩)⟩
    have := CutPrefix_sign false [] s (by rw [hl]; rfl) (by simp)
    rw [show (⟨([] : List UInt8).toArray⟩ : ByteArray) = s from Go.WideShapes.bytes_inj (by rw [hl])] at this
    exact this
  · have hp : 0 < s.size := by omega
    have hb := byte_list s 0 hp
    obtain ⟨l, hl⟩ : ∃ l, s.data.toList = s[0] :: l := by
      cases h : s.data.toList with
      | nil => rw [h] at hb; simp at hb
      | cons b l =>
        rw [h] at hb
        simp at hb
        exact ⟨l, by rw [hb]⟩
    by_cases h45 : s[0].toNat = 45
    · have eb : s[0] = 45 := UInt8.toNat_inj.1 h45
      rw [eb] at hl
      have he : (s.extract 1 s.size).data.toList = l := by
        rw [ByteArray.data_extract]
        have hsz : s.size = l.length + 1 := by
          have : s.data.toList.length = s.size := rfl
          rw [← this, hl]
          rfl
        simp [hl, hsz]
      refine ⟨s.extract 1 s.size, true, ?_, ?_, .inl ⟨rfl, hp, h45, rfl⟩⟩
      · simp
      · have hsz2 : s.data.toList = [45] ++ (45 :: l).drop 1 := by rw [hl]; rfl
        by_cases hh : l.head? = some 45
        · intro w
          have h := Tryd.strings_CutPrefix s ⟨#[45]⟩ w
          rw [show (⟨#[45]⟩ : ByteArray).data.toList = [45] from rfl, hl] at h
          have e1 : Lib.hasPrefix (45 :: l) [45] = true := by simp [Lib.hasPrefix]
          have e2 : Lib.trimPrefix (45 :: l) [45] = l := by unfold Lib.trimPrefix; rw [e1]; rfl
          rw [e1, e2, show (⟨l.toArray⟩ : ByteArray) = s.extract 1 s.size from Go.WideShapes.bytes_inj (by rw [he])] at h
          exact h
        · have := CutPrefix_sign true l s (by rw [hl]; rfl) hh
          rw [show (⟨l.toArray⟩ : ByteArray) = s.extract 1 s.size from Go.WideShapes.bytes_inj (by rw [he])] at this
          exact this
    · refine ⟨s, false, Nat.le_refl _, ?_, .inr (.inr ⟨rfl, rfl, hp, h45⟩)⟩
      have := CutPrefix_sign false s.data.toList s (by simp) (by
        rw [hl]
        simp only [List.head?_cons, ne_eq, Option.some.injEq]
        intro e
        exact h45 (by rw [e]; rfl))
      exact this

/-- The program and the reference read alike. -/
theorem Parse_both (s : ByteArray) (hs : s.size ≤ 1000) : ∃ V E : Int,
    (∀ w, Calls Tryd.prog 16 #[.string s] w fun e w' => e = .returned (.tuple #[.int .i64 V, .int .i64 E]) ∧ Upd w w' (fun _ => False)) ∧
    (∀ w, Calls Tryd.prog 17 #[.string s] w fun e w' => e = .returned (.tuple #[.int .i64 V, .int .i64 E]) ∧ Upd w w' (fun _ => False)) := by
  obtain ⟨t, neg, hts, CP, hform⟩ := prefix_forms s
  have hts2 : t.size ≤ 1000 := by omega
  rcases Cut_forms t hts2 with ⟨hno, hC⟩ | ⟨i, hi, hat, hno, hC⟩
  · have hnoS : ∀ k : Nat, k < t.size → t.data.toList[k]? ≠ some 46 := fun k _ => hno k
    cases hW : isD t.data.toList with
    | false =>
      refine ⟨0, 4, fun w => Parse_bad w s t t ⟨#[]⟩ neg false CP hC hts2 (by decide) (.inl hW), fun w => ?_⟩
      rcases hform with ⟨rfl, h, hz, ht⟩ | ⟨rfl, ht, h⟩ | ⟨rfl, ht, h, hz⟩
      · exact RefParse_minus_end_whole w s t _ t.size hts2 h hz ht hnoS rfl rfl hW
      · have e : s = ⟨#[]⟩ := Go.WideShapes.bytes_inj (List.eq_nil_of_length_eq_zero h)
        rw [e]
        exact RefParse_empty w
      · exact RefParse_plain_end_whole w s t _ t.size hts2 h _ rfl hz ht hnoS rfl rfl hW
    | true =>
      have k := fun w => Parse_ok w s t t ⟨#[]⟩ neg false CP hC hts2 (by decide) hW rfl (fun h => Bool.noConfusion h)
      have key := two_ways (dval t.data.toList) (dval []) (10 ^ ([] : List UInt8).length) (Nat.pow_pos (by omega))
      have e0 : (⟨#[]⟩ : ByteArray).data.toList = [] := rfl
      rw [e0] at k
      unfold parseX at k
      rw [← key] at k
      refine ⟨_, _, k, fun w => ?_⟩
      rcases hform with ⟨rfl, h, hz, ht⟩ | ⟨rfl, ht, h⟩ | ⟨rfl, ht, h, hz⟩
      · exact RefParse_minus_end_ok w s t ⟨#[]⟩ _ [] t.size hts2 h hz ht hnoS rfl rfl e0 rfl hW
      · exfalso
        subst ht
        have hl : s.data.toList = [] := List.eq_nil_of_length_eq_zero h
        rw [hl] at hW
        cases hW
      · exact RefParse_plain_end_ok w s t ⟨#[]⟩ _ [] t.size hts2 h _ rfl hz ht hnoS rfl rfl e0 rfl hW
  · have hat2 : t[i].toNat = 46 := by
      rw [byte_list t i hi] at hat
      have := Option.some.inj hat
      rw [this]
      rfl
    have hb1 : (t.extract 0 i).size ≤ 1000 := by simp; omega
    have hb2 : (t.extract (i + 1) t.size).size ≤ 1000 := by simp; omega
    obtain ⟨whole, hwe⟩ : ∃ whole, t.extract 0 i = whole := ⟨_, rfl⟩
    obtain ⟨part, hpe⟩ : ∃ part, t.extract (i + 1) t.size = part := ⟨_, rfl⟩
    rw [hwe] at hb1 hC
    rw [hpe] at hb2 hC
    have noEmpty : ¬ (s = t ∧ s.size = 0) := by
      rintro ⟨rfl, h⟩
      omega
    cases hW : isD whole.data.toList with
    | false =>
      refine ⟨0, 4, fun w => Parse_bad w s t whole part neg true CP hC hb1 hb2 (.inl hW), fun w => ?_⟩
      rcases hform with ⟨rfl, h, hz, ht⟩ | ⟨rfl, ht, h⟩ | ⟨rfl, ht, h, hz⟩
      · exact RefParse_minus_dot_whole w s t whole _ i hts2 h hz ht hno rfl hi hat2 hwe hW
      · exact absurd ⟨ht, h⟩ noEmpty
      · exact RefParse_plain_dot_whole w s t whole _ i hts2 h _ rfl hz ht hno rfl hi hat2 hwe hW
    | true =>
      cases hP : isD part.data.toList with
      | false =>
        refine ⟨0, 4, fun w => Parse_bad w s t whole part neg true CP hC hb1 hb2 (.inr ⟨hW, rfl, hP⟩), fun w => ?_⟩
        rcases hform with ⟨rfl, h, hz, ht⟩ | ⟨rfl, ht, h⟩ | ⟨rfl, ht, h, hz⟩
        · exact RefParse_minus_dot_part w s t whole part _ _ i hts2 h hz ht hno rfl hi hat2 hwe rfl hpe hW hP
        · exact absurd ⟨ht, h⟩ noEmpty
        · exact RefParse_plain_dot_part w s t whole part _ _ i hts2 h _ rfl hz ht hno rfl hi hat2 hwe rfl hpe hW hP
      | true =>
        have hPall : part.data.toList.all dgB = true := by
          have := hP
          simp only [isD, Bool.and_eq_true] at this
          exact this.2
        have k := fun w => Parse_ok w s t whole part neg true CP hC hb1 hb2 hW hPall (fun _ => hP)
        have key := two_ways (dval whole.data.toList) (dval part.data.toList) (10 ^ part.data.toList.length) (Nat.pow_pos (by omega))
        unfold parseX at k
        rw [← key] at k
        refine ⟨_, _, k, fun w => ?_⟩
        rcases hform with ⟨rfl, h, hz, ht⟩ | ⟨rfl, ht, h⟩ | ⟨rfl, ht, h, hz⟩
        · exact RefParse_minus_dot_ok w s t whole part _ _ i hts2 h hz ht hno rfl hi hat2 hwe rfl hpe hW hP
        · exact absurd ⟨ht, h⟩ noEmpty
        · exact RefParse_plain_dot_ok w s t whole part _ _ i hts2 h _ rfl hz ht hno rfl hi hat2 hwe rfl hpe hW hP
end Go.Proofs.YtckpomcenkgekaaDoor
