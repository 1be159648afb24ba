/- What fixed's Text writes, fixed's Parse reads. -/
import Derived.Test.YthahgablbdfodaaGreatDoorJo11
import Derived.WideShapes
import Derived.Test.YthahgablbdfodaaGreatDoorJo12
import Derived.Test.YthahgablbdfodaaGreatDoorJo13
import Derived.Test.YthahgablbdfodaaGreatDoorJo05
import Derived.Test.YthahgablbdfodaaGreatDoorJo01
import Derived.ProofKit
import Derived.Deep.Slices
import Derived.Deep.Fields
import Derived.ChangeSame
/- What fixed's Text writes, fixed's Parse reads. -/
set_option maxRecDepth 100000
namespace Go.Proofs.YthahgablbdfodaaGreatDoor
open Go.RowKit Go.Lat Go.Shelf Go.Sort Go.Lib

theorem dg_ofNat (d : Nat) (h : d < 10) : dgB (UInt8.ofNat (48 + d)) = true ∧ dvB (UInt8.ofNat (48 + d)) = d := by
  have e : (UInt8.ofNat (48 + d)).toNat = 48 + d := by simp; omega
  unfold dgB dvB
  rw [e]
  simp
  omega

theorem dec_all : ∀ u, (decDigits u).all dgB = true ∧ dval (decDigits u) = u := by
  intro u
  induction u using Nat.strongRecOn with
  | ind u ih =>
    unfold decDigits
    by_cases h : u < 10
    · rw [dif_pos h]
      obtain ⟨a, b⟩ := dg_ofNat u h
      exact ⟨by simp only [List.all_cons, List.all_nil, a, Bool.and_true], by rw [dval_one, b]⟩
    · rw [dif_neg h]
      obtain ⟨a, b⟩ := dg_ofNat (u % 10) (by omega)
      obtain ⟨c, d⟩ := ih (u / 10) (by omega)
      refine ⟨by rw [List.all_append, c]; simp only [List.all_cons, List.all_nil, a, Bool.and_true], ?_⟩
      rw [dval_append, dval_one, b, d]
      simp
      omega

theorem dec_len : ∀ (k u : Nat), u < 10 ^ (k + 1) → 1 ≤ (decDigits u).length ∧ (decDigits u).length ≤ k + 1
  | 0, u, h => by
    unfold decDigits
    rw [dif_pos (by simpa using h)]
    simp
  | k + 1, u, h => by
    unfold decDigits
    by_cases hu : u < 10
    · rw [dif_pos hu]
      simp
    · rw [dif_neg hu]
      have h2 : u / 10 < 10 ^ (k + 1) := by
        rw [Nat.pow_succ] at h
        rw [Nat.div_lt_iff_lt_mul (by omega)]
        exact h
      obtain ⟨a, b⟩ := dec_len k (u / 10) h2
      rw [List.length_append]
      simp
      omega

theorem dec_isD (u : Nat) (h : u < 1000000000000000000) : isD (decDigits u) = true := by
  have e18 : (10 : Nat) ^ 18 = 1000000000000000000 := by decide
  obtain ⟨a, b⟩ := dec_len 17 u (by rw [e18]; exact h)
  unfold isD
  rw [(dec_all u).1, decide_eq_true a, decide_eq_true b]
  rfl

/-- The noughts behind a part. -/
theorem trim_tail (l : List UInt8) : ∃ z : List UInt8, l = trimRightB l 48 ++ z ∧ dval z = 0 := by
  have key : ∀ l : List UInt8, (∀ x ∈ l, x = 48) → dval l = 0 := by
    intro l
    induction l with
    | nil => intro _; rfl
    | cons b l ih =>
      intro h
      have hb := h b (by simp)
      subst hb
      rw [dval_cons, ih (fun x hx => h x (by simp [hx]))]
      simp [dvB]
  refine ⟨(l.reverse.takeWhile (· == 48)).reverse, ?_, key _ ?_⟩
  · unfold trimRightB
    rw [← List.reverse_append, List.takeWhile_append_dropWhile, List.reverse_reverse]
  · intro x hx
    have := takeWhile_all _ _ _ (List.mem_reverse.1 hx)
    simpa using this

/-- The part of a number that is not whole. -/
theorem part_text (r : Nat) (h0 : 0 < r) (h1 : r < 10000) :
    isD (trimRightB ((decDigits (10000 + r)).drop 1) 48) = true ∧ (dval (trimRightB ((decDigits (10000 + r)).drop 1) 48) * 100000 / 10 ^ (trimRightB ((decDigits (10000 + r)).drop 1) 48).length + 5) / 10 = r := by
  obtain ⟨ha, hv⟩ := dec_all (10000 + r)
  have hl : (decDigits (10000 + r)).length = 5 := by
    have g5 := nDigits5 (10000 + r) (by omega) (by omega)
    rw [decDigits_length, g5]
  obtain ⟨c, Q, hQ⟩ : ∃ c Q, decDigits (10000 + r) = c :: Q := by
    cases h : decDigits (10000 + r) with
    | nil => rw [h] at hl; simp at hl
    | cons c Q => exact ⟨c, Q, rfl⟩
  rw [hQ] at ha hv hl ⊢
  simp only [List.all_cons, Bool.and_eq_true] at ha
  have hQl : Q.length = 4 := by simpa using hl
  have hQv := dval_lt Q ha.2
  have hc := dgB_lt ha.1
  rw [dval_cons, hQl] at hv
  rw [hQl] at hQv
  have e4 : (10 : Nat) ^ 4 = 10000 := by decide
  rw [e4] at hv hQv
  have hQr : dval Q = r := by omega
  have eD : (c :: Q).drop 1 = Q := rfl
  rw [eD]
  obtain ⟨z, hz, hz0⟩ := trim_tail Q
  obtain ⟨P, hP⟩ : ∃ P, trimRightB Q 48 = P := ⟨_, rfl⟩
  rw [hP] at hz ⊢
  have hPall : P.all dgB = true := by
    have := ha.2
    rw [hz, List.all_append, Bool.and_eq_true] at this
    exact this.1
  have hlen : P.length + z.length = 4 := by rw [← List.length_append, ← hz]; exact hQl
  have hval : dval P * 10 ^ z.length = r := by
    have := dval_append P z
    rw [← hz, hz0, hQr] at this
    omega
  have hP1 : 1 ≤ P.length := by
    rcases Nat.eq_zero_or_pos P.length with e | e
    · have : P = [] := List.eq_nil_of_length_eq_zero e
      subst this
      rw [dval_nil, Nat.zero_mul] at hval
      omega
    · exact e
  refine ⟨?_, ?_⟩
  · unfold isD
    rw [hPall, decide_eq_true hP1, decide_eq_true (show P.length ≤ 18 by omega)]
    rfl
  · have e5 : (100000 : Nat) = 10 ^ z.length * 10 * 10 ^ P.length := by
      rw [Nat.mul_right_comm, ← Nat.pow_add, Nat.add_comm, hlen]
    have eV : dval P * 100000 = r * 10 * 10 ^ P.length := by
      rw [e5, ← hval, ← Nat.mul_assoc, ← Nat.mul_assoc]
    rw [eV, Nat.mul_div_cancel _ (Nat.pow_pos (by omega))]
    omega

theorem digit_ne {l : List UInt8} (h : l.all dgB = true) (k : Nat) : l[k]? ≠ some 46 := by
  intro e
  have := List.all_eq_true.1 h _ (List.mem_of_getElem? e)
  revert this
  decide

/-- The sign ahead. -/
theorem CutPrefix_sign (s : Bool) (body : List UInt8) (t : ByteArray) (ht : t.data.toList = (if s then [45] else []) ++ body) (hb : body.head? ≠ some 45) :
    ∀ w, Calls Tryz.prog 68 #[.string t, .string ⟨#[45]⟩] w fun e w' => e = .returned (.tuple #[.string ⟨body.toArray⟩, .bool s]) ∧ w' = w := by
  intro w
  have h := Tryz.strings_CutPrefix t ⟨#[45]⟩ w
  have e0 : (⟨#[45]⟩ : ByteArray).data.toList = [45] := rfl
  rw [e0, ht] at h
  have e1 : Lib.hasPrefix ((if s then [45] else []) ++ body) [45] = s := by
    cases s with
    | true => simp [Lib.hasPrefix]
    | false =>
      cases body with
      | nil => rfl
      | cons b l =>
        simp only [List.head?_cons, ne_eq, Option.some.injEq] at hb
        have : ((45 : UInt8) == b) = false := by simpa using fun e => hb (Eq.symm e)
        show ((45 : UInt8) == b && [].isPrefixOf l) = false
        rw [this]
        rfl
  have e2 : Lib.trimPrefix ((if s then [45] else []) ++ body) [45] = body := by
    unfold Lib.trimPrefix
    rw [e1]
    cases s <;> rfl
  rw [e1, e2] at h
  exact h

theorem parse_text (s : Bool) (x : Nat) (hx : x ≤ 9000000000000000000) (W P : List UInt8) (pt : Bool) (t : ByteArray) (ht : t.data.toList = (if s then [45] else []) ++ (W ++ if pt then 46 :: P else []))
    (hW : isD W = true) (hP : pt = true → isD P = true) (hP0 : pt = false → P = []) (hX : parseX W P = x) :
    ∀ w, Calls Tryz.prog 55 #[.string t] w fun e w' => e = .returned (.tuple #[.int .i64 (if s then -(x : Int) else x), .int .i64 0]) ∧ Upd w w' (fun _ => False) := by
  have hW' := hW
  simp only [isD, Bool.and_eq_true, decide_eq_true_eq] at hW'
  obtain ⟨⟨w1, w2⟩, w3⟩ := hW'
  have hPall : P.all dgB = true ∧ P.length ≤ 18 := by
    cases pt with
    | true =>
      have := hP rfl
      simp only [isD, Bool.and_eq_true, decide_eq_true_eq] at this
      exact ⟨this.2, this.1.2⟩
    | false => rw [hP0 rfl]; exact ⟨rfl, by simp⟩
  have hn1 : numE x = 0 := by unfold numE; rw [if_neg (by omega)]
  have hn2 : numV s x = (if s then -(x : Int) else x) := by unfold numV; rw [if_neg (by omega)]
  obtain ⟨body, hbd⟩ : ∃ body, W ++ (if pt then 46 :: P else []) = body := ⟨_, rfl⟩
  rw [hbd] at ht
  have hhead : body.head? ≠ some 45 := by
    cases W with
    | nil => simp at w1
    | cons b l =>
      rw [← hbd]
      simp only [List.cons_append, List.head?_cons, ne_eq, Option.some.injEq]
      intro e
      subst e
      simp only [List.all_cons, Bool.and_eq_true] at w3
      exact absurd w3.1 (by decide)
  have CP := CutPrefix_sign s body t ht hhead
  have hbl : body.length ≤ 37 := by
    rw [← hbd]
    cases pt <;> simp <;> omega
  have hbs : (⟨body.toArray⟩ : ByteArray).size = body.length := rfl
  have hbt : (⟨body.toArray⟩ : ByteArray).data.toList = body := rfl
  obtain ⟨b, hb⟩ : ∃ b, (⟨body.toArray⟩ : ByteArray) = b := ⟨_, rfl⟩
  rw [hb] at hbs hbt CP
  intro w
  rcases Cut_forms b (by omega) with ⟨hno, hC⟩ | ⟨i, hi, hi1, hi2, hC⟩
  · have hpt : pt = false := by
      cases pt with
      | false => rfl
      | true =>
        exfalso
        refine hno W.length ?_
        rw [hbt, ← hbd]
        simp
    subst hpt
    have eW : b.data.toList = W := by rw [hbt, ← hbd]; simp
    have k := Parse_ok w t b b ⟨#[]⟩ s false CP hC (by omega) (by decide) (by rw [eW]; exact hW) rfl (fun h => Bool.noConfusion h)
    rw [eW, show (⟨#[]⟩ : ByteArray).data.toList = P from (hP0 rfl).symm, hX, hn1, hn2] at k
    exact k
  · have hpt : pt = true := by
      cases pt with
      | true => rfl
      | false =>
        exfalso
        refine digit_ne w3 i ?_
        rw [← hi1, hbt, ← hbd]
        simp
    subst hpt
    have hiW : i = W.length := by
      rcases Nat.lt_trichotomy i W.length with h | h | h
      · exfalso
        refine digit_ne w3 i ?_
        rw [← hi1, hbt, ← hbd, List.getElem?_append_left h]
      · exact h
      · exfalso
        refine hi2 W.length h ?_
        rw [hbt, ← hbd]
        simp
    subst hiW
    have eW : (b.extract 0 W.length).data.toList = W := by
      rw [ByteArray.data_extract]
      have : b.data.toList = W ++ 46 :: P := by rw [hbt, ← hbd]; rfl
      simp [this]
    have eP : (b.extract (W.length + 1) b.size).data.toList = P := by
      rw [ByteArray.data_extract, hbs]
      have : b.data.toList = W ++ 46 :: P := by rw [hbt, ← hbd]; rfl
      have hl : body.length = W.length + (P.length + 1) := by rw [← hbd]; simp
      simp [this, hl]
      have e : W.length + (P.length + 1) - (W.length + 1) = P.length := by omega
      rw [e]
      simp
    have s1 : (b.extract 0 W.length).size = W.length := congrArg List.length eW
    have s2 : (b.extract (W.length + 1) b.size).size = P.length := congrArg List.length eP
    have k := Parse_ok w t b (b.extract 0 W.length) (b.extract (W.length + 1) b.size) s true CP hC (by omega) (by omega) (by rw [eW]; exact hW) (by rw [eP]; exact hPall.1) (fun _ => by rw [eP]; exact hP rfl)
    rw [eW, eP, hX, hn1, hn2] at k
    exact k

/-- A number's text is read as the number. -/
theorem text_back (s : Bool) (x : Nat) (hx : x ≤ 9000000000000000000) (h0 : s = true → 0 < x) : ∃ t : ByteArray,
    (∀ w, Pow w → Calls Tryz.prog 60 #[.int .i64 (if s then -(x : Int) else x)] w fun e w' => e = .returned (.string t) ∧ Upd w w' (fun _ => False)) ∧
    (∀ w, Calls Tryz.prog 55 #[.string t] w fun e w' => e = .returned (.tuple #[.int .i64 (if s then -(x : Int) else x), .int .i64 0]) ∧ Upd w w' (fun _ => False)) := by
  by_cases hr : x % 10000 = 0
  · refine ⟨⟨((if s then [45] else []) ++ decDigits (x / 10000)).toArray⟩, fun w ht => ?_, ?_⟩
    · refine Calls.mono (Text_whole w s x hx h0 hr ht) ?_
      rintro e w' ⟨⟨t, rfl, et⟩, u⟩
      exact ⟨by rw [Go.WideShapes.bytes_inj (show t.data.toList = (⟨((if s then [45] else []) ++ decDigits (x / 10000)).toArray⟩ : ByteArray).data.toList from et)], u⟩
    · refine parse_text s x hx (decDigits (x / 10000)) [] false _ (by simp) (dec_isD _ (by omega)) (fun h => Bool.noConfusion h) (fun _ => rfl) ?_
      unfold parseX
      rw [(dec_all _).2, dval_nil]
      simp
      omega
  · obtain ⟨p1, p2⟩ := part_text (x % 10000) (by omega) (by omega)
    refine ⟨⟨((if s then [45] else []) ++ (decDigits (x / 10000) ++ 46 :: trimRightB ((decDigits (10000 + x % 10000)).drop 1) 48)).toArray⟩, fun w ht => ?_, ?_⟩
    · refine Calls.mono (Text_part w s x hx h0 hr ht) ?_
      rintro e w' ⟨⟨t, rfl, et⟩, u⟩
      exact ⟨by rw [Go.WideShapes.bytes_inj (show t.data.toList = (⟨((if s then [45] else []) ++ (decDigits (x / 10000) ++ 46 :: trimRightB ((decDigits (10000 + x % 10000)).drop 1) 48)).toArray⟩ : ByteArray).data.toList from et)], u⟩
    · refine parse_text s x hx (decDigits (x / 10000)) (trimRightB ((decDigits (10000 + x % 10000)).drop 1) 48) true _ (by simp) (dec_isD _ (by omega)) (fun _ => p1) (fun h => Bool.noConfusion h) ?_
      unfold parseX
      rw [(dec_all _).2, p2]
      omega
end Go.Proofs.YthahgablbdfodaaGreatDoor
/- The program's and the reference's Parse are alike at every text of at most 1000 bytes. -/
set_option maxRecDepth 100000
namespace Go.Proofs.YthahgablbdfodaaGreatDoor
open Go.RowKit Go.Lat

/-- How a text begins. -/
theorem prefix_forms (s : ByteArray) : ∃ (t : ByteArray) (neg : Bool), t.size ≤ s.size ∧ (∀ w, Calls Tryz.prog 68 #[.string s, .string ⟨#[45]⟩] w fun e w' => e = .returned (.tuple #[.string t, .bool neg]) ∧ w' = w) ∧
    ((neg = true ∧ ∃ h : 0 < s.size, s[0].toNat = 45 ∧ s.extract 1 s.size = t) ∨ (neg = false ∧ s = t ∧ s.size = 0) ∨ (neg = false ∧ s = t ∧ ∃ h : 0 < s.size, s[0].toNat ≠ 45)) := by
  by_cases h0 : s.size = 0
  · have hl : s.data.toList = [] := List.eq_nil_of_length_eq_zero h0
    refine ⟨s, false, Nat.le_refl _, ?_, .inr (.inl ⟨rfl, rfl, h0⟩)⟩
    have := CutPrefix_sign false [] s (by rw [hl]; rfl) (by simp)
    rw [show (⟨([] : List UInt8).toArray⟩ : ByteArray) = s from Go.WideShapes.bytes_inj (by rw [hl])] at this
    exact this
  · have hp : 0 < s.size := by omega
    have hb := byte_list s 0 hp
    obtain ⟨l, hl⟩ : ∃ l, s.data.toList = s[0] :: l := by
      cases h : s.data.toList with
      | nil => rw [h] at hb; simp at hb
      | cons b l =>
        rw [h] at hb
        simp at hb
        exact ⟨l, by rw [hb]⟩
    by_cases h45 : s[0].toNat = 45
    · have eb : s[0] = 45 := UInt8.toNat_inj.1 h45
      rw [eb] at hl
      have he : (s.extract 1 s.size).data.toList = l := by
        rw [ByteArray.data_extract]
        have hsz : s.size = l.length + 1 := by
          have : s.data.toList.length = s.size := rfl
          rw [← this, hl]
          rfl
        simp [hl, hsz]
      refine ⟨s.extract 1 s.size, true, ?_, ?_, .inl ⟨rfl, hp, h45, rfl⟩⟩
      · simp
      · have hsz2 : s.data.toList = [45] ++ (45 :: l).drop 1 := by rw [hl]; rfl
        by_cases hh : l.head? = some 45
        · intro w
          have h := Tryz.strings_CutPrefix s ⟨#[45]⟩ w
          rw [show (⟨#[45]⟩ : ByteArray).data.toList = [45] from rfl, hl] at h
          have e1 : Lib.hasPrefix (45 :: l) [45] = true := by simp [Lib.hasPrefix]
          have e2 : Lib.trimPrefix (45 :: l) [45] = l := by unfold Lib.trimPrefix; rw [e1]; rfl
          rw [e1, e2, show (⟨l.toArray⟩ : ByteArray) = s.extract 1 s.size from Go.WideShapes.bytes_inj (by rw [he])] at h
          exact h
        · have := CutPrefix_sign true l s (by rw [hl]; rfl) hh
          rw [show (⟨l.toArray⟩ : ByteArray) = s.extract 1 s.size from Go.WideShapes.bytes_inj (by rw [he])] at this
          exact this
    · refine ⟨s, false, Nat.le_refl _, ?_, .inr (.inr ⟨rfl, rfl, hp, h45⟩)⟩
      have := CutPrefix_sign false s.data.toList s (by simp) (by
        rw [hl]
        simp only [List.head?_cons, ne_eq, Option.some.injEq]
        intro e
        exact h45 (by rw [e]; rfl))
      exact this

/-- The program and the reference read alike. -/
theorem Parse_both (s : ByteArray) (hs : s.size ≤ 1000) : ∃ V E : Int,
    (∀ w, Calls Tryz.prog 55 #[.string s] w fun e w' => e = .returned (.tuple #[.int .i64 V, .int .i64 E]) ∧ Upd w w' (fun _ => False)) ∧
    (∀ w, Calls Tryz.prog 58 #[.string s] w fun e w' => e = .returned (.tuple #[.int .i64 V, .int .i64 E]) ∧ Upd w w' (fun _ => False)) := by
  obtain ⟨t, neg, hts, CP, hform⟩ := prefix_forms s
  have hts2 : t.size ≤ 1000 := by omega
  rcases Cut_forms t hts2 with ⟨hno, hC⟩ | ⟨i, hi, hat, hno, hC⟩
  · have hnoS : ∀ k : Nat, k < t.size → t.data.toList[k]? ≠ some 46 := fun k _ => hno k
    cases hW : isD t.data.toList with
    | false =>
      refine ⟨0, 4, fun w => Parse_bad w s t t ⟨#[]⟩ neg false CP hC hts2 (by decide) (.inl hW), fun w => ?_⟩
      rcases hform with ⟨rfl, h, hz, ht⟩ | ⟨rfl, ht, h⟩ | ⟨rfl, ht, h, hz⟩
      · exact RefParse_minus_end_whole w s t _ t.size hts2 h hz ht hnoS rfl rfl hW
      · have e : s = ⟨#[]⟩ := Go.WideShapes.bytes_inj (List.eq_nil_of_length_eq_zero h)
        rw [e]
        exact RefParse_empty w
      · exact RefParse_plain_end_whole w s t _ t.size hts2 h _ rfl hz ht hnoS rfl rfl hW
    | true =>
      have k := fun w => Parse_ok w s t t ⟨#[]⟩ neg false CP hC hts2 (by decide) hW rfl (fun h => Bool.noConfusion h)
      have key := two_ways (dval t.data.toList) (dval []) (10 ^ ([] : List UInt8).length) (Nat.pow_pos (by omega))
      have e0 : (⟨#[]⟩ : ByteArray).data.toList = [] := rfl
      rw [e0] at k
      unfold parseX at k
      rw [← key] at k
      refine ⟨_, _, k, fun w => ?_⟩
      rcases hform with ⟨rfl, h, hz, ht⟩ | ⟨rfl, ht, h⟩ | ⟨rfl, ht, h, hz⟩
      · exact RefParse_minus_end_ok w s t ⟨#[]⟩ _ [] t.size hts2 h hz ht hnoS rfl rfl e0 rfl hW
      · exfalso
        subst ht
        have hl : s.data.toList = [] := List.eq_nil_of_length_eq_zero h
        rw [hl] at hW
        cases hW
      · exact RefParse_plain_end_ok w s t ⟨#[]⟩ _ [] t.size hts2 h _ rfl hz ht hnoS rfl rfl e0 rfl hW
  · have hat2 : t[i].toNat = 46 := by
      rw [byte_list t i hi] at hat
      have := Option.some.inj hat
      rw [this]
      rfl
    have hb1 : (t.extract 0 i).size ≤ 1000 := by simp; omega
    have hb2 : (t.extract (i + 1) t.size).size ≤ 1000 := by simp; omega
    obtain ⟨whole, hwe⟩ : ∃ whole, t.extract 0 i = whole := ⟨_, rfl⟩
    obtain ⟨part, hpe⟩ : ∃ part, t.extract (i + 1) t.size = part := ⟨_, rfl⟩
    rw [hwe] at hb1 hC
    rw [hpe] at hb2 hC
    have noEmpty : ¬ (s = t ∧ s.size = 0) := by
      rintro ⟨rfl, h⟩
      omega
    cases hW : isD whole.data.toList with
    | false =>
      refine ⟨0, 4, fun w => Parse_bad w s t whole part neg true CP hC hb1 hb2 (.inl hW), fun w => ?_⟩
      rcases hform with ⟨rfl, h, hz, ht⟩ | ⟨rfl, ht, h⟩ | ⟨rfl, ht, h, hz⟩
      · exact RefParse_minus_dot_whole w s t whole _ i hts2 h hz ht hno rfl hi hat2 hwe hW
      · exact absurd ⟨ht, h⟩ noEmpty
      · exact RefParse_plain_dot_whole w s t whole _ i hts2 h _ rfl hz ht hno rfl hi hat2 hwe hW
    | true =>
      cases hP : isD part.data.toList with
      | false =>
        refine ⟨0, 4, fun w => Parse_bad w s t whole part neg true CP hC hb1 hb2 (.inr ⟨hW, rfl, hP⟩), fun w => ?_⟩
        rcases hform with ⟨rfl, h, hz, ht⟩ | ⟨rfl, ht, h⟩ | ⟨rfl, ht, h, hz⟩
        · exact RefParse_minus_dot_part w s t whole part _ _ i hts2 h hz ht hno rfl hi hat2 hwe rfl hpe hW hP
        · exact absurd ⟨ht, h⟩ noEmpty
        · exact RefParse_plain_dot_part w s t whole part _ _ i hts2 h _ rfl hz ht hno rfl hi hat2 hwe rfl hpe hW hP
      | true =>
        have hPall : part.data.toList.all dgB = true := by
          have := hP
          simp only [isD, Bool.and_eq_true] at this
          exact this.2
        have k := fun w => Parse_ok w s t whole part neg true CP hC hb1 hb2 hW hPall (fun _ => hP)
        have key := two_ways (dval whole.data.toList) (dval part.data.toList) (10 ^ part.data.toList.length) (Nat.pow_pos (by omega))
        unfold parseX at k
        rw [← key] at k
        refine ⟨_, _, k, fun w => ?_⟩
        rcases hform with ⟨rfl, h, hz, ht⟩ | ⟨rfl, ht, h⟩ | ⟨rfl, ht, h, hz⟩
        · exact RefParse_minus_dot_ok w s t whole part _ _ i hts2 h hz ht hno rfl hi hat2 hwe rfl hpe hW hP
        · exact absurd ⟨ht, h⟩ noEmpty
        · exact RefParse_plain_dot_ok w s t whole part _ _ i hts2 h _ rfl hz ht hno rfl hi hat2 hwe rfl hpe hW hP
end Go.Proofs.YthahgablbdfodaaGreatDoor
/- The parts of the law's wakes. -/
set_option maxRecDepth 100000
namespace Go.Proofs.YthahgablbdfodaaGreatDoor
open Go.RowKit Go.Lat Go.Lib

def b150 : List UInt8 := [49, 46, 53, 48]
def bTrue : List UInt8 := [116, 114, 117, 101]
theorem Parse_150 (w : World) : Calls Tryz.prog 55 #[enS b150] w fun e w' => e = .returned (.tuple #[.int .i64 15000, .int .i64 0]) ∧ Upd w w' (fun _ => False) :=
  parse_text false 15000 (by decide) [49] [53, 48] true ⟨b150.toArray⟩ (by decide) (by decide) (fun _ => by decide) (fun h => Bool.noConfusion h) (by decide) w
theorem Parse_true (w : World) : Calls Tryz.prog 55 #[enS bTrue] w fun e w' => e = .returned (.tuple #[.int .i64 0, .int .i64 4]) ∧ Upd w w' (fun _ => False) := by
  have CP := CutPrefix_sign false bTrue ⟨bTrue.toArray⟩ (by decide) (by decide)
  rcases Cut_forms ⟨bTrue.toArray⟩ (by decide) with ⟨hno, hC⟩ | ⟨i, hi, hat, hno, hC⟩
  · exact Parse_bad w ⟨bTrue.toArray⟩ ⟨bTrue.toArray⟩ ⟨bTrue.toArray⟩ ⟨#[]⟩ false false CP hC (by decide) (by decide) (.inl (by decide))
  · exfalso
    have hi' : i < 4 := hi
    have hat' : bTrue[i]? = some 46 := hat
    have : i = 0 ∨ i = 1 ∨ i = 2 ∨ i = 3 := by omega
    rcases this with rfl | rfl | rfl | rfl <;> simp [bTrue] at hat'
theorem Read_150 (w : World) (hg : Sig w) : Calls Tryz.prog 38 #[enS b150] w fun e w' => e = .returned (Vl.mk 1 15000 [] false 0).val ∧ Upd w w' (fun _ => False) := by
  have h := Read_any w hg b150 (by decide) 15000 0 Parse_150
  have e : readV b150 15000 0 = ⟨1, 15000, [], false, 0⟩ := by rfl
  rwa [e] at h
theorem Read_true (w : World) (hg : Sig w) : Calls Tryz.prog 38 #[enS bTrue] w fun e w' => e = .returned (Vl.mk 3 0 [] true 0).val ∧ Upd w w' (fun _ => False) := by
  have h := Read_any w hg bTrue (by decide) 0 4 Parse_true
  have e : readV bTrue 0 4 = ⟨3, 0, [], true, 0⟩ := by rfl
  rwa [e] at h
theorem wake_N (w : World) (n : Int) (h : okNum n = true) : Calls Tryz.prog 12 #[.int .i64 n] w fun e w' => e = .returned (Vl.mk 1 n [] false 0).val ∧ Upd w w' (fun _ => False) := by
  have k := N_any w n
  have e : mkN n = ⟨1, n, [], false, 0⟩ := by unfold mkN; rw [if_pos h]
  rwa [e] at k
theorem wake_put (w : World) : Calls Tryz.prog 36 #[(Vl.mk 1 10000 [] false 0).val] w fun e w' => e = .returned (.tuple #[enS [1, 0, 0, 0, 0, 0, 0, 39, 16], .int .i64 0]) ∧ Upd w w' (fun _ => False) := by
  have k := PutN_any w 10000 ⟨i1, ⟨by decide, by decide⟩, Nat.zero_le _, i0⟩ (by decide)
  have e : (1 :: numBs 10000 8 : List UInt8) = [1, 0, 0, 0, 0, 0, 0, 39, 16] := by decide
  rwa [e] at k
theorem wake_show (w : World) (hg : Sig w) : Calls Tryz.prog 34 #[(Vl.mk 4 0 [] false 6).val] w fun e w' => e = .returned (enS [35, 78, 47, 65]) ∧ Upd w w' (fun _ => False) := by
  have k := ShowE_any w hg ⟨4, 0, [], false, 6⟩ ⟨i4, i0, Nat.zero_le _, ⟨by decide, by decide⟩⟩ 0 [] false 6 (by rfl)
  have e : signT 6 = [35, 78, 47, 65] := by decide
  rwa [e] at k
theorem wake_order (w : World) : Calls Tryz.prog 26 #[(Vl.mk 2 0 [98] false 0).val, (Vl.mk 2 0 [65] false 0).val] w (OrdPost w (1, 0)) := by
  have k := Order_any w ⟨2, 0, [98], false, 0⟩ ⟨2, 0, [65], false, 0⟩ ⟨i2, i0, by decide, i0⟩ ⟨i2, i0, by decide, i0⟩ (by decide) (by decide)
  have e : orderV ⟨2, 0, [98], false, 0⟩ ⟨2, 0, [65], false, 0⟩ = (1, 0) := by decide
  rwa [e] at k
end Go.Proofs.YthahgablbdfodaaGreatDoor
/- The walk of the law's wakes. -/
set_option maxRecDepth 100000
namespace Go.Proofs.YthahgablbdfodaaGreatDoor
open Go.RowKit Go.Lat Go.Lib

theorem wake_T (w : World) (c : UInt8) : Calls Tryz.prog 14 #[enS [c]] w fun e w' => e = .returned (Vl.mk 2 0 [c] false 0).val ∧ Upd w w' (fun _ => False) := by
  have k := T_any w [c]
  have e : mkT [c] = ⟨2, 0, [c], false, 0⟩ := by rfl
  rwa [e] at k

theorem wake_B (w : World) : Calls Tryz.prog 20 #[.bool true] w fun e w' => e = .returned (Vl.mk 3 0 [] true 0).val ∧ Upd w w' (fun _ => False) := B_any w true
theorem wake_E (w : World) : Calls Tryz.prog 16 #[.int .i64 6] w fun e w' => e = .returned (Vl.mk 4 0 [] false 6).val ∧ Upd w w' (fun _ => False) := E_any w 6

set_option maxHeartbeats 3200000 in
theorem wakes_any (w : World) (hg : Sig w) : Calls Tryz.prog 8 #[] w fun e w' => e = .returned (.bool true) ∧ Upd w w' (fun _ => False) := by
  have HG := hide hg
  clear hg
  have R1 := fun w hg => Read_150 w hg
  have R2 := fun w hg => Read_true w hg
  unfold bTrue at R2
  have R3 := fun w => wake_T w 98
  have R4 := fun w => wake_T w 65
  have R5 := fun w => wake_order w
  have R6 := fun w => wake_N w 10000 (by decide)
  have R7 := fun w => wake_put w
  have RN := fun w => wake_N w 15000 (by decide)
  have RB := fun w => wake_B w
  have RE := fun w => wake_E w
  have RS := fun w hg => wake_show w hg
  have Q1 := eq_at ⟨1, 15000, [], false, 0⟩ ⟨1, 15000, [], false, 0⟩ ⟨i1, ⟨by decide, by decide⟩, Nat.zero_le _, i0⟩ ⟨i1, ⟨by decide, by decide⟩, Nat.zero_le _, i0⟩ (q := true) rfl
  have Q2 := eq_at ⟨3, 0, [], true, 0⟩ ⟨3, 0, [], true, 0⟩ ⟨i3, i0, Nat.zero_le _, i0⟩ ⟨i3, i0, Nat.zero_le _, i0⟩ (q := true) rfl
  simp only at Q1 Q2
  unfold Vl.val at RN RB RE RS
  simp only at RN RB RE RS
  unfold Vl.val at R1 R2 R3 R4 R5 R6 R7
  simp only at R1 R2 R3 R4 R5 R6 R7
  go_enter Tryz.func8, Tryz.ntmps8
  go_wp2_with fail
  refine Calls.mono (R1 _ HG.out) ?_
  rintro e w1 ⟨rfl, u1⟩
  have HU1 := hide u1
  clear u1 R1
  go_wp2_with fail
  refine Calls.mono (R3 _) ?_
  rintro e w2 ⟨rfl, u2⟩
  have HX2 := hide (u2.get (Vnew1 w1 (.cells (Vl.mk 1 15000 [] false 0).cs 28)) id)
  have HU2 := hide ((HU1.out.alloc _).then u2 (fun _ _ => id))
  clear u2 HU1 R3
  go_wp2_with fail
  refine Calls.mono (R4 _) ?_
  rintro e w3 ⟨rfl, u3⟩
  have HX3 := hide (u3.get HX2.out id)
  have HU3 := hide (HU2.out.then u3 (fun _ _ => id))
  clear u3 HX2 HU2 R4
  go_wp2_with fail
  refine Calls.mono (R5 _) ?_
  rintro e w4 ⟨rfl, u4⟩
  have HX4 := hide (u4.get HX3.out id)
  have HU4 := hide (HU3.out.then u4 (fun _ _ => id))
  clear u4 HX3 HU3 R5
  go_wp2_with fail
  refine Calls.mono (R6 _) ?_
  rintro e w5 ⟨rfl, u5⟩
  have HX5 := hide (u5.get HX4.out id)
  have HU5 := hide (HU4.out.then u5 (fun _ _ => id))
  clear u5 HX4 HU4 R6
  go_wp2_with fail
  refine Calls.mono (R7 _) ?_
  rintro e w6 ⟨rfl, u6⟩
  have HX6 := hide (u6.get HX5.out id)
  have HU6 := hide (HU5.out.then u6 (fun _ _ => id))
  clear u6 HX5 HU5 R7
  obtain ⟨c0, c1, c2, c3, c4⟩ := cells5 HX6.out
  have xl := lt_at HX6.out
  go_wp2_with fail
  go_region_held3 (fun w' => w'.cell? ⟨w1.heap.size, 0, none⟩ = some (.int .i64 1) ∧ w'.cell? ⟨w1.heap.size, 1, none⟩ = some (.int .i64 15000) ∧ w'.cell? ⟨w1.heap.size, 2, none⟩ = some (.string ⟨#[]⟩) ∧ w'.cell? ⟨w1.heap.size, 3, none⟩ = some (.bool false) ∧ w'.cell? ⟨w1.heap.size, 4, none⟩ = some (.int .i64 0) ∧ Upd w6 w' (fun _ => False))
    (first | (go_keep; done) | exact ⟨c0, c1, c2, c3, c4, (Upd.refl w6 _).drew⟩ | (have hz : Upd w6 _ (fun _ => False) := Upd.then (And.right (And.right (And.right (And.right (And.right (by assumption)))))) u11 (fun _ _ => id); exact ⟨(hz.cell w1.heap.size 0 xl id).trans c0, (hz.cell w1.heap.size 1 xl id).trans c1, (hz.cell w1.heap.size 2 xl id).trans c2, (hz.cell w1.heap.size 3 xl id).trans c3, (hz.cell w1.heap.size 4 xl id).trans c4, hz⟩) | (have hz : Upd w6 _ (fun _ => False) := Upd.then (And.right (And.right (And.right (And.right (And.right (by assumption)))))) u10 (fun _ _ => id); exact ⟨(hz.cell w1.heap.size 0 xl id).trans c0, (hz.cell w1.heap.size 1 xl id).trans c1, (hz.cell w1.heap.size 2 xl id).trans c2, (hz.cell w1.heap.size 3 xl id).trans c3, (hz.cell w1.heap.size 4 xl id).trans c4, hz⟩) | (have hz : Upd w6 _ (fun _ => False) := Upd.then (And.right (And.right (And.right (And.right (And.right (by assumption)))))) u9 (fun _ _ => id); exact ⟨(hz.cell w1.heap.size 0 xl id).trans c0, (hz.cell w1.heap.size 1 xl id).trans c1, (hz.cell w1.heap.size 2 xl id).trans c2, (hz.cell w1.heap.size 3 xl id).trans c3, (hz.cell w1.heap.size 4 xl id).trans c4, hz⟩) | (have hz : Upd w6 _ (fun _ => False) := Upd.then (And.right (And.right (And.right (And.right (And.right (by assumption)))))) u8 (fun _ _ => id); exact ⟨(hz.cell w1.heap.size 0 xl id).trans c0, (hz.cell w1.heap.size 1 xl id).trans c1, (hz.cell w1.heap.size 2 xl id).trans c2, (hz.cell w1.heap.size 3 xl id).trans c3, (hz.cell w1.heap.size 4 xl id).trans c4, hz⟩) | (have hz : Upd w6 _ (fun _ => False) := Upd.then (And.right (And.right (And.right (And.right (And.right (by assumption)))))) u7 (fun _ _ => id); exact ⟨(hz.cell w1.heap.size 0 xl id).trans c0, (hz.cell w1.heap.size 1 xl id).trans c1, (hz.cell w1.heap.size 2 xl id).trans c2, (hz.cell w1.heap.size 3 xl id).trans c3, (hz.cell w1.heap.size 4 xl id).trans c4, hz⟩))
    (first
    | (go_at_call 12; with_reducible refine Calls.mono (RN _) ?_; rintro e w7 ⟨rfl, u7⟩)
    | (go_at_call 38; refine Calls.mono (R2 _ (HG.out.upd (HU6.out.then (And.right (And.right (And.right (And.right (And.right (by assumption)))))) (fun _ _ => id)) id)) ?_; rintro e w8 ⟨rfl, u8⟩)
    | (go_at_call 20; with_reducible refine Calls.mono (RB _) ?_; rintro e w9 ⟨rfl, u9⟩)
    | (go_at_call 16; with_reducible refine Calls.mono (RE _) ?_; rintro e w10 ⟨rfl, u10⟩)
    | (go_at_call 34; refine Calls.mono (RS _ (HG.out.upd (HU6.out.then (And.right (And.right (And.right (And.right (And.right (by assumption)))))) (fun _ _ => id)) id)) ?_; rintro e w11 ⟨rfl, u11⟩))
  all_goals go_wp2_with fail
  all_goals go_ret
  all_goals exact ⟨rfl, HU6.out.then (And.right (And.right (And.right (And.right (And.right (by assumption)))))) (fun _ _ => id)⟩
end Go.Proofs.YthahgablbdfodaaGreatDoor
/- The walk of ValueOrders. -/
set_option maxRecDepth 100000
namespace Go.Proofs.YthahgablbdfodaaGreatDoor
open Go.RowKit Go.Lat Go.Lib

set_option maxHeartbeats 3200000 in
theorem ValueOrders_any (w : World) (hg : Sig w) (x y : Vl) (hx : x.ok) (hy : y.ok) : Calls Tryz.prog 4 #[x.val, y.val] w fun e w' => e = .returned (.bool true) ∧ Upd w w' (fun _ => False) := by
  obtain ⟨k0, n0, t0, b0, e0⟩ := x
  obtain ⟨k1, n1, t1, b1, e1⟩ := y
  obtain ⟨c0, hc0⟩ : ∃ c, t0.take 300 = c := ⟨_, rfl⟩
  obtain ⟨c1, hc1⟩ : ∃ c, t1.take 300 = c := ⟨_, rfl⟩
  have l0 : c0.length ≤ 300 := by rw [← hc0]; simp; omega
  have l1 : c1.length ≤ 300 := by rw [← hc1]; simp; omega
  have V0 := fun w => values_any w k0 n0 t0 c0 b0 e0 hc0
  have V1 := fun w => values_any w k1 n1 t1 c1 b1 e1 hc1
  have A := fun w => Order_any w ⟨k0, n0, c0, b0, e0⟩ ⟨k1, n1, c1, b1, e1⟩ ⟨hx.k, hx.n, Nat.le_trans l0 (by decide), hx.f⟩ ⟨hy.k, hy.n, Nat.le_trans l1 (by decide), hy.f⟩ (Nat.le_trans l0 (by decide)) (Nat.le_trans l1 (by decide))
  have B := fun w => ROrder_any w ⟨k0, n0, c0, b0, e0⟩ ⟨k1, n1, c1, b1, e1⟩ (Nat.le_trans l0 (by decide)) (Nat.le_trans l1 (by decide))
  obtain ⟨⟨p, q⟩, hp⟩ : ∃ p, orderV ⟨k0, n0, c0, b0, e0⟩ ⟨k1, n1, c1, b1, e1⟩ = p := ⟨_, rfl⟩
  rw [hp] at A B
  unfold Vl.val at A B ⊢
  simp only at A B ⊢
  have HG := hide hg
  clear hp l0 l1 hc0 hc1 hx hy hg
  go_enter Tryz.func4, Tryz.ntmps4
  go_wp2_with fail
  refine Calls.mono (V0 _) ?_
  rintro e w1 ⟨rfl, u1⟩
  have hY := u1.get (Vnew2 w (.cells (Vl.mk k0 n0 t0 b0 e0).cs 23) (.cells (Vl.mk k1 n1 t1 b1 e1).cs 23)) id
  obtain ⟨y0, y1, y2, y3, y4⟩ := cells5 hY
  have yl := lt_at hY
  have yl' : w.heap.size < w1.heap.size := by omega
  have HU1 := hide ((((Upd.refl w _).alloc _).alloc _).then u1 (fun _ _ => id))
  clear u1 V0 hY
  go_wp2_with fail
  refine Calls.mono (V1 _) ?_
  rintro e w2 ⟨rfl, u2⟩
  have hA := hide (u2.get (block_alloc (Vnew1 w1 (.cells (Vl.mk k0 n0 c0 b0 e0).cs 28)) (.cells (Vl.mk k0 n0 c0 b0 e0).cs 29)) id)
  have hB := hide (u2.get (Vnew2 w1 (.cells (Vl.mk k0 n0 c0 b0 e0).cs 28) (.cells (Vl.mk k0 n0 c0 b0 e0).cs 29)) id)
  have HU2 := hide (((HU1.out.alloc _).alloc _).then u2 (fun _ _ => id))
  clear u2 V1 y0 y1 y2 y3 y4 yl yl' HU1
  obtain ⟨a0, a1, a2, a3, a4⟩ := cells5 hA.out
  have al := lt_at hB.out
  have al' : w1.heap.size < w2.heap.size := by omega
  go_wp2_with fail
  refine Calls.mono (A _) ?_
  rintro e w3 ⟨rfl, u3⟩
  have hB3 := hide (u3.get (block_alloc (block_alloc hB.out _) _) id)
  have hD3 := hide (u3.get (Vnew2 w2 (.cells (Vl.mk k1 n1 c1 b1 e1).cs 28) (.cells (Vl.mk k1 n1 c1 b1 e1).cs 29)) id)
  have HU3 := hide (((HU2.out.alloc _).alloc _).then u3 (fun _ _ => id))
  clear u3 A a0 a1 a2 a3 a4 hA hB HU2
  obtain ⟨a0, a1, a2, a3, a4⟩ := cells5 hB3.out
  obtain ⟨d0, d1, d2, d3, d4⟩ := cells5 hD3.out
  have bl := lt_at hB3.out
  have dl := lt_at hD3.out
  go_wp2_with fail
  refine Calls.mono (B _) ?_
  rintro e w4 ⟨rfl, u4⟩
  have HU4 := hide (HU3.out.then u4 (fun _ _ => id))
  clear u4 B HU3
  go_wp2_with fail
  refine Calls.mono (wakes_any _ (HG.out.upd HU4.out id)) ?_
  rintro e w5 ⟨rfl, u5⟩
  have HU5 := hide (HU4.out.then u5 (fun _ _ => id))
  clear u5 HU4
  go_wp2_with fail
  go_ret
  exact ⟨by simp, HU5.out⟩
end Go.Proofs.YthahgablbdfodaaGreatDoor
/- From a law's walk to its row: the parts that are alike for every law. -/
namespace Go.Lat
open Go.ChangeShapes Go.WideShapes Go.ChangeAt Go.RowKit Go.Deep

theorem trodAll_below {H : Type} {enc : TypeId × Value → H} {P : Program} (hl : laidOutB P = true) {W W' : World} (hb : Below W.heap.size W W') :
    ∀ (ts : List TypeId) (vs : List Value) (ds : List (DataW H)) (ps : List MemPlace), (∀ t ∈ ts, P.readableRec t = true ∧ t < P.types.size) →
      DataW.TrodAll enc P W 0 (fun _ => true) true ts vs ds ps → (∀ x ∈ ps, x.block < W.heap.size) → DataW.TrodAll enc P W' 0 (fun b => decide (b < W.heap.size)) true ts vs ds ps
  | [], [], [], ps, _, h, _ => h
  | t :: ts, v :: vs, d :: ds, ps, hr, h, hlt => by
    obtain ⟨p, q, h1, h2, rfl⟩ := h
    refine ⟨p, q, Below.trod hl (hr t (by simp)).1 (hr t (by simp)).2 h1 hb (fun x hx => hlt x (by simp [hx])), ?_, rfl⟩
    exact trodAll_below hl hb ts vs ds q (fun t ht => hr t (by simp [ht])) h2 (fun x hx => hlt x (by simp [hx]))
  | [], [], _ :: _, _, _, h, _ => h.elim
  | [], _ :: _, _, _, _, h, _ => h.elim
  | _ :: _, [], _, _, _, h, _ => h.elim
  | _ :: _, _ :: _, [], _, _, h, _ => h.elim

/-- A law that leaves all that was there alone and answers true. -/
theorem law_post {H : Type} {enc : TypeId × Value → H} {P : Program} {f : Func} {s : ChangeSpec} {W W' : World} {args : Array Value} {ds gs : List (DataW H)} {before : List MemPlace} {tb : TypeId}
    (hl : laidOutB P = true) (hW : DataW.Whole enc P f.params.toList s.vars false W args.toList ds gs before) (hvars : s.vars = [])
    (hfn : s.fn H (ds ++ gs) = { results := [.lit (.bool true)], args := ds }) (hread0 : f.params.toList.all (fun t => P.readableRec t && decide (t < P.types.size)) = true)
    (hrt : f.resultTypes = #[tb]) (htb : P.underlying tb = some .bool) (hb : Upd W W' (fun _ => False)) :
    s.post enc P f false true false false W args (.bool true) W' := by
  have hread : ∀ t ∈ f.params.toList, P.readableRec t = true ∧ t < P.types.size := fun t ht => by have := List.all_eq_true.1 hread0 t ht; simpa using this
  have hlt := hW.lt
  obtain ⟨p, q, h1, h2, rfl, hz, ha⟩ := hW
  have hrt' : f.resultTypes.toList = [tb] := by rw [hrt]
  have hrs : f.resultTypes.size = 1 := by rw [hrt]; rfl
  refine ⟨ds, gs, _, [], p, [], ⟨p, q, h1, h2, rfl, hz, ha⟩, ?_, ?_, ?_, hb.below.frame _, fun h => by cases h⟩
  · rw [hfn, hrt', hrs]
    exact trodAll_mk1 (shut_bool htb true)
  · rw [hfn]
    exact trodAll_below hl hb.below _ _ _ _ hread h1 (fun x hx => hlt x (by simp [hx]))
  · rw [hfn, hvars]
    rfl

section
variable {H : Type} {enc : TypeId × Value → H} {P : Program} {w : World} {base : Nat} {spare : Nat → Bool} {held : Bool}
/-- An argument that is a slice of structs of one-cell fields: each element's cells and their readings. -/
theorem open_slice_fields {t e : TypeId} {fs : Array Field} {fuel : Nat} {cs : List Value} {x : DataW H × List MemPlace} (ht : P.underlying t = some (.slice e)) (he : P.underlying e = some (.struct fs))
    (hone : oneCellFields P fs = true) (hC : P.cellsOf e = fs.size) (h : DataW.trod enc P w base spare held fuel t cs = some x) :
    cs = [.slice none 0 0] ∨
    ∃ (a : Addr) (len cap : Nat), cs = [.slice (some a) len cap] ∧ len ≤ cap ∧ cap ≤ maxLen ∧
      ∀ i, i < len → ∃ n : Nat, ∀ (j : Nat) (f : Field), fs[j]? = some f → ∃ (v : Value) (y : DataW H × List MemPlace), w.cell? (a.add (i * fs.size + j)) = some v ∧ DataW.trod enc P w base spare held n f.type [v] = some y := by
  rcases open_slice ht h with h0 | ⟨a, len, cap, m, n, D, Pl, hcs, hb, hl, hm, hmm, hx, hi⟩
  · exact .inl h0.1
  · refine .inr ⟨a, len, cap, hcs, hl, hm, fun i him => ?_⟩
    obtain ⟨cs', hc, ht'⟩ := hi i (by rw [hmm]; split <;> omega)
    rw [hC] at hc
    obtain ⟨ys, n', hn', hy, hlen, hyl, hf⟩ := DataW.trod_struct he ht'
    obtain ⟨_, hcl, hat⟩ := World.cells?_some hc
    refine ⟨n', fun j f hj => ?_⟩
    obtain ⟨ho, hk⟩ := hone_of hone j f hj
    have hjl : j < fs.size := (Array.getElem?_eq_some_iff.1 hj).1
    have hcell := hat j hjl
    have hv : cs'[j]? = some (cs'[j]'(by omega)) := List.getElem?_eq_getElem (by omega)
    have h1 := hf j f hj
    rw [ho, hk] at h1
    have hone' : (cs'.drop j).take 1 = [cs'[j]'(by omega)] := by
      rw [List.drop_eq_getElem_cons (by omega)]
      rfl
    rw [hone'] at h1
    have hys : ys[j]? = some (ys[j]'(by omega)) := List.getElem?_eq_getElem (by omega)
    refine ⟨_, _, ?_, h1.trans hys⟩
    rw [← Go.Deep.add_add, hcell, hv]
end
/-- A cell that is there has a plain address. -/
theorem cell_spot {w : World} {a : Addr} {v : Value} (h : w.cell? a = some v) : a.spot = none := by
  unfold World.cell? at h
  split at h
  · split at h
    · cases h
    · rename_i h'; simpa using h'
  · cases h

theorem choose_fn {α : Type} (d : α) {n : Nat} {p : Nat → α → Prop} (h : ∀ i, i < n → ∃ x, p i x) : ∃ f : Nat → α, ∀ i, i < n → p i (f i) := by
  classical
  exact ⟨fun i => if hi : i < n then (h i hi).choose else d, fun i hi => by simp only [hi, dif_pos]; exact (h i hi).choose_spec⟩
theorem bounds_int {n : Int} (h : (Lit.int .i64 n).wf = true) : -9223372036854775808 ≤ n ∧ n ≤ 9223372036854775807 := by
  simp [Lit.wf, IntKind.min, IntKind.max, IntKind.signed, IntKind.bits] at h
  omega
end Go.Lat
