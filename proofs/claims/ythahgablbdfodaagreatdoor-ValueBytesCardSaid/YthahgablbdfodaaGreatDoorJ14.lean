/- What fixed's Text writes, fixed's Parse reads. -/
import Derived.Test.YthahgablbdfodaaGreatDoorJ11
import Derived.WideShapes
import Derived.Test.YthahgablbdfodaaGreatDoorJ12
import Derived.Test.YthahgablbdfodaaGreatDoorJ13
import Derived.Test.YthahgablbdfodaaGreatDoorJ05
import Derived.Test.YthahgablbdfodaaGreatDoorJ06
/- What fixed's Text writes, fixed's Parse reads. -/
set_option maxRecDepth 100000
namespace Go.Proofs.YthahgablbdfodaaGreatDoor
open Go.RowKit Go.Lat Go.Shelf Go.Sort Go.Lib

theorem dg_ofNat (d : Nat) (h : d < 10) : dgB (UInt8.ofNat (48 + d)) = true ∧ dvB (UInt8.ofNat (48 + d)) = d := by
  have e : (UInt8.ofNat (48 + d)).toNat = 48 + d := by simp; omega
  unfold dgB dvB
  rw [e]
  simp
  omega

theorem dec_all : ∀ u, (decDigits u).all dgB = true ∧ dval (decDigits u) = u := by
  intro u
  induction u using Nat.strongRecOn with
  | ind u ih =>
    unfold decDigits
    by_cases h : u < 10
    · rw [dif_pos h]
      obtain ⟨a, b⟩ := dg_ofNat u h
      exact ⟨by simp only [List.all_cons, List.all_nil, a, Bool.and_true], by rw [dval_one, b]⟩
    · rw [dif_neg h]
      obtain ⟨a, b⟩ := dg_ofNat (u % 10) (by omega)
      obtain ⟨c, d⟩ := ih (u / 10) (by omega)
      refine ⟨by rw [List.all_append, c]; simp only [List.all_cons, List.all_nil, a, Bool.and_true], ?_⟩
      rw [dval_append, dval_one, b, d]
      simp
      omega

theorem dec_len : ∀ (k u : Nat), u < 10 ^ (k + 1) → 1 ≤ (decDigits u).length ∧ (decDigits u).length ≤ k + 1
  | 0, u, h => by
    unfold decDigits
    rw [dif_pos (by simpa using h)]
    simp
  | k + 1, u, h => by
    unfold decDigits
    by_cases hu : u < 10
    · rw [dif_pos hu]
      simp
    · rw [dif_neg hu]
      have h2 : u / 10 < 10 ^ (k + 1) := by
        rw [Nat.pow_succ] at h
        rw [Nat.div_lt_iff_lt_mul (by omega)]
        exact h
      obtain ⟨a, b⟩ := dec_len k (u / 10) h2
      rw [List.length_append]
      simp
      omega

theorem dec_isD (u : Nat) (h : u < 1000000000000000000) : isD (decDigits u) = true := by
  have e18 : (10 : Nat) ^ 18 = 1000000000000000000 := by decide
  obtain ⟨a, b⟩ := dec_len 17 u (by rw [e18]; exact h)
  unfold isD
  rw [(dec_all u).1, decide_eq_true a, decide_eq_true b]
  rfl

/-- The noughts behind a part. -/
theorem trim_tail (l : List UInt8) : ∃ z : List UInt8, l = trimRightB l 48 ++ z ∧ dval z = 0 := by
  have key : ∀ l : List UInt8, (∀ x ∈ l, x = 48) → dval l = 0 := by
    intro l
    induction l with
    | nil => intro _; rfl
    | cons b l ih =>
      intro h
      have hb := h b (by simp)
      subst hb
      rw [dval_cons, ih (fun x hx => h x (by simp [hx]))]
      simp [dvB]
  refine ⟨(l.reverse.takeWhile (· == 48)).reverse, ?_, key _ ?_⟩
  · unfold trimRightB
    rw [← List.reverse_append, List.takeWhile_append_dropWhile, List.reverse_reverse]
  · intro x hx
    have := takeWhile_all _ _ _ (List.mem_reverse.1 hx)
    simpa using this

/-- The part of a number that is not whole. -/
theorem part_text (r : Nat) (h0 : 0 < r) (h1 : r < 10000) :
    isD (trimRightB ((decDigits (10000 + r)).drop 1) 48) = true ∧ (dval (trimRightB ((decDigits (10000 + r)).drop 1) 48) * 100000 / 10 ^ (trimRightB ((decDigits (10000 + r)).drop 1) 48).length + 5) / 10 = r := by
  obtain ⟨ha, hv⟩ := dec_all (10000 + r)
  have hl : (decDigits (10000 + r)).length = 5 := by
    have g5 := nDigits5 (10000 + r) (by omega) (by omega)
    rw [decDigits_length, g5]
  obtain ⟨c, Q, hQ⟩ : ∃ c Q, decDigits (10000 + r) = c :: Q := by
    cases h : decDigits (10000 + r) with
    | nil => rw [h] at hl; simp at hl
    | cons c Q => exact ⟨c, Q, rfl⟩
  rw [hQ] at ha hv hl ⊢
  simp only [List.all_cons, Bool.and_eq_true] at ha
  have hQl : Q.length = 4 := by simpa using hl
  have hQv := dval_lt Q ha.2
  have hc := dgB_lt ha.1
  rw [dval_cons, hQl] at hv
  rw [hQl] at hQv
  have e4 : (10 : Nat) ^ 4 = 10000 := by decide
  rw [e4] at hv hQv
  have hQr : dval Q = r := by omega
  have eD : (c :: Q).drop 1 = Q := rfl
  rw [eD]
  obtain ⟨z, hz, hz0⟩ := trim_tail Q
  obtain ⟨P, hP⟩ : ∃ P, trimRightB Q 48 = P := ⟨_, rfl⟩
  rw [hP] at hz ⊢
  have hPall : P.all dgB = true := by
    have := ha.2
    rw [hz, List.all_append, Bool.and_eq_true] at this
    exact this.1
  have hlen : P.length + z.length = 4 := by rw [← List.length_append, ← hz]; exact hQl
  have hval : dval P * 10 ^ z.length = r := by
    have := dval_append P z
    rw [← hz, hz0, hQr] at this
    omega
  have hP1 : 1 ≤ P.length := by
    rcases Nat.eq_zero_or_pos P.length with e | e
    · have : P = [] := List.eq_nil_of_length_eq_zero e
      subst this
      rw [dval_nil, Nat.zero_mul] at hval
      omega
    · exact e
  refine ⟨?_, ?_⟩
  · unfold isD
    rw [hPall, decide_eq_true hP1, decide_eq_true (show P.length ≤ 18 by omega)]
    rfl
  · have e5 : (100000 : Nat) = 10 ^ z.length * 10 * 10 ^ P.length := by
      rw [Nat.mul_right_comm, ← Nat.pow_add, Nat.add_comm, hlen]
    have eV : dval P * 100000 = r * 10 * 10 ^ P.length := by
      rw [e5, ← hval, ← Nat.mul_assoc, ← Nat.mul_assoc]
    rw [eV, Nat.mul_div_cancel _ (Nat.pow_pos (by omega))]
    omega

theorem digit_ne {l : List UInt8} (h : l.all dgB = true) (k : Nat) : l[k]? ≠ some 46 := by
  intro e
  have := List.all_eq_true.1 h _ (List.mem_of_getElem? e)
  revert this
  decide

/-- The sign ahead. -/
theorem CutPrefix_sign (s : Bool) (body : List UInt8) (t : ByteArray) (ht : t.data.toList = (if s then [45] else []) ++ body) (hb : body.head? ≠ some 45) :
    ∀ w, Calls Tryz.prog 68 #[.string t, .string ⟨#[45]⟩] w fun e w' => e = .returned (.tuple #[.string ⟨body.toArray⟩, .bool s]) ∧ w' = w := by
  intro w
  have h := Tryz.strings_CutPrefix t ⟨#[45]⟩ w
  have e0 : (⟨#[45]⟩ : ByteArray).data.toList = [45] := rfl
  rw [e0, ht] at h
  have e1 : Lib.hasPrefix ((if s then [45] else []) ++ body) [45] = s := by
    cases s with
    | true => simp [Lib.hasPrefix]
    | false =>
      cases body with
      | nil => rfl
      | cons b l =>
        simp only [List.head?_cons, ne_eq, Option.some.injEq] at hb
        have : ((45 : UInt8) == b) = false := by simpa using fun e => hb (Eq.symm e)
        show ((45 : UInt8) == b && [].isPrefixOf l) = false
        rw [this]
        rfl
  have e2 : Lib.trimPrefix ((if s then [45] else []) ++ body) [45] = body := by
    unfold Lib.trimPrefix
    rw [e1]
    cases s <;> rfl
  rw [e1, e2] at h
  exact h

theorem parse_text (s : Bool) (x : Nat) (hx : x ≤ 9000000000000000000) (W P : List UInt8) (pt : Bool) (t : ByteArray) (ht : t.data.toList = (if s then [45] else []) ++ (W ++ if pt then 46 :: P else []))
    (hW : isD W = true) (hP : pt = true → isD P = true) (hP0 : pt = false → P = []) (hX : parseX W P = x) :
    ∀ w, Calls Tryz.prog 55 #[.string t] w fun e w' => e = .returned (.tuple #[.int .i64 (if s then -(x : Int) else x), .int .i64 0]) ∧ Upd w w' (fun _ => False) := by
  have hW' := hW
  simp only [isD, Bool.and_eq_true, decide_eq_true_eq] at hW'
  obtain ⟨⟨w1, w2⟩, w3⟩ := hW'
  have hPall : P.all dgB = true ∧ P.length ≤ 18 := by
    cases pt with
    | true =>
      have := hP rfl
      simp only [isD, Bool.and_eq_true, decide_eq_true_eq] at this
      exact ⟨this.2, this.1.2⟩
    | false => rw [hP0 rfl]; exact ⟨rfl, by simp⟩
  have hn1 : numE x = 0 := by unfold numE; rw [if_neg (by omega)]
  have hn2 : numV s x = (if s then -(x : Int) else x) := by unfold numV; rw [if_neg (by omega)]
  obtain ⟨body, hbd⟩ : ∃ body, W ++ (if pt then 46 :: P else []) = body := ⟨_, rfl⟩
  rw [hbd] at ht
  have hhead : body.head? ≠ some 45 := by
    cases W with
    | nil => simp at w1
    | cons b l =>
      rw [← hbd]
      simp only [List.cons_append, List.head?_cons, ne_eq, Option.some.injEq]
      intro e
      subst e
      simp only [List.all_cons, Bool.and_eq_true] at w3
      exact absurd w3.1 (by decide)
  have CP := CutPrefix_sign s body t ht hhead
  have hbl : body.length ≤ 37 := by
    rw [← hbd]
    cases pt <;> simp <;> omega
  have hbs : (⟨body.toArray⟩ : ByteArray).size = body.length := rfl
  have hbt : (⟨body.toArray⟩ : ByteArray).data.toList = body := rfl
  obtain ⟨b, hb⟩ : ∃ b, (⟨body.toArray⟩ : ByteArray) = b := ⟨_, rfl⟩
  rw [hb] at hbs hbt CP
  intro w
  rcases Cut_forms b (by omega) with ⟨hno, hC⟩ | ⟨i, hi, hi1, hi2, hC⟩
  · have hpt : pt = false := by
      cases pt with
      | false => rfl
      | true =>
        exfalso
        refine hno W.length ?_
        rw [hbt, ← hbd]
        simp
    subst hpt
    have eW : b.data.toList = W := by rw [hbt, ← hbd]; simp
    have k := Parse_ok w t b b ⟨#[]⟩ s false CP hC (by omega) (by decide) (by rw [eW]; exact hW) rfl (fun h => Bool.noConfusion h)
    rw [eW, show (⟨#[]⟩ : ByteArray).data.toList = P from (hP0 rfl).symm, hX, hn1, hn2] at k
    exact k
  · have hpt : pt = true := by
      cases pt with
      | true => rfl
      | false =>
        exfalso
        refine digit_ne w3 i ?_
        rw [← hi1, hbt, ← hbd]
        simp
    subst hpt
    have hiW : i = W.length := by
      rcases Nat.lt_trichotomy i W.length with h | h | h
      · exfalso
        refine digit_ne w3 i ?_
        rw [← hi1, hbt, ← hbd, List.getElem?_append_left h]
      · exact h
      · exfalso
        refine hi2 W.length h ?_
        rw [hbt, ← hbd]
        simp
    subst hiW
    have eW : (b.extract 0 W.length).data.toList = W := by
      rw [ByteArray.data_extract]
      have : b.data.toList = W ++ 46 :: P := by rw [hbt, ← hbd]; rfl
      simp [this]
    have eP : (b.extract (W.length + 1) b.size).data.toList = P := by
      rw [ByteArray.data_extract, hbs]
      have : b.data.toList = W ++ 46 :: P := by rw [hbt, ← hbd]; rfl
      have hl : body.length = W.length + (P.length + 1) := by rw [← hbd]; simp
      simp [this, hl]
      have e : W.length + (P.length + 1) - (W.length + 1) = P.length := by omega
      rw [e]
      simp
    have s1 : (b.extract 0 W.length).size = W.length := congrArg List.length eW
    have s2 : (b.extract (W.length + 1) b.size).size = P.length := congrArg List.length eP
    have k := Parse_ok w t b (b.extract 0 W.length) (b.extract (W.length + 1) b.size) s true CP hC (by omega) (by omega) (by rw [eW]; exact hW) (by rw [eP]; exact hPall.1) (fun _ => by rw [eP]; exact hP rfl)
    rw [eW, eP, hX, hn1, hn2] at k
    exact k

/-- A number's text is read as the number. -/
theorem text_back (s : Bool) (x : Nat) (hx : x ≤ 9000000000000000000) (h0 : s = true → 0 < x) : ∃ t : ByteArray,
    (∀ w, Pow w → Calls Tryz.prog 60 #[.int .i64 (if s then -(x : Int) else x)] w fun e w' => e = .returned (.string t) ∧ Upd w w' (fun _ => False)) ∧
    (∀ w, Calls Tryz.prog 55 #[.string t] w fun e w' => e = .returned (.tuple #[.int .i64 (if s then -(x : Int) else x), .int .i64 0]) ∧ Upd w w' (fun _ => False)) := by
  by_cases hr : x % 10000 = 0
  · refine ⟨⟨((if s then [45] else []) ++ decDigits (x / 10000)).toArray⟩, fun w ht => ?_, ?_⟩
    · refine Calls.mono (Text_whole w s x hx h0 hr ht) ?_
      rintro e w' ⟨⟨t, rfl, et⟩, u⟩
      exact ⟨by rw [Go.WideShapes.bytes_inj (show t.data.toList = (⟨((if s then [45] else []) ++ decDigits (x / 10000)).toArray⟩ : ByteArray).data.toList from et)], u⟩
    · refine parse_text s x hx (decDigits (x / 10000)) [] false _ (by simp) (dec_isD _ (by omega)) (fun h => Bool.noConfusion h) (fun _ => rfl) ?_
      unfold parseX
      rw [(dec_all _).2, dval_nil]
      simp
      omega
  · obtain ⟨p1, p2⟩ := part_text (x % 10000) (by omega) (by omega)
    refine ⟨⟨((if s then [45] else []) ++ (decDigits (x / 10000) ++ 46 :: trimRightB ((decDigits (10000 + x % 10000)).drop 1) 48)).toArray⟩, fun w ht => ?_, ?_⟩
    · refine Calls.mono (Text_part w s x hx h0 hr ht) ?_
      rintro e w' ⟨⟨t, rfl, et⟩, u⟩
      exact ⟨by rw [Go.WideShapes.bytes_inj (show t.data.toList = (⟨((if s then [45] else []) ++ (decDigits (x / 10000) ++ 46 :: trimRightB ((decDigits (10000 + x % 10000)).drop 1) 48)).toArray⟩ : ByteArray).data.toList from et)], u⟩
    · refine parse_text s x hx (decDigits (x / 10000)) (trimRightB ((decDigits (10000 + x % 10000)).drop 1) 48) true _ (by simp) (dec_isD _ (by omega)) (fun _ => p1) (fun h => Bool.noConfusion h) ?_
      unfold parseX
      rw [(dec_all _).2, p2]
      omega
end Go.Proofs.YthahgablbdfodaaGreatDoor
/- The program's and the reference's Parse are alike at every text of at most 1000 bytes. -/
set_option maxRecDepth 100000
namespace Go.Proofs.YthahgablbdfodaaGreatDoor
open Go.RowKit Go.Lat

/-- How a text begins. -/
theorem prefix_forms (s : ByteArray) : ∃ (t : ByteArray) (neg : Bool), t.size ≤ s.size ∧ (∀ w, Calls Tryz.prog 68 #[.string s, .string ⟨#[45]⟩] w fun e w' => e = .returned (.tuple #[.string t, .bool neg]) ∧ w' = w) ∧
    ((neg = true ∧ ∃ h : 0 < s.size, s[0].toNat = 45 ∧ s.extract 1 s.size = t) ∨ (neg = false ∧ s = t ∧ s.size = 0) ∨ (neg = false ∧ s = t ∧ ∃ h : 0 < s.size, s[0].toNat ≠ 45)) := by
  by_cases h0 : s.size = 0
  · have hl : s.data.toList = [] := List.eq_nil_of_length_eq_zero h0
    refine ⟨s, false, Nat.le_refl _, ?_, .inr (.inl ⟨rfl, rfl, h0⟩)⟩
    have := CutPrefix_sign false [] s (by rw [hl]; rfl) (by simp)
    rw [show (⟨([] : List UInt8).toArray⟩ : ByteArray) = s from Go.WideShapes.bytes_inj (by rw [hl])] at this
    exact this
  · have hp : 0 < s.size := by omega
    have hb := byte_list s 0 hp
    obtain ⟨l, hl⟩ : ∃ l, s.data.toList = s[0] :: l := by
      cases h : s.data.toList with
      | nil => rw [h] at hb; simp at hb
      | cons b l =>
        rw [h] at hb
        simp at hb
        exact ⟨l, by rw [hb]⟩
    by_cases h45 : s[0].toNat = 45
    · have eb : s[0] = 45 := UInt8.toNat_inj.1 h45
      rw [eb] at hl
      have he : (s.extract 1 s.size).data.toList = l := by
        rw [ByteArray.data_extract]
        have hsz : s.size = l.length + 1 := by
          have : s.data.toList.length = s.size := rfl
          rw [← this, hl]
          rfl
        simp [hl, hsz]
      refine ⟨s.extract 1 s.size, true, ?_, ?_, .inl ⟨rfl, hp, h45, rfl⟩⟩
      · simp
      · have hsz2 : s.data.toList = [45] ++ (45 :: l).drop 1 := by rw [hl]; rfl
        by_cases hh : l.head? = some 45
        · intro w
          have h := Tryz.strings_CutPrefix s ⟨#[45]⟩ w
          rw [show (⟨#[45]⟩ : ByteArray).data.toList = [45] from rfl, hl] at h
          have e1 : Lib.hasPrefix (45 :: l) [45] = true := by simp [Lib.hasPrefix]
          have e2 : Lib.trimPrefix (45 :: l) [45] = l := by unfold Lib.trimPrefix; rw [e1]; rfl
          rw [e1, e2, show (⟨l.toArray⟩ : ByteArray) = s.extract 1 s.size from Go.WideShapes.bytes_inj (by rw [he])] at h
          exact h
        · have := CutPrefix_sign true l s (by rw [hl]; rfl) hh
          rw [show (⟨l.toArray⟩ : ByteArray) = s.extract 1 s.size from Go.WideShapes.bytes_inj (by rw [he])] at this
          exact this
    · refine ⟨s, false, Nat.le_refl _, ?_, .inr (.inr ⟨rfl, rfl, hp, h45⟩)⟩
      have := CutPrefix_sign false s.data.toList s (by simp) (by
        rw [hl]
        simp only [List.head?_cons, ne_eq, Option.some.injEq]
        intro e
        exact h45 (by rw [e]; rfl))
      exact this

/-- The program and the reference read alike. -/
theorem Parse_both (s : ByteArray) (hs : s.size ≤ 1000) : ∃ V E : Int,
    (∀ w, Calls Tryz.prog 55 #[.string s] w fun e w' => e = .returned (.tuple #[.int .i64 V, .int .i64 E]) ∧ Upd w w' (fun _ => False)) ∧
    (∀ w, Calls Tryz.prog 58 #[.string s] w fun e w' => e = .returned (.tuple #[.int .i64 V, .int .i64 E]) ∧ Upd w w' (fun _ => False)) := by
  obtain ⟨t, neg, hts, CP, hform⟩ := prefix_forms s
  have hts2 : t.size ≤ 1000 := by omega
  rcases Cut_forms t hts2 with ⟨hno, hC⟩ | ⟨i, hi, hat, hno, hC⟩
  · have hnoS : ∀ k : Nat, k < t.size → t.data.toList[k]? ≠ some 46 := fun k _ => hno k
    cases hW : isD t.data.toList with
    | false =>
      refine ⟨0, 4, fun w => Parse_bad w s t t ⟨#[]⟩ neg false CP hC hts2 (by decide) (.inl hW), fun w => ?_⟩
      rcases hform with ⟨rfl, h, hz, ht⟩ | ⟨rfl, ht, h⟩ | ⟨rfl, ht, h, hz⟩
      · exact RefParse_minus_end_whole w s t _ t.size hts2 h hz ht hnoS rfl rfl hW
      · have e : s = ⟨#[]⟩ := Go.WideShapes.bytes_inj (List.eq_nil_of_length_eq_zero h)
        rw [e]
        exact RefParse_empty w
      · exact RefParse_plain_end_whole w s t _ t.size hts2 h _ rfl hz ht hnoS rfl rfl hW
    | true =>
      have k := fun w => Parse_ok w s t t ⟨#[]⟩ neg false CP hC hts2 (by decide) hW rfl (fun h => Bool.noConfusion h)
      have key := two_ways (dval t.data.toList) (dval []) (10 ^ ([] : List UInt8).length) (Nat.pow_pos (by omega))
      have e0 : (⟨#[]⟩ : ByteArray).data.toList = [] := rfl
      rw [e0] at k
      unfold parseX at k
      rw [← key] at k
      refine ⟨_, _, k, fun w => ?_⟩
      rcases hform with ⟨rfl, h, hz, ht⟩ | ⟨rfl, ht, h⟩ | ⟨rfl, ht, h, hz⟩
      · exact RefParse_minus_end_ok w s t ⟨#[]⟩ _ [] t.size hts2 h hz ht hnoS rfl rfl e0 rfl hW
      · exfalso
        subst ht
        have hl : s.data.toList = [] := List.eq_nil_of_length_eq_zero h
        rw [hl] at hW
        cases hW
      · exact RefParse_plain_end_ok w s t ⟨#[]⟩ _ [] t.size hts2 h _ rfl hz ht hnoS rfl rfl e0 rfl hW
  · have hat2 : t[i].toNat = 46 := by
      rw [byte_list t i hi] at hat
      have := Option.some.inj hat
      rw [this]
      rfl
    have hb1 : (t.extract 0 i).size ≤ 1000 := by simp; omega
    have hb2 : (t.extract (i + 1) t.size).size ≤ 1000 := by simp; omega
    obtain ⟨whole, hwe⟩ : ∃ whole, t.extract 0 i = whole := ⟨_, rfl⟩
    obtain ⟨part, hpe⟩ : ∃ part, t.extract (i + 1) t.size = part := ⟨_, rfl⟩
    rw [hwe] at hb1 hC
    rw [hpe] at hb2 hC
    have noEmpty : ¬ (s = t ∧ s.size = 0) := by
      rintro ⟨rfl, h⟩
      omega
    cases hW : isD whole.data.toList with
    | false =>
      refine ⟨0, 4, fun w => Parse_bad w s t whole part neg true CP hC hb1 hb2 (.inl hW), fun w => ?_⟩
      rcases hform with ⟨rfl, h, hz, ht⟩ | ⟨rfl, ht, h⟩ | ⟨rfl, ht, h, hz⟩
      · exact RefParse_minus_dot_whole w s t whole _ i hts2 h hz ht hno rfl hi hat2 hwe hW
      · exact absurd ⟨ht, h⟩ noEmpty
      · exact RefParse_plain_dot_whole w s t whole _ i hts2 h _ rfl hz ht hno rfl hi hat2 hwe hW
    | true =>
      cases hP : isD part.data.toList with
      | false =>
        refine ⟨0, 4, fun w => Parse_bad w s t whole part neg true CP hC hb1 hb2 (.inr ⟨hW, rfl, hP⟩), fun w => ?_⟩
        rcases hform with ⟨rfl, h, hz, ht⟩ | ⟨rfl, ht, h⟩ | ⟨rfl, ht, h, hz⟩
        · exact RefParse_minus_dot_part w s t whole part _ _ i hts2 h hz ht hno rfl hi hat2 hwe rfl hpe hW hP
        · exact absurd ⟨ht, h⟩ noEmpty
        · exact RefParse_plain_dot_part w s t whole part _ _ i hts2 h _ rfl hz ht hno rfl hi hat2 hwe rfl hpe hW hP
      | true =>
        have hPall : part.data.toList.all dgB = true := by
          have := hP
          simp only [isD, Bool.and_eq_true] at this
          exact this.2
        have k := fun w => Parse_ok w s t whole part neg true CP hC hb1 hb2 hW hPall (fun _ => hP)
        have key := two_ways (dval whole.data.toList) (dval part.data.toList) (10 ^ part.data.toList.length) (Nat.pow_pos (by omega))
        unfold parseX at k
        rw [← key] at k
        refine ⟨_, _, k, fun w => ?_⟩
        rcases hform with ⟨rfl, h, hz, ht⟩ | ⟨rfl, ht, h⟩ | ⟨rfl, ht, h, hz⟩
        · exact RefParse_minus_dot_ok w s t whole part _ _ i hts2 h hz ht hno rfl hi hat2 hwe rfl hpe hW hP
        · exact absurd ⟨ht, h⟩ noEmpty
        · exact RefParse_plain_dot_ok w s t whole part _ _ i hts2 h _ rfl hz ht hno rfl hi hat2 hwe rfl hpe hW hP
end Go.Proofs.YthahgablbdfodaaGreatDoor
/- The parts of the law's wakes. -/
set_option maxRecDepth 100000
namespace Go.Proofs.YthahgablbdfodaaGreatDoor
open Go.RowKit Go.Lat Go.Lib

def b150 : List UInt8 := [49, 46, 53, 48]
def bTrue : List UInt8 := [116, 114, 117, 101]
theorem Parse_150 (w : World) : Calls Tryz.prog 55 #[enS b150] w fun e w' => e = .returned (.tuple #[.int .i64 15000, .int .i64 0]) ∧ Upd w w' (fun _ => False) :=
  parse_text false 15000 (by decide) [49] [53, 48] true ⟨b150.toArray⟩ (by decide) (by decide) (fun _ => by decide) (fun h => Bool.noConfusion h) (by decide) w
theorem Parse_true (w : World) : Calls Tryz.prog 55 #[enS bTrue] w fun e w' => e = .returned (.tuple #[.int .i64 0, .int .i64 4]) ∧ Upd w w' (fun _ => False) := by
  have CP := CutPrefix_sign false bTrue ⟨bTrue.toArray⟩ (by decide) (by decide)
  rcases Cut_forms ⟨bTrue.toArray⟩ (by decide) with ⟨hno, hC⟩ | ⟨i, hi, hat, hno, hC⟩
  · exact Parse_bad w ⟨bTrue.toArray⟩ ⟨bTrue.toArray⟩ ⟨bTrue.toArray⟩ ⟨#[]⟩ false false CP hC (by decide) (by decide) (.inl (by decide))
  · exfalso
    have hi' : i < 4 := hi
    have hat' : bTrue[i]? = some 46 := hat
    have : i = 0 ∨ i = 1 ∨ i = 2 ∨ i = 3 := by omega
    rcases this with rfl | rfl | rfl | rfl <;> simp [bTrue] at hat'
theorem Read_150 (w : World) (hg : Sig w) : Calls Tryz.prog 38 #[enS b150] w fun e w' => e = .returned (Vl.mk 1 15000 [] false 0).val ∧ Upd w w' (fun _ => False) := by
  have h := Read_any w hg b150 (by decide) 15000 0 Parse_150
  have e : readV b150 15000 0 = ⟨1, 15000, [], false, 0⟩ := by rfl
  rwa [e] at h
theorem Read_true (w : World) (hg : Sig w) : Calls Tryz.prog 38 #[enS bTrue] w fun e w' => e = .returned (Vl.mk 3 0 [] true 0).val ∧ Upd w w' (fun _ => False) := by
  have h := Read_any w hg bTrue (by decide) 0 4 Parse_true
  have e : readV bTrue 0 4 = ⟨3, 0, [], true, 0⟩ := by rfl
  rwa [e] at h
theorem wake_N (w : World) (n : Int) (h : okNum n = true) : Calls Tryz.prog 12 #[.int .i64 n] w fun e w' => e = .returned (Vl.mk 1 n [] false 0).val ∧ Upd w w' (fun _ => False) := by
  have k := N_any w n
  have e : mkN n = ⟨1, n, [], false, 0⟩ := by unfold mkN; rw [if_pos h]
  rwa [e] at k
theorem wake_put (w : World) : Calls Tryz.prog 36 #[(Vl.mk 1 10000 [] false 0).val] w fun e w' => e = .returned (.tuple #[enS [1, 0, 0, 0, 0, 0, 0, 39, 16], .int .i64 0]) ∧ Upd w w' (fun _ => False) := by
  have k := PutN_any w 10000 ⟨i1, ⟨by decide, by decide⟩, Nat.zero_le _, i0⟩ (by decide)
  have e : (1 :: numBs 10000 8 : List UInt8) = [1, 0, 0, 0, 0, 0, 0, 39, 16] := by decide
  rwa [e] at k
theorem wake_show (w : World) (hg : Sig w) : Calls Tryz.prog 34 #[(Vl.mk 4 0 [] false 6).val] w fun e w' => e = .returned (enS [35, 78, 47, 65]) ∧ Upd w w' (fun _ => False) := by
  have k := ShowE_any w hg ⟨4, 0, [], false, 6⟩ ⟨i4, i0, Nat.zero_le _, ⟨by decide, by decide⟩⟩ 0 [] false 6 (by rfl)
  have e : signT 6 = [35, 78, 47, 65] := by decide
  rwa [e] at k
theorem wake_order (w : World) : Calls Tryz.prog 26 #[(Vl.mk 2 0 [98] false 0).val, (Vl.mk 2 0 [65] false 0).val] w (OrdPost w (1, 0)) := by
  have k := Order_any w ⟨2, 0, [98], false, 0⟩ ⟨2, 0, [65], false, 0⟩ ⟨i2, i0, by decide, i0⟩ ⟨i2, i0, by decide, i0⟩ (by decide) (by decide)
  have e : orderV ⟨2, 0, [98], false, 0⟩ ⟨2, 0, [65], false, 0⟩ = (1, 0) := by decide
  rwa [e] at k
end Go.Proofs.YthahgablbdfodaaGreatDoor
/- The walk of the law's wakes. -/
set_option maxRecDepth 100000
namespace Go.Proofs.YthahgablbdfodaaGreatDoor
open Go.RowKit Go.Lat Go.Lib

theorem wake_T (w : World) (c : UInt8) : Calls Tryz.prog 14 #[enS [c]] w fun e w' => e = .returned (Vl.mk 2 0 [c] false 0).val ∧ Upd w w' (fun _ => False) := by
  have k := T_any w [c]
  have e : mkT [c] = ⟨2, 0, [c], false, 0⟩ := by rfl
  rwa [e] at k

theorem wake_B (w : World) : Calls Tryz.prog 20 #[.bool true] w fun e w' => e = .returned (Vl.mk 3 0 [] true 0).val ∧ Upd w w' (fun _ => False) := B_any w true
theorem wake_E (w : World) : Calls Tryz.prog 16 #[.int .i64 6] w fun e w' => e = .returned (Vl.mk 4 0 [] false 6).val ∧ Upd w w' (fun _ => False) := E_any w 6

set_option maxHeartbeats 3200000 in
theorem wakes_any (w : World) (hg : Sig w) : Calls Tryz.prog 8 #[] w fun e w' => e = .returned (.bool true) ∧ Upd w w' (fun _ => False) := by
  have HG := hide hg
  clear hg
  have R1 := fun w hg => Read_150 w hg
  have R2 := fun w hg => Read_true w hg
  unfold bTrue at R2
  have R3 := fun w => wake_T w 98
  have R4 := fun w => wake_T w 65
  have R5 := fun w => wake_order w
  have R6 := fun w => wake_N w 10000 (by decide)
  have R7 := fun w => wake_put w
  have RN := fun w => wake_N w 15000 (by decide)
  have RB := fun w => wake_B w
  have RE := fun w => wake_E w
  have RS := fun w hg => wake_show w hg
  have Q1 := eq_at ⟨1, 15000, [], false, 0⟩ ⟨1, 15000, [], false, 0⟩ ⟨i1, ⟨by decide, by decide⟩, Nat.zero_le _, i0⟩ ⟨i1, ⟨by decide, by decide⟩, Nat.zero_le _, i0⟩ (q := true) rfl
  have Q2 := eq_at ⟨3, 0, [], true, 0⟩ ⟨3, 0, [], true, 0⟩ ⟨i3, i0, Nat.zero_le _, i0⟩ ⟨i3, i0, Nat.zero_le _, i0⟩ (q := true) rfl
  simp only at Q1 Q2
  unfold Vl.val at RN RB RE RS
  simp only at RN RB RE RS
  unfold Vl.val at R1 R2 R3 R4 R5 R6 R7
  simp only at R1 R2 R3 R4 R5 R6 R7
  go_enter Tryz.func8, Tryz.ntmps8
  go_wp2_with fail
  refine Calls.mono (R1 _ HG.out) ?_
  rintro e w1 ⟨rfl, u1⟩
  have HU1 := hide u1
  clear u1 R1
  go_wp2_with fail
  refine Calls.mono (R3 _) ?_
  rintro e w2 ⟨rfl, u2⟩
  have HX2 := hide (u2.get (Vnew1 w1 (.cells (Vl.mk 1 15000 [] false 0).cs 28)) id)
  have HU2 := hide ((HU1.out.alloc _).then u2 (fun _ _ => id))
  clear u2 HU1 R3
  go_wp2_with fail
  refine Calls.mono (R4 _) ?_
  rintro e w3 ⟨rfl, u3⟩
  have HX3 := hide (u3.get HX2.out id)
  have HU3 := hide (HU2.out.then u3 (fun _ _ => id))
  clear u3 HX2 HU2 R4
  go_wp2_with fail
  refine Calls.mono (R5 _) ?_
  rintro e w4 ⟨rfl, u4⟩
  have HX4 := hide (u4.get HX3.out id)
  have HU4 := hide (HU3.out.then u4 (fun _ _ => id))
  clear u4 HX3 HU3 R5
  go_wp2_with fail
  refine Calls.mono (R6 _) ?_
  rintro e w5 ⟨rfl, u5⟩
  have HX5 := hide (u5.get HX4.out id)
  have HU5 := hide (HU4.out.then u5 (fun _ _ => id))
  clear u5 HX4 HU4 R6
  go_wp2_with fail
  refine Calls.mono (R7 _) ?_
  rintro e w6 ⟨rfl, u6⟩
  have HX6 := hide (u6.get HX5.out id)
  have HU6 := hide (HU5.out.then u6 (fun _ _ => id))
  clear u6 HX5 HU5 R7
  obtain ⟨c0, c1, c2, c3, c4⟩ := cells5 HX6.out
  have xl := lt_at HX6.out
  go_wp2_with fail
  go_region_held3 (fun w' => w'.cell? ⟨w1.heap.size, 0, none⟩ = some (.int .i64 1) ∧ w'.cell? ⟨w1.heap.size, 1, none⟩ = some (.int .i64 15000) ∧ w'.cell? ⟨w1.heap.size, 2, none⟩ = some (.string ⟨#[]⟩) ∧ w'.cell? ⟨w1.heap.size, 3, none⟩ = some (.bool false) ∧ w'.cell? ⟨w1.heap.size, 4, none⟩ = some (.int .i64 0) ∧ Upd w6 w' (fun _ => False))
    (first | (go_keep; done) | exact ⟨c0, c1, c2, c3, c4, (Upd.refl w6 _).drew⟩ | (have hz : Upd w6 _ (fun _ => False) := Upd.then (And.right (And.right (And.right (And.right (And.right (by assumption)))))) u11 (fun _ _ => id); exact ⟨(hz.cell w1.heap.size 0 xl id).trans c0, (hz.cell w1.heap.size 1 xl id).trans c1, (hz.cell w1.heap.size 2 xl id).trans c2, (hz.cell w1.heap.size 3 xl id).trans c3, (hz.cell w1.heap.size 4 xl id).trans c4, hz⟩) | (have hz : Upd w6 _ (fun _ => False) := Upd.then (And.right (And.right (And.right (And.right (And.right (by assumption)))))) u10 (fun _ _ => id); exact ⟨(hz.cell w1.heap.size 0 xl id).trans c0, (hz.cell w1.heap.size 1 xl id).trans c1, (hz.cell w1.heap.size 2 xl id).trans c2, (hz.cell w1.heap.size 3 xl id).trans c3, (hz.cell w1.heap.size 4 xl id).trans c4, hz⟩) | (have hz : Upd w6 _ (fun _ => False) := Upd.then (And.right (And.right (And.right (And.right (And.right (by assumption)))))) u9 (fun _ _ => id); exact ⟨(hz.cell w1.heap.size 0 xl id).trans c0, (hz.cell w1.heap.size 1 xl id).trans c1, (hz.cell w1.heap.size 2 xl id).trans c2, (hz.cell w1.heap.size 3 xl id).trans c3, (hz.cell w1.heap.size 4 xl id).trans c4, hz⟩) | (have hz : Upd w6 _ (fun _ => False) := Upd.then (And.right (And.right (And.right (And.right (And.right (by assumption)))))) u8 (fun _ _ => id); exact ⟨(hz.cell w1.heap.size 0 xl id).trans c0, (hz.cell w1.heap.size 1 xl id).trans c1, (hz.cell w1.heap.size 2 xl id).trans c2, (hz.cell w1.heap.size 3 xl id).trans c3, (hz.cell w1.heap.size 4 xl id).trans c4, hz⟩) | (have hz : Upd w6 _ (fun _ => False) := Upd.then (And.right (And.right (And.right (And.right (And.right (by assumption)))))) u7 (fun _ _ => id); exact ⟨(hz.cell w1.heap.size 0 xl id).trans c0, (hz.cell w1.heap.size 1 xl id).trans c1, (hz.cell w1.heap.size 2 xl id).trans c2, (hz.cell w1.heap.size 3 xl id).trans c3, (hz.cell w1.heap.size 4 xl id).trans c4, hz⟩))
    (first
    | (go_at_call 12; with_reducible refine Calls.mono (RN _) ?_; rintro e w7 ⟨rfl, u7⟩)
    | (go_at_call 38; refine Calls.mono (R2 _ (HG.out.upd (HU6.out.then (And.right (And.right (And.right (And.right (And.right (by assumption)))))) (fun _ _ => id)) id)) ?_; rintro e w8 ⟨rfl, u8⟩)
    | (go_at_call 20; with_reducible refine Calls.mono (RB _) ?_; rintro e w9 ⟨rfl, u9⟩)
    | (go_at_call 16; with_reducible refine Calls.mono (RE _) ?_; rintro e w10 ⟨rfl, u10⟩)
    | (go_at_call 34; refine Calls.mono (RS _ (HG.out.upd (HU6.out.then (And.right (And.right (And.right (And.right (And.right (by assumption)))))) (fun _ _ => id)) id)) ?_; rintro e w11 ⟨rfl, u11⟩))
  all_goals go_wp2_with fail
  all_goals go_ret
  all_goals exact ⟨rfl, HU6.out.then (And.right (And.right (And.right (And.right (And.right (by assumption)))))) (fun _ _ => id)⟩
end Go.Proofs.YthahgablbdfodaaGreatDoor
/- The digits of a number without the lowest. -/
set_option maxRecDepth 100000
namespace Go.Proofs.YthahgablbdfodaaGreatDoor
open Go.RowKit Go.Lat

theorem dg_drop (k : Nat) : ∀ n, (dg n).drop k = dg (n / 10 ^ k) := by
  induction k with
  | zero => intro n; simp
  | succ k ih =>
    intro n
    by_cases h : n = 0
    · subst h
      rw [dg_zero, Nat.zero_div, dg_zero]
      rfl
    · rw [dg_pos h, List.drop_succ_cons, ih, Nat.div_div_eq_div_mul, Nat.pow_succ, Nat.mul_comm 10]

end Go.Proofs.YthahgablbdfodaaGreatDoor
/- Plain laws: the digits of a number's text. -/
set_option maxRecDepth 100000
namespace Go.Proofs.YthahgablbdfodaaGreatDoor
open Go.RowKit Go.Lat Go.Shelf Go.Sort
open Go.Lib (decDigits trimRightB)

/-- A digit's byte. -/
def ch (d : Nat) : UInt8 := UInt8.ofNat (48 + d)

theorem dec_dg : ∀ u, 0 < u → decDigits u = (Lat.dg u).reverse.map ch := by
  intro u
  induction u using Nat.strongRecOn with
  | ind u ih =>
    intro hu
    rw [dg_pos (by omega), List.reverse_cons, List.map_append]
    unfold decDigits
    by_cases h : u < 10
    · rw [dif_pos h, show u / 10 = 0 from by omega, dg_zero, show u % 10 = u from by omega]
      rfl
    · rw [dif_neg h, ih (u / 10) (by omega) (by omega)]
      rfl

theorem val_zeros (z : Nat) : val (List.replicate z 0) = 0 := val_zero _ (fun _ hd => List.eq_of_mem_replicate hd)

/-- The whole part, from above. -/
theorem text_whole (x z : Nat) (dl : List Nat) (h : dl = Lat.dg x ++ List.replicate z 0) (h5 : 5 ≤ dl.length) (hz : dl.length ≤ 5 ∨ z = 0) : (dl.drop 4).reverse.map ch = decDigits (x / 10000) := by
  by_cases hz0 : z = 0
  · subst hz0
    rw [List.replicate_zero, List.append_nil] at h
    have hd := dg_drop 4 x
    rw [show (10 : Nat) ^ 4 = 10000 from by decide, ← h] at hd
    have hu : 0 < x / 10000 := by
      rcases Nat.eq_zero_or_pos (x / 10000) with e | e
      · rw [e, dg_zero] at hd
        have := congrArg List.length hd
        rw [List.length_drop] at this
        simp at this
        omega
      · exact e
    rw [hd, dec_dg _ hu]
  · have h5' : dl.length = 5 := by omega
    have hl : (Lat.dg x).length + z = 5 := by
      rw [h, List.length_append, List.length_replicate] at h5'
      exact h5'
    have hx := val_lt (Lat.dg x) (dg_norm x).1
    rw [val_dg] at hx
    have hp : 10 ^ (Lat.dg x).length ≤ 10 ^ 4 := Nat.pow_le_pow_right (by omega) (by omega)
    have e4 : (10 : Nat) ^ 4 = 10000 := by decide
    have hu : x / 10000 = 0 := Nat.div_eq_of_lt (by omega)
    have hd : dl.drop 4 = [0] := by
      rw [h, List.drop_append, List.drop_eq_nil_of_le (by omega), List.drop_replicate, show z - (4 - (Lat.dg x).length) = 1 from by omega]
      rfl
    rw [hd, hu]
    unfold decDigits
    rw [dif_pos (by omega)]
    rfl

/-- The four places behind the point. -/
theorem text_four (x z : Nat) (dl : List Nat) (h : dl = Lat.dg x ++ List.replicate z 0) (h5 : 5 ≤ dl.length) :
    (dl.take 4).length = 4 ∧ (∀ d ∈ dl, d < 10) ∧ val (dl.take 4) = x % 10000 ∧ (decDigits (10000 + x % 10000)).drop 1 = (dl.take 4).reverse.map ch := by
  have h10 : ∀ d ∈ dl, d < 10 := by
    intro d hd
    rw [h] at hd
    rcases List.mem_append.1 hd with k | k
    · exact (dg_norm x).1 d k
    · rw [List.eq_of_mem_replicate k]
      omega
  have hv : val dl = x := by rw [h, val_append, val_dg, val_zeros, Nat.mul_zero, Nat.add_zero]
  have hl : (dl.take 4).length = 4 := by rw [List.length_take]; omega
  have h10' : ∀ d ∈ dl.take 4, d < 10 := fun d hd => h10 d (List.mem_of_mem_take hd)
  have hlt := val_lt (dl.take 4) h10'
  rw [hl, show (10 : Nat) ^ 4 = 10000 from by decide] at hlt
  have hs := val_append (dl.take 4) (dl.drop 4)
  rw [List.take_append_drop, hv, hl, show (10 : Nat) ^ 4 = 10000 from by decide] at hs
  have hm : val (dl.take 4) = x % 10000 := by omega
  refine ⟨hl, h10, hm, ?_⟩
  have hn : dl.take 4 ++ [1] = Lat.dg (10000 + x % 10000) := by
    have e : val (dl.take 4 ++ [1]) = 10000 + x % 10000 := by
      rw [val_append, hl, show (10 : Nat) ^ 4 = 10000 from by decide, hm]
      simp [val]
      omega
    rw [← e]
    refine norm_dg _ ⟨?_, ?_⟩
    · intro d hd
      rcases List.mem_append.1 hd with k | k
      · exact h10' d k
      · simp at k; omega
    · intro hne
      simp
  rw [dec_dg _ (by omega), ← hn]
  simp

/-- What is struck behind the part. -/
theorem text_part (f : List Nat) (n : Nat) (h10 : ∀ d ∈ f, d < 10) (hz : ∀ k, k < n → f.getD k 0 = 0) (hn : n < f.length) (h : f.getD n 0 ≠ 0) : trimRightB (f.reverse.map ch) 48 = (f.drop n).reverse.map ch := by
  have key : ∀ (n : Nat) (f : List Nat), (∀ d ∈ f, d < 10) → (∀ k, k < n → f.getD k 0 = 0) → n < f.length → f.getD n 0 ≠ 0 → (f.map ch).dropWhile (· == 48) = (f.drop n).map ch := by
    intro n
    induction n with
    | zero =>
      intro f h10 _ hl h
      cases f with
      | nil => simp at hl
      | cons d l =>
        have hd := h10 d (by simp)
        have hd0 : d ≠ 0 := by simpa using h
        have e : (ch d == 48) = false := by
          have : ch d ≠ 48 := by
            intro e
            have := congrArg UInt8.toNat e
            simp [ch] at this
            omega
          simpa using this
        simp [e]
    | succ n ih =>
      intro f h10 hz hl h
      cases f with
      | nil => simp at hl
      | cons d l =>
        have h0 := hz 0 (by omega)
        simp at h0
        subst h0
        have e : (ch 0 == 48) = true := by decide
        simp only [List.map_cons, List.dropWhile, e, List.drop_succ_cons]
        refine ih l (fun d hd => h10 d (by simp [hd])) (fun k hk => ?_) (by simpa using hl) (by simpa using h)
        have := hz (k + 1) (by omega)
        simpa using this
  unfold trimRightB
  rw [← List.map_reverse, List.reverse_reverse, key n f h10 hz hn h, List.map_reverse]

/-- A number's text. -/
def txt (s : Bool) (x : Nat) : List UInt8 := (if s then [45] else []) ++ (decDigits (x / 10000) ++ if x % 10000 = 0 then [] else 46 :: trimRightB ((decDigits (10000 + x % 10000)).drop 1) 48)

theorem Text_any (s : Bool) (x : Nat) (hx : x ≤ 9000000000000000000) (h0 : s = true → 0 < x) (w : World) (ht : Pow w) :
    Calls Tryz.prog 60 #[.int .i64 (if s then -(x : Int) else x)] w fun e w' => e = .returned (.string ⟨(txt s x).toArray⟩) ∧ Upd w w' (fun _ => False) := by
  unfold txt
  by_cases hr : x % 10000 = 0
  · rw [if_pos hr, List.append_nil]
    refine Calls.mono (Text_whole w s x hx h0 hr ht) ?_
    rintro e w' ⟨⟨t, rfl, et⟩, u⟩
    exact ⟨by rw [Go.WideShapes.bytes_inj (show t.data.toList = (⟨((if s then [45] else []) ++ decDigits (x / 10000)).toArray⟩ : ByteArray).data.toList from et)], u⟩
  · rw [if_neg hr]
    refine Calls.mono (Text_part w s x hx h0 hr ht) ?_
    rintro e w' ⟨⟨t, rfl, et⟩, u⟩
    exact ⟨by rw [Go.WideShapes.bytes_inj (show t.data.toList = (⟨((if s then [45] else []) ++ (decDigits (x / 10000) ++ 46 :: trimRightB ((decDigits (10000 + x % 10000)).drop 1) 48)).toArray⟩ : ByteArray).data.toList from et)], u⟩

theorem Text_bad (w : World) (a : Int) (h : okNum a = false) : Calls Tryz.prog 60 #[.int .i64 a] w fun e w' => e = .returned (.string ⟨#[]⟩) ∧ Upd w w' (fun _ => False) := by
  have G := fun w B k => fixgood_any w B a k
  rw [h] at G
  clear h
  go_enter Tryz.func60, Tryz.ntmps60
  go_wp2_with fail
  refine Calls.mono (G _ _ (cells1 (heap_alloc_new w _))) ?_
  rintro e' w1 ⟨rfl, rfl⟩
  go_wp2_with fail
  go_ret
  exact ⟨rfl, (Upd.refl w _).alloc _⟩

theorem RefText_bad (w : World) (a : Int) (h : okNum a = false) : Calls Tryz.prog 61 #[.int .i64 a] w fun e w' => e = .returned (.string ⟨#[]⟩) ∧ Upd w w' (fun _ => False) := by
  have G := fun w => RefGood_any w a
  rw [h] at G
  clear h
  go_enter Tryz.func61, Tryz.ntmps61
  go_wp2_with fail
  refine Calls.mono (G _) ?_
  rintro e' w1 ⟨rfl, hw⟩
  replace hw := hw.symm
  subst hw
  go_wp2_with fail
  go_ret
  exact ⟨rfl, Upd.refl _ _⟩
end Go.Proofs.YthahgablbdfodaaGreatDoor
