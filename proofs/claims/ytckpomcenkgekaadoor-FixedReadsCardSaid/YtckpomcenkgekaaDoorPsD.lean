/- What fixed's Text writes, fixed's Parse reads. -/
import Derived.Test.YtckpomcenkgekaaDoorPsC
import Derived.WideShapes
set_option maxRecDepth 100000
namespace Go.Proofs.YtckpomcenkgekaaDoor
open Go.RowKit Go.Lat Go.Shelf Go.Sort Go.Lib

theorem dg_ofNat (d : Nat) (h : d < 10) : dgB (UInt8.ofNat (48 + d)) = true ∧ dvB (UInt8.ofNat (48 + d)) = d := by
  have e : (UInt8.ofNat (48 + d)).toNat = 48 + d := by simp; omega
  unfold dgB dvB
  rw [e]
  simp
  omega

theorem dec_all : ∀ u, (decDigits u).all dgB = true ∧ dval (decDigits u) = u := by
  intro u
  induction u using Nat.strongRecOn with
  | ind u ih =>
    unfold decDigits
    by_cases h : u < 10
    · rw [dif_pos h]
      obtain ⟨a, b⟩ := dg_ofNat u h
      exact ⟨by simp only [List.all_cons, List.all_nil, a, Bool.and_true], by rw [dval_one, b]⟩
    · rw [dif_neg h]
      obtain ⟨a, b⟩ := dg_ofNat (u % 10) (by omega)
      obtain ⟨c, d⟩ := ih (u / 10) (by omega)
      refine ⟨by rw [List.all_append, c]; simp only [List.all_cons, List.all_nil, a, Bool.and_true], ?_⟩
      rw [dval_append, dval_one, b, d]
      simp
      omega

theorem dec_len : ∀ (k u : Nat), u < 10 ^ (k + 1) → 1 ≤ (decDigits u).length ∧ (decDigits u).length ≤ k + 1
  | 0, u, h => by
    unfold decDigits
    rw [dif_pos (by simpa using h)]
    simp
  | k + 1, u, h => by
    unfold decDigits
    by_cases hu : u < 10
    · rw [dif_pos hu]
      simp
    · rw [dif_neg hu]
      have h2 : u / 10 < 10 ^ (k + 1) := by
        rw [Nat.pow_succ] at h
        rw [Nat.div_lt_iff_lt_mul (by omega)]
        exact h
      obtain ⟨a, b⟩ := dec_len k (u / 10) h2
      rw [List.length_append]
      simp
      omega

theorem dec_isD (u : Nat) (h : u < 1000000000000000000) : isD (decDigits u) = true := by
  have e18 : (10 : Nat) ^ 18 = 1000000000000000000 := by decide
  obtain ⟨a, b⟩ := dec_len 17 u (by rw [e18]; exact h)
  unfold isD
  rw [(dec_all u).1, decide_eq_true a, decide_eq_true b]
  rfl

/-- The noughts behind a part. -/
theorem trim_tail (l : List UInt8) : ∃ z : List UInt8, l = trimRightB l 48 ++ z ∧ dval z = 0 := by
  have key : ∀ l : List UInt8, (∀ x ∈ l, x = 48) → dval l = 0 := by
    intro l
    induction l with
    | nil => intro _; rfl
    | cons b l ih =>
      intro h
      have hb := h b (by simp)
      subst hb
      rw [dval_cons, ih (fun x hx => h x (by simp [hx]))]
      simp [dvB]
  refine ⟨(l.reverse.takeWhile (· == 48)).reverse, ?_, key _ ?_⟩
  · unfold trimRightB
    rw [← List.reverse_append, List.takeWhile_append_dropWhile, List.reverse_reverse]
  · intro x hx
    have := takeWhile_all _ _ _ (List.mem_reverse.1 hx)
    simpa using this

/-- The part of a number that is not whole. -/
theorem part_text (r : Nat) (h0 : 0 < r) (h1 : r < 10000) :
    isD (trimRightB ((decDigits (10000 + r)).drop 1) 48) = true ∧ (dval (trimRightB ((decDigits (10000 + r)).drop 1) 48) * 100000 / 10 ^ (trimRightB ((decDigits (10000 + r)).drop 1) 48).length + 5) / 10 = r := by
  obtain ⟨ha, hv⟩ := dec_all (10000 + r)
  have hl : (decDigits (10000 + r)).length = 5 := by
    have g5 := nDigits5 (10000 + r) (by omega) (by omega)
    rw [decDigits_length, g5]
  obtain ⟨c, Q, hQ⟩ : ∃ c Q, decDigits (10000 + r) = c :: Q := by
    cases h : decDigits (10000 + r) with
    | nil => rw [h] at hl; simp at hl
    | cons c Q => exact ⟨c, Q, rfl⟩
  rw [hQ] at ha hv hl ⊢
  simp only [List.all_cons, Bool.and_eq_true] at ha
  have hQl : Q.length = 4 := by simpa using hl
  have hQv := dval_lt Q ha.2
  have hc := dgB_lt ha.1
  rw [dval_cons, hQl] at hv
  rw [hQl] at hQv
  have e4 : (10 : Nat) ^ 4 = 10000 := by decide
  rw [e4] at hv hQv
  have hQr : dval Q = r := by omega
  have eD : (c :: Q).drop 1 = Q := rfl
  rw [eD]
  obtain ⟨z, hz, hz0⟩ := trim_tail Q
  obtain ⟨P, hP⟩ : ∃ P, trimRightB Q 48 = P := ⟨_, rfl⟩
  rw [hP] at hz ⊢
  have hPall : P.all dgB = true := by
    have := ha.2
    rw [hz, List.all_append, Bool.and_eq_true] at this
    exact this.1
  have hlen : P.length + z.length = 4 := by rw [← List.length_append, ← hz]; exact hQl
  have hval : dval P * 10 ^ z.length = r := by
    have := dval_append P z
    rw [← hz, hz0, hQr] at this
    omega
  have hP1 : 1 ≤ P.length := by
    rcases Nat.eq_zero_or_pos P.length with e | e
    · have : P = [] := List.eq_nil_of_length_eq_zero e
      subst this
      rw [dval_nil, Nat.zero_mul] at hval
      omega
    · exact e
  refine ⟨?_, ?_⟩
  · unfold isD
    rw [hPall, decide_eq_true hP1, decide_eq_true (show P.length ≤ 18 by omega)]
    rfl
  · have e5 : (100000 : Nat) = 10 ^ z.length * 10 * 10 ^ P.length := by
      rw [Nat.mul_right_comm, ← Nat.pow_add, Nat.add_comm, hlen]
    have eV : dval P * 100000 = r * 10 * 10 ^ P.length := by
      rw [e5, ← hval, ← Nat.mul_assoc, ← Nat.mul_assoc]
    rw [eV, Nat.mul_div_cancel _ (Nat.pow_pos (by omega))]
    omega

theorem digit_ne {l : List UInt8} (h : l.all dgB = true) (k : Nat) : l[k]? ≠ some 46 := by
  intro e
  have := List.all_eq_true.1 h _ (List.mem_of_getElem? e)
  revert this
  decide

/-- The sign ahead. -/
theorem CutPrefix_sign (s : Bool) (body : List UInt8) (t : ByteArray) (ht : t.data.toList = (if s then [45] else []) ++ body) (hb : body.head? ≠ some 45) :
    ∀ w, Calls Tryd.prog 41 #[.string t, .string ⟨#[45]⟩] w fun e w' => e = .returned (.tuple #[.string ⟨body.toArray⟩, .bool s]) ∧ w' = w := by
  intro w
  have h := Tryd.strings_CutPrefix t ⟨#[45]⟩ w
  have e0 : (⟨#[45]⟩ : ByteArray).data.toList = [45] := rfl
  rw [e0, ht] at h
  have e1 : Lib.hasPrefix ((if s then [45] else []) ++ body) [45] = s := by
    cases s with
    | true => simp [Lib.hasPrefix]
    | false =>
      cases body with
      | nil => rfl
      | cons b l =>
        simp only [List.head?_cons, ne_eq, Option.some.injEq] at hb
        have : ((45 : UInt8) == b) = false := by simpa using fun e => hb (Eq.symm e)
        show ((45 : UInt8) == b && [].isPrefixOf l) = false
        rw [this]
        rfl
  have e2 : Lib.trimPrefix ((if s then [45] else []) ++ body) [45] = body := by
    unfold Lib.trimPrefix
    rw [e1]
    cases s <;> rfl
  rw [e1, e2] at h
  exact h

theorem parse_text (s : Bool) (x : Nat) (hx : x ≤ 9000000000000000000) (W P : List UInt8) (pt : Bool) (t : ByteArray) (ht : t.data.toList = (if s then [45] else []) ++ (W ++ if pt then 46 :: P else []))
    (hW : isD W = true) (hP : pt = true → isD P = true) (hP0 : pt = false → P = []) (hX : parseX W P = x) :
    ∀ w, Calls Tryd.prog 16 #[.string t] w fun e w' => e = .returned (.tuple #[.int .i64 (if s then -(x : Int) else x), .int .i64 0]) ∧ Upd w w' (fun _ => False) := by
  have hW' := hW
  simp only [isD, Bool.and_eq_true, decide_eq_true_eq] at hW'
  obtain ⟨⟨w1, w2⟩, w3⟩ := hW'
  have hPall : P.all dgB = true ∧ P.length ≤ 18 := by
    cases pt with
    | true =>
      have := hP rfl
      simp only [isD, Bool.and_eq_true, decide_eq_true_eq] at this
      exact ⟨this.2, this.1.2⟩
    | false => rw [hP0 rfl]; exact ⟨rfl, by simp⟩
  have hn1 : numE x = 0 := by unfold numE; rw [if_neg (by omega)]
  have hn2 : numV s x = (if s then -(x : Int) else x) := by unfold numV; rw [if_neg (by omega)]
  obtain ⟨body, hbd⟩ : ∃ body, W ++ (if pt then 46 :: P else []) = body := ⟨_, rfl⟩
  rw [hbd] at ht
  have hhead : body.head? ≠ some 45 := by
    cases W with
    | nil => simp at w1
    | cons b l =>
      rw [← hbd]
      simp only [List.cons_append, List.head?_cons, ne_eq, Option.some.injEq]
      intro e
      subst e
      simp only [List.all_cons, Bool.and_eq_true] at w3
      exact absurd w3.1 (by decide)
  have CP := CutPrefix_sign s body t ht hhead
  have hbl : body.length ≤ 37 := by
    rw [← hbd]
    cases pt <;> simp <;> omega
  have hbs : (⟨body.toArray⟩ : ByteArray).size = body.length := rfl
  have hbt : (⟨body.toArray⟩ : ByteArray).data.toList = body := rfl
  obtain ⟨b, hb⟩ : ∃ b, (⟨body.toArray⟩ : ByteArray) = b := ⟨_, rfl⟩
  rw [hb] at hbs hbt CP
  intro w
  rcases Cut_forms b (by omega) with ⟨hno, hC⟩ | ⟨i, hi, hi1, hi2, hC⟩
  · have hpt : pt = false := by
      cases pt with
      | false => rfl
      | true =>
        exfalso
        refine hno W.length ?_
        rw [hbt, ← hbd]
        simp
    subst hpt
    have eW : b.data.toList = W := by rw [hbt, ← hbd]; simp
    have k := Parse_ok w t b b ⟨#[]⟩ s false CP hC (by omega) (by decide) (by rw [eW]; exact hW) rfl (fun h => Bool.noConfusion h)
    rw [eW, show (⟨#[]⟩ : ByteArray).data.toList = P from (hP0 rfl).symm, hX, hn1, hn2] at k
    exact k
  · have hpt : pt = true := by
      cases pt with
      | true => rfl
      | false =>
        exfalso
        refine digit_ne w3 i ?_
        rw [← hi1, hbt, ← hbd]
        simp
    subst hpt
    have hiW : i = W.length := by
      rcases Nat.lt_trichotomy i W.length with h | h | h
      · exfalso
        refine digit_ne w3 i ?_
        rw [← hi1, hbt, ← hbd, List.getElem?_append_left h]
      · exact h
      · exfalso
        refine hi2 W.length h ?_
        rw [hbt, ← hbd]
        simp
    subst hiW
    have eW : (b.extract 0 W.length).data.toList = W := by
      rw [ByteArray.data_extract]
      have : b.data.toList = W ++ 46 :: P := by rw [hbt, ← hbd]; rfl
      simp [this]
    have eP : (b.extract (W.length + 1) b.size).data.toList = P := by
      rw [ByteArray.data_extract, hbs]
      have : b.data.toList = W ++ 46 :: P := by rw [hbt, ← hbd]; rfl
      have hl : body.length = W.length + (P.length + 1) := by rw [← hbd]; simp
      simp [this, hl]
      have e : W.length + (P.length + 1) - (W.length + 1) = P.length := by omega
      rw [e]
      simp
    have s1 : (b.extract 0 W.length).size = W.length := congrArg List.length eW
    have s2 : (b.extract (W.length + 1) b.size).size = P.length := congrArg List.length eP
    have k := Parse_ok w t b (b.extract 0 W.length) (b.extract (W.length + 1) b.size) s true CP hC (by omega) (by omega) (by rw [eW]; exact hW) (by rw [eP]; exact hPall.1) (fun _ => by rw [eP]; exact hP rfl)
    rw [eW, eP, hX, hn1, hn2] at k
    exact k

/-- A number's text is read as the number. -/
theorem text_back (s : Bool) (x : Nat) (hx : x ≤ 9000000000000000000) (h0 : s = true → 0 < x) : ∃ t : ByteArray,
    (∀ w, Pow w → Calls Tryd.prog 18 #[.int .i64 (if s then -(x : Int) else x)] w fun e w' => e = .returned (.string t) ∧ Upd w w' (fun _ => False)) ∧
    (∀ w, Calls Tryd.prog 16 #[.string t] w fun e w' => e = .returned (.tuple #[.int .i64 (if s then -(x : Int) else x), .int .i64 0]) ∧ Upd w w' (fun _ => False)) := by
  by_cases hr : x % 10000 = 0
  · refine ⟨⟨((if s then [45] else []) ++ decDigits (x / 10000)).toArray⟩, fun w ht => ?_, ?_⟩
    · refine Calls.mono (Text_whole w s x hx h0 hr ht) ?_
      rintro e w' ⟨⟨t, rfl, et⟩, u⟩
      exact ⟨by rw [Go.WideShapes.bytes_inj (show t.data.toList = (⟨((if s then [45] else []) ++ decDigits (x / 10000)).toArray⟩ : ByteArray).data.toList from et)], u⟩
    · refine parse_text s x hx (decDigits (x / 10000)) [] false _ (by simp) (dec_isD _ (by omega)) (fun h => Bool.noConfusion h) (fun _ => rfl) ?_
      unfold parseX
      rw [(dec_all _).2, dval_nil]
      simp
      omega
  · obtain ⟨p1, p2⟩ := part_text (x % 10000) (by omega) (by omega)
    refine ⟨⟨((if s then [45] else []) ++ (decDigits (x / 10000) ++ 46 :: trimRightB ((decDigits (10000 + x % 10000)).drop 1) 48)).toArray⟩, fun w ht => ?_, ?_⟩
    · refine Calls.mono (Text_part w s x hx h0 hr ht) ?_
      rintro e w' ⟨⟨t, rfl, et⟩, u⟩
      exact ⟨by rw [Go.WideShapes.bytes_inj (show t.data.toList = (⟨((if s then [45] else []) ++ (decDigits (x / 10000) ++ 46 :: trimRightB ((decDigits (10000 + x % 10000)).drop 1) 48)).toArray⟩ : ByteArray).data.toList from et)], u⟩
    · refine parse_text s x hx (decDigits (x / 10000)) (trimRightB ((decDigits (10000 + x % 10000)).drop 1) 48) true _ (by simp) (dec_isD _ (by omega)) (fun _ => p1) (fun h => Bool.noConfusion h) ?_
      unfold parseX
      rw [(dec_all _).2, p2]
      omega
end Go.Proofs.YtckpomcenkgekaaDoor
