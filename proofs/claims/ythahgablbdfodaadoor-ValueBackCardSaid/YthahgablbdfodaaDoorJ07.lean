/- What fixed's Text writes, fixed's Parse reads. -/
import Derived.Test.YthahgablbdfodaaDoorJ06
import Derived.WideShapes
import Derived.Test.YthahgablbdfodaaDoorJ04
import Derived.Test.YthahgablbdfodaaDoorJ03
/- What fixed's Text writes, fixed's Parse reads. -/
set_option maxRecDepth 100000
namespace Go.Proofs.YthahgablbdfodaaDoor
open Go.RowKit Go.Lat Go.Shelf Go.Sort Go.Lib

theorem dg_ofNat (d : Nat) (h : d < 10) : dgB (UInt8.ofNat (48 + d)) = true ∧ dvB (UInt8.ofNat (48 + d)) = d := by
  have e : (UInt8.ofNat (48 + d)).toNat = 48 + d := by simp; omega
  unfold dgB dvB
  rw [e]
  simp
  omega

theorem dec_all : ∀ u, (decDigits u).all dgB = true ∧ dval (decDigits u) = u := by
  intro u
  induction u using Nat.strongRecOn with
  | ind u ih =>
    unfold decDigits
    by_cases h : u < 10
    · rw [dif_pos h]
      obtain ⟨a, b⟩ := dg_ofNat u h
      exact ⟨by simp only [List.all_cons, List.all_nil, a, Bool.and_true], by rw [dval_one, b]⟩
    · rw [dif_neg h]
      obtain ⟨a, b⟩ := dg_ofNat (u % 10) (by omega)
      obtain ⟨c, d⟩ := ih (u / 10) (by omega)
      refine ⟨by rw [List.all_append, c]; simp only [List.all_cons, List.all_nil, a, Bool.and_true], ?_⟩
      rw [dval_append, dval_one, b, d]
      simp
      omega

theorem dec_len : ∀ (k u : Nat), u < 10 ^ (k + 1) → 1 ≤ (decDigits u).length ∧ (decDigits u).length ≤ k + 1
  | 0, u, h => by
    unfold decDigits
    rw [dif_pos (by simpa using h)]
    simp
  | k + 1, u, h => by
    unfold decDigits
    by_cases hu : u < 10
    · rw [dif_pos hu]
      simp
    · rw [dif_neg hu]
      have h2 : u / 10 < 10 ^ (k + 1) := by
        rw [Nat.pow_succ] at h
        rw [Nat.div_lt_iff_lt_mul (by omega)]
        exact h
      obtain ⟨a, b⟩ := dec_len k (u / 10) h2
      rw [List.length_append]
      simp
      omega

theorem dec_isD (u : Nat) (h : u < 1000000000000000000) : isD (decDigits u) = true := by
  have e18 : (10 : Nat) ^ 18 = 1000000000000000000 := by decide
  obtain ⟨a, b⟩ := dec_len 17 u (by rw [e18]; exact h)
  unfold isD
  rw [(dec_all u).1, decide_eq_true a, decide_eq_true b]
  rfl

/-- The noughts behind a part. -/
theorem trim_tail (l : List UInt8) : ∃ z : List UInt8, l = trimRightB l 48 ++ z ∧ dval z = 0 := by
  have key : ∀ l : List UInt8, (∀ x ∈ l, x = 48) → dval l = 0 := by
    intro l
    induction l with
    | nil => intro _; rfl
    | cons b l ih =>
      intro h
      have hb := h b (by simp)
      subst hb
      rw [dval_cons, ih (fun x hx => h x (by simp [hx]))]
      simp [dvB]
  refine ⟨(l.reverse.takeWhile (· == 48)).reverse, ?_, key _ ?_⟩
  · unfold trimRightB
    rw [← List.reverse_append, List.takeWhile_append_dropWhile, List.reverse_reverse]
  · intro x hx
    have := takeWhile_all _ _ _ (List.mem_reverse.1 hx)
    simpa using this

/-- The part of a number that is not whole. -/
theorem part_text (r : Nat) (h0 : 0 < r) (h1 : r < 10000) :
    isD (trimRightB ((decDigits (10000 + r)).drop 1) 48) = true ∧ (dval (trimRightB ((decDigits (10000 + r)).drop 1) 48) * 100000 / 10 ^ (trimRightB ((decDigits (10000 + r)).drop 1) 48).length + 5) / 10 = r := by
  obtain ⟨ha, hv⟩ := dec_all (10000 + r)
  have hl : (decDigits (10000 + r)).length = 5 := by
    have g5 := nDigits5 (10000 + r) (by omega) (by omega)
    rw [decDigits_length, g5]
  obtain ⟨c, Q, hQ⟩ : ∃ c Q, decDigits (10000 + r) = c :: Q := by
    cases h : decDigits (10000 + r) with
    | nil => rw [h] at hl; simp at hl
    | cons c Q => exact ⟨c, Q, rfl⟩
  rw [hQ] at ha hv hl ⊢
  simp only [List.all_cons, Bool.and_eq_true] at ha
  have hQl : Q.length = 4 := by simpa using hl
  have hQv := dval_lt Q ha.2
  have hc := dgB_lt ha.1
  rw [dval_cons, hQl] at hv
  rw [hQl] at hQv
  have e4 : (10 : Nat) ^ 4 = 10000 := by decide
  rw [e4] at hv hQv
  have hQr : dval Q = r := by omega
  have eD : (c :: Q).drop 1 = Q := rfl
  rw [eD]
  obtain ⟨z, hz, hz0⟩ := trim_tail Q
  obtain ⟨P, hP⟩ : ∃ P, trimRightB Q 48 = P := ⟨_, rfl⟩
  rw [hP] at hz ⊢
  have hPall : P.all dgB = true := by
    have := ha.2
    rw [hz, List.all_append, Bool.and_eq_true] at this
    exact this.1
  have hlen : P.length + z.length = 4 := by rw [← List.length_append, ← hz]; exact hQl
  have hval : dval P * 10 ^ z.length = r := by
    have := dval_append P z
    rw [← hz, hz0, hQr] at this
    omega
  have hP1 : 1 ≤ P.length := by
    rcases Nat.eq_zero_or_pos P.length with e | e
    · have : P = [] := List.eq_nil_of_length_eq_zero e
      subst this
      rw [dval_nil, Nat.zero_mul] at hval
      omega
    · exact e
  refine ⟨?_, ?_⟩
  · unfold isD
    rw [hPall, decide_eq_true hP1, decide_eq_true (show P.length ≤ 18 by omega)]
    rfl
  · have e5 : (100000 : Nat) = 10 ^ z.length * 10 * 10 ^ P.length := by
      rw [Nat.mul_right_comm, ← Nat.pow_add, Nat.add_comm, hlen]
    have eV : dval P * 100000 = r * 10 * 10 ^ P.length := by
      rw [e5, ← hval, ← Nat.mul_assoc, ← Nat.mul_assoc]
    rw [eV, Nat.mul_div_cancel _ (Nat.pow_pos (by omega))]
    omega

theorem digit_ne {l : List UInt8} (h : l.all dgB = true) (k : Nat) : l[k]? ≠ some 46 := by
  intro e
  have := List.all_eq_true.1 h _ (List.mem_of_getElem? e)
  revert this
  decide

/-- The sign ahead. -/
theorem CutPrefix_sign (s : Bool) (body : List UInt8) (t : ByteArray) (ht : t.data.toList = (if s then [45] else []) ++ body) (hb : body.head? ≠ some 45) :
    ∀ w, Calls Tryd.prog 36 #[.string t, .string ⟨#[45]⟩] w fun e w' => e = .returned (.tuple #[.string ⟨body.toArray⟩, .bool s]) ∧ w' = w := by
  intro w
  have h := Tryd.strings_CutPrefix t ⟨#[45]⟩ w
  have e0 : (⟨#[45]⟩ : ByteArray).data.toList = [45] := rfl
  rw [e0, ht] at h
  have e1 : Lib.hasPrefix ((if s then [45] else []) ++ body) [45] = s := by
    cases s with
    | true => simp [Lib.hasPrefix]
    | false =>
      cases body with
      | nil => rfl
      | cons b l =>
        simp only [List.head?_cons, ne_eq, Option.some.injEq] at hb
        have : ((45 : UInt8) == b) = false := by simpa using fun e => hb (Eq.symm e)
        show ((45 : UInt8) == b && [].isPrefixOf l) = false
        rw [this]
        rfl
  have e2 : Lib.trimPrefix ((if s then [45] else []) ++ body) [45] = body := by
    unfold Lib.trimPrefix
    rw [e1]
    cases s <;> rfl
  rw [e1, e2] at h
  exact h

theorem parse_text (s : Bool) (x : Nat) (hx : x ≤ 9000000000000000000) (W P : List UInt8) (pt : Bool) (t : ByteArray) (ht : t.data.toList = (if s then [45] else []) ++ (W ++ if pt then 46 :: P else []))
    (hW : isD W = true) (hP : pt = true → isD P = true) (hP0 : pt = false → P = []) (hX : parseX W P = x) :
    ∀ w, Calls Tryd.prog 26 #[.string t] w fun e w' => e = .returned (.tuple #[.int .i64 (if s then -(x : Int) else x), .int .i64 0]) ∧ Upd w w' (fun _ => False) := by
  have hW' := hW
  simp only [isD, Bool.and_eq_true, decide_eq_true_eq] at hW'
  obtain ⟨⟨w1, w2⟩, w3⟩ := hW'
  have hPall : P.all dgB = true ∧ P.length ≤ 18 := by
    cases pt with
    | true =>
      have := hP rfl
      simp only [isD, Bool.and_eq_true, decide_eq_true_eq] at this
      exact ⟨this.2, this.1.2⟩
    | false => rw [hP0 rfl]; exact ⟨rfl, by simp⟩
  have hn1 : numE x = 0 := by unfold numE; rw [if_neg (by omega)]
  have hn2 : numV s x = (if s then -(x : Int) else x) := by unfold numV; rw [if_neg (by omega)]
  obtain ⟨body, hbd⟩ : ∃ body, W ++ (if pt then 46 :: P else []) = body := ⟨_, rfl⟩
  rw [hbd] at ht
  have hhead : body.head? ≠ some 45 := by
    cases W with
    | nil => simp at w1
    | cons b l =>
      rw [← hbd]
      simp only [List.cons_append, List.head?_cons, ne_eq, Option.some.injEq]
      intro e
      subst e
      simp only [List.all_cons, Bool.and_eq_true] at w3
      exact absurd w3.1 (by decide)
  have CP := CutPrefix_sign s body t ht hhead
  have hbl : body.length ≤ 37 := by
    rw [← hbd]
    cases pt <;> simp <;> omega
  have hbs : (⟨body.toArray⟩ : ByteArray).size = body.length := rfl
  have hbt : (⟨body.toArray⟩ : ByteArray).data.toList = body := rfl
  obtain ⟨b, hb⟩ : ∃ b, (⟨body.toArray⟩ : ByteArray) = b := ⟨_, rfl⟩
  rw [hb] at hbs hbt CP
  intro w
  rcases Cut_forms b (by omega) with ⟨hno, hC⟩ | ⟨i, hi, hi1, hi2, hC⟩
  · have hpt : pt = false := by
      cases pt with
      | false => rfl
      | true =>
        exfalso
        refine hno W.length ?_
        rw [hbt, ← hbd]
        simp
    subst hpt
    have eW : b.data.toList = W := by rw [hbt, ← hbd]; simp
    have k := Parse_ok w t b b ⟨#[]⟩ s false CP hC (by omega) (by decide) (by rw [eW]; exact hW) rfl (fun h => Bool.noConfusion h)
    rw [eW, show (⟨#[]⟩ : ByteArray).data.toList = P from (hP0 rfl).symm, hX, hn1, hn2] at k
    exact k
  · have hpt : pt = true := by
      cases pt with
      | true => rfl
      | false =>
        exfalso
        refine digit_ne w3 i ?_
        rw [← hi1, hbt, ← hbd]
        simp
    subst hpt
    have hiW : i = W.length := by
      rcases Nat.lt_trichotomy i W.length with h | h | h
      · exfalso
        refine digit_ne w3 i ?_
        rw [← hi1, hbt, ← hbd, List.getElem?_append_left h]
      · exact h
      · exfalso
        refine hi2 W.length h ?_
        rw [hbt, ← hbd]
        simp
    subst hiW
    have eW : (b.extract 0 W.length).data.toList = W := by
      rw [ByteArray.data_extract]
      have : b.data.toList = W ++ 46 :: P := by rw [hbt, ← hbd]; rfl
      simp [this]
    have eP : (b.extract (W.length + 1) b.size).data.toList = P := by
      rw [ByteArray.data_extract, hbs]
      have : b.data.toList = W ++ 46 :: P := by rw [hbt, ← hbd]; rfl
      have hl : body.length = W.length + (P.length + 1) := by rw [← hbd]; simp
      simp [this, hl]
      have e : W.length + (P.length + 1) - (W.length + 1) = P.length := by omega
      rw [e]
      simp
    have s1 : (b.extract 0 W.length).size = W.length := congrArg List.length eW
    have s2 : (b.extract (W.length + 1) b.size).size = P.length := congrArg List.length eP
    have k := Parse_ok w t b (b.extract 0 W.length) (b.extract (W.length + 1) b.size) s true CP hC (by omega) (by omega) (by rw [eW]; exact hW) (by rw [eP]; exact hPall.1) (fun _ => by rw [eP]; exact hP rfl)
    rw [eW, eP, hX, hn1, hn2] at k
    exact k

/-- A number's text is read as the number. -/
theorem text_back (s : Bool) (x : Nat) (hx : x ≤ 9000000000000000000) (h0 : s = true → 0 < x) : ∃ t : ByteArray,
    (∀ w, Pow w → Calls Tryd.prog 29 #[.int .i64 (if s then -(x : Int) else x)] w fun e w' => e = .returned (.string t) ∧ Upd w w' (fun _ => False)) ∧
    (∀ w, Calls Tryd.prog 26 #[.string t] w fun e w' => e = .returned (.tuple #[.int .i64 (if s then -(x : Int) else x), .int .i64 0]) ∧ Upd w w' (fun _ => False)) := by
  by_cases hr : x % 10000 = 0
  · refine ⟨⟨((if s then [45] else []) ++ decDigits (x / 10000)).toArray⟩, fun w ht => ?_, ?_⟩
    · refine Calls.mono (Text_whole w s x hx h0 hr ht) ?_
      rintro e w' ⟨⟨t, rfl, et⟩, u⟩
      exact ⟨by rw [Go.WideShapes.bytes_inj (show t.data.toList = (⟨((if s then [45] else []) ++ decDigits (x / 10000)).toArray⟩ : ByteArray).data.toList from et)], u⟩
    · refine parse_text s x hx (decDigits (x / 10000)) [] false _ (by simp) (dec_isD _ (by omega)) (fun h => Bool.noConfusion h) (fun _ => rfl) ?_
      unfold parseX
      rw [(dec_all _).2, dval_nil]
      simp
      omega
  · obtain ⟨p1, p2⟩ := part_text (x % 10000) (by omega) (by omega)
    refine ⟨⟨((if s then [45] else []) ++ (decDigits (x / 10000) ++ 46 :: trimRightB ((decDigits (10000 + x % 10000)).drop 1) 48)).toArray⟩, fun w ht => ?_, ?_⟩
    · refine Calls.mono (Text_part w s x hx h0 hr ht) ?_
      rintro e w' ⟨⟨t, rfl, et⟩, u⟩
      exact ⟨by rw [Go.WideShapes.bytes_inj (show t.data.toList = (⟨((if s then [45] else []) ++ (decDigits (x / 10000) ++ 46 :: trimRightB ((decDigits (10000 + x % 10000)).drop 1) 48)).toArray⟩ : ByteArray).data.toList from et)], u⟩
    · refine parse_text s x hx (decDigits (x / 10000)) (trimRightB ((decDigits (10000 + x % 10000)).drop 1) 48) true _ (by simp) (dec_isD _ (by omega)) (fun _ => p1) (fun h => Bool.noConfusion h) ?_
      unfold parseX
      rw [(dec_all _).2, p2]
      omega
end Go.Proofs.YthahgablbdfodaaDoor
/- The program's and the reference's Parse are alike at every text of at most 1000 bytes. -/
set_option maxRecDepth 100000
namespace Go.Proofs.YthahgablbdfodaaDoor
open Go.RowKit Go.Lat

/-- How a text begins. -/
theorem prefix_forms (s : ByteArray) : ∃ (t : ByteArray) (neg : Bool), t.size ≤ s.size ∧ (∀ w, Calls Tryd.prog 36 #[.string s, .string ⟨#[45]⟩] w fun e w' => e = .returned (.tuple #[.string t, .bool neg]) ∧ w' = w) ∧
    ((neg = true ∧ ∃ h : 0 < s.size, s[0].toNat = 45 ∧ s.extract 1 s.size = t) ∨ (neg = false ∧ s = t ∧ s.size = 0) ∨ (neg = false ∧ s = t ∧ ∃ h : 0 < s.size, s[0].toNat ≠ 45)) := by
  by_cases h0 : s.size = 0
  · have hl : s.data.toList = [] := List.eq_nil_of_length_eq_zero h0
    refine ⟨s, false, Nat.le_refl _, ?_, .inr (.inl ⟨rfl, rfl, h0⟩)⟩
    have := CutPrefix_sign false [] s (by rw [hl]; rfl) (by simp)
    rw [show (⟨([] : List UInt8).toArray⟩ : ByteArray) = s from Go.WideShapes.bytes_inj (by rw [hl])] at this
    exact this
  · have hp : 0 < s.size := by omega
    have hb := byte_list s 0 hp
    obtain ⟨l, hl⟩ : ∃ l, s.data.toList = s[0] :: l := by
      cases h : s.data.toList with
      | nil => rw [h] at hb; simp at hb
      | cons b l =>
        rw [h] at hb
        simp at hb
        exact ⟨l, by rw [hb]⟩
    by_cases h45 : s[0].toNat = 45
    · have eb : s[0] = 45 := UInt8.toNat_inj.1 h45
      rw [eb] at hl
      have he : (s.extract 1 s.size).data.toList = l := by
        rw [ByteArray.data_extract]
        have hsz : s.size = l.length + 1 := by
          have : s.data.toList.length = s.size := rfl
          rw [← this, hl]
          rfl
        simp [hl, hsz]
      refine ⟨s.extract 1 s.size, true, ?_, ?_, .inl ⟨rfl, hp, h45, rfl⟩⟩
      · simp
      · have hsz2 : s.data.toList = [45] ++ (45 :: l).drop 1 := by rw [hl]; rfl
        by_cases hh : l.head? = some 45
        · intro w
          have h := Tryd.strings_CutPrefix s ⟨#[45]⟩ w
          rw [show (⟨#[45]⟩ : ByteArray).data.toList = [45] from rfl, hl] at h
          have e1 : Lib.hasPrefix (45 :: l) [45] = true := by simp [Lib.hasPrefix]
          have e2 : Lib.trimPrefix (45 :: l) [45] = l := by unfold Lib.trimPrefix; rw [e1]; rfl
          rw [e1, e2, show (⟨l.toArray⟩ : ByteArray) = s.extract 1 s.size from Go.WideShapes.bytes_inj (by rw [he])] at h
          exact h
        · have := CutPrefix_sign true l s (by rw [hl]; rfl) hh
          rw [show (⟨l.toArray⟩ : ByteArray) = s.extract 1 s.size from Go.WideShapes.bytes_inj (by rw [he])] at this
          exact this
    · refine ⟨s, false, Nat.le_refl _, ?_, .inr (.inr ⟨rfl, rfl, hp, h45⟩)⟩
      have := CutPrefix_sign false s.data.toList s (by simp) (by
        rw [hl]
        simp only [List.head?_cons, ne_eq, Option.some.injEq]
        intro e
        exact h45 (by rw [e]; rfl))
      exact this

end Go.Proofs.YthahgablbdfodaaDoor
/- The parts of the law's wakes. -/
set_option maxRecDepth 100000
namespace Go.Proofs.YthahgablbdfodaaDoor
open Go.RowKit Go.Lat Go.Lib

def b150 : List UInt8 := [49, 46, 53, 48]
def bTrue : List UInt8 := [116, 114, 117, 101]
theorem Parse_150 (w : World) : Calls Tryd.prog 26 #[enS b150] w fun e w' => e = .returned (.tuple #[.int .i64 15000, .int .i64 0]) ∧ Upd w w' (fun _ => False) :=
  parse_text false 15000 (by decide) [49] [53, 48] true ⟨b150.toArray⟩ (by decide) (by decide) (fun _ => by decide) (fun h => Bool.noConfusion h) (by decide) w
theorem Parse_true (w : World) : Calls Tryd.prog 26 #[enS bTrue] w fun e w' => e = .returned (.tuple #[.int .i64 0, .int .i64 4]) ∧ Upd w w' (fun _ => False) := by
  have CP := CutPrefix_sign false bTrue ⟨bTrue.toArray⟩ (by decide) (by decide)
  rcases Cut_forms ⟨bTrue.toArray⟩ (by decide) with ⟨hno, hC⟩ | ⟨i, hi, hat, hno, hC⟩
  · exact Parse_bad w ⟨bTrue.toArray⟩ ⟨bTrue.toArray⟩ ⟨bTrue.toArray⟩ ⟨#[]⟩ false false CP hC (by decide) (by decide) (.inl (by decide))
  · exfalso
    have hi' : i < 4 := hi
    have hat' : bTrue[i]? = some 46 := hat
    have : i = 0 ∨ i = 1 ∨ i = 2 ∨ i = 3 := by omega
    rcases this with rfl | rfl | rfl | rfl <;> simp [bTrue] at hat'
theorem Read_150 (w : World) (hg : Sig w) : Calls Tryd.prog 11 #[enS b150] w fun e w' => e = .returned (Vl.mk 1 15000 [] false 0).val ∧ Upd w w' (fun _ => False) := by
  have h := Read_any w hg b150 (by decide) 15000 0 Parse_150
  have e : readV b150 15000 0 = ⟨1, 15000, [], false, 0⟩ := by rfl
  rwa [e] at h
theorem Read_true (w : World) (hg : Sig w) : Calls Tryd.prog 11 #[enS bTrue] w fun e w' => e = .returned (Vl.mk 3 0 [] true 0).val ∧ Upd w w' (fun _ => False) := by
  have h := Read_any w hg bTrue (by decide) 0 4 Parse_true
  have e : readV bTrue 0 4 = ⟨3, 0, [], true, 0⟩ := by rfl
  rwa [e] at h
theorem wake_N (w : World) (n : Int) (h : okNum n = true) : Calls Tryd.prog 21 #[.int .i64 n] w fun e w' => e = .returned (Vl.mk 1 n [] false 0).val ∧ Upd w w' (fun _ => False) := by
  have k := N_any w n
  have e : mkN n = ⟨1, n, [], false, 0⟩ := by unfold mkN; rw [if_pos h]
  rwa [e] at k
theorem wake_put (w : World) : Calls Tryd.prog 8 #[(Vl.mk 1 10000 [] false 0).val] w fun e w' => e = .returned (.tuple #[enS [1, 0, 0, 0, 0, 0, 0, 39, 16], .int .i64 0]) ∧ Upd w w' (fun _ => False) := by
  have k := PutN_any w 10000 ⟨i1, ⟨by decide, by decide⟩, Nat.zero_le _, i0⟩ (by decide)
  have e : (1 :: numBs 10000 8 : List UInt8) = [1, 0, 0, 0, 0, 0, 0, 39, 16] := by decide
  rwa [e] at k
theorem wake_show (w : World) (hg : Sig w) : Calls Tryd.prog 12 #[(Vl.mk 4 0 [] false 6).val] w fun e w' => e = .returned (enS [35, 78, 47, 65]) ∧ Upd w w' (fun _ => False) := by
  have k := ShowE_any w hg ⟨4, 0, [], false, 6⟩ ⟨i4, i0, Nat.zero_le _, ⟨by decide, by decide⟩⟩ 0 [] false 6 (by rfl)
  have e : signT 6 = [35, 78, 47, 65] := by decide
  rwa [e] at k
theorem wake_order (w : World) : Calls Tryd.prog 6 #[(Vl.mk 2 0 [98] false 0).val, (Vl.mk 2 0 [65] false 0).val] w (OrdPost w (1, 0)) := by
  have k := Order_any w ⟨2, 0, [98], false, 0⟩ ⟨2, 0, [65], false, 0⟩ ⟨i2, i0, by decide, i0⟩ ⟨i2, i0, by decide, i0⟩ (by decide) (by decide)
  have e : orderV ⟨2, 0, [98], false, 0⟩ ⟨2, 0, [65], false, 0⟩ = (1, 0) := by decide
  rwa [e] at k
end Go.Proofs.YthahgablbdfodaaDoor
/- The walk of the law's wakes. -/
set_option maxRecDepth 100000
namespace Go.Proofs.YthahgablbdfodaaDoor
open Go.RowKit Go.Lat Go.Lib

theorem wake_T (w : World) (c : UInt8) : Calls Tryd.prog 20 #[enS [c]] w fun e w' => e = .returned (Vl.mk 2 0 [c] false 0).val ∧ Upd w w' (fun _ => False) := by
  have k := T_any w [c]
  have e : mkT [c] = ⟨2, 0, [c], false, 0⟩ := by rfl
  rwa [e] at k

theorem wake_B (w : World) : Calls Tryd.prog 22 #[.bool true] w fun e w' => e = .returned (Vl.mk 3 0 [] true 0).val ∧ Upd w w' (fun _ => False) := B_any w true
theorem wake_E (w : World) : Calls Tryd.prog 23 #[.int .i64 6] w fun e w' => e = .returned (Vl.mk 4 0 [] false 6).val ∧ Upd w w' (fun _ => False) := E_any w 6

set_option maxHeartbeats 3200000 in
theorem wakes_any (w : World) (hg : Sig w) : Calls Tryd.prog 7 #[] w fun e w' => e = .returned (.bool true) ∧ Upd w w' (fun _ => False) := by
  have HG := hide hg
  clear hg
  have R1 := fun w hg => Read_150 w hg
  have R2 := fun w hg => Read_true w hg
  unfold bTrue at R2
  have R3 := fun w => wake_T w 98
  have R4 := fun w => wake_T w 65
  have R5 := fun w => wake_order w
  have R6 := fun w => wake_N w 10000 (by decide)
  have R7 := fun w => wake_put w
  have RN := fun w => wake_N w 15000 (by decide)
  have RB := fun w => wake_B w
  have RE := fun w => wake_E w
  have RS := fun w hg => wake_show w hg
  have Q1 := eq_at ⟨1, 15000, [], false, 0⟩ ⟨1, 15000, [], false, 0⟩ ⟨i1, ⟨by decide, by decide⟩, Nat.zero_le _, i0⟩ ⟨i1, ⟨by decide, by decide⟩, Nat.zero_le _, i0⟩ (q := true) rfl
  have Q2 := eq_at ⟨3, 0, [], true, 0⟩ ⟨3, 0, [], true, 0⟩ ⟨i3, i0, Nat.zero_le _, i0⟩ ⟨i3, i0, Nat.zero_le _, i0⟩ (q := true) rfl
  simp only at Q1 Q2
  unfold Vl.val at RN RB RE RS
  simp only at RN RB RE RS
  unfold Vl.val at R1 R2 R3 R4 R5 R6 R7
  simp only at R1 R2 R3 R4 R5 R6 R7
  go_enter Tryd.func7, Tryd.ntmps7
  go_wp2_with fail
  refine Calls.mono (R1 _ HG.out) ?_
  rintro e w1 ⟨rfl, u1⟩
  have HU1 := hide u1
  clear u1 R1
  go_wp2_with fail
  refine Calls.mono (R3 _) ?_
  rintro e w2 ⟨rfl, u2⟩
  have HX2 := hide (u2.get (Vnew1 w1 (.cells (Vl.mk 1 15000 [] false 0).cs 28)) id)
  have HU2 := hide ((HU1.out.alloc _).then u2 (fun _ _ => id))
  clear u2 HU1 R3
  go_wp2_with fail
  refine Calls.mono (R4 _) ?_
  rintro e w3 ⟨rfl, u3⟩
  have HX3 := hide (u3.get HX2.out id)
  have HU3 := hide (HU2.out.then u3 (fun _ _ => id))
  clear u3 HX2 HU2 R4
  go_wp2_with fail
  refine Calls.mono (R5 _) ?_
  rintro e w4 ⟨rfl, u4⟩
  have HX4 := hide (u4.get HX3.out id)
  have HU4 := hide (HU3.out.then u4 (fun _ _ => id))
  clear u4 HX3 HU3 R5
  go_wp2_with fail
  refine Calls.mono (R6 _) ?_
  rintro e w5 ⟨rfl, u5⟩
  have HX5 := hide (u5.get HX4.out id)
  have HU5 := hide (HU4.out.then u5 (fun _ _ => id))
  clear u5 HX4 HU4 R6
  go_wp2_with fail
  refine Calls.mono (R7 _) ?_
  rintro e w6 ⟨rfl, u6⟩
  have HX6 := hide (u6.get HX5.out id)
  have HU6 := hide (HU5.out.then u6 (fun _ _ => id))
  clear u6 HX5 HU5 R7
  obtain ⟨c0, c1, c2, c3, c4⟩ := cells5 HX6.out
  have xl := lt_at HX6.out
  go_wp2_with fail
  go_region_held3 (fun w' => w'.cell? ⟨w1.heap.size, 0, none⟩ = some (.int .i64 1) ∧ w'.cell? ⟨w1.heap.size, 1, none⟩ = some (.int .i64 15000) ∧ w'.cell? ⟨w1.heap.size, 2, none⟩ = some (.string ⟨#[]⟩) ∧ w'.cell? ⟨w1.heap.size, 3, none⟩ = some (.bool false) ∧ w'.cell? ⟨w1.heap.size, 4, none⟩ = some (.int .i64 0) ∧ Upd w6 w' (fun _ => False))
    (first | (go_keep; done) | exact ⟨c0, c1, c2, c3, c4, (Upd.refl w6 _).drew⟩ | (have hz : Upd w6 _ (fun _ => False) := Upd.then (And.right (And.right (And.right (And.right (And.right (by assumption)))))) u11 (fun _ _ => id); exact ⟨(hz.cell w1.heap.size 0 xl id).trans c0, (hz.cell w1.heap.size 1 xl id).trans c1, (hz.cell w1.heap.size 2 xl id).trans c2, (hz.cell w1.heap.size 3 xl id).trans c3, (hz.cell w1.heap.size 4 xl id).trans c4, hz⟩) | (have hz : Upd w6 _ (fun _ => False) := Upd.then (And.right (And.right (And.right (And.right (And.right (by assumption)))))) u10 (fun _ _ => id); exact ⟨(hz.cell w1.heap.size 0 xl id).trans c0, (hz.cell w1.heap.size 1 xl id).trans c1, (hz.cell w1.heap.size 2 xl id).trans c2, (hz.cell w1.heap.size 3 xl id).trans c3, (hz.cell w1.heap.size 4 xl id).trans c4, hz⟩) | (have hz : Upd w6 _ (fun _ => False) := Upd.then (And.right (And.right (And.right (And.right (And.right (by assumption)))))) u9 (fun _ _ => id); exact ⟨(hz.cell w1.heap.size 0 xl id).trans c0, (hz.cell w1.heap.size 1 xl id).trans c1, (hz.cell w1.heap.size 2 xl id).trans c2, (hz.cell w1.heap.size 3 xl id).trans c3, (hz.cell w1.heap.size 4 xl id).trans c4, hz⟩) | (have hz : Upd w6 _ (fun _ => False) := Upd.then (And.right (And.right (And.right (And.right (And.right (by assumption)))))) u8 (fun _ _ => id); exact ⟨(hz.cell w1.heap.size 0 xl id).trans c0, (hz.cell w1.heap.size 1 xl id).trans c1, (hz.cell w1.heap.size 2 xl id).trans c2, (hz.cell w1.heap.size 3 xl id).trans c3, (hz.cell w1.heap.size 4 xl id).trans c4, hz⟩) | (have hz : Upd w6 _ (fun _ => False) := Upd.then (And.right (And.right (And.right (And.right (And.right (by assumption)))))) u7 (fun _ _ => id); exact ⟨(hz.cell w1.heap.size 0 xl id).trans c0, (hz.cell w1.heap.size 1 xl id).trans c1, (hz.cell w1.heap.size 2 xl id).trans c2, (hz.cell w1.heap.size 3 xl id).trans c3, (hz.cell w1.heap.size 4 xl id).trans c4, hz⟩))
    (first
    | (go_at_call 21; with_reducible refine Calls.mono (RN _) ?_; rintro e w7 ⟨rfl, u7⟩)
    | (go_at_call 11; refine Calls.mono (R2 _ (HG.out.upd (HU6.out.then (And.right (And.right (And.right (And.right (And.right (by assumption)))))) (fun _ _ => id)) id)) ?_; rintro e w8 ⟨rfl, u8⟩)
    | (go_at_call 22; with_reducible refine Calls.mono (RB _) ?_; rintro e w9 ⟨rfl, u9⟩)
    | (go_at_call 23; with_reducible refine Calls.mono (RE _) ?_; rintro e w10 ⟨rfl, u10⟩)
    | (go_at_call 12; refine Calls.mono (RS _ (HG.out.upd (HU6.out.then (And.right (And.right (And.right (And.right (And.right (by assumption)))))) (fun _ _ => id)) id)) ?_; rintro e w11 ⟨rfl, u11⟩))
  all_goals go_wp2_with fail
  all_goals go_ret
  all_goals exact ⟨rfl, HU6.out.then (And.right (And.right (And.right (And.right (And.right (by assumption)))))) (fun _ _ => id)⟩
end Go.Proofs.YthahgablbdfodaaDoor
/- Plain laws of the order of values: it is turned when they are, and it is transitive where none is blank and none an error. -/
set_option maxRecDepth 100000
namespace Go.Proofs.YthahgablbdfodaaDoor
open Go.RowKit Go.Lat Go.Lib

theorem lt_as8 : ∀ {x y : List UInt8}, x < y → ¬ y < x
  | [], y, h => by intro k; cases k
  | a :: x, [], h => by cases h
  | a :: x, b :: y, h => by
    intro k
    rw [lt_cons8] at h k
    have h1 : ∀ {p q : UInt8}, p < q → p.toNat < q.toNat := fun h => h
    rcases h with h | ⟨rfl, h⟩
    · rcases k with k | ⟨rfl, k⟩
      · have := h1 h; have := h1 k; omega
      · have := h1 h; omega
    · rcases k with k | ⟨-, k⟩
      · have := h1 k; omega
      · exact lt_as8 h k
theorem lt_tr8 : ∀ {x y z : List UInt8}, x < y → y < z → x < z
  | x, [], z, h, k => by cases x <;> cases h
  | [], b :: y, [], h, k => by cases k
  | [], b :: y, c :: z, h, k => List.nil_lt_cons c z
  | a :: x, b :: y, [], h, k => by cases k
  | a :: x, b :: y, c :: z, h, k => by
    rw [lt_cons8] at h k ⊢
    have h1 : ∀ {p q : UInt8}, p < q → p.toNat < q.toNat := fun h => h
    rcases h with h | ⟨rfl, h⟩
    · rcases k with k | ⟨rfl, k⟩
      · exact .inl (show a.toNat < c.toNat by have := h1 h; have := h1 k; omega)
      · exact .inl h
    · rcases k with k | ⟨rfl, k⟩
      · exact .inl k
      · exact .inr ⟨rfl, lt_tr8 h k⟩
theorem lt_tri8 : ∀ {x y : List UInt8}, ¬ x < y → ¬ y < x → x = y
  | [], [], h, k => rfl
  | [], b :: y, h, k => absurd (List.nil_lt_cons b y) h
  | a :: x, [], h, k => absurd (List.nil_lt_cons a x) k
  | a :: x, b :: y, h, k => by
    rw [lt_cons8] at h k
    have hab : a = b := by
      apply UInt8.toNat_inj.1
      have n1 : ¬ a.toNat < b.toNat := fun e => h (.inl e)
      have n2 : ¬ b.toNat < a.toNat := fun e => k (.inl e)
      omega
    subst hab
    rw [lt_tri8 (fun e => h (.inr ⟨rfl, e⟩)) (fun e => k (.inr ⟨rfl, e⟩))]
theorem cmpS_neg (x y : List UInt8) : cmpS x y = -cmpS y x := by
  unfold cmpS
  by_cases h : x < y
  · rw [if_pos h, if_neg (lt_as8 h), if_pos h]
  · by_cases k : y < x
    · rw [if_neg h, if_pos k, if_pos k]
      rfl
    · rw [if_neg h, if_neg k, if_neg k, if_neg h]
      rfl
theorem cmpS_le {x y : List UInt8} : cmpS x y ≤ 0 ↔ ¬ y < x := by
  unfold cmpS
  by_cases h : x < y
  · rw [if_pos h]
    exact ⟨fun _ => lt_as8 h, fun _ => by decide⟩
  · rw [if_neg h]
    by_cases k : y < x
    · rw [if_pos k]
      exact ⟨fun e => absurd e (by decide), fun e => absurd k e⟩
    · rw [if_neg k]
      exact ⟨fun _ => k, fun _ => by decide⟩
theorem cmpS_tr {x y z : List UInt8} (h : cmpS x y ≤ 0) (k : cmpS y z ≤ 0) : cmpS x z ≤ 0 := by
  rw [cmpS_le] at *
  intro e
  by_cases h1 : x < y
  · exact k (lt_tr8 e h1)
  · have := lt_tri8 h1 h
    subst this
    exact k e
theorem cmpI_neg (a b : Int) : cmpI a b = -cmpI b a := by
  unfold cmpI
  split <;> split <;> omega
theorem ord2_neg (a b : Vl) : ord2 a b = -ord2 b a := by
  unfold ord2
  by_cases h : a.k = b.k
  · have h' : ¬ (a.k ≠ b.k) := fun e => e h
    have h'' : ¬ (b.k ≠ a.k) := fun e => e h.symm
    rw [if_neg h', if_neg h'', ← h]
    by_cases k1 : a.k = 1
    · rw [if_pos k1, if_pos k1]
      exact cmpI_neg _ _
    · rw [if_neg k1, if_neg k1]
      by_cases k2 : a.k = 2
      · rw [if_pos k2, if_pos k2]
        exact cmpS_neg _ _
      · rw [if_neg k2, if_neg k2]
        omega
  · rw [if_pos h, if_pos (fun e => h e.symm)]
    exact cmpI_neg _ _
theorem cmpI_le {a b : Int} : cmpI a b ≤ 0 ↔ a ≤ b := by
  unfold cmpI
  split
  · constructor <;> intro <;> omega
  · split
    · constructor <;> intro <;> omega
    · constructor <;> intro <;> omega
theorem ord2_tr {a b c : Vl} (h : ord2 a b ≤ 0) (k : ord2 b c ≤ 0) : ord2 a c ≤ 0 := by
  unfold ord2 at *
  by_cases h1 : a.k = b.k
  · rw [if_neg (by simpa using h1)] at h
    by_cases h2 : b.k = c.k
    · rw [if_neg (by simpa using h2)] at k
      rw [if_neg (by simpa using h1.trans h2)]
      rw [← h1] at k
      by_cases k1 : a.k = 1
      · rw [if_pos k1] at h k ⊢
        rw [cmpI_le] at *
        omega
      · rw [if_neg k1] at h k ⊢
        by_cases k2 : a.k = 2
        · rw [if_pos k2] at h k ⊢
          exact cmpS_tr h k
        · rw [if_neg k2] at h k ⊢
          omega
    · rw [if_pos h2] at k
      rw [if_pos (by rw [h1]; exact h2), h1]
      exact k
  · rw [if_pos h1, cmpI_le] at h
    by_cases h2 : b.k = c.k
    · rw [if_pos (by rw [← h2]; exact h1), cmpI_le, ← h2]
      exact h
    · rw [if_pos h2, cmpI_le] at k
      have h3 : a.k ≠ c.k := by omega
      rw [if_pos h3, cmpI_le]
      omega
theorem sound_f {x : Vl} (h : (soundV x).k = 4) : (soundV x).f ≠ 0 := by
  have hg : goodV (soundV x) = true := by
    unfold soundV
    split
    · assumption
    · decide
  have e : eqV (soundV x) (mkE (soundV x).f) = true := by
    unfold goodV at hg
    rw [if_neg (by omega), if_neg (by omega), if_neg (by omega), if_neg (by omega), if_pos h] at hg
    exact hg
  have e2 := eqV_iff.1 e
  have : (soundV x).f = (mkE (soundV x).f).f := congrArg Vl.f e2
  intro h0
  rw [h0] at this
  simp [mkE, okFail] at this
/-- What the law asks of two orders. -/
theorem order_turned (x y : Vl) : ((orderV x y).2 = 0 ↔ (orderV y x).2 = 0) ∧ ((orderV x y).2 = 0 → (orderV x y).1 = -(orderV y x).1) := by
  unfold orderV
  by_cases h1 : (soundV x).k = 4
  · have f1 := sound_f h1
    rw [if_pos h1]
    by_cases h2 : (soundV y).k = 4
    · have f2 := sound_f h2
      rw [if_pos h2]
      exact ⟨⟨fun e => absurd e f1, fun e => absurd e f2⟩, fun e => absurd e f1⟩
    · rw [if_neg h2, if_pos h1]
      exact ⟨Iff.rfl, fun e => absurd e f1⟩
  · rw [if_neg h1]
    by_cases h2 : (soundV y).k = 4
    · have f2 := sound_f h2
      rw [if_pos h2, if_pos h2]
      exact ⟨Iff.rfl, fun e => absurd e f2⟩
    · rw [if_neg h2, if_neg h2, if_neg h1]
      exact ⟨Iff.rfl, fun _ => ord2_neg _ _⟩
theorem order_plain {x y : Vl} (h : (orderV x y).2 = 0) (hx : x.k ≠ 0) (hy : y.k ≠ 0) : (orderV x y).1 = ord2 x y := by
  have key : ∀ z : Vl, (soundV z).k ≠ 4 → soundV z = z := by
    intro z hz
    unfold soundV at hz ⊢
    by_cases g : goodV z = true
    · rw [if_pos g]
    · rw [if_neg g] at hz
      exact absurd rfl hz
  unfold orderV at h ⊢
  by_cases h1 : (soundV x).k = 4
  · rw [if_pos h1] at h
    exact absurd h (sound_f h1)
  · rw [if_neg h1] at h ⊢
    by_cases h2 : (soundV y).k = 4
    · rw [if_pos h2] at h
      exact absurd h (sound_f h2)
    · rw [if_neg h2]
      rw [key x h1, key y h2]
      unfold besideV
      rw [if_neg hx, if_neg hy]
/-- What the law asks of three. -/
theorem order_chain {x y z : Vl} (h1 : (orderV x y).2 = 0) (h2 : (orderV y z).2 = 0) (h3 : (orderV x z).2 = 0) (hx : x.k ≠ 0) (hy : y.k ≠ 0) (hz : z.k ≠ 0) :
    ¬ ((orderV x y).1 ≤ 0 ∧ (orderV y z).1 ≤ 0 ∧ (orderV x z).1 > 0) ∧ ¬ ((orderV x y).1 ≥ 0 ∧ (orderV y z).1 ≥ 0 ∧ (orderV x z).1 < 0) := by
  rw [order_plain h1 hx hy, order_plain h2 hy hz, order_plain h3 hx hz]
  constructor
  · rintro ⟨a, b, c⟩
    have := ord2_tr a b
    omega
  · rintro ⟨a, b, c⟩
    have n1 := ord2_neg x y
    have n2 := ord2_neg y z
    have n3 := ord2_neg x z
    have := ord2_tr (a := z) (b := y) (c := x) (by omega) (by omega)
    omega
end Go.Proofs.YthahgablbdfodaaDoor
