/- The walks of fixed.run and of the reference's all, at every text. -/
import Derived.Test.YthahgablbdfodaaGreatDoorJ09
import Derived.Test.YthahgablbdfodaaGreatDoorJ10
/- The walks of fixed.run and of the reference's all, at every text. -/
set_option maxRecDepth 100000
namespace Go.Proofs.YthahgablbdfodaaGreatDoor
open Go.RowKit Go.Lat Go.Shelf Go.Sort Go.Lib

theorem dgs_contains (b : UInt8) : dgs.contains b = dgB b := by
  have h : ∀ n, n < 256 → dgs.contains (UInt8.ofNat n) = dgB (UInt8.ofNat n) := by decide +kernel
  have := h b.toNat b.toNat_lt
  simpa using this

theorem dropWhile_nil (p : UInt8 → Bool) : ∀ l : List UInt8, l.dropWhile p = [] ↔ ∀ x ∈ l, p x = true
  | [] => by simp
  | b :: l => by
    have ih := dropWhile_nil p l
    cases h : p b with
    | true => simp [List.dropWhile, h, ih]
    | false => simp [List.dropWhile, h]

theorem takeWhile_all (p : UInt8 → Bool) : ∀ (l : List UInt8) (x : UInt8), x ∈ l.takeWhile p → p x = true
  | [], x, h => by simp at h
  | b :: l, x, h => by
    cases hb : p b with
    | true =>
      simp only [List.takeWhile, hb, List.mem_cons] at h
      rcases h with h | h
      · rw [h]; exact hb
      · exact takeWhile_all p l x h
    | false => simp [List.takeWhile, hb] at h

theorem trim_all (l : List UInt8) (h : l.all dgB = true) : trimS l dgs = [] := by
  have e : trimRightS l dgs = [] := by
    unfold trimRightS
    rw [List.reverse_eq_nil_iff, dropWhile_nil]
    intro x hx
    rw [dgs_contains]
    exact List.all_eq_true.1 h x (List.mem_reverse.1 hx)
  unfold trimS
  rw [e]
  rfl

theorem trim_some (l : List UInt8) (h : l.all dgB = false) : trimS l dgs ≠ [] := by
  intro e
  have hall : l.all dgB = true := by
    unfold trimS trimLeftS at e
    rw [dropWhile_nil] at e
    unfold trimRightS at e
    rw [List.all_eq_true]
    intro x hx
    have hx' : x ∈ l.reverse := List.mem_reverse.2 hx
    rw [← List.takeWhile_append_dropWhile (p := (dgs.contains ·)) (l := l.reverse)] at hx'
    rw [← dgs_contains]
    rcases List.mem_append.1 hx' with k | k
    · exact takeWhile_all _ _ _ k
    · exact e x (List.mem_reverse.2 k)
  rw [h] at hall
  cases hall

set_option maxHeartbeats 1600000 in
theorem run_any (w : World) (s : ByteArray) (hs : s.size ≤ 1000) :
    Calls Tryz.prog 70 #[.string s] w fun e w' => e = .returned (.bool (isD s.data.toList)) ∧ Upd w w' (fun _ => False) := by
  have hsz : s.data.toList.length = s.size := rfl
  have hT := fun w => Any.strings_Trim_laid Tryz.lays160 (by kernel_rfl) s ⟨#[48, 49, 50, 51, 52, 53, 54, 55, 56, 57]⟩ w (by omega) (by decide) (ascii_of_all (by decide))
  rw [show (⟨#[48, 49, 50, 51, 52, 53, 54, 55, 56, 57]⟩ : ByteArray).data.toList = dgs from rfl] at hT
  change ∀ w, Calls Tryz.prog 56 _ _ _ at hT
  unfold isD
  rw [hsz]
  by_cases h1 : 1 ≤ s.size
  · have d1 : decide ((1 : Int) ≤ (s.size : Int)) = true := by simp; omega
    have d3 : decide (1 ≤ s.size) = true := by simpa using h1
    rw [d3]
    by_cases h2 : s.size ≤ 18
    · have d2 : decide ((s.size : Int) ≤ 18) = true := by simp; omega
      have d4 : decide (s.size ≤ 18) = true := by simpa using h2
      rw [d4]
      simp only [Bool.true_and]
      cases h : s.data.toList.all dgB with
      | true =>
        rw [trim_all _ h] at hT
        clear h h1 h2
        go_enter Tryz.func70, Tryz.ntmps70
        go_wp2_with fail
        refine Calls.mono (hT _) ?_
        rintro e w1 ⟨rfl, hB⟩
        go_wp2_with fail
        go_ret
        exact ⟨rfl, Upd.of_below hB _⟩
      | false =>
        have hne := trim_some _ h
        have hr : (⟨(trimS s.data.toList dgs).toArray⟩ : ByteArray).toList ≠ [] := by
          rw [ByteArray.toList_eq]
          exact hne
        generalize (⟨(trimS s.data.toList dgs).toArray⟩ : ByteArray) = r at *
        clear h h1 h2 hne
        go_enter Tryz.func70, Tryz.ntmps70
        go_wp2_with fail
        refine Calls.mono (hT _) ?_
        rintro e w1 ⟨rfl, hB⟩
        go_wp2_with fail
        go_ret
        exact ⟨by simpa using hr, Upd.of_below hB _⟩
    · have d2 : decide ((s.size : Int) ≤ 18) = false := by simp; omega
      have d4 : decide (s.size ≤ 18) = false := by simpa using h2
      rw [d4]
      simp only [Bool.true_and, Bool.false_and]
      clear h1 h2 hT
      go_enter Tryz.func70, Tryz.ntmps70
      go_wp2_with fail
      go_ret
      exact ⟨rfl, Upd.refl _ _⟩
  · have d1 : decide ((1 : Int) ≤ (s.size : Int)) = false := by simp; omega
    have d3 : decide (1 ≤ s.size) = false := by simpa using h1
    rw [d3]
    simp only [Bool.false_and]
    clear h1 hT
    go_enter Tryz.func70, Tryz.ntmps70
    go_wp2_with fail
    go_ret
    exact ⟨rfl, Upd.refl _ _⟩

/-- A byte of a text. -/
theorem byte_list (s : ByteArray) (i : Nat) (h : i < s.size) : s.data.toList[i]? = some s[i] := by
  have h' : i < s.data.toList.length := h
  rw [List.getElem?_eq_getElem h']
  rfl

set_option maxHeartbeats 1600000 in
theorem all_any (w : World) (s : ByteArray) (hs : s.size ≤ 1000) :
    Calls Tryz.prog 79 #[.string s] w fun e w' => e = .returned (.bool (isD s.data.toList)) ∧ w' = w := by
  have hsz : s.data.toList.length = s.size := rfl
  unfold isD
  rw [hsz]
  by_cases h1 : 1 ≤ s.size
  · have d1 : decide ((s.size : Int) < 1) = false := by simp; omega
    have d1' : decide (s.size < 1) = false := decide_eq_false (by omega)
    have d3 : decide (1 ≤ s.size) = true := by simpa using h1
    rw [d3]
    by_cases h2 : s.size ≤ 18
    · have d2 : decide ((18 : Int) < (s.size : Int)) = false := by simp; omega
      have d2' : decide (18 < s.size) = false := by simp; omega
      have d4 : decide (s.size ≤ 18) = true := by simpa using h2
      rw [d4]
      simp only [Bool.true_and]
      obtain ⟨X, hX⟩ : ∃ X, s.data.toList.all dgB = X := ⟨_, rfl⟩
      rw [hX]
      have HX := hide hX
      clear hX hsz
      go_enter Tryz.func79, Tryz.ntmps79
      go_wp2_with fail
      go_loopg [3] s.size (fun q v wr => wr = w ∧ ∃ i : Nat, i + q = s.size ∧ v = .int .i64 i ∧ ∀ k, k < i → ∀ b, s.data.toList[k]? = some b → dgB b = true)
      case atStart => exact ⟨rfl, 0, by omega, rfl, fun k hk => absurd hk (by omega)⟩
      case round =>
        obtain ⟨hwr, i, hi, rfl, hall⟩ := hrel
        replace hwr := hwr.symm
        subst hwr
        have HA := hide hall
        clear hall
        by_cases hin : i < s.size
        · have c1 : decide (i < s.size) = true := by simpa using hin
          have hb := byte_list s i hin
          obtain ⟨z, hz⟩ : ∃ z, s[i].toNat = z := ⟨_, rfl⟩
          have HB : Hid (∀ b, s.data.toList[i]? = some b → b.toNat = z) := hide (fun b k => by rw [hb] at k; cases k; exact hz)
          have HB2 : Hid (z < 48 ∨ 57 < z → X = false) := hide (fun hn => by
            rw [← HX.out, Bool.eq_false_iff]
            intro hall
            have := List.all_eq_true.1 hall _ (List.mem_of_getElem? hb)
            simp [dgB] at this
            omega)
          clear hb
          by_cases z1 : z < 48
          · have e1 : decide ((z : Int) < 48) = true := by simp; omega
            have hX := HB2.out (.inl z1)
            subst hX
            go_wp2_with fail
            go_ret
            exact ⟨rfl, rfl⟩
          · have e1 : decide ((z : Int) < 48) = false := by simp; omega
            by_cases z2 : 57 < z
            · have e2 : decide ((57 : Int) < (z : Int)) = true := by simp; omega
              have hX := HB2.out (.inr z2)
              subst hX
              go_wp2_with fail
              go_ret
              exact ⟨rfl, rfl⟩
            · have e2 : decide ((57 : Int) < (z : Int)) = false := by simp; omega
              go_wp2_with fail
              go_roundg (gk - 1)
              case measure => omega
              case rel =>
                refine ⟨rfl, i + 1, by omega, by go_num, fun k hk b hb => ?_⟩
                by_cases hki : k < i
                · exact HA.out k hki b hb
                · obtain rfl : k = i := by omega
                  have := HB.out b hb
                  simp [dgB]
                  omega
        · have c1 : decide (i < s.size) = false := by simpa using hin
          have he : i = s.size := by omega
          subst he
          go_wp2_with fail
          go_ret
          refine ⟨?_, rfl⟩
          have hXt : s.data.toList.all dgB = true := by
            rw [List.all_eq_true]
            intro b hb
            obtain ⟨k, hk, e⟩ := List.mem_iff_getElem.1 hb
            exact HA.out k hk b (by rw [List.getElem?_eq_getElem hk, e])
          rw [← HX.out, hXt]
          rfl
    · have d2 : decide ((18 : Int) < (s.size : Int)) = true := by simp; omega
      have d2' : decide (18 < s.size) = true := by simp; omega
      have d4 : decide (s.size ≤ 18) = false := by simpa using h2
      rw [d4]
      simp only [Bool.true_and, Bool.false_and]
      clear h1 h2
      go_enter Tryz.func79, Tryz.ntmps79
      go_wp2_with fail
      go_ret
      exact ⟨rfl, rfl⟩
  · have d1 : decide ((s.size : Int) < 1) = true := by simp; omega
    have d1' : decide (s.size < 1) = true := decide_eq_true (by omega)
    have d3 : decide (1 ≤ s.size) = false := by simpa using h1
    rw [d3]
    simp only [Bool.false_and]
    clear h1
    go_enter Tryz.func79, Tryz.ntmps79
    go_wp2_with fail
    go_ret
    exact ⟨rfl, rfl⟩
end Go.Proofs.YthahgablbdfodaaGreatDoor
/- The walk of fixed.Parse at every text. -/
set_option maxRecDepth 100000
namespace Go.Proofs.YthahgablbdfodaaGreatDoor
open Go.RowKit Go.Lat Go.Shelf Go.Sort Go.Lib

/-- Where a text is cut. -/
theorem Cut_forms (t : ByteArray) (hs : t.size ≤ 1000) :
    ((∀ k : Nat, t.data.toList[k]? ≠ some 46) ∧ ∀ w, Calls Tryz.prog 69 #[.string t, .string ⟨#[46]⟩] w fun e w' => e = .returned (.tuple #[.string t, .string ⟨#[]⟩, .bool false]) ∧ ∃ n, w' = w.drewN n) ∨
    ∃ i : Nat, i < t.size ∧ t.data.toList[i]? = some 46 ∧ (∀ k : Nat, k < i → t.data.toList[k]? ≠ some 46) ∧ ∀ w, Calls Tryz.prog 69 #[.string t, .string ⟨#[46]⟩] w fun e w' => e = .returned (.tuple #[.string (t.extract 0 i), .string (t.extract (i + 1) t.size), .bool true]) ∧ ∃ n, w' = w.drewN n := by
  have C := fun w => Cut_any w t 46 (by omega)
  have e0 : (⟨#[46]⟩ : ByteArray).data.toList = [46] := rfl
  have z0 : (⟨#[46]⟩ : ByteArray).size = 1 := rfl
  rcases Lib.indexB_cases t ⟨#[46]⟩ with hix | ⟨i, hix, hroom⟩
  · obtain ⟨e1, e2, e3⟩ := Lib.cutB_miss t ⟨#[46]⟩ hix
    rw [e0] at e1 e2 e3
    rw [e1, e2, e3] at C
    rw [indexB_one] at hix
    exact .inl ⟨indexByte_none hix, C⟩
  · obtain ⟨e1, e2, e3⟩ := Lib.cutB_hit t ⟨#[46]⟩ i hix
    rw [e0] at e1 e2 e3
    rw [e1, e2, e3] at C
    rw [indexB_one] at hix
    rw [z0] at hroom C
    obtain ⟨k1, k2⟩ := indexByte_some hix
    exact .inr ⟨i, by omega, k1, k2, C⟩

theorem Parse_bad (w : World) (s t whole part : ByteArray) (neg pt : Bool) (hCP : ∀ w, Calls Tryz.prog 68 #[.string s, .string ⟨#[45]⟩] w fun e w' => e = .returned (.tuple #[.string t, .bool neg]) ∧ w' = w)
    (hC : ∀ w, Calls Tryz.prog 69 #[.string t, .string ⟨#[46]⟩] w fun e w' => e = .returned (.tuple #[.string whole, .string part, .bool pt]) ∧ ∃ n, w' = w.drewN n) (hws : whole.size ≤ 1000) (hps : part.size ≤ 1000)
    (h : isD whole.data.toList = false ∨ (isD whole.data.toList = true ∧ pt = true ∧ isD part.data.toList = false)) : Calls Tryz.prog 55 #[.string s] w fun e w' => e = .returned (.tuple #[.int .i64 0, .int .i64 4]) ∧ Upd w w' (fun _ => False) := by
  have R1 := fun w => run_any w whole (by omega)
  rcases h with h | ⟨h, rfl, h2⟩
  · rw [h] at R1
    clear h
    go_enter Tryz.func55, Tryz.ntmps55
    go_wp2_with fail
    refine Calls.mono (hCP _) ?_
    rintro e w1 ⟨rfl, hw⟩
    replace hw := hw.symm
    subst hw
    go_wp2_with fail
    refine Calls.mono (hC _) ?_
    rintro e w2 ⟨rfl, n2, rfl⟩
    go_wp2_with fail
    refine Calls.mono (R1 _) ?_
    rintro e w3 ⟨rfl, u3⟩
    go_wp2_with fail
    go_ret2
    exact ⟨rfl, ((Upd.refl w _).drewN n2).then u3 (fun _ _ => id)⟩
  · have R2 := fun w => run_any w part (by omega)
    rw [h] at R1
    rw [h2] at R2
    clear h h2
    go_enter Tryz.func55, Tryz.ntmps55
    go_wp2_with fail
    refine Calls.mono (hCP _) ?_
    rintro e w1 ⟨rfl, hw⟩
    replace hw := hw.symm
    subst hw
    go_wp2_with fail
    refine Calls.mono (hC _) ?_
    rintro e w2 ⟨rfl, n2, rfl⟩
    go_wp2_with fail
    refine Calls.mono (R1 _) ?_
    rintro e w3 ⟨rfl, u3⟩
    go_wp2_with fail
    refine Calls.mono (R2 _) ?_
    rintro e w4 ⟨rfl, u4⟩
    go_wp2_with fail
    go_ret2
    exact ⟨rfl, (((Upd.refl w _).drewN n2).then u3 (fun _ _ => id)).then u4 (fun _ _ => id)⟩

/-- A text's number in parts. -/
def parseX (W P : List UInt8) : Nat := dval W * 10000 + (dval P * 100000 / 10 ^ P.length + 5) / 10

set_option maxHeartbeats 1600000 in
theorem Parse_core (w : World) (s t whole part : ByteArray) (neg pt : Bool) (hCP : ∀ w, Calls Tryz.prog 68 #[.string s, .string ⟨#[45]⟩] w fun e w' => e = .returned (.tuple #[.string t, .bool neg]) ∧ w' = w)
    (hC : ∀ w, Calls Tryz.prog 69 #[.string t, .string ⟨#[46]⟩] w fun e w' => e = .returned (.tuple #[.string whole, .string part, .bool pt]) ∧ ∃ n, w' = w.drewN n) (hps : part.size ≤ 1000)
    (four : ByteArray) (hfour : (part ++ ⟨#[48, 48, 48, 48, 48]⟩).extract 0 5 = four) (n F : Nat) (hn18 : n < 1000000000000000000) (f5 : F < 100000)
    (R1 : ∀ w, Calls Tryz.prog 70 #[.string whole] w fun e w' => e = .returned (.bool true) ∧ Upd w w' (fun _ => False))
    (P1 : ∀ w, Calls Tryz.prog 71 #[.string whole, .int .i64 10, .int .i64 64] w fun e w' => e = .returned (.tuple #[.int .u64 (n : Nat), Value.nilIface]) ∧ (w' = w ∨ w' = Lib.bytesWorld w 5 whole))
    (P2 : ∀ w, Calls Tryz.prog 71 #[.string four, .int .i64 10, .int .i64 64] w fun e w' => e = .returned (.tuple #[.int .u64 (F : Nat), Value.nilIface]) ∧ (w' = w ∨ w' = Lib.bytesWorld w 5 four))
    (hpt : pt = true → isD part.data.toList = true) : Calls Tryz.prog 55 #[.string s] w fun e w' => e = .returned (.tuple #[.int .i64 (numV neg (n * 10000 + (F + 5) / 10)), .int .i64 (numE (n * 10000 + (F + 5) / 10))]) ∧ Upd w w' (fun _ => False) := by
  have q1 : ¬ 9223372036854775807 < part.size + 5 := by omega
  obtain ⟨G, hG⟩ : ∃ G, F + 5 = G := ⟨_, rfl⟩
  obtain ⟨m, hm⟩ : ∃ m, G / 10 = m := ⟨_, rfl⟩
  have g1 : (F : Int) + 5 = (G : Int) := by omega
  have g2 : IntKind.u64.wrap (G : Int) = (G : Int) := by rw [IntKind.wrap_u64]; omega
  have g3 : (G : Int) / 10 = (m : Int) := by omega
  have g3' : (G : Int).tdiv 10 = (m : Int) := by rw [← hm]; rfl
  have g4 : IntKind.u64.wrap (m : Int) = (m : Int) := by rw [IntKind.wrap_u64]; omega
  rw [hG, hm]
  have hmb : m ≤ 10000 := by omega
  clear hG hm
  unfold numV numE
  by_cases c1 : 900000000000000 < n
  · have d1 : decide ((900000000000000 : Int) < (n : Int)) = true := by simp; omega
    have d1' : decide (900000000000000 < n) = true := by simpa using c1
    rw [if_pos (by omega), if_pos (by omega)]
    clear c1 hmb hn18 f5
    cases pt with
    | true =>
      have hp2 := hpt rfl
      have R2 := fun w => run_any w part (by omega)
      rw [hp2] at R2
      clear hp2 hpt
      go_enter Tryz.func55, Tryz.ntmps55
      go_wp2_with fail
      refine Calls.mono (hCP _) ?_
      rintro e w1 ⟨rfl, hw⟩
      replace hw := hw.symm
      subst hw
      go_wp2_with fail
      refine Calls.mono (hC _) ?_
      rintro e w2 ⟨rfl, n2, rfl⟩
      go_wp2_with fail
      refine Calls.mono (R1 _) ?_
      rintro e w3 ⟨rfl, u3⟩
      go_wp2_with fail
      refine Calls.mono (R2 _) ?_
      rintro e w4 ⟨rfl, u4⟩
      go_wp2_with fail
      refine Calls.mono (P1 _) ?_
      rintro e w5 ⟨rfl, u5⟩
      go_wp2_with fail
      refine Calls.mono (P2 _) ?_
      rintro e w6 ⟨rfl, u6⟩
      go_wp2_with fail
      go_ret2
      refine ⟨rfl, ?_⟩
      have b5 : Upd w4 w5 (fun _ => False) := by
        rcases u5 with rfl | rfl
        · exact Upd.refl _ _
        · exact Upd.of_below (Lib.bytesWorld_below _ _ _) _
      have b6 : Upd w5 w6 (fun _ => False) := by
        rcases u6 with rfl | rfl
        · exact Upd.refl _ _
        · exact Upd.of_below (Lib.bytesWorld_below _ _ _) _
      exact ((((Upd.refl w _).drewN n2).then u3 (fun _ _ => id)).then u4 (fun _ _ => id)).then (b5.then b6 (fun _ _ => id)) (fun _ _ => id)
    | false =>
      clear hpt
      go_enter Tryz.func55, Tryz.ntmps55
      go_wp2_with fail
      refine Calls.mono (hCP _) ?_
      rintro e w1 ⟨rfl, hw⟩
      replace hw := hw.symm
      subst hw
      go_wp2_with fail
      refine Calls.mono (hC _) ?_
      rintro e w2 ⟨rfl, n2, rfl⟩
      go_wp2_with fail
      refine Calls.mono (R1 _) ?_
      rintro e w3 ⟨rfl, u3⟩
      go_wp2_with fail
      refine Calls.mono (P1 _) ?_
      rintro e w5 ⟨rfl, u5⟩
      go_wp2_with fail
      refine Calls.mono (P2 _) ?_
      rintro e w6 ⟨rfl, u6⟩
      go_wp2_with fail
      go_ret2
      refine ⟨rfl, ?_⟩
      have b5 : Upd w3 w5 (fun _ => False) := by
        rcases u5 with rfl | rfl
        · exact Upd.refl _ _
        · exact Upd.of_below (Lib.bytesWorld_below _ _ _) _
      have b6 : Upd w5 w6 (fun _ => False) := by
        rcases u6 with rfl | rfl
        · exact Upd.refl _ _
        · exact Upd.of_below (Lib.bytesWorld_below _ _ _) _
      exact (((Upd.refl w _).drewN n2).then u3 (fun _ _ => id)).then (b5.then b6 (fun _ _ => id)) (fun _ _ => id)
  · have d1 : decide ((900000000000000 : Int) < (n : Int)) = false := by simp; omega
    have d1' : decide (900000000000000 < n) = false := by simpa using c1
    obtain ⟨A, hA⟩ : ∃ A, n * 10000 = A := ⟨_, rfl⟩
    obtain ⟨X, hX⟩ : ∃ X, A + m = X := ⟨_, rfl⟩
    have a1 : (n : Int) * 10000 = (A : Int) := by omega
    have a2 : IntKind.u64.wrap (A : Int) = (A : Int) := by rw [IntKind.wrap_u64]; omega
    have a3 : (A : Int) + (m : Int) = (X : Int) := by omega
    have a4 : IntKind.u64.wrap (X : Int) = (X : Int) := by rw [IntKind.wrap_u64]; omega
    rw [hA, hX]
    by_cases c2 : 9000000000000000000 < X
    · have d2 : decide ((9000000000000000000 : Int) < (X : Int)) = true := by simp; omega
      have d2' : decide (9000000000000000000 < X) = true := by simpa using c2
      rw [if_pos c2, if_pos c2]
      clear c1 c2 hmb hn18 hA hX f5
      cases pt with
      | true =>
        have hp2 := hpt rfl
        have R2 := fun w => run_any w part (by omega)
        rw [hp2] at R2
        clear hp2 hpt
        go_enter Tryz.func55, Tryz.ntmps55
        go_wp2_with fail
        refine Calls.mono (hCP _) ?_
        rintro e w1 ⟨rfl, hw⟩
        replace hw := hw.symm
        subst hw
        go_wp2_with fail
        refine Calls.mono (hC _) ?_
        rintro e w2 ⟨rfl, n2, rfl⟩
        go_wp2_with fail
        refine Calls.mono (R1 _) ?_
        rintro e w3 ⟨rfl, u3⟩
        go_wp2_with fail
        refine Calls.mono (R2 _) ?_
        rintro e w4 ⟨rfl, u4⟩
        go_wp2_with fail
        refine Calls.mono (P1 _) ?_
        rintro e w5 ⟨rfl, u5⟩
        go_wp2_with fail
        refine Calls.mono (P2 _) ?_
        rintro e w6 ⟨rfl, u6⟩
        go_wp2_with fail
        go_ret2
        refine ⟨rfl, ?_⟩
        have b5 : Upd w4 w5 (fun _ => False) := by
          rcases u5 with rfl | rfl
          · exact Upd.refl _ _
          · exact Upd.of_below (Lib.bytesWorld_below _ _ _) _
        have b6 : Upd w5 w6 (fun _ => False) := by
          rcases u6 with rfl | rfl
          · exact Upd.refl _ _
          · exact Upd.of_below (Lib.bytesWorld_below _ _ _) _
        exact ((((Upd.refl w _).drewN n2).then u3 (fun _ _ => id)).then u4 (fun _ _ => id)).then (b5.then b6 (fun _ _ => id)) (fun _ _ => id)
      | false =>
        clear hpt
        go_enter Tryz.func55, Tryz.ntmps55
        go_wp2_with fail
        refine Calls.mono (hCP _) ?_
        rintro e w1 ⟨rfl, hw⟩
        replace hw := hw.symm
        subst hw
        go_wp2_with fail
        refine Calls.mono (hC _) ?_
        rintro e w2 ⟨rfl, n2, rfl⟩
        go_wp2_with fail
        refine Calls.mono (R1 _) ?_
        rintro e w3 ⟨rfl, u3⟩
        go_wp2_with fail
        refine Calls.mono (P1 _) ?_
        rintro e w5 ⟨rfl, u5⟩
        go_wp2_with fail
        refine Calls.mono (P2 _) ?_
        rintro e w6 ⟨rfl, u6⟩
        go_wp2_with fail
        go_ret2
        refine ⟨rfl, ?_⟩
        have b5 : Upd w3 w5 (fun _ => False) := by
          rcases u5 with rfl | rfl
          · exact Upd.refl _ _
          · exact Upd.of_below (Lib.bytesWorld_below _ _ _) _
        have b6 : Upd w5 w6 (fun _ => False) := by
          rcases u6 with rfl | rfl
          · exact Upd.refl _ _
          · exact Upd.of_below (Lib.bytesWorld_below _ _ _) _
        exact (((Upd.refl w _).drewN n2).then u3 (fun _ _ => id)).then (b5.then b6 (fun _ _ => id)) (fun _ _ => id)
    · have d2 : decide ((9000000000000000000 : Int) < (X : Int)) = false := by simp; omega
      have d2' : decide (9000000000000000000 < X) = false := by simpa using c2
      have a5 : IntKind.i64.wrap (X : Int) = (X : Int) := IntWalk.i64_in _ (by omega)
      have a6 : IntKind.i64.wrap (-(X : Int)) = -(X : Int) := IntWalk.i64_in _ (by omega)
      rw [if_neg c2, if_neg c2]
      clear c1 c2 hmb hn18 hA hX f5
      cases pt with
      | true =>
        have hp2 := hpt rfl
        have R2 := fun w => run_any w part (by omega)
        rw [hp2] at R2
        clear hp2 hpt
        cases neg with
        | true =>
          go_enter Tryz.func55, Tryz.ntmps55
          go_wp2_with fail
          refine Calls.mono (hCP _) ?_
          rintro e w1 ⟨rfl, hw⟩
          replace hw := hw.symm
          subst hw
          go_wp2_with fail
          refine Calls.mono (hC _) ?_
          rintro e w2 ⟨rfl, n2, rfl⟩
          go_wp2_with fail
          refine Calls.mono (R1 _) ?_
          rintro e w3 ⟨rfl, u3⟩
          go_wp2_with fail
          refine Calls.mono (R2 _) ?_
          rintro e w4 ⟨rfl, u4⟩
          go_wp2_with fail
          refine Calls.mono (P1 _) ?_
          rintro e w5 ⟨rfl, u5⟩
          go_wp2_with fail
          refine Calls.mono (P2 _) ?_
          rintro e w6 ⟨rfl, u6⟩
          go_wp2_with fail
          go_ret2
          refine ⟨rfl, ?_⟩
          have b5 : Upd w4 w5 (fun _ => False) := by
            rcases u5 with rfl | rfl
            · exact Upd.refl _ _
            · exact Upd.of_below (Lib.bytesWorld_below _ _ _) _
          have b6 : Upd w5 w6 (fun _ => False) := by
            rcases u6 with rfl | rfl
            · exact Upd.refl _ _
            · exact Upd.of_below (Lib.bytesWorld_below _ _ _) _
          exact ((((Upd.refl w _).drewN n2).then u3 (fun _ _ => id)).then u4 (fun _ _ => id)).then (b5.then b6 (fun _ _ => id)) (fun _ _ => id)
        | false =>
          go_enter Tryz.func55, Tryz.ntmps55
          go_wp2_with fail
          refine Calls.mono (hCP _) ?_
          rintro e w1 ⟨rfl, hw⟩
          replace hw := hw.symm
          subst hw
          go_wp2_with fail
          refine Calls.mono (hC _) ?_
          rintro e w2 ⟨rfl, n2, rfl⟩
          go_wp2_with fail
          refine Calls.mono (R1 _) ?_
          rintro e w3 ⟨rfl, u3⟩
          go_wp2_with fail
          refine Calls.mono (R2 _) ?_
          rintro e w4 ⟨rfl, u4⟩
          go_wp2_with fail
          refine Calls.mono (P1 _) ?_
          rintro e w5 ⟨rfl, u5⟩
          go_wp2_with fail
          refine Calls.mono (P2 _) ?_
          rintro e w6 ⟨rfl, u6⟩
          go_wp2_with fail
          go_ret2
          refine ⟨rfl, ?_⟩
          have b5 : Upd w4 w5 (fun _ => False) := by
            rcases u5 with rfl | rfl
            · exact Upd.refl _ _
            · exact Upd.of_below (Lib.bytesWorld_below _ _ _) _
          have b6 : Upd w5 w6 (fun _ => False) := by
            rcases u6 with rfl | rfl
            · exact Upd.refl _ _
            · exact Upd.of_below (Lib.bytesWorld_below _ _ _) _
          exact ((((Upd.refl w _).drewN n2).then u3 (fun _ _ => id)).then u4 (fun _ _ => id)).then (b5.then b6 (fun _ _ => id)) (fun _ _ => id)
      | false =>
        clear hpt
        cases neg with
        | true =>
          go_enter Tryz.func55, Tryz.ntmps55
          go_wp2_with fail
          refine Calls.mono (hCP _) ?_
          rintro e w1 ⟨rfl, hw⟩
          replace hw := hw.symm
          subst hw
          go_wp2_with fail
          refine Calls.mono (hC _) ?_
          rintro e w2 ⟨rfl, n2, rfl⟩
          go_wp2_with fail
          refine Calls.mono (R1 _) ?_
          rintro e w3 ⟨rfl, u3⟩
          go_wp2_with fail
          refine Calls.mono (P1 _) ?_
          rintro e w5 ⟨rfl, u5⟩
          go_wp2_with fail
          refine Calls.mono (P2 _) ?_
          rintro e w6 ⟨rfl, u6⟩
          go_wp2_with fail
          go_ret2
          refine ⟨rfl, ?_⟩
          have b5 : Upd w3 w5 (fun _ => False) := by
            rcases u5 with rfl | rfl
            · exact Upd.refl _ _
            · exact Upd.of_below (Lib.bytesWorld_below _ _ _) _
          have b6 : Upd w5 w6 (fun _ => False) := by
            rcases u6 with rfl | rfl
            · exact Upd.refl _ _
            · exact Upd.of_below (Lib.bytesWorld_below _ _ _) _
          exact (((Upd.refl w _).drewN n2).then u3 (fun _ _ => id)).then (b5.then b6 (fun _ _ => id)) (fun _ _ => id)
        | false =>
          go_enter Tryz.func55, Tryz.ntmps55
          go_wp2_with fail
          refine Calls.mono (hCP _) ?_
          rintro e w1 ⟨rfl, hw⟩
          replace hw := hw.symm
          subst hw
          go_wp2_with fail
          refine Calls.mono (hC _) ?_
          rintro e w2 ⟨rfl, n2, rfl⟩
          go_wp2_with fail
          refine Calls.mono (R1 _) ?_
          rintro e w3 ⟨rfl, u3⟩
          go_wp2_with fail
          refine Calls.mono (P1 _) ?_
          rintro e w5 ⟨rfl, u5⟩
          go_wp2_with fail
          refine Calls.mono (P2 _) ?_
          rintro e w6 ⟨rfl, u6⟩
          go_wp2_with fail
          go_ret2
          refine ⟨rfl, ?_⟩
          have b5 : Upd w3 w5 (fun _ => False) := by
            rcases u5 with rfl | rfl
            · exact Upd.refl _ _
            · exact Upd.of_below (Lib.bytesWorld_below _ _ _) _
          have b6 : Upd w5 w6 (fun _ => False) := by
            rcases u6 with rfl | rfl
            · exact Upd.refl _ _
            · exact Upd.of_below (Lib.bytesWorld_below _ _ _) _
          exact (((Upd.refl w _).drewN n2).then u3 (fun _ _ => id)).then (b5.then b6 (fun _ _ => id)) (fun _ _ => id)

theorem Parse_ok (w : World) (s t whole part : ByteArray) (neg pt : Bool) (hCP : ∀ w, Calls Tryz.prog 68 #[.string s, .string ⟨#[45]⟩] w fun e w' => e = .returned (.tuple #[.string t, .bool neg]) ∧ w' = w)
    (hC : ∀ w, Calls Tryz.prog 69 #[.string t, .string ⟨#[46]⟩] w fun e w' => e = .returned (.tuple #[.string whole, .string part, .bool pt]) ∧ ∃ n, w' = w.drewN n) (hws : whole.size ≤ 1000) (hps : part.size ≤ 1000)
    (hw : isD whole.data.toList = true) (hpall : part.data.toList.all dgB = true) (hpt : pt = true → isD part.data.toList = true) : Calls Tryz.prog 55 #[.string s] w fun e w' => e = .returned (.tuple #[.int .i64 (numV neg (parseX whole.data.toList part.data.toList)), .int .i64 (numE (parseX whole.data.toList part.data.toList))]) ∧ Upd w w' (fun _ => False) := by
  have R1 := fun w => run_any w whole (by omega)
  rw [hw] at R1
  simp only [isD, Bool.and_eq_true, decide_eq_true_eq] at hw
  obtain ⟨⟨hw1, hw2⟩, hw3⟩ := hw
  have P1 := fun w => Tryz.strconv_ParseUint_10_at64_ok whole (by omega) (dval whole.data.toList) (parse_digits _ hw3 hw1 hw2) w
  have hfive : ((part ++ ⟨#[48, 48, 48, 48, 48]⟩).extract 0 5).data.toList = (part.data.toList ++ [48, 48, 48, 48, 48]).take 5 := by
    simp [ByteArray.data_extract, ByteArray.data_append]
    rw [List.take_append]
    rfl
  obtain ⟨f1, f2, f3⟩ := five part.data.toList hpall
  rw [← hfive] at f1 f2 f3
  obtain ⟨four, hfour⟩ : ∃ four, (part ++ ⟨#[48, 48, 48, 48, 48]⟩ : ByteArray).extract 0 5 = four := ⟨_, rfl⟩
  rw [hfour] at f1 f2 f3
  have hfs : four.size = 5 := f3
  have P2 := fun w => Tryz.strconv_ParseUint_10_at64_ok four (by omega) (dval four.data.toList) (parse_digits _ f2 (by omega) (by omega)) w
  have f5 := dval_lt _ f2
  rw [f3] at f5
  have hW := dval_lt _ hw3
  have hW18 : 10 ^ whole.data.toList.length ≤ 10 ^ 18 := Nat.pow_le_pow_right (by omega) hw2
  have k := Parse_core w s t whole part neg pt hCP hC hps four hfour _ _ (Nat.lt_of_lt_of_le hW hW18) f5 R1 P1 P2 hpt
  rw [f1] at k
  exact k
end Go.Proofs.YthahgablbdfodaaGreatDoor
/- The walk of the reference's Parse at every text. -/
set_option maxRecDepth 100000
namespace Go.Proofs.YthahgablbdfodaaGreatDoor
open Go.RowKit Go.Lat

theorem byte_digit (t : ByteArray) (l : List UInt8) (k : Nat) (hk : k < t.size) (hl : t.data.toList = l) (ha : l.all dgB = true) : 48 ≤ t[k].toNat ∧ t[k].toNat ≤ 57 ∧ l[k]? = some t[k] := by
  have h := byte_list t k hk
  rw [hl] at h
  have := List.all_eq_true.1 ha _ (List.mem_of_getElem? h)
  simp [dgB] at this
  exact ⟨this.1, this.2, h⟩
theorem drop_get (l : List UInt8) (k : Nat) (b : UInt8) (h : l[k]? = some b) : l.drop k = b :: l.drop (k + 1) := by
  obtain ⟨hk, e⟩ := List.getElem?_eq_some_iff.1 h
  rw [List.drop_eq_getElem_cons hk, e]
end Go.Proofs.YthahgablbdfodaaGreatDoor
