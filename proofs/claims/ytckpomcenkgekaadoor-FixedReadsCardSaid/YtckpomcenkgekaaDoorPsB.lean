/- The walks of fixed.run and of the reference's all, at every text. -/
import Derived.Test.YtckpomcenkgekaaDoorPsA
import Derived.Test.YtckpomcenkgekaaDoorPar
set_option maxRecDepth 100000
namespace Go.Proofs.YtckpomcenkgekaaDoor
open Go.RowKit Go.Lat Go.Shelf Go.Sort Go.Lib

theorem dgs_contains (b : UInt8) : dgs.contains b = dgB b := by
  have h : ∀ n, n < 256 → dgs.contains (UInt8.ofNat n) = dgB (UInt8.ofNat n) := by decide +kernel
  have := h b.toNat b.toNat_lt
  simpa using this

theorem dropWhile_nil (p : UInt8 → Bool) : ∀ l : List UInt8, l.dropWhile p = [] ↔ ∀ x ∈ l, p x = true
  | [] => by simp
  | b :: l => by
    have ih := dropWhile_nil p l
    cases h : p b with
    | true => simp [List.dropWhile, h, ih]
    | false => simp [List.dropWhile, h]

theorem takeWhile_all (p : UInt8 → Bool) : ∀ (l : List UInt8) (x : UInt8), x ∈ l.takeWhile p → p x = true
  | [], x, h => by simp at h
  | b :: l, x, h => by
    cases hb : p b with
    | true =>
      simp only [List.takeWhile, hb, List.mem_cons] at h
      rcases h with h | h
      · rw [h]; exact hb
      · exact takeWhile_all p l x h
    | false => simp [List.takeWhile, hb] at h

theorem trim_all (l : List UInt8) (h : l.all dgB = true) : trimS l dgs = [] := by
  have e : trimRightS l dgs = [] := by
    unfold trimRightS
    rw [List.reverse_eq_nil_iff, dropWhile_nil]
    intro x hx
    rw [dgs_contains]
    exact List.all_eq_true.1 h x (List.mem_reverse.1 hx)
  unfold trimS
  rw [e]
  rfl

theorem trim_some (l : List UInt8) (h : l.all dgB = false) : trimS l dgs ≠ [] := by
  intro e
  have hall : l.all dgB = true := by
    unfold trimS trimLeftS at e
    rw [dropWhile_nil] at e
    unfold trimRightS at e
    rw [List.all_eq_true]
    intro x hx
    have hx' : x ∈ l.reverse := List.mem_reverse.2 hx
    rw [← List.takeWhile_append_dropWhile (p := (dgs.contains ·)) (l := l.reverse)] at hx'
    rw [← dgs_contains]
    rcases List.mem_append.1 hx' with k | k
    · exact takeWhile_all _ _ _ k
    · exact e x (List.mem_reverse.2 k)
  rw [h] at hall
  cases hall

set_option maxHeartbeats 1600000 in
theorem run_any (w : World) (s : ByteArray) (hs : s.size ≤ 1000) :
    Calls Tryd.prog 43 #[.string s] w fun e w' => e = .returned (.bool (isD s.data.toList)) ∧ Upd w w' (fun _ => False) := by
  have hsz : s.data.toList.length = s.size := rfl
  have hT := fun w => Any.strings_Trim_laid Tryd.lays160 (by kernel_rfl) s ⟨#[48, 49, 50, 51, 52, 53, 54, 55, 56, 57]⟩ w (by omega) (by decide) (ascii_of_all (by decide))
  rw [show (⟨#[48, 49, 50, 51, 52, 53, 54, 55, 56, 57]⟩ : ByteArray).data.toList = dgs from rfl] at hT
  change ∀ w, Calls Tryd.prog 58 _ _ _ at hT
  unfold isD
  rw [hsz]
  by_cases h1 : 1 ≤ s.size
  · have d1 : decide ((1 : Int) ≤ (s.size : Int)) = true := by simp; omega
    have d3 : decide (1 ≤ s.size) = true := by simpa using h1
    rw [d3]
    by_cases h2 : s.size ≤ 18
    · have d2 : decide ((s.size : Int) ≤ 18) = true := by simp; omega
      have d4 : decide (s.size ≤ 18) = true := by simpa using h2
      rw [d4]
      simp only [Bool.true_and]
      cases h : s.data.toList.all dgB with
      | true =>
        rw [trim_all _ h] at hT
        clear h h1 h2
        go_enter Tryd.func43, Tryd.ntmps43
        go_wp2_with fail
        refine Calls.mono (hT _) ?_
        rintro e w1 ⟨rfl, hB⟩
        go_wp2_with fail
        go_ret
        exact ⟨rfl, Upd.of_below hB _⟩
      | false =>
        have hne := trim_some _ h
        have hr : (⟨(trimS s.data.toList dgs).toArray⟩ : ByteArray).toList ≠ [] := by
          rw [ByteArray.toList_eq]
          exact hne
        generalize (⟨(trimS s.data.toList dgs).toArray⟩ : ByteArray) = r at *
        clear h h1 h2 hne
        go_enter Tryd.func43, Tryd.ntmps43
        go_wp2_with fail
        refine Calls.mono (hT _) ?_
        rintro e w1 ⟨rfl, hB⟩
        go_wp2_with fail
        go_ret
        exact ⟨by simpa using hr, Upd.of_below hB _⟩
    · have d2 : decide ((s.size : Int) ≤ 18) = false := by simp; omega
      have d4 : decide (s.size ≤ 18) = false := by simpa using h2
      rw [d4]
      simp only [Bool.true_and, Bool.false_and]
      clear h1 h2 hT
      go_enter Tryd.func43, Tryd.ntmps43
      go_wp2_with fail
      go_ret
      exact ⟨rfl, Upd.refl _ _⟩
  · have d1 : decide ((1 : Int) ≤ (s.size : Int)) = false := by simp; omega
    have d3 : decide (1 ≤ s.size) = false := by simpa using h1
    rw [d3]
    simp only [Bool.false_and]
    clear h1 hT
    go_enter Tryd.func43, Tryd.ntmps43
    go_wp2_with fail
    go_ret
    exact ⟨rfl, Upd.refl _ _⟩

/-- A byte of a text. -/
theorem byte_list (s : ByteArray) (i : Nat) (h : i < s.size) : s.data.toList[i]? = some s[i] := by
  have h' : i < s.data.toList.length := h
  rw [List.getElem?_eq_getElem h']
  rfl

set_option maxHeartbeats 1600000 in
theorem all_any (w : World) (s : ByteArray) (hs : s.size ≤ 1000) :
    Calls Tryd.prog 45 #[.string s] w fun e w' => e = .returned (.bool (isD s.data.toList)) ∧ w' = w := by
  have hsz : s.data.toList.length = s.size := rfl
  unfold isD
  rw [hsz]
  by_cases h1 : 1 ≤ s.size
  · have d1 : decide ((s.size : Int) < 1) = false := by simp; omega
    have d1' : decide (s.size < 1) = false := decide_eq_false (by omega)
    have d3 : decide (1 ≤ s.size) = true := by simpa using h1
    rw [d3]
    by_cases h2 : s.size ≤ 18
    · have d2 : decide ((18 : Int) < (s.size : Int)) = false := by simp; omega
      have d2' : decide (18 < s.size) = false := by simp; omega
      have d4 : decide (s.size ≤ 18) = true := by simpa using h2
      rw [d4]
      simp only [Bool.true_and]
      obtain ⟨X, hX⟩ : ∃ X, s.data.toList.all dgB = X := ⟨_, rfl⟩
      rw [hX]
      have HX := hide hX
      clear hX hsz
      go_enter Tryd.func45, Tryd.ntmps45
      go_wp2_with fail
      go_loopg [3] s.size (fun q v wr => wr = w ∧ ∃ i : Nat, i + q = s.size ∧ v = .int .i64 i ∧ ∀ k, k < i → ∀ b, s.data.toList[k]? = some b → dgB b = true)
      case atStart => exact ⟨rfl, 0, by omega, rfl, fun k hk => absurd hk (by omega)⟩
      case round =>
        obtain ⟨hwr, i, hi, rfl, hall⟩ := hrel
        replace hwr := hwr.symm
        subst hwr
        have HA := hide hall
        clear hall
        by_cases hin : i < s.size
        · have c1 : decide (i < s.size) = true := by simpa using hin
          have hb := byte_list s i hin
          obtain ⟨z, hz⟩ : ∃ z, s[i].toNat = z := ⟨_, rfl⟩
          have HB : Hid (∀ b, s.data.toList[i]? = some b → b.toNat = z) := hide (fun b k => by rw [hb] at k; cases k; exact hz)
          have HB2 : Hid (z < 48 ∨ 57 < z → X = false) := hide (fun hn => by
            rw [← HX.out, Bool.eq_false_iff]
            intro hall
            have := List.all_eq_true.1 hall _ (List.mem_of_getElem? hb)
            simp [dgB] at this
            omega)
          clear hb
          by_cases z1 : z < 48
          · have e1 : decide ((z : Int) < 48) = true := by simp; omega
            have hX := HB2.out (.inl z1)
            subst hX
            go_wp2_with fail
            go_ret
            exact ⟨rfl, rfl⟩
          · have e1 : decide ((z : Int) < 48) = false := by simp; omega
            by_cases z2 : 57 < z
            · have e2 : decide ((57 : Int) < (z : Int)) = true := by simp; omega
              have hX := HB2.out (.inr z2)
              subst hX
              go_wp2_with fail
              go_ret
              exact ⟨rfl, rfl⟩
            · have e2 : decide ((57 : Int) < (z : Int)) = false := by simp; omega
              go_wp2_with fail
              go_roundg (gk - 1)
              case measure => omega
              case rel =>
                refine ⟨rfl, i + 1, by omega, by go_num, fun k hk b hb => ?_⟩
                by_cases hki : k < i
                · exact HA.out k hki b hb
                · obtain rfl : k = i := by omega
                  have := HB.out b hb
                  simp [dgB]
                  omega
        · have c1 : decide (i < s.size) = false := by simpa using hin
          have he : i = s.size := by omega
          subst he
          go_wp2_with fail
          go_ret
          refine ⟨?_, rfl⟩
          have hXt : s.data.toList.all dgB = true := by
            rw [List.all_eq_true]
            intro b hb
            obtain ⟨k, hk, e⟩ := List.mem_iff_getElem.1 hb
            exact HA.out k hk b (by rw [List.getElem?_eq_getElem hk, e])
          rw [← HX.out, hXt]
          rfl
    · have d2 : decide ((18 : Int) < (s.size : Int)) = true := by simp; omega
      have d2' : decide (18 < s.size) = true := by simp; omega
      have d4 : decide (s.size ≤ 18) = false := by simpa using h2
      rw [d4]
      simp only [Bool.true_and, Bool.false_and]
      clear h1 h2
      go_enter Tryd.func45, Tryd.ntmps45
      go_wp2_with fail
      go_ret
      exact ⟨rfl, rfl⟩
  · have d1 : decide ((s.size : Int) < 1) = true := by simp; omega
    have d1' : decide (s.size < 1) = true := decide_eq_true (by omega)
    have d3 : decide (1 ≤ s.size) = false := by simpa using h1
    rw [d3]
    simp only [Bool.false_and]
    clear h1
    go_enter Tryd.func45, Tryd.ntmps45
    go_wp2_with fail
    go_ret
    exact ⟨rfl, rfl⟩
end Go.Proofs.YtckpomcenkgekaaDoor
