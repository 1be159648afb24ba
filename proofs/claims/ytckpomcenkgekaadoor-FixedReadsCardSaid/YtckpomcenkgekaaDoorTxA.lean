/- Plain laws: the digits of a number's text. -/
import Derived.Test.YtckpomcenkgekaaDoorPsD
import Derived.Test.YtckpomcenkgekaaDoorFxE
set_option maxRecDepth 100000
namespace Go.Proofs.YtckpomcenkgekaaDoor
open Go.RowKit Go.Lat Go.Shelf Go.Sort
open Go.Lib (decDigits trimRightB)

/-- A digit's byte. -/
def ch (d : Nat) : UInt8 := UInt8.ofNat (48 + d)

theorem dec_dg : ∀ u, 0 < u → decDigits u = (Lat.dg u).reverse.map ch := by
  intro u
  induction u using Nat.strongRecOn with
  | ind u ih =>
    intro hu
    rw [dg_pos (by omega), List.reverse_cons, List.map_append]
    unfold decDigits
    by_cases h : u < 10
    · rw [dif_pos h, show u / 10 = 0 from by omega, dg_zero, show u % 10 = u from by omega]
      rfl
    · rw [dif_neg h, ih (u / 10) (by omega) (by omega)]
      rfl

theorem val_zeros (z : Nat) : val (List.replicate z 0) = 0 := val_zero _ (fun _ hd => List.eq_of_mem_replicate hd)

/-- The whole part, from above. -/
theorem text_whole (x z : Nat) (dl : List Nat) (h : dl = Lat.dg x ++ List.replicate z 0) (h5 : 5 ≤ dl.length) (hz : dl.length ≤ 5 ∨ z = 0) : (dl.drop 4).reverse.map ch = decDigits (x / 10000) := by
  by_cases hz0 : z = 0
  · subst hz0
    rw [List.replicate_zero, List.append_nil] at h
    have hd := dg_drop 4 x
    rw [show (10 : Nat) ^ 4 = 10000 from by decide, ← h] at hd
    have hu : 0 < x / 10000 := by
      rcases Nat.eq_zero_or_pos (x / 10000) with e | e
      · rw [e, dg_zero] at hd
        have := congrArg List.length hd
        rw [List.length_drop] at this
        simp at this
        omega
      · exact e
    rw [hd, dec_dg _ hu]
  · have h5' : dl.length = 5 := by omega
    have hl : (Lat.dg x).length + z = 5 := by
      rw [h, List.length_append, List.length_replicate] at h5'
      exact h5'
    have hx := val_lt (Lat.dg x) (dg_norm x).1
    rw [val_dg] at hx
    have hp : 10 ^ (Lat.dg x).length ≤ 10 ^ 4 := Nat.pow_le_pow_right (by omega) (by omega)
    have e4 : (10 : Nat) ^ 4 = 10000 := by decide
    have hu : x / 10000 = 0 := Nat.div_eq_of_lt (by omega)
    have hd : dl.drop 4 = [0] := by
      rw [h, List.drop_append, List.drop_eq_nil_of_le (by omega), List.drop_replicate, show z - (4 - (Lat.dg x).length) = 1 from by omega]
      rfl
    rw [hd, hu]
    unfold decDigits
    rw [dif_pos (by omega)]
    rfl

/-- The four places behind the point. -/
theorem text_four (x z : Nat) (dl : List Nat) (h : dl = Lat.dg x ++ List.replicate z 0) (h5 : 5 ≤ dl.length) :
    (dl.take 4).length = 4 ∧ (∀ d ∈ dl, d < 10) ∧ val (dl.take 4) = x % 10000 ∧ (decDigits (10000 + x % 10000)).drop 1 = (dl.take 4).reverse.map ch := by
  have h10 : ∀ d ∈ dl, d < 10 := by
    intro d hd
    rw [h] at hd
    rcases List.mem_append.1 hd with k | k
    · exact (dg_norm x).1 d k
    · rw [List.eq_of_mem_replicate k]
      omega
  have hv : val dl = x := by rw [h, val_append, val_dg, val_zeros, Nat.mul_zero, Nat.add_zero]
  have hl : (dl.take 4).length = 4 := by rw [List.length_take]; omega
  have h10' : ∀ d ∈ dl.take 4, d < 10 := fun d hd => h10 d (List.mem_of_mem_take hd)
  have hlt := val_lt (dl.take 4) h10'
  rw [hl, show (10 : Nat) ^ 4 = 10000 from by decide] at hlt
  have hs := val_append (dl.take 4) (dl.drop 4)
  rw [List.take_append_drop, hv, hl, show (10 : Nat) ^ 4 = 10000 from by decide] at hs
  have hm : val (dl.take 4) = x % 10000 := by omega
  refine ⟨hl, h10, hm, ?_⟩
  have hn : dl.take 4 ++ [1] = Lat.dg (10000 + x % 10000) := by
    have e : val (dl.take 4 ++ [1]) = 10000 + x % 10000 := by
      rw [val_append, hl, show (10 : Nat) ^ 4 = 10000 from by decide, hm]
      simp [val]
      omega
    rw [← e]
    refine norm_dg _ ⟨?_, ?_⟩
    · intro d hd
      rcases List.mem_append.1 hd with k | k
      · exact h10' d k
      · simp at k; omega
    · intro hne
      simp
  rw [dec_dg _ (by omega), ← hn]
  simp

/-- What is struck behind the part. -/
theorem text_part (f : List Nat) (n : Nat) (h10 : ∀ d ∈ f, d < 10) (hz : ∀ k, k < n → f.getD k 0 = 0) (hn : n < f.length) (h : f.getD n 0 ≠ 0) : trimRightB (f.reverse.map ch) 48 = (f.drop n).reverse.map ch := by
  have key : ∀ (n : Nat) (f : List Nat), (∀ d ∈ f, d < 10) → (∀ k, k < n → f.getD k 0 = 0) → n < f.length → f.getD n 0 ≠ 0 → (f.map ch).dropWhile (· == 48) = (f.drop n).map ch := by
    intro n
    induction n with
    | zero =>
      intro f h10 _ hl h
      cases f with
      | nil => simp at hl
      | cons d l =>
        have hd := h10 d (by simp)
        have hd0 : d ≠ 0 := by simpa using h
        have e : (ch d == 48) = false := by
          have : ch d ≠ 48 := by
            intro e
            have := congrArg UInt8.toNat e
            simp [ch] at this
            omega
          simpa using this
        simp [e]
    | succ n ih =>
      intro f h10 hz hl h
      cases f with
      | nil => simp at hl
      | cons d l =>
        have h0 := hz 0 (by omega)
        simp at h0
        subst h0
        have e : (ch 0 == 48) = true := by decide
        simp only [List.map_cons, List.dropWhile, e, List.drop_succ_cons]
        refine ih l (fun d hd => h10 d (by simp [hd])) (fun k hk => ?_) (by simpa using hl) (by simpa using h)
        have := hz (k + 1) (by omega)
        simpa using this
  unfold trimRightB
  rw [← List.map_reverse, List.reverse_reverse, key n f h10 hz hn h, List.map_reverse]

/-- A number's text. -/
def txt (s : Bool) (x : Nat) : List UInt8 := (if s then [45] else []) ++ (decDigits (x / 10000) ++ if x % 10000 = 0 then [] else 46 :: trimRightB ((decDigits (10000 + x % 10000)).drop 1) 48)

theorem Text_any (s : Bool) (x : Nat) (hx : x ≤ 9000000000000000000) (h0 : s = true → 0 < x) (w : World) (ht : Pow w) :
    Calls Tryd.prog 18 #[.int .i64 (if s then -(x : Int) else x)] w fun e w' => e = .returned (.string ⟨(txt s x).toArray⟩) ∧ Upd w w' (fun _ => False) := by
  unfold txt
  by_cases hr : x % 10000 = 0
  · rw [if_pos hr, List.append_nil]
    refine Calls.mono (Text_whole w s x hx h0 hr ht) ?_
    rintro e w' ⟨⟨t, rfl, et⟩, u⟩
    exact ⟨by rw [Go.WideShapes.bytes_inj (show t.data.toList = (⟨((if s then [45] else []) ++ decDigits (x / 10000)).toArray⟩ : ByteArray).data.toList from et)], u⟩
  · rw [if_neg hr]
    refine Calls.mono (Text_part w s x hx h0 hr ht) ?_
    rintro e w' ⟨⟨t, rfl, et⟩, u⟩
    exact ⟨by rw [Go.WideShapes.bytes_inj (show t.data.toList = (⟨((if s then [45] else []) ++ (decDigits (x / 10000) ++ 46 :: trimRightB ((decDigits (10000 + x % 10000)).drop 1) 48)).toArray⟩ : ByteArray).data.toList from et)], u⟩

theorem Text_bad (w : World) (a : Int) (h : okNum a = false) : Calls Tryd.prog 18 #[.int .i64 a] w fun e w' => e = .returned (.string ⟨#[]⟩) ∧ Upd w w' (fun _ => False) := by
  have G := fun w B k => fixgood_any w B a k
  rw [h] at G
  clear h
  go_enter Tryd.func18, Tryd.ntmps18
  go_wp2_with fail
  refine Calls.mono (G _ _ (cells1 (heap_alloc_new w _))) ?_
  rintro e' w1 ⟨rfl, rfl⟩
  go_wp2_with fail
  go_ret
  exact ⟨rfl, (Upd.refl w _).alloc _⟩

theorem RefText_bad (w : World) (a : Int) (h : okNum a = false) : Calls Tryd.prog 19 #[.int .i64 a] w fun e w' => e = .returned (.string ⟨#[]⟩) ∧ Upd w w' (fun _ => False) := by
  have G := fun w => RefGood_any w a
  rw [h] at G
  clear h
  go_enter Tryd.func19, Tryd.ntmps19
  go_wp2_with fail
  refine Calls.mono (G _) ?_
  rintro e' w1 ⟨rfl, hw⟩
  replace hw := hw.symm
  subst hw
  go_wp2_with fail
  go_ret
  exact ⟨rfl, Upd.refl _ _⟩
end Go.Proofs.YtckpomcenkgekaaDoor
