/- The walk of fixed.Num.Text. -/
import Derived.Test.YthahgablbdfodaaDoorJ05
import Derived.Test.YthahgablbdfodaaDoorJ01
import Derived.Lib.CutLaws
import Derived.Lib.IndexLaws
import Derived.Lib.IndexBytes
import Derived.Lib.AtoiErrMem
/- The walk of fixed.Num.Text. -/
set_option maxRecDepth 100000
namespace Go.Proofs.YthahgablbdfodaaDoor
open Go.RowKit Go.Lat Go.Shelf Go.Sort Go.Lib

theorem FormatUint_any (w : World) (u : Nat) (h2 : u < 18446744073709551616) (ht : Pow w) :
    Calls Tryd.prog 43 #[.int .u64 u, .int .i64 10] w fun e w' => e = .returned (.string ⟨(Lib.decDigits u).toArray⟩) ∧ Upd w w' (fun _ => False) := by
  have h := fun w ht => FormatUintI_any w u h2 ht
  generalize (⟨(Lib.decDigits u).toArray⟩ : ByteArray) = r at *
  go_enter Tryd.func43, Tryd.ntmps43
  go_wp2_with fail
  refine Calls.mono (h _ ht) ?_
  rintro e w' ⟨rfl, hu⟩
  go_wp2_with fail
  go_ret
  exact ⟨rfl, hu⟩

theorem list_size (l : List UInt8) : (⟨l.toArray⟩ : ByteArray).size = l.length := rfl
theorem trimRight_le (l : List UInt8) (c : UInt8) : (trimRightB l c).length ≤ l.length := by
  have h := (List.dropWhile_suffix (l := l.reverse) (· == c)).length_le
  unfold trimRightB
  simpa using h
theorem nDigits_step (u : Nat) : nDigits u = if u < 10 then 1 else nDigits (u / 10) + 1 := by
  rw [nDigits]
  by_cases h : u < 10
  · rw [dif_pos h, if_pos h]
  · rw [dif_neg h, if_neg h]
theorem nDigits5 (u : Nat) (h1 : 10000 ≤ u) (h2 : u < 20000) : nDigits u = 5 := by
  rw [nDigits_step, if_neg (by omega), nDigits_step, if_neg (by omega), nDigits_step, if_neg (by omega), nDigits_step, if_neg (by omega), nDigits_step, if_pos (by omega)]
theorem nDigits_le20 (u : Nat) (h : u < 18446744073709551616) : nDigits u ≤ 20 := by
  rcases Nat.eq_zero_or_pos u with e | e
  · rw [e, nDigits_step, if_pos (by omega)]; omega
  · have := Lib.numDigits_eq u e h
    split at this <;> omega

theorem i64_signed (s : Bool) (n : Nat) (hn : n ≤ 9000000000000000000) : okNum (if s then -(n : Int) else n) = true := by
  cases s <;> simp [okNum] <;> omega

set_option maxHeartbeats 3200000 in
theorem Text_whole (w : World) (s : Bool) (n : Nat) (hn : n ≤ 9000000000000000000) (h0 : s = true → 0 < n) (hr : n % 10000 = 0) (ht : Pow w) :
    Calls Tryd.prog 29 #[.int .i64 (if s then -(n : Int) else n)] w fun e w' => (∃ t, e = .returned (.string t) ∧ t.data.toList = (if s then [45] else []) ++ decDigits (n / 10000)) ∧ Upd w w' (fun _ => False) := by
  have hg := fixgood_any (w.alloc (.cells #[.int .i64 (if s then -(n : Int) else n)] 25)) w.heap.size _ (cells1 (heap_alloc_new w _))
  rw [i64_signed s n hn] at hg
  have hS := fun w => size_any w s n hn h0
  have hF := fun w ht => FormatUint_any w (n / 10000) (by omega) ht
  generalize (if s then -(n : Int) else (n : Int)) = v at *
  obtain ⟨m, hm⟩ : ∃ m, n / 10000 = m := ⟨_, rfl⟩
  have e1 : (n : Int) / 10000 = (m : Int) := by omega
  have e2 : (n : Int) % 10000 = 0 := by omega
  rw [hm] at hF ⊢
  obtain ⟨r, hr2⟩ : ∃ r, (⟨(Lib.decDigits m).toArray⟩ : ByteArray) = r := ⟨_, rfl⟩
  rw [hr2] at hF
  have hrl : r.size ≤ 20 := by
    rw [← hr2, list_size, decDigits_length]
    exact nDigits_le20 m (by omega)
  have hz1 : ¬ 9223372036854775807 < 1 + r.size := by omega
  have HR := hide hr2
  clear hr2 hm hrl
  cases s with
  | false =>
    go_enter Tryd.func29, Tryd.ntmps29
    go_wp2_with fail
    refine Calls.mono hg ?_
    rintro e w1 ⟨rfl, rfl⟩
    go_wp2_with fail
    refine Calls.mono (hS _) ?_
    rintro e w2 ⟨rfl, rfl⟩
    go_wp2_with fail
    refine Calls.mono (hF _ (ht.upd ((Upd.refl w (fun _ => False)).alloc _) id)) ?_
    rintro e w3 ⟨rfl, u3⟩
    go_wp2_with fail
    go_ret
    exact ⟨⟨_, rfl, by rw [← HR.out]⟩, ((Upd.refl w _).alloc _).then u3 (fun _ _ => id)⟩
  | true =>
    go_enter Tryd.func29, Tryd.ntmps29
    go_wp2_with fail
    refine Calls.mono hg ?_
    rintro e w1 ⟨rfl, rfl⟩
    go_wp2_with fail
    refine Calls.mono (hS _) ?_
    rintro e w2 ⟨rfl, rfl⟩
    go_wp2_with fail
    refine Calls.mono (hF _ (ht.upd ((Upd.refl w (fun _ => False)).alloc _) id)) ?_
    rintro e w3 ⟨rfl, u3⟩
    go_wp2_with fail
    go_ret
    refine ⟨⟨_, rfl, ?_⟩, ((Upd.refl w _).alloc _).then u3 (fun _ _ => id)⟩
    rw [← HR.out]
    simp

set_option maxHeartbeats 3200000 in
theorem Text_part (w : World) (s : Bool) (n : Nat) (hn : n ≤ 9000000000000000000) (h0 : s = true → 0 < n) (hr : n % 10000 ≠ 0) (ht : Pow w) :
    Calls Tryd.prog 29 #[.int .i64 (if s then -(n : Int) else n)] w fun e w' =>
      (∃ t, e = .returned (.string t) ∧ t.data.toList = (if s then [45] else []) ++ (decDigits (n / 10000) ++ 46 :: trimRightB ((decDigits (10000 + n % 10000)).drop 1) 48)) ∧ Upd w w' (fun _ => False) := by
  have hg := fixgood_any (w.alloc (.cells #[.int .i64 (if s then -(n : Int) else n)] 25)) w.heap.size _ (cells1 (heap_alloc_new w _))
  rw [i64_signed s n hn] at hg
  have hS := fun w => size_any w s n hn h0
  have hF := fun w ht => FormatUint_any w (n / 10000) (by omega) ht
  have hF2 := fun w ht => FormatUint_any w (10000 + n % 10000) (by omega) ht
  generalize (if s then -(n : Int) else (n : Int)) = v at *
  obtain ⟨m, hm⟩ : ∃ m, n / 10000 = m := ⟨_, rfl⟩
  obtain ⟨k, hk⟩ : ∃ k, n % 10000 = k := ⟨_, rfl⟩
  obtain ⟨k2, hk2⟩ : ∃ k2, 10000 + k = k2 := ⟨_, rfl⟩
  have e1 : (n : Int) / 10000 = (m : Int) := by omega
  have e2 : (n : Int) % 10000 = (k : Int) := by omega
  have e3 : (10000 : Int) + (k : Int) = (k2 : Int) := by omega
  have hkb : k < 10000 := by omega
  have d1 : decide (0 < (k : Int)) = true := by simp; omega
  have d2 : decide (0 < k) = true := by simp; omega
  have w1 : IntKind.u64.wrap (k2 : Int) = (k2 : Int) := by rw [IntKind.wrap_u64]; omega
  rw [hm] at hF ⊢
  rw [hk, hk2] at hF2 ⊢
  have hlen : (decDigits k2).length = 5 := by
    have g5 := nDigits5 k2 (by omega) (by omega)
    rw [decDigits_length, g5]
  obtain ⟨r, hr2⟩ : ∃ r, (⟨(Lib.decDigits m).toArray⟩ : ByteArray) = r := ⟨_, rfl⟩
  obtain ⟨t, ht2⟩ : ∃ t, (⟨(Lib.decDigits k2).toArray⟩ : ByteArray) = t := ⟨_, rfl⟩
  have htl : t.size = 5 := by rw [← ht2, list_size]; exact hlen
  have hT := fun w => Tryd.strings_TrimRight_one (t.extract 1 5) 48 (by decide) w (by simp; omega)
  have hte : (t.extract 1 5).data.toList = (decDigits k2).drop 1 := by
    rw [← ht2]
    simp [ByteArray.data_extract]
    rw [List.take_of_length_le (by simp; omega)]
  rw [hte] at hT
  obtain ⟨y, hy⟩ : ∃ y, (⟨(trimRightB ((decDigits k2).drop 1) 48).toArray⟩ : ByteArray) = y := ⟨_, rfl⟩
  have hyl : y.size ≤ 5 := by
    rw [← hy, list_size]
    have := trimRight_le ((decDigits k2).drop 1) 48
    rw [List.length_drop, hlen] at this
    omega
  rw [hy] at hT
  have hrl : r.size ≤ 20 := by
    rw [← hr2, list_size, decDigits_length]
    exact nDigits_le20 m (by omega)
  have hz1 : ¬ 9223372036854775807 < 1 + y.size := by omega
  have hz2 : ¬ 9223372036854775807 < r.size + (1 + y.size) := by omega
  have hz3 : ¬ 9223372036854775807 < 1 + (r.size + (1 + y.size)) := by omega
  have HY := hide hy
  rw [hr2] at hF
  rw [ht2] at hF2
  have HR := hide hr2
  have HT := hide ht2
  clear hr2 hm hk ht2 hr hk2 hy hyl hrl hte
  cases s with
  | false =>
    go_enter Tryd.func29, Tryd.ntmps29
    go_wp2_with fail
    refine Calls.mono hg ?_
    rintro e w1 ⟨rfl, rfl⟩
    go_wp2_with fail
    refine Calls.mono (hS _) ?_
    rintro e w2 ⟨rfl, rfl⟩
    go_wp2_with fail
    refine Calls.mono (hF _ (ht.upd ((Upd.refl w (fun _ => False)).alloc _) id)) ?_
    rintro e w3 ⟨rfl, u3⟩
    go_wp2_with fail
    refine Calls.mono (hF2 _ ((ht.upd ((Upd.refl w (fun _ => False)).alloc _) id).upd u3 id)) ?_
    rintro e w4 ⟨rfl, u4⟩
    go_wp2_with fail
    refine Calls.mono (hT _) ?_
    rintro e w5 ⟨rfl, rfl⟩
    go_wp2_with fail
    go_ret
    refine ⟨⟨_, rfl, ?_⟩, (((Upd.refl w _).alloc _).then u3 (fun _ _ => id)).then u4 (fun _ _ => id)⟩
    rw [← HR.out, ← HY.out]
    simp
  | true =>
    go_enter Tryd.func29, Tryd.ntmps29
    go_wp2_with fail
    refine Calls.mono hg ?_
    rintro e w1 ⟨rfl, rfl⟩
    go_wp2_with fail
    refine Calls.mono (hS _) ?_
    rintro e w2 ⟨rfl, rfl⟩
    go_wp2_with fail
    refine Calls.mono (hF _ (ht.upd ((Upd.refl w (fun _ => False)).alloc _) id)) ?_
    rintro e w3 ⟨rfl, u3⟩
    go_wp2_with fail
    refine Calls.mono (hF2 _ ((ht.upd ((Upd.refl w (fun _ => False)).alloc _) id).upd u3 id)) ?_
    rintro e w4 ⟨rfl, u4⟩
    go_wp2_with fail
    refine Calls.mono (hT _) ?_
    rintro e w5 ⟨rfl, rfl⟩
    go_wp2_with fail
    go_ret
    refine ⟨⟨_, rfl, ?_⟩, (((Upd.refl w _).alloc _).then u3 (fun _ _ => id)).then u4 (fun _ _ => id)⟩
    rw [← HR.out, ← HY.out]
    simp
end Go.Proofs.YthahgablbdfodaaDoor
/- The walks of strings.Cut at one byte (after the kit's worked one), of fixed.run at digits, and of fixed.Parse at one text. -/
set_option maxRecDepth 100000
namespace Go.Proofs.YthahgablbdfodaaDoor
open Go.RowKit Go.Lat Go.Shelf Go.Sort Go.Lib

theorem indexB_one (s : ByteArray) (c : UInt8) : indexB s ⟨#[c]⟩ = indexByte s.data.toList c := index_one s.data.toList c

set_option maxHeartbeats 2000000 in
theorem CutI_any (w : World) (s : ByteArray) (c : UInt8) (hs : s.size ≤ 9223372036854775806) : Calls Tryd.prog 47 #[.string s, .string ⟨#[c]⟩] w fun e w' =>
    e = .returned (.tuple #[.string ⟨(Lib.cut s.data.toList [c]).1.toArray⟩, .string ⟨(Lib.cut s.data.toList [c]).2.1.toArray⟩, .bool (Lib.cut s.data.toList [c]).2.2]) ∧ ∃ n, w' = w.drewN n := by
  have hI := fun w => Tryd.stringslite_Index_one s c w
  have e0 : (⟨#[c]⟩ : ByteArray).data.toList = [c] := rfl
  have z0 : (⟨#[c]⟩ : ByteArray).size = 1 := rfl
  rcases Lib.indexB_cases s ⟨#[c]⟩ with hix | ⟨i, hix, hroom⟩
  · obtain ⟨e1, e2, e3⟩ := Lib.cutB_miss s ⟨#[c]⟩ hix
    rw [e0] at e1 e2 e3
    rw [e1, e2, e3]
    rw [indexB_one] at hix
    rw [hix] at hI
    clear e0 e1 e2 e3
    go_enter Tryd.func47, Tryd.ntmps47
    go_wp2_with fail
    refine Calls.mono (hI _) ?_
    rintro e w' ⟨rfl, rfl⟩
    go_wp2_with fail
    go_ret3
    exact ⟨rfl, 0, rfl⟩
  · obtain ⟨e1, e2, e3⟩ := Lib.cutB_hit s ⟨#[c]⟩ i hix
    rw [e0] at e1 e2 e3
    rw [e1, e2, e3]
    rw [indexB_one] at hix
    rw [hix] at hI
    rw [z0] at hroom ⊢
    have c1 : (0 : Int) ≤ ↑i := by omega
    have c2 : (↑i : Int) ≤ ↑s.size := by omega
    have c3 : (0 : Int) ≤ ↑i + 1 := by omega
    have c4 : (↑i + 1 : Int) ≤ ↑s.size := by omega
    have c5 : IntKind.i64.wrap (↑i + 1) = ↑i + 1 := IntWalk.i64_in _ (by omega)
    have c6 : (↑i + 1 : Int).toNat = i + 1 := by omega
    have mixed := Tryd.lays219.mixed
    clear e0 e1 e2 e3
    go_enter Tryd.func47, Tryd.ntmps47
    go_wp2_with fail
    refine Calls.mono (hI _) ?_
    rintro e w' ⟨rfl, rfl⟩
    go_wp2_with fail
    go_region_o
    go_wp2_with fail
    go_ret3
    exact ⟨rfl, 1, rfl⟩

theorem Cut_any (w : World) (s : ByteArray) (c : UInt8) (hs : s.size ≤ 9223372036854775806) : Calls Tryd.prog 37 #[.string s, .string ⟨#[c]⟩] w fun e w' =>
    e = .returned (.tuple #[.string ⟨(Lib.cut s.data.toList [c]).1.toArray⟩, .string ⟨(Lib.cut s.data.toList [c]).2.1.toArray⟩, .bool (Lib.cut s.data.toList [c]).2.2]) ∧ ∃ n, w' = w.drewN n := by
  have h := fun w => CutI_any w s c hs
  generalize (⟨(Lib.cut s.data.toList [c]).1.toArray⟩ : ByteArray) = a at *
  generalize (⟨(Lib.cut s.data.toList [c]).2.1.toArray⟩ : ByteArray) = b at *
  generalize (Lib.cut s.data.toList [c]).2.2 = d at *
  go_enter Tryd.func37, Tryd.ntmps37
  go_wp2_with fail
  refine Calls.mono (h _) ?_
  rintro e w' ⟨rfl, n, rfl⟩
  go_wp2_with fail
  go_ret3
  exact ⟨rfl, n, rfl⟩

/-- The digits. -/
def dgs : List UInt8 := [48, 49, 50, 51, 52, 53, 54, 55, 56, 57]

theorem run_good (w : World) (s : ByteArray) (h1 : 1 ≤ s.size) (h2 : s.size ≤ 18) (ht : trimS s.data.toList dgs = []) :
    Calls Tryd.prog 38 #[.string s] w fun e w' => e = .returned (.bool true) ∧ Upd w w' (fun _ => False) := by
  have hT := fun w => Any.strings_Trim_laid Tryd.lays160 (by kernel_rfl) s ⟨#[48, 49, 50, 51, 52, 53, 54, 55, 56, 57]⟩ w (by omega) (by decide) (ascii_of_all (by decide))
  have e1 : (⟨(Lib.trimS s.data.toList (⟨#[48, 49, 50, 51, 52, 53, 54, 55, 56, 57]⟩ : ByteArray).data.toList).toArray⟩ : ByteArray) = ⟨#[]⟩ := by
    rw [show (⟨#[48, 49, 50, 51, 52, 53, 54, 55, 56, 57]⟩ : ByteArray).data.toList = dgs from rfl, ht]
  rw [e1] at hT
  change ∀ w, Calls Tryd.prog 48 _ _ _ at hT
  have d1 : decide ((1 : Int) ≤ (s.size : Int)) = true := by simp; omega
  have d2 : decide ((s.size : Int) ≤ 18) = true := by simp; omega
  have d3 : decide (1 ≤ s.size) = true := by simpa using h1
  have d4 : decide (s.size ≤ 18) = true := by simpa using h2
  clear ht e1
  go_enter Tryd.func38, Tryd.ntmps38
  go_wp2_with fail
  refine Calls.mono (hT _) ?_
  rintro e w1 ⟨rfl, hB⟩
  go_wp2_with fail
  go_ret
  exact ⟨rfl, Upd.of_below hB _⟩

set_option maxHeartbeats 3200000 in
theorem Parse_one (w : World) : Calls Tryd.prog 26 #[.string ⟨#[49, 46, 50, 51]⟩] w fun e w' => e = .returned (.tuple #[.int .i64 12300, .int .i64 0]) ∧ Upd w w' (fun _ => False) := by
  have h1 : ∀ w, Calls Tryd.prog 36 #[.string ⟨#[49, 46, 50, 51]⟩, .string ⟨#[45]⟩] w fun e w' => e = .returned (.tuple #[.string ⟨#[49, 46, 50, 51]⟩, .bool false]) ∧ w' = w := fun w => Tryd.strings_CutPrefix ⟨#[49, 46, 50, 51]⟩ ⟨#[45]⟩ w
  have h2 : ∀ w, Calls Tryd.prog 37 #[.string ⟨#[49, 46, 50, 51]⟩, .string ⟨#[46]⟩] w fun e w' => e = .returned (.tuple #[.string ⟨#[49]⟩, .string ⟨#[50, 51]⟩, .bool true]) ∧ ∃ n, w' = w.drewN n := fun w => Cut_any w ⟨#[49, 46, 50, 51]⟩ 46 (by decide)
  have h3 := fun w => run_good w ⟨#[49]⟩ (by decide) (by decide) (by decide)
  have h4 := fun w => run_good w ⟨#[50, 51]⟩ (by decide) (by decide) (by decide)
  have h5 := fun w => Tryd.strconv_ParseUint_10_at64_ok ⟨#[49]⟩ (by decide) 1 (by decide) w
  have h6 := fun w => Tryd.strconv_ParseUint_10_at64_ok ⟨#[50, 51, 48, 48, 48]⟩ (by decide) 23000 (by decide) w
  go_enter Tryd.func26, Tryd.ntmps26
  go_wp2_with fail
  refine Calls.mono (h1 _) ?_
  rintro e w1 ⟨rfl, rfl⟩
  go_wp2_with fail
  refine Calls.mono (h2 _) ?_
  rintro e w2 ⟨rfl, n, rfl⟩
  go_wp2_with fail
  refine Calls.mono (h3 _) ?_
  rintro e w3 ⟨rfl, u3⟩
  go_wp2_with fail
  refine Calls.mono (h4 _) ?_
  rintro e w4 ⟨rfl, u4⟩
  go_wp2_with fail
  refine Calls.mono (h5 _) ?_
  rintro e w5 ⟨rfl, u5⟩
  go_wp2_with fail
  refine Calls.mono (h6 _) ?_
  rintro e w6 ⟨rfl, u6⟩
  go_wp2_with fail
  go_ret2
  refine ⟨rfl, ?_⟩
  have b5 : Upd w4 w5 (fun _ => False) := by
    rcases u5 with rfl | rfl
    · exact Upd.refl _ _
    · exact Upd.of_below (Lib.bytesWorld_below _ _ _) _
  have b6 : Upd w5 w6 (fun _ => False) := by
    rcases u6 with rfl | rfl
    · exact Upd.refl _ _
    · exact Upd.of_below (Lib.bytesWorld_below _ _ _) _
  exact ((((Upd.refl w1 _).drewN n).then u3 (fun _ _ => id)).then u4 (fun _ _ => id)).then (b5.then b6 (fun _ _ => id)) (fun _ _ => id)
end Go.Proofs.YthahgablbdfodaaDoor
/- The walks of fixed.run and of the reference's all, at every text. -/
set_option maxRecDepth 100000
namespace Go.Proofs.YthahgablbdfodaaDoor
open Go.RowKit Go.Lat Go.Shelf Go.Sort Go.Lib

theorem dgs_contains (b : UInt8) : dgs.contains b = dgB b := by
  have h : ∀ n, n < 256 → dgs.contains (UInt8.ofNat n) = dgB (UInt8.ofNat n) := by decide +kernel
  have := h b.toNat b.toNat_lt
  simpa using this

theorem dropWhile_nil (p : UInt8 → Bool) : ∀ l : List UInt8, l.dropWhile p = [] ↔ ∀ x ∈ l, p x = true
  | [] => by simp
  | b :: l => by
    have ih := dropWhile_nil p l
    cases h : p b with
    | true => simp [List.dropWhile, h, ih]
    | false => simp [List.dropWhile, h]

theorem takeWhile_all (p : UInt8 → Bool) : ∀ (l : List UInt8) (x : UInt8), x ∈ l.takeWhile p → p x = true
  | [], x, h => by simp at h
  | b :: l, x, h => by
    cases hb : p b with
    | true =>
      simp only [List.takeWhile, hb, List.mem_cons] at h
      rcases h with h | h
      · rw [h]; exact hb
      · exact takeWhile_all p l x h
    | false => simp [List.takeWhile, hb] at h

theorem trim_all (l : List UInt8) (h : l.all dgB = true) : trimS l dgs = [] := by
  have e : trimRightS l dgs = [] := by
    unfold trimRightS
    rw [List.reverse_eq_nil_iff, dropWhile_nil]
    intro x hx
    rw [dgs_contains]
    exact List.all_eq_true.1 h x (List.mem_reverse.1 hx)
  unfold trimS
  rw [e]
  rfl

theorem trim_some (l : List UInt8) (h : l.all dgB = false) : trimS l dgs ≠ [] := by
  intro e
  have hall : l.all dgB = true := by
    unfold trimS trimLeftS at e
    rw [dropWhile_nil] at e
    unfold trimRightS at e
    rw [List.all_eq_true]
    intro x hx
    have hx' : x ∈ l.reverse := List.mem_reverse.2 hx
    rw [← List.takeWhile_append_dropWhile (p := (dgs.contains ·)) (l := l.reverse)] at hx'
    rw [← dgs_contains]
    rcases List.mem_append.1 hx' with k | k
    · exact takeWhile_all _ _ _ k
    · exact e x (List.mem_reverse.2 k)
  rw [h] at hall
  cases hall

set_option maxHeartbeats 1600000 in
theorem run_any (w : World) (s : ByteArray) (hs : s.size ≤ 1000) :
    Calls Tryd.prog 38 #[.string s] w fun e w' => e = .returned (.bool (isD s.data.toList)) ∧ Upd w w' (fun _ => False) := by
  have hsz : s.data.toList.length = s.size := rfl
  have hT := fun w => Any.strings_Trim_laid Tryd.lays160 (by kernel_rfl) s ⟨#[48, 49, 50, 51, 52, 53, 54, 55, 56, 57]⟩ w (by omega) (by decide) (ascii_of_all (by decide))
  rw [show (⟨#[48, 49, 50, 51, 52, 53, 54, 55, 56, 57]⟩ : ByteArray).data.toList = dgs from rfl] at hT
  change ∀ w, Calls Tryd.prog 48 _ _ _ at hT
  unfold isD
  rw [hsz]
  by_cases h1 : 1 ≤ s.size
  · have d1 : decide ((1 : Int) ≤ (s.size : Int)) = true := by simp; omega
    have d3 : decide (1 ≤ s.size) = true := by simpa using h1
    rw [d3]
    by_cases h2 : s.size ≤ 18
    · have d2 : decide ((s.size : Int) ≤ 18) = true := by simp; omega
      have d4 : decide (s.size ≤ 18) = true := by simpa using h2
      rw [d4]
      simp only [Bool.true_and]
      cases h : s.data.toList.all dgB with
      | true =>
        rw [trim_all _ h] at hT
        clear h h1 h2
        go_enter Tryd.func38, Tryd.ntmps38
        go_wp2_with fail
        refine Calls.mono (hT _) ?_
        rintro e w1 ⟨rfl, hB⟩
        go_wp2_with fail
        go_ret
        exact ⟨rfl, Upd.of_below hB _⟩
      | false =>
        have hne := trim_some _ h
        have hr : (⟨(trimS s.data.toList dgs).toArray⟩ : ByteArray).toList ≠ [] := by
          rw [ByteArray.toList_eq]
          exact hne
        generalize (⟨(trimS s.data.toList dgs).toArray⟩ : ByteArray) = r at *
        clear h h1 h2 hne
        go_enter Tryd.func38, Tryd.ntmps38
        go_wp2_with fail
        refine Calls.mono (hT _) ?_
        rintro e w1 ⟨rfl, hB⟩
        go_wp2_with fail
        go_ret
        exact ⟨by simpa using hr, Upd.of_below hB _⟩
    · have d2 : decide ((s.size : Int) ≤ 18) = false := by simp; omega
      have d4 : decide (s.size ≤ 18) = false := by simpa using h2
      rw [d4]
      simp only [Bool.true_and, Bool.false_and]
      clear h1 h2 hT
      go_enter Tryd.func38, Tryd.ntmps38
      go_wp2_with fail
      go_ret
      exact ⟨rfl, Upd.refl _ _⟩
  · have d1 : decide ((1 : Int) ≤ (s.size : Int)) = false := by simp; omega
    have d3 : decide (1 ≤ s.size) = false := by simpa using h1
    rw [d3]
    simp only [Bool.false_and]
    clear h1 hT
    go_enter Tryd.func38, Tryd.ntmps38
    go_wp2_with fail
    go_ret
    exact ⟨rfl, Upd.refl _ _⟩

/-- A byte of a text. -/
theorem byte_list (s : ByteArray) (i : Nat) (h : i < s.size) : s.data.toList[i]? = some s[i] := by
  have h' : i < s.data.toList.length := h
  rw [List.getElem?_eq_getElem h']
  rfl

end Go.Proofs.YthahgablbdfodaaDoor
/- The walk of fixed.Parse at every text. -/
set_option maxRecDepth 100000
namespace Go.Proofs.YthahgablbdfodaaDoor
open Go.RowKit Go.Lat Go.Shelf Go.Sort Go.Lib

/-- Where a text is cut. -/
theorem Cut_forms (t : ByteArray) (hs : t.size ≤ 1000) :
    ((∀ k : Nat, t.data.toList[k]? ≠ some 46) ∧ ∀ w, Calls Tryd.prog 37 #[.string t, .string ⟨#[46]⟩] w fun e w' => e = .returned (.tuple #[.string t, .string ⟨#[]⟩, .bool false]) ∧ ∃ n, w' = w.drewN n) ∨
    ∃ i : Nat, i < t.size ∧ t.data.toList[i]? = some 46 ∧ (∀ k : Nat, k < i → t.data.toList[k]? ≠ some 46) ∧ ∀ w, Calls Tryd.prog 37 #[.string t, .string ⟨#[46]⟩] w fun e w' => e = .returned (.tuple #[.string (t.extract 0 i), .string (t.extract (i + 1) t.size), .bool true]) ∧ ∃ n, w' = w.drewN n := by
  have C := fun w => Cut_any w t 46 (by omega)
  have e0 : (⟨#[46]⟩ : ByteArray).data.toList = [46] := rfl
  have z0 : (⟨#[46]⟩ : ByteArray).size = 1 := rfl
  rcases Lib.indexB_cases t ⟨#[46]⟩ with hix | ⟨i, hix, hroom⟩
  · obtain ⟨e1, e2, e3⟩ := Lib.cutB_miss t ⟨#[46]⟩ hix
    rw [e0] at e1 e2 e3
    rw [e1, e2, e3] at C
    rw [indexB_one] at hix
    exact .inl ⟨indexByte_none hix, C⟩
  · obtain ⟨e1, e2, e3⟩ := Lib.cutB_hit t ⟨#[46]⟩ i hix
    rw [e0] at e1 e2 e3
    rw [e1, e2, e3] at C
    rw [indexB_one] at hix
    rw [z0] at hroom C
    obtain ⟨k1, k2⟩ := indexByte_some hix
    exact .inr ⟨i, by omega, k1, k2, C⟩

theorem Parse_bad (w : World) (s t whole part : ByteArray) (neg pt : Bool) (hCP : ∀ w, Calls Tryd.prog 36 #[.string s, .string ⟨#[45]⟩] w fun e w' => e = .returned (.tuple #[.string t, .bool neg]) ∧ w' = w)
    (hC : ∀ w, Calls Tryd.prog 37 #[.string t, .string ⟨#[46]⟩] w fun e w' => e = .returned (.tuple #[.string whole, .string part, .bool pt]) ∧ ∃ n, w' = w.drewN n) (hws : whole.size ≤ 1000) (hps : part.size ≤ 1000)
    (h : isD whole.data.toList = false ∨ (isD whole.data.toList = true ∧ pt = true ∧ isD part.data.toList = false)) : Calls Tryd.prog 26 #[.string s] w fun e w' => e = .returned (.tuple #[.int .i64 0, .int .i64 4]) ∧ Upd w w' (fun _ => False) := by
  have R1 := fun w => run_any w whole (by omega)
  rcases h with h | ⟨h, rfl, h2⟩
  · rw [h] at R1
    clear h
    go_enter Tryd.func26, Tryd.ntmps26
    go_wp2_with fail
    refine Calls.mono (hCP _) ?_
    rintro e w1 ⟨rfl, hw⟩
    replace hw := hw.symm
    subst hw
    go_wp2_with fail
    refine Calls.mono (hC _) ?_
    rintro e w2 ⟨rfl, n2, rfl⟩
    go_wp2_with fail
    refine Calls.mono (R1 _) ?_
    rintro e w3 ⟨rfl, u3⟩
    go_wp2_with fail
    go_ret2
    exact ⟨rfl, ((Upd.refl w _).drewN n2).then u3 (fun _ _ => id)⟩
  · have R2 := fun w => run_any w part (by omega)
    rw [h] at R1
    rw [h2] at R2
    clear h h2
    go_enter Tryd.func26, Tryd.ntmps26
    go_wp2_with fail
    refine Calls.mono (hCP _) ?_
    rintro e w1 ⟨rfl, hw⟩
    replace hw := hw.symm
    subst hw
    go_wp2_with fail
    refine Calls.mono (hC _) ?_
    rintro e w2 ⟨rfl, n2, rfl⟩
    go_wp2_with fail
    refine Calls.mono (R1 _) ?_
    rintro e w3 ⟨rfl, u3⟩
    go_wp2_with fail
    refine Calls.mono (R2 _) ?_
    rintro e w4 ⟨rfl, u4⟩
    go_wp2_with fail
    go_ret2
    exact ⟨rfl, (((Upd.refl w _).drewN n2).then u3 (fun _ _ => id)).then u4 (fun _ _ => id)⟩

/-- A text's number in parts. -/
def parseX (W P : List UInt8) : Nat := dval W * 10000 + (dval P * 100000 / 10 ^ P.length + 5) / 10

set_option maxHeartbeats 1600000 in
theorem Parse_core (w : World) (s t whole part : ByteArray) (neg pt : Bool) (hCP : ∀ w, Calls Tryd.prog 36 #[.string s, .string ⟨#[45]⟩] w fun e w' => e = .returned (.tuple #[.string t, .bool neg]) ∧ w' = w)
    (hC : ∀ w, Calls Tryd.prog 37 #[.string t, .string ⟨#[46]⟩] w fun e w' => e = .returned (.tuple #[.string whole, .string part, .bool pt]) ∧ ∃ n, w' = w.drewN n) (hps : part.size ≤ 1000)
    (four : ByteArray) (hfour : (part ++ ⟨#[48, 48, 48, 48, 48]⟩).extract 0 5 = four) (n F : Nat) (hn18 : n < 1000000000000000000) (f5 : F < 100000)
    (R1 : ∀ w, Calls Tryd.prog 38 #[.string whole] w fun e w' => e = .returned (.bool true) ∧ Upd w w' (fun _ => False))
    (P1 : ∀ w, Calls Tryd.prog 39 #[.string whole, .int .i64 10, .int .i64 64] w fun e w' => e = .returned (.tuple #[.int .u64 (n : Nat), Value.nilIface]) ∧ (w' = w ∨ w' = Lib.bytesWorld w 5 whole))
    (P2 : ∀ w, Calls Tryd.prog 39 #[.string four, .int .i64 10, .int .i64 64] w fun e w' => e = .returned (.tuple #[.int .u64 (F : Nat), Value.nilIface]) ∧ (w' = w ∨ w' = Lib.bytesWorld w 5 four))
    (hpt : pt = true → isD part.data.toList = true) : Calls Tryd.prog 26 #[.string s] w fun e w' => e = .returned (.tuple #[.int .i64 (numV neg (n * 10000 + (F + 5) / 10)), .int .i64 (numE (n * 10000 + (F + 5) / 10))]) ∧ Upd w w' (fun _ => False) := by
  have q1 : ¬ 9223372036854775807 < part.size + 5 := by omega
  obtain ⟨G, hG⟩ : ∃ G, F + 5 = G := ⟨_, rfl⟩
  obtain ⟨m, hm⟩ : ∃ m, G / 10 = m := ⟨_, rfl⟩
  have g1 : (F : Int) + 5 = (G : Int) := by omega
  have g2 : IntKind.u64.wrap (G : Int) = (G : Int) := by rw [IntKind.wrap_u64]; omega
  have g3 : (G : Int) / 10 = (m : Int) := by omega
  have g3' : (G : Int).tdiv 10 = (m : Int) := by rw [← hm]; rfl
  have g4 : IntKind.u64.wrap (m : Int) = (m : Int) := by rw [IntKind.wrap_u64]; omega
  rw [hG, hm]
  have hmb : m ≤ 10000 := by omega
  clear hG hm
  unfold numV numE
  by_cases c1 : 900000000000000 < n
  · have d1 : decide ((900000000000000 : Int) < (n : Int)) = true := by simp; omega
    have d1' : decide (900000000000000 < n) = true := by simpa using c1
    rw [if_pos (by omega), if_pos (by omega)]
    clear c1 hmb hn18 f5
    cases pt with
    | true =>
      have hp2 := hpt rfl
      have R2 := fun w => run_any w part (by omega)
      rw [hp2] at R2
      clear hp2 hpt
      go_enter Tryd.func26, Tryd.ntmps26
      go_wp2_with fail
      refine Calls.mono (hCP _) ?_
      rintro e w1 ⟨rfl, hw⟩
      replace hw := hw.symm
      subst hw
      go_wp2_with fail
      refine Calls.mono (hC _) ?_
      rintro e w2 ⟨rfl, n2, rfl⟩
      go_wp2_with fail
      refine Calls.mono (R1 _) ?_
      rintro e w3 ⟨rfl, u3⟩
      go_wp2_with fail
      refine Calls.mono (R2 _) ?_
      rintro e w4 ⟨rfl, u4⟩
      go_wp2_with fail
      refine Calls.mono (P1 _) ?_
      rintro e w5 ⟨rfl, u5⟩
      go_wp2_with fail
      refine Calls.mono (P2 _) ?_
      rintro e w6 ⟨rfl, u6⟩
      go_wp2_with fail
      go_ret2
      refine ⟨rfl, ?_⟩
      have b5 : Upd w4 w5 (fun _ => False) := by
        rcases u5 with rfl | rfl
        · exact Upd.refl _ _
        · exact Upd.of_below (Lib.bytesWorld_below _ _ _) _
      have b6 : Upd w5 w6 (fun _ => False) := by
        rcases u6 with rfl | rfl
        · exact Upd.refl _ _
        · exact Upd.of_below (Lib.bytesWorld_below _ _ _) _
      exact ((((Upd.refl w _).drewN n2).then u3 (fun _ _ => id)).then u4 (fun _ _ => id)).then (b5.then b6 (fun _ _ => id)) (fun _ _ => id)
    | false =>
      clear hpt
      go_enter Tryd.func26, Tryd.ntmps26
      go_wp2_with fail
      refine Calls.mono (hCP _) ?_
      rintro e w1 ⟨rfl, hw⟩
      replace hw := hw.symm
      subst hw
      go_wp2_with fail
      refine Calls.mono (hC _) ?_
      rintro e w2 ⟨rfl, n2, rfl⟩
      go_wp2_with fail
      refine Calls.mono (R1 _) ?_
      rintro e w3 ⟨rfl, u3⟩
      go_wp2_with fail
      refine Calls.mono (P1 _) ?_
      rintro e w5 ⟨rfl, u5⟩
      go_wp2_with fail
      refine Calls.mono (P2 _) ?_
      rintro e w6 ⟨rfl, u6⟩
      go_wp2_with fail
      go_ret2
      refine ⟨rfl, ?_⟩
      have b5 : Upd w3 w5 (fun _ => False) := by
        rcases u5 with rfl | rfl
        · exact Upd.refl _ _
        · exact Upd.of_below (Lib.bytesWorld_below _ _ _) _
      have b6 : Upd w5 w6 (fun _ => False) := by
        rcases u6 with rfl | rfl
        · exact Upd.refl _ _
        · exact Upd.of_below (Lib.bytesWorld_below _ _ _) _
      exact (((Upd.refl w _).drewN n2).then u3 (fun _ _ => id)).then (b5.then b6 (fun _ _ => id)) (fun _ _ => id)
  · have d1 : decide ((900000000000000 : Int) < (n : Int)) = false := by simp; omega
    have d1' : decide (900000000000000 < n) = false := by simpa using c1
    obtain ⟨A, hA⟩ : ∃ A, n * 10000 = A := ⟨_, rfl⟩
    obtain ⟨X, hX⟩ : ∃ X, A + m = X := ⟨_, rfl⟩
    have a1 : (n : Int) * 10000 = (A : Int) := by omega
    have a2 : IntKind.u64.wrap (A : Int) = (A : Int) := by rw [IntKind.wrap_u64]; omega
    have a3 : (A : Int) + (m : Int) = (X : Int) := by omega
    have a4 : IntKind.u64.wrap (X : Int) = (X : Int) := by rw [IntKind.wrap_u64]; omega
    rw [hA, hX]
    by_cases c2 : 9000000000000000000 < X
    · have d2 : decide ((9000000000000000000 : Int) < (X : Int)) = true := by simp; omega
      have d2' : decide (9000000000000000000 < X) = true := by simpa using c2
      rw [if_pos c2, if_pos c2]
      clear c1 c2 hmb hn18 hA hX f5
      cases pt with
      | true =>
        have hp2 := hpt rfl
        have R2 := fun w => run_any w part (by omega)
        rw [hp2] at R2
        clear hp2 hpt
        go_enter Tryd.func26, Tryd.ntmps26
        go_wp2_with fail
        refine Calls.mono (hCP _) ?_
        rintro e w1 ⟨rfl, hw⟩
        replace hw := hw.symm
        subst hw
        go_wp2_with fail
        refine Calls.mono (hC _) ?_
        rintro e w2 ⟨rfl, n2, rfl⟩
        go_wp2_with fail
        refine Calls.mono (R1 _) ?_
        rintro e w3 ⟨rfl, u3⟩
        go_wp2_with fail
        refine Calls.mono (R2 _) ?_
        rintro e w4 ⟨rfl, u4⟩
        go_wp2_with fail
        refine Calls.mono (P1 _) ?_
        rintro e w5 ⟨rfl, u5⟩
        go_wp2_with fail
        refine Calls.mono (P2 _) ?_
        rintro e w6 ⟨rfl, u6⟩
        go_wp2_with fail
        go_ret2
        refine ⟨rfl, ?_⟩
        have b5 : Upd w4 w5 (fun _ => False) := by
          rcases u5 with rfl | rfl
          · exact Upd.refl _ _
          · exact Upd.of_below (Lib.bytesWorld_below _ _ _) _
        have b6 : Upd w5 w6 (fun _ => False) := by
          rcases u6 with rfl | rfl
          · exact Upd.refl _ _
          · exact Upd.of_below (Lib.bytesWorld_below _ _ _) _
        exact ((((Upd.refl w _).drewN n2).then u3 (fun _ _ => id)).then u4 (fun _ _ => id)).then (b5.then b6 (fun _ _ => id)) (fun _ _ => id)
      | false =>
        clear hpt
        go_enter Tryd.func26, Tryd.ntmps26
        go_wp2_with fail
        refine Calls.mono (hCP _) ?_
        rintro e w1 ⟨rfl, hw⟩
        replace hw := hw.symm
        subst hw
        go_wp2_with fail
        refine Calls.mono (hC _) ?_
        rintro e w2 ⟨rfl, n2, rfl⟩
        go_wp2_with fail
        refine Calls.mono (R1 _) ?_
        rintro e w3 ⟨rfl, u3⟩
        go_wp2_with fail
        refine Calls.mono (P1 _) ?_
        rintro e w5 ⟨rfl, u5⟩
        go_wp2_with fail
        refine Calls.mono (P2 _) ?_
        rintro e w6 ⟨rfl, u6⟩
        go_wp2_with fail
        go_ret2
        refine ⟨rfl, ?_⟩
        have b5 : Upd w3 w5 (fun _ => False) := by
          rcases u5 with rfl | rfl
          · exact Upd.refl _ _
          · exact Upd.of_below (Lib.bytesWorld_below _ _ _) _
        have b6 : Upd w5 w6 (fun _ => False) := by
          rcases u6 with rfl | rfl
          · exact Upd.refl _ _
          · exact Upd.of_below (Lib.bytesWorld_below _ _ _) _
        exact (((Upd.refl w _).drewN n2).then u3 (fun _ _ => id)).then (b5.then b6 (fun _ _ => id)) (fun _ _ => id)
    · have d2 : decide ((9000000000000000000 : Int) < (X : Int)) = false := by simp; omega
      have d2' : decide (9000000000000000000 < X) = false := by simpa using c2
      have a5 : IntKind.i64.wrap (X : Int) = (X : Int) := IntWalk.i64_in _ (by omega)
      have a6 : IntKind.i64.wrap (-(X : Int)) = -(X : Int) := IntWalk.i64_in _ (by omega)
      rw [if_neg c2, if_neg c2]
      clear c1 c2 hmb hn18 hA hX f5
      cases pt with
      | true =>
        have hp2 := hpt rfl
        have R2 := fun w => run_any w part (by omega)
        rw [hp2] at R2
        clear hp2 hpt
        cases neg with
        | true =>
          go_enter Tryd.func26, Tryd.ntmps26
          go_wp2_with fail
          refine Calls.mono (hCP _) ?_
          rintro e w1 ⟨rfl, hw⟩
          replace hw := hw.symm
          subst hw
          go_wp2_with fail
          refine Calls.mono (hC _) ?_
          rintro e w2 ⟨rfl, n2, rfl⟩
          go_wp2_with fail
          refine Calls.mono (R1 _) ?_
          rintro e w3 ⟨rfl, u3⟩
          go_wp2_with fail
          refine Calls.mono (R2 _) ?_
          rintro e w4 ⟨rfl, u4⟩
          go_wp2_with fail
          refine Calls.mono (P1 _) ?_
          rintro e w5 ⟨rfl, u5⟩
          go_wp2_with fail
          refine Calls.mono (P2 _) ?_
          rintro e w6 ⟨rfl, u6⟩
          go_wp2_with fail
          go_ret2
          refine ⟨rfl, ?_⟩
          have b5 : Upd w4 w5 (fun _ => False) := by
            rcases u5 with rfl | rfl
            · exact Upd.refl _ _
            · exact Upd.of_below (Lib.bytesWorld_below _ _ _) _
          have b6 : Upd w5 w6 (fun _ => False) := by
            rcases u6 with rfl | rfl
            · exact Upd.refl _ _
            · exact Upd.of_below (Lib.bytesWorld_below _ _ _) _
          exact ((((Upd.refl w _).drewN n2).then u3 (fun _ _ => id)).then u4 (fun _ _ => id)).then (b5.then b6 (fun _ _ => id)) (fun _ _ => id)
        | false =>
          go_enter Tryd.func26, Tryd.ntmps26
          go_wp2_with fail
          refine Calls.mono (hCP _) ?_
          rintro e w1 ⟨rfl, hw⟩
          replace hw := hw.symm
          subst hw
          go_wp2_with fail
          refine Calls.mono (hC _) ?_
          rintro e w2 ⟨rfl, n2, rfl⟩
          go_wp2_with fail
          refine Calls.mono (R1 _) ?_
          rintro e w3 ⟨rfl, u3⟩
          go_wp2_with fail
          refine Calls.mono (R2 _) ?_
          rintro e w4 ⟨rfl, u4⟩
          go_wp2_with fail
          refine Calls.mono (P1 _) ?_
          rintro e w5 ⟨rfl, u5⟩
          go_wp2_with fail
          refine Calls.mono (P2 _) ?_
          rintro e w6 ⟨rfl, u6⟩
          go_wp2_with fail
          go_ret2
          refine ⟨rfl, ?_⟩
          have b5 : Upd w4 w5 (fun _ => False) := by
            rcases u5 with rfl | rfl
            · exact Upd.refl _ _
            · exact Upd.of_below (Lib.bytesWorld_below _ _ _) _
          have b6 : Upd w5 w6 (fun _ => False) := by
            rcases u6 with rfl | rfl
            · exact Upd.refl _ _
            · exact Upd.of_below (Lib.bytesWorld_below _ _ _) _
          exact ((((Upd.refl w _).drewN n2).then u3 (fun _ _ => id)).then u4 (fun _ _ => id)).then (b5.then b6 (fun _ _ => id)) (fun _ _ => id)
      | false =>
        clear hpt
        cases neg with
        | true =>
          go_enter Tryd.func26, Tryd.ntmps26
          go_wp2_with fail
          refine Calls.mono (hCP _) ?_
          rintro e w1 ⟨rfl, hw⟩
          replace hw := hw.symm
          subst hw
          go_wp2_with fail
          refine Calls.mono (hC _) ?_
          rintro e w2 ⟨rfl, n2, rfl⟩
          go_wp2_with fail
          refine Calls.mono (R1 _) ?_
          rintro e w3 ⟨rfl, u3⟩
          go_wp2_with fail
          refine Calls.mono (P1 _) ?_
          rintro e w5 ⟨rfl, u5⟩
          go_wp2_with fail
          refine Calls.mono (P2 _) ?_
          rintro e w6 ⟨rfl, u6⟩
          go_wp2_with fail
          go_ret2
          refine ⟨rfl, ?_⟩
          have b5 : Upd w3 w5 (fun _ => False) := by
            rcases u5 with rfl | rfl
            · exact Upd.refl _ _
            · exact Upd.of_below (Lib.bytesWorld_below _ _ _) _
          have b6 : Upd w5 w6 (fun _ => False) := by
            rcases u6 with rfl | rfl
            · exact Upd.refl _ _
            · exact Upd.of_below (Lib.bytesWorld_below _ _ _) _
          exact (((Upd.refl w _).drewN n2).then u3 (fun _ _ => id)).then (b5.then b6 (fun _ _ => id)) (fun _ _ => id)
        | false =>
          go_enter Tryd.func26, Tryd.ntmps26
          go_wp2_with fail
          refine Calls.mono (hCP _) ?_
          rintro e w1 ⟨rfl, hw⟩
          replace hw := hw.symm
          subst hw
          go_wp2_with fail
          refine Calls.mono (hC _) ?_
          rintro e w2 ⟨rfl, n2, rfl⟩
          go_wp2_with fail
          refine Calls.mono (R1 _) ?_
          rintro e w3 ⟨rfl, u3⟩
          go_wp2_with fail
          refine Calls.mono (P1 _) ?_
          rintro e w5 ⟨rfl, u5⟩
          go_wp2_with fail
          refine Calls.mono (P2 _) ?_
          rintro e w6 ⟨rfl, u6⟩
          go_wp2_with fail
          go_ret2
          refine ⟨rfl, ?_⟩
          have b5 : Upd w3 w5 (fun _ => False) := by
            rcases u5 with rfl | rfl
            · exact Upd.refl _ _
            · exact Upd.of_below (Lib.bytesWorld_below _ _ _) _
          have b6 : Upd w5 w6 (fun _ => False) := by
            rcases u6 with rfl | rfl
            · exact Upd.refl _ _
            · exact Upd.of_below (Lib.bytesWorld_below _ _ _) _
          exact (((Upd.refl w _).drewN n2).then u3 (fun _ _ => id)).then (b5.then b6 (fun _ _ => id)) (fun _ _ => id)

theorem Parse_ok (w : World) (s t whole part : ByteArray) (neg pt : Bool) (hCP : ∀ w, Calls Tryd.prog 36 #[.string s, .string ⟨#[45]⟩] w fun e w' => e = .returned (.tuple #[.string t, .bool neg]) ∧ w' = w)
    (hC : ∀ w, Calls Tryd.prog 37 #[.string t, .string ⟨#[46]⟩] w fun e w' => e = .returned (.tuple #[.string whole, .string part, .bool pt]) ∧ ∃ n, w' = w.drewN n) (hws : whole.size ≤ 1000) (hps : part.size ≤ 1000)
    (hw : isD whole.data.toList = true) (hpall : part.data.toList.all dgB = true) (hpt : pt = true → isD part.data.toList = true) : Calls Tryd.prog 26 #[.string s] w fun e w' => e = .returned (.tuple #[.int .i64 (numV neg (parseX whole.data.toList part.data.toList)), .int .i64 (numE (parseX whole.data.toList part.data.toList))]) ∧ Upd w w' (fun _ => False) := by
  have R1 := fun w => run_any w whole (by omega)
  rw [hw] at R1
  simp only [isD, Bool.and_eq_true, decide_eq_true_eq] at hw
  obtain ⟨⟨hw1, hw2⟩, hw3⟩ := hw
  have P1 := fun w => Tryd.strconv_ParseUint_10_at64_ok whole (by omega) (dval whole.data.toList) (parse_digits _ hw3 hw1 hw2) w
  have hfive : ((part ++ ⟨#[48, 48, 48, 48, 48]⟩).extract 0 5).data.toList = (part.data.toList ++ [48, 48, 48, 48, 48]).take 5 := by
    simp [ByteArray.data_extract, ByteArray.data_append]
    rw [List.take_append]
    rfl
  obtain ⟨f1, f2, f3⟩ := five part.data.toList hpall
  rw [← hfive] at f1 f2 f3
  obtain ⟨four, hfour⟩ : ∃ four, (part ++ ⟨#[48, 48, 48, 48, 48]⟩ : ByteArray).extract 0 5 = four := ⟨_, rfl⟩
  rw [hfour] at f1 f2 f3
  have hfs : four.size = 5 := f3
  have P2 := fun w => Tryd.strconv_ParseUint_10_at64_ok four (by omega) (dval four.data.toList) (parse_digits _ f2 (by omega) (by omega)) w
  have f5 := dval_lt _ f2
  rw [f3] at f5
  have hW := dval_lt _ hw3
  have hW18 : 10 ^ whole.data.toList.length ≤ 10 ^ 18 := Nat.pow_le_pow_right (by omega) hw2
  have k := Parse_core w s t whole part neg pt hCP hC hps four hfour _ _ (Nat.lt_of_lt_of_le hW hW18) f5 R1 P1 P2 hpt
  rw [f1] at k
  exact k
end Go.Proofs.YthahgablbdfodaaDoor
