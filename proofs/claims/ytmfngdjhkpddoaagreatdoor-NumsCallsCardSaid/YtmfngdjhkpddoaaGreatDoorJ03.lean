/- The walk of fixed.Num.Text. -/
import Derived.Test.YtmfngdjhkpddoaaGreatDoorJ02
import Derived.Lib.CutLaws
import Derived.Lib.IndexLaws
import Derived.Lib.IndexBytes
import Derived.Lib.AtoiErrMem
import Derived.Test.YtmfngdjhkpddoaaGreatDoorJ01
/- The walk of fixed.Num.Text. -/
set_option maxRecDepth 100000
namespace Go.Proofs.YtmfngdjhkpddoaaGreatDoor
open Go.RowKit Go.Lat Go.Shelf Go.Sort Go.Lib

theorem FormatUint_any (w : World) (u : Nat) (h2 : u < 18446744073709551616) (ht : Pow w) :
    Calls Tryz.prog 183 #[.int .u64 u, .int .i64 10] w fun e w' => e = .returned (.string ⟨(Lib.decDigits u).toArray⟩) ∧ Upd w w' (fun _ => False) := by
  have h := fun w ht => FormatUintI_any w u h2 ht
  generalize (⟨(Lib.decDigits u).toArray⟩ : ByteArray) = r at *
  go_enter Tryz.func183, Tryz.ntmps183
  go_wp2_with fail
  refine Calls.mono (h _ ht) ?_
  rintro e w' ⟨rfl, hu⟩
  go_wp2_with fail
  go_ret
  exact ⟨rfl, hu⟩

theorem list_size (l : List UInt8) : (⟨l.toArray⟩ : ByteArray).size = l.length := rfl
theorem trimRight_le (l : List UInt8) (c : UInt8) : (trimRightB l c).length ≤ l.length := by
  have h := (List.dropWhile_suffix (l := l.reverse) (· == c)).length_le
  unfold trimRightB
  simpa using h
theorem nDigits_step (u : Nat) : nDigits u = if u < 10 then 1 else nDigits (u / 10) + 1 := by
  rw [nDigits]
  by_cases h : u < 10
  · rw [dif_pos h, if_pos h]
  · rw [dif_neg h, if_neg h]
theorem nDigits5 (u : Nat) (h1 : 10000 ≤ u) (h2 : u < 20000) : nDigits u = 5 := by
  rw [nDigits_step, if_neg (by omega), nDigits_step, if_neg (by omega), nDigits_step, if_neg (by omega), nDigits_step, if_neg (by omega), nDigits_step, if_pos (by omega)]
theorem nDigits_le20 (u : Nat) (h : u < 18446744073709551616) : nDigits u ≤ 20 := by
  rcases Nat.eq_zero_or_pos u with e | e
  · rw [e, nDigits_step, if_pos (by omega)]; omega
  · have := Lib.numDigits_eq u e h
    split at this <;> omega

theorem i64_signed (s : Bool) (n : Nat) (hn : n ≤ 9000000000000000000) : okNum (if s then -(n : Int) else n) = true := by
  cases s <;> simp [okNum] <;> omega

set_option maxHeartbeats 3200000 in
theorem Text_whole (w : World) (s : Bool) (n : Nat) (hn : n ≤ 9000000000000000000) (h0 : s = true → 0 < n) (hr : n % 10000 = 0) (ht : Pow w) :
    Calls Tryz.prog 168 #[.int .i64 (if s then -(n : Int) else n)] w fun e w' => (∃ t, e = .returned (.string t) ∧ t.data.toList = (if s then [45] else []) ++ decDigits (n / 10000)) ∧ Upd w w' (fun _ => False) := by
  have hg := fixgood_any (w.alloc (.cells #[.int .i64 (if s then -(n : Int) else n)] 23)) w.heap.size _ (cells1 (heap_alloc_new w _))
  rw [i64_signed s n hn] at hg
  have hS := fun w => size_any w s n hn h0
  have hF := fun w ht => FormatUint_any w (n / 10000) (by omega) ht
  generalize (if s then -(n : Int) else (n : Int)) = v at *
  obtain ⟨m, hm⟩ : ∃ m, n / 10000 = m := ⟨_, rfl⟩
  have e1 : (n : Int) / 10000 = (m : Int) := by omega
  have e2 : (n : Int) % 10000 = 0 := by omega
  rw [hm] at hF ⊢
  obtain ⟨r, hr2⟩ : ∃ r, (⟨(Lib.decDigits m).toArray⟩ : ByteArray) = r := ⟨_, rfl⟩
  rw [hr2] at hF
  have hrl : r.size ≤ 20 := by
    rw [← hr2, list_size, decDigits_length]
    exact nDigits_le20 m (by omega)
  have hz1 : ¬ 9223372036854775807 < 1 + r.size := by omega
  have HR := hide hr2
  clear hr2 hm hrl
  cases s with
  | false =>
    go_enter Tryz.func168, Tryz.ntmps168
    go_wp2_with fail
    refine Calls.mono hg ?_
    rintro e w1 ⟨rfl, rfl⟩
    go_wp2_with fail
    refine Calls.mono (hS _) ?_
    rintro e w2 ⟨rfl, rfl⟩
    go_wp2_with fail
    refine Calls.mono (hF _ (ht.upd ((Upd.refl w (fun _ => False)).alloc _) id)) ?_
    rintro e w3 ⟨rfl, u3⟩
    go_wp2_with fail
    go_ret
    exact ⟨⟨_, rfl, by rw [← HR.out]⟩, ((Upd.refl w _).alloc _).then u3 (fun _ _ => id)⟩
  | true =>
    go_enter Tryz.func168, Tryz.ntmps168
    go_wp2_with fail
    refine Calls.mono hg ?_
    rintro e w1 ⟨rfl, rfl⟩
    go_wp2_with fail
    refine Calls.mono (hS _) ?_
    rintro e w2 ⟨rfl, rfl⟩
    go_wp2_with fail
    refine Calls.mono (hF _ (ht.upd ((Upd.refl w (fun _ => False)).alloc _) id)) ?_
    rintro e w3 ⟨rfl, u3⟩
    go_wp2_with fail
    go_ret
    refine ⟨⟨_, rfl, ?_⟩, ((Upd.refl w _).alloc _).then u3 (fun _ _ => id)⟩
    rw [← HR.out]
    simp

set_option maxHeartbeats 3200000 in
theorem Text_part (w : World) (s : Bool) (n : Nat) (hn : n ≤ 9000000000000000000) (h0 : s = true → 0 < n) (hr : n % 10000 ≠ 0) (ht : Pow w) :
    Calls Tryz.prog 168 #[.int .i64 (if s then -(n : Int) else n)] w fun e w' =>
      (∃ t, e = .returned (.string t) ∧ t.data.toList = (if s then [45] else []) ++ (decDigits (n / 10000) ++ 46 :: trimRightB ((decDigits (10000 + n % 10000)).drop 1) 48)) ∧ Upd w w' (fun _ => False) := by
  have hg := fixgood_any (w.alloc (.cells #[.int .i64 (if s then -(n : Int) else n)] 23)) w.heap.size _ (cells1 (heap_alloc_new w _))
  rw [i64_signed s n hn] at hg
  have hS := fun w => size_any w s n hn h0
  have hF := fun w ht => FormatUint_any w (n / 10000) (by omega) ht
  have hF2 := fun w ht => FormatUint_any w (10000 + n % 10000) (by omega) ht
  generalize (if s then -(n : Int) else (n : Int)) = v at *
  obtain ⟨m, hm⟩ : ∃ m, n / 10000 = m := ⟨_, rfl⟩
  obtain ⟨k, hk⟩ : ∃ k, n % 10000 = k := ⟨_, rfl⟩
  obtain ⟨k2, hk2⟩ : ∃ k2, 10000 + k = k2 := ⟨_, rfl⟩
  have e1 : (n : Int) / 10000 = (m : Int) := by omega
  have e2 : (n : Int) % 10000 = (k : Int) := by omega
  have e3 : (10000 : Int) + (k : Int) = (k2 : Int) := by omega
  have hkb : k < 10000 := by omega
  have d1 : decide (0 < (k : Int)) = true := by simp; omega
  have d2 : decide (0 < k) = true := by simp; omega
  have w1 : IntKind.u64.wrap (k2 : Int) = (k2 : Int) := by rw [IntKind.wrap_u64]; omega
  rw [hm] at hF ⊢
  rw [hk, hk2] at hF2 ⊢
  have hlen : (decDigits k2).length = 5 := by
    have g5 := nDigits5 k2 (by omega) (by omega)
    rw [decDigits_length, g5]
  obtain ⟨r, hr2⟩ : ∃ r, (⟨(Lib.decDigits m).toArray⟩ : ByteArray) = r := ⟨_, rfl⟩
  obtain ⟨t, ht2⟩ : ∃ t, (⟨(Lib.decDigits k2).toArray⟩ : ByteArray) = t := ⟨_, rfl⟩
  have htl : t.size = 5 := by rw [← ht2, list_size]; exact hlen
  have hT := fun w => Tryz.strings_TrimRight_one (t.extract 1 5) 48 (by decide) w (by simp; omega)
  have hte : (t.extract 1 5).data.toList = (decDigits k2).drop 1 := by
    rw [← ht2]
    simp [ByteArray.data_extract]
    rw [List.take_of_length_le (by simp; omega)]
  rw [hte] at hT
  obtain ⟨y, hy⟩ : ∃ y, (⟨(trimRightB ((decDigits k2).drop 1) 48).toArray⟩ : ByteArray) = y := ⟨_, rfl⟩
  have hyl : y.size ≤ 5 := by
    rw [← hy, list_size]
    have := trimRight_le ((decDigits k2).drop 1) 48
    rw [List.length_drop, hlen] at this
    omega
  rw [hy] at hT
  have hrl : r.size ≤ 20 := by
    rw [← hr2, list_size, decDigits_length]
    exact nDigits_le20 m (by omega)
  have hz1 : ¬ 9223372036854775807 < 1 + y.size := by omega
  have hz2 : ¬ 9223372036854775807 < r.size + (1 + y.size) := by omega
  have hz3 : ¬ 9223372036854775807 < 1 + (r.size + (1 + y.size)) := by omega
  have HY := hide hy
  rw [hr2] at hF
  rw [ht2] at hF2
  have HR := hide hr2
  have HT := hide ht2
  clear hr2 hm hk ht2 hr hk2 hy hyl hrl hte
  cases s with
  | false =>
    go_enter Tryz.func168, Tryz.ntmps168
    go_wp2_with fail
    refine Calls.mono hg ?_
    rintro e w1 ⟨rfl, rfl⟩
    go_wp2_with fail
    refine Calls.mono (hS _) ?_
    rintro e w2 ⟨rfl, rfl⟩
    go_wp2_with fail
    refine Calls.mono (hF _ (ht.upd ((Upd.refl w (fun _ => False)).alloc _) id)) ?_
    rintro e w3 ⟨rfl, u3⟩
    go_wp2_with fail
    refine Calls.mono (hF2 _ ((ht.upd ((Upd.refl w (fun _ => False)).alloc _) id).upd u3 id)) ?_
    rintro e w4 ⟨rfl, u4⟩
    go_wp2_with fail
    refine Calls.mono (hT _) ?_
    rintro e w5 ⟨rfl, rfl⟩
    go_wp2_with fail
    go_ret
    refine ⟨⟨_, rfl, ?_⟩, (((Upd.refl w _).alloc _).then u3 (fun _ _ => id)).then u4 (fun _ _ => id)⟩
    rw [← HR.out, ← HY.out]
    simp
  | true =>
    go_enter Tryz.func168, Tryz.ntmps168
    go_wp2_with fail
    refine Calls.mono hg ?_
    rintro e w1 ⟨rfl, rfl⟩
    go_wp2_with fail
    refine Calls.mono (hS _) ?_
    rintro e w2 ⟨rfl, rfl⟩
    go_wp2_with fail
    refine Calls.mono (hF _ (ht.upd ((Upd.refl w (fun _ => False)).alloc _) id)) ?_
    rintro e w3 ⟨rfl, u3⟩
    go_wp2_with fail
    refine Calls.mono (hF2 _ ((ht.upd ((Upd.refl w (fun _ => False)).alloc _) id).upd u3 id)) ?_
    rintro e w4 ⟨rfl, u4⟩
    go_wp2_with fail
    refine Calls.mono (hT _) ?_
    rintro e w5 ⟨rfl, rfl⟩
    go_wp2_with fail
    go_ret
    refine ⟨⟨_, rfl, ?_⟩, (((Upd.refl w _).alloc _).then u3 (fun _ _ => id)).then u4 (fun _ _ => id)⟩
    rw [← HR.out, ← HY.out]
    simp
end Go.Proofs.YtmfngdjhkpddoaaGreatDoor
/- The walks of strings.Cut at one byte (after the kit's worked one), of fixed.run at digits, and of fixed.Parse at one text. -/
set_option maxRecDepth 100000
namespace Go.Proofs.YtmfngdjhkpddoaaGreatDoor
open Go.RowKit Go.Lat Go.Shelf Go.Sort Go.Lib

theorem indexB_one (s : ByteArray) (c : UInt8) : indexB s ⟨#[c]⟩ = indexByte s.data.toList c := index_one s.data.toList c

set_option maxHeartbeats 2000000 in
theorem CutI_any (w : World) (s : ByteArray) (c : UInt8) (hs : s.size ≤ 9223372036854775806) : Calls Tryz.prog 172 #[.string s, .string ⟨#[c]⟩] w fun e w' =>
    e = .returned (.tuple #[.string ⟨(Lib.cut s.data.toList [c]).1.toArray⟩, .string ⟨(Lib.cut s.data.toList [c]).2.1.toArray⟩, .bool (Lib.cut s.data.toList [c]).2.2]) ∧ ∃ n, w' = w.drewN n := by
  have hI := fun w => Tryz.stringslite_Index_one s c w
  have e0 : (⟨#[c]⟩ : ByteArray).data.toList = [c] := rfl
  have z0 : (⟨#[c]⟩ : ByteArray).size = 1 := rfl
  rcases Lib.indexB_cases s ⟨#[c]⟩ with hix | ⟨i, hix, hroom⟩
  · obtain ⟨e1, e2, e3⟩ := Lib.cutB_miss s ⟨#[c]⟩ hix
    rw [e0] at e1 e2 e3
    rw [e1, e2, e3]
    rw [indexB_one] at hix
    rw [hix] at hI
    clear e0 e1 e2 e3
    go_enter Tryz.func172, Tryz.ntmps172
    go_wp2_with fail
    refine Calls.mono (hI _) ?_
    rintro e w' ⟨rfl, rfl⟩
    go_wp2_with fail
    go_ret3
    exact ⟨rfl, 0, rfl⟩
  · obtain ⟨e1, e2, e3⟩ := Lib.cutB_hit s ⟨#[c]⟩ i hix
    rw [e0] at e1 e2 e3
    rw [e1, e2, e3]
    rw [indexB_one] at hix
    rw [hix] at hI
    rw [z0] at hroom ⊢
    have c1 : (0 : Int) ≤ ↑i := by omega
    have c2 : (↑i : Int) ≤ ↑s.size := by omega
    have c3 : (0 : Int) ≤ ↑i + 1 := by omega
    have c4 : (↑i + 1 : Int) ≤ ↑s.size := by omega
    have c5 : IntKind.i64.wrap (↑i + 1) = ↑i + 1 := IntWalk.i64_in _ (by omega)
    have c6 : (↑i + 1 : Int).toNat = i + 1 := by omega
    have mixed := Tryz.lays219.mixed
    clear e0 e1 e2 e3
    go_enter Tryz.func172, Tryz.ntmps172
    go_wp2_with fail
    refine Calls.mono (hI _) ?_
    rintro e w' ⟨rfl, rfl⟩
    go_wp2_with fail
    go_region_o
    go_wp2_with fail
    go_ret3
    exact ⟨rfl, 1, rfl⟩

theorem Cut_any (w : World) (s : ByteArray) (c : UInt8) (hs : s.size ≤ 9223372036854775806) : Calls Tryz.prog 148 #[.string s, .string ⟨#[c]⟩] w fun e w' =>
    e = .returned (.tuple #[.string ⟨(Lib.cut s.data.toList [c]).1.toArray⟩, .string ⟨(Lib.cut s.data.toList [c]).2.1.toArray⟩, .bool (Lib.cut s.data.toList [c]).2.2]) ∧ ∃ n, w' = w.drewN n := by
  have h := fun w => CutI_any w s c hs
  generalize (⟨(Lib.cut s.data.toList [c]).1.toArray⟩ : ByteArray) = a at *
  generalize (⟨(Lib.cut s.data.toList [c]).2.1.toArray⟩ : ByteArray) = b at *
  generalize (Lib.cut s.data.toList [c]).2.2 = d at *
  go_enter Tryz.func148, Tryz.ntmps148
  go_wp2_with fail
  refine Calls.mono (h _) ?_
  rintro e w' ⟨rfl, n, rfl⟩
  go_wp2_with fail
  go_ret3
  exact ⟨rfl, n, rfl⟩

/-- The digits. -/
def dgs : List UInt8 := [48, 49, 50, 51, 52, 53, 54, 55, 56, 57]

end Go.Proofs.YtmfngdjhkpddoaaGreatDoor
/- The walk of wakes: what the document fixes of package fixed. -/
set_option maxRecDepth 100000
namespace Go.Proofs.YtmfngdjhkpddoaaGreatDoor
open Go.RowKit Go.Lat Go.Shelf Go.Sort Go.Lib

theorem Div64_low (w : World) (x y : Nat) (hx : x < 18446744073709551616) (hy0 : 0 < y) (hy : y < 18446744073709551616) : Calls Tryz.prog 159 #[.int .u64 0, .int .u64 x, .int .u64 y] w fun e w' =>
    e = .returned (.tuple #[.int .u64 ((x / y : Nat) : Int), .int .u64 ((x % y : Nat) : Int)]) ∧ ∃ n, w' = w.drewN n := by
  have mixed := Tryz.lays219.mixed
  have hq := Nat.div_le_self x y
  have hw : IntKind.u64.wrap ((x / y : Nat) : Int) = ((x / y : Nat) : Int) := by
    generalize x / y = q at *
    rw [IntKind.wrap_u64]
    omega
  have d1 : ((y : Int) == 0) = false := by simp; omega
  have d1' : (y == 0) = false := by simp; omega
  have d2 : decide ((y : Int) ≤ 0) = false := by simp; omega
  have d2' : decide (y ≤ 0) = false := by simp; omega
  have e0 : ¬ (y : Int) = 0 := by omega
  have e0' : ¬ y = 0 := by omega
  have e1 : (x : Int) / (y : Int) = ((x / y : Nat) : Int) := rfl
  have e2 : (x : Int) % (y : Int) = ((x % y : Nat) : Int) := rfl
  have e3 : (x : Int).tdiv (y : Int) = ((x / y : Nat) : Int) := rfl
  have e4 : (x : Int).tmod (y : Int) = ((x % y : Nat) : Int) := rfl
  generalize x / y = q at *
  generalize x % y = r at *
  go_enter Tryz.func159, Tryz.ntmps159
  go_wp2_with fail
  go_region_o
  go_wp2_with fail
  go_ret2
  exact ⟨rfl, 1, rfl⟩

end Go.Proofs.YtmfngdjhkpddoaaGreatDoor
