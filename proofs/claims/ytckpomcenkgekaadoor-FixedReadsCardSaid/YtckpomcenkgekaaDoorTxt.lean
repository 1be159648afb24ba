/- The walk of fixed.Num.Text. -/
import Derived.Test.YtckpomcenkgekaaDoorFmt
import Derived.Test.YtckpomcenkgekaaDoorFxB
set_option maxRecDepth 100000
namespace Go.Proofs.YtckpomcenkgekaaDoor
open Go.RowKit Go.Lat Go.Shelf Go.Sort Go.Lib

theorem FormatUint_any (w : World) (u : Nat) (h2 : u < 18446744073709551616) (ht : Pow w) :
    Calls Tryd.prog 47 #[.int .u64 u, .int .i64 10] w fun e w' => e = .returned (.string ⟨(Lib.decDigits u).toArray⟩) ∧ Upd w w' (fun _ => False) := by
  have h := fun w ht => FormatUintI_any w u h2 ht
  generalize (⟨(Lib.decDigits u).toArray⟩ : ByteArray) = r at *
  go_enter Tryd.func47, Tryd.ntmps47
  go_wp2_with fail
  refine Calls.mono (h _ ht) ?_
  rintro e w' ⟨rfl, hu⟩
  go_wp2_with fail
  go_ret
  exact ⟨rfl, hu⟩

theorem list_size (l : List UInt8) : (⟨l.toArray⟩ : ByteArray).size = l.length := rfl
theorem trimRight_le (l : List UInt8) (c : UInt8) : (trimRightB l c).length ≤ l.length := by
  have h := (List.dropWhile_suffix (l := l.reverse) (· == c)).length_le
  unfold trimRightB
  simpa using h
theorem nDigits_step (u : Nat) : nDigits u = if u < 10 then 1 else nDigits (u / 10) + 1 := by
  rw [nDigits]
  by_cases h : u < 10
  · rw [dif_pos h, if_pos h]
  · rw [dif_neg h, if_neg h]
theorem nDigits5 (u : Nat) (h1 : 10000 ≤ u) (h2 : u < 20000) : nDigits u = 5 := by
  rw [nDigits_step, if_neg (by omega), nDigits_step, if_neg (by omega), nDigits_step, if_neg (by omega), nDigits_step, if_neg (by omega), nDigits_step, if_pos (by omega)]
theorem nDigits_le20 (u : Nat) (h : u < 18446744073709551616) : nDigits u ≤ 20 := by
  rcases Nat.eq_zero_or_pos u with e | e
  · rw [e, nDigits_step, if_pos (by omega)]; omega
  · have := Lib.numDigits_eq u e h
    split at this <;> omega

theorem i64_signed (s : Bool) (n : Nat) (hn : n ≤ 9000000000000000000) : okNum (if s then -(n : Int) else n) = true := by
  cases s <;> simp [okNum] <;> omega

set_option maxHeartbeats 3200000 in
theorem Text_whole (w : World) (s : Bool) (n : Nat) (hn : n ≤ 9000000000000000000) (h0 : s = true → 0 < n) (hr : n % 10000 = 0) (ht : Pow w) :
    Calls Tryd.prog 18 #[.int .i64 (if s then -(n : Int) else n)] w fun e w' => (∃ t, e = .returned (.string t) ∧ t.data.toList = (if s then [45] else []) ++ decDigits (n / 10000)) ∧ Upd w w' (fun _ => False) := by
  have hg := fixgood_any (w.alloc (.cells #[.int .i64 (if s then -(n : Int) else n)] 22)) w.heap.size _ (cells1 (heap_alloc_new w _))
  rw [i64_signed s n hn] at hg
  have hS := fun w => size_any w s n hn h0
  have hF := fun w ht => FormatUint_any w (n / 10000) (by omega) ht
  generalize (if s then -(n : Int) else (n : Int)) = v at *
  obtain ⟨m, hm⟩ : ∃ m, n / 10000 = m := ⟨_, rfl⟩
  have e1 : (n : Int) / 10000 = (m : Int) := by omega
  have e2 : (n : Int) % 10000 = 0 := by omega
  rw [hm] at hF ⊢
  obtain ⟨r, hr2⟩ : ∃ r, (⟨(Lib.decDigits m).toArray⟩ : ByteArray) = r := ⟨_, rfl⟩
  rw [hr2] at hF
  have hrl : r.size ≤ 20 := by
    rw [← hr2, list_size, decDigits_length]
    exact nDigits_le20 m (by omega)
  have hz1 : ¬ 9223372036854775807 < 1 + r.size := by omega
  have HR := hide hr2
  clear hr2 hm hrl
  cases s with
  | false =>
    go_enter Tryd.func18, Tryd.ntmps18
    go_wp2_with fail
    refine Calls.mono hg ?_
    rintro e w1 ⟨rfl, rfl⟩
    go_wp2_with fail
    refine Calls.mono (hS _) ?_
    rintro e w2 ⟨rfl, rfl⟩
    go_wp2_with fail
    refine Calls.mono (hF _ (ht.upd ((Upd.refl w (fun _ => False)).alloc _) id)) ?_
    rintro e w3 ⟨rfl, u3⟩
    go_wp2_with fail
    go_ret
    exact ⟨⟨_, rfl, by rw [← HR.out]⟩, ((Upd.refl w _).alloc _).then u3 (fun _ _ => id)⟩
  | true =>
    go_enter Tryd.func18, Tryd.ntmps18
    go_wp2_with fail
    refine Calls.mono hg ?_
    rintro e w1 ⟨rfl, rfl⟩
    go_wp2_with fail
    refine Calls.mono (hS _) ?_
    rintro e w2 ⟨rfl, rfl⟩
    go_wp2_with fail
    refine Calls.mono (hF _ (ht.upd ((Upd.refl w (fun _ => False)).alloc _) id)) ?_
    rintro e w3 ⟨rfl, u3⟩
    go_wp2_with fail
    go_ret
    refine ⟨⟨_, rfl, ?_⟩, ((Upd.refl w _).alloc _).then u3 (fun _ _ => id)⟩
    rw [← HR.out]
    simp

set_option maxHeartbeats 3200000 in
theorem Text_part (w : World) (s : Bool) (n : Nat) (hn : n ≤ 9000000000000000000) (h0 : s = true → 0 < n) (hr : n % 10000 ≠ 0) (ht : Pow w) :
    Calls Tryd.prog 18 #[.int .i64 (if s then -(n : Int) else n)] w fun e w' =>
      (∃ t, e = .returned (.string t) ∧ t.data.toList = (if s then [45] else []) ++ (decDigits (n / 10000) ++ 46 :: trimRightB ((decDigits (10000 + n % 10000)).drop 1) 48)) ∧ Upd w w' (fun _ => False) := by
  have hg := fixgood_any (w.alloc (.cells #[.int .i64 (if s then -(n : Int) else n)] 22)) w.heap.size _ (cells1 (heap_alloc_new w _))
  rw [i64_signed s n hn] at hg
  have hS := fun w => size_any w s n hn h0
  have hF := fun w ht => FormatUint_any w (n / 10000) (by omega) ht
  have hF2 := fun w ht => FormatUint_any w (10000 + n % 10000) (by omega) ht
  generalize (if s then -(n : Int) else (n : Int)) = v at *
  obtain ⟨m, hm⟩ : ∃ m, n / 10000 = m := ⟨_, rfl⟩
  obtain ⟨k, hk⟩ : ∃ k, n % 10000 = k := ⟨_, rfl⟩
  obtain ⟨k2, hk2⟩ : ∃ k2, 10000 + k = k2 := ⟨_, rfl⟩
  have e1 : (n : Int) / 10000 = (m : Int) := by omega
  have e2 : (n : Int) % 10000 = (k : Int) := by omega
  have e3 : (10000 : Int) + (k : Int) = (k2 : Int) := by omega
  have hkb : k < 10000 := by omega
  have d1 : decide (0 < (k : Int)) = true := by simp; omega
  have d2 : decide (0 < k) = true := by simp; omega
  have w1 : IntKind.u64.wrap (k2 : Int) = (k2 : Int) := by rw [IntKind.wrap_u64]; omega
  rw [hm] at hF ⊢
  rw [hk, hk2] at hF2 ⊢
  have hlen : (decDigits k2).length = 5 := by
    have g5 := nDigits5 k2 (by omega) (by omega)
    rw [decDigits_length, g5]
  obtain ⟨r, hr2⟩ : ∃ r, (⟨(Lib.decDigits m).toArray⟩ : ByteArray) = r := ⟨_, rfl⟩
  obtain ⟨t, ht2⟩ : ∃ t, (⟨(Lib.decDigits k2).toArray⟩ : ByteArray) = t := ⟨_, rfl⟩
  have htl : t.size = 5 := by rw [← ht2, list_size]; exact hlen
  have hT := fun w => Tryd.strings_TrimRight_one (t.extract 1 5) 48 (by decide) w (by simp; omega)
  have hte : (t.extract 1 5).data.toList = (decDigits k2).drop 1 := by
    rw [← ht2]
    simp [ByteArray.data_extract]
    rw [List.take_of_length_le (by simp; omega)]
  rw [hte] at hT
  obtain ⟨y, hy⟩ : ∃ y, (⟨(trimRightB ((decDigits k2).drop 1) 48).toArray⟩ : ByteArray) = y := ⟨_, rfl⟩
  have hyl : y.size ≤ 5 := by
    rw [← hy, list_size]
    have := trimRight_le ((decDigits k2).drop 1) 48
    rw [List.length_drop, hlen] at this
    omega
  rw [hy] at hT
  have hrl : r.size ≤ 20 := by
    rw [← hr2, list_size, decDigits_length]
    exact nDigits_le20 m (by omega)
  have hz1 : ¬ 9223372036854775807 < 1 + y.size := by omega
  have hz2 : ¬ 9223372036854775807 < r.size + (1 + y.size) := by omega
  have hz3 : ¬ 9223372036854775807 < 1 + (r.size + (1 + y.size)) := by omega
  have HY := hide hy
  rw [hr2] at hF
  rw [ht2] at hF2
  have HR := hide hr2
  have HT := hide ht2
  clear hr2 hm hk ht2 hr hk2 hy hyl hrl hte
  cases s with
  | false =>
    go_enter Tryd.func18, Tryd.ntmps18
    go_wp2_with fail
    refine Calls.mono hg ?_
    rintro e w1 ⟨rfl, rfl⟩
    go_wp2_with fail
    refine Calls.mono (hS _) ?_
    rintro e w2 ⟨rfl, rfl⟩
    go_wp2_with fail
    refine Calls.mono (hF _ (ht.upd ((Upd.refl w (fun _ => False)).alloc _) id)) ?_
    rintro e w3 ⟨rfl, u3⟩
    go_wp2_with fail
    refine Calls.mono (hF2 _ ((ht.upd ((Upd.refl w (fun _ => False)).alloc _) id).upd u3 id)) ?_
    rintro e w4 ⟨rfl, u4⟩
    go_wp2_with fail
    refine Calls.mono (hT _) ?_
    rintro e w5 ⟨rfl, rfl⟩
    go_wp2_with fail
    go_ret
    refine ⟨⟨_, rfl, ?_⟩, (((Upd.refl w _).alloc _).then u3 (fun _ _ => id)).then u4 (fun _ _ => id)⟩
    rw [← HR.out, ← HY.out]
    simp
  | true =>
    go_enter Tryd.func18, Tryd.ntmps18
    go_wp2_with fail
    refine Calls.mono hg ?_
    rintro e w1 ⟨rfl, rfl⟩
    go_wp2_with fail
    refine Calls.mono (hS _) ?_
    rintro e w2 ⟨rfl, rfl⟩
    go_wp2_with fail
    refine Calls.mono (hF _ (ht.upd ((Upd.refl w (fun _ => False)).alloc _) id)) ?_
    rintro e w3 ⟨rfl, u3⟩
    go_wp2_with fail
    refine Calls.mono (hF2 _ ((ht.upd ((Upd.refl w (fun _ => False)).alloc _) id).upd u3 id)) ?_
    rintro e w4 ⟨rfl, u4⟩
    go_wp2_with fail
    refine Calls.mono (hT _) ?_
    rintro e w5 ⟨rfl, rfl⟩
    go_wp2_with fail
    go_ret
    refine ⟨⟨_, rfl, ?_⟩, (((Upd.refl w _).alloc _).then u3 (fun _ _ => id)).then u4 (fun _ _ => id)⟩
    rw [← HR.out, ← HY.out]
    simp
end Go.Proofs.YtckpomcenkgekaaDoor
