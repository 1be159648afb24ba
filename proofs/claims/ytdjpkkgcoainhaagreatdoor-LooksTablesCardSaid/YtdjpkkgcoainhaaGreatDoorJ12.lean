/- The walk of the reference's Bare; strings.Trim at a blank. -/
import Derived.Test.YtdjpkkgcoainhaaGreatDoorJ11
import Derived.Test.YtdjpkkgcoainhaaGreatDoorJ09
/- The walk of the reference's Bare; strings.Trim at a blank. -/
set_option maxRecDepth 100000
namespace Go.Proofs.YtdjpkkgcoainhaaGreatDoor
open Go.RowKit Go.Lat Go.Lib

theorem strings_Trim32 (t : List UInt8) (ht : t.length ≤ 1000000) (w : World) : Calls Tryz.prog 101 #[enS t, .string ⟨#[32]⟩] w fun e w' => e = .returned (enS (trimB t 32)) ∧ Upd w w' (fun _ => False) := by
  refine Calls.mono (Tryz.strings_Trim_one ⟨t.toArray⟩ 32 (by decide) w (by have : (⟨t.toArray⟩ : ByteArray).size = t.length := rfl; omega)) ?_
  rintro e w' ⟨rfl, hw⟩
  refine ⟨rfl, ?_⟩
  rcases hw with rfl | rfl
  · exact Upd.refl _ _
  · exact (Upd.refl _ _).drew

theorem getB {z : ByteArray} {k : Nat} (h : k < z.size) : z.data.toList[k]? = some z[k] := by
  rw [List.getElem?_eq_getElem (by simpa using h)]
  rfl
theorem drop1 (z : ByteArray) : (z.extract 1 z.size).data.toList = z.data.toList.drop 1 := by
  simp only [ByteArray.data_extract, Array.toList_extract, List.extract_eq_take_drop]
  rw [List.take_of_length_le]
  simp
theorem take1 (z : ByteArray) (m : Nat) : (z.extract 0 m).data.toList = z.data.toList.take m := by
  simp [ByteArray.data_extract, List.extract_eq_take_drop]

set_option maxHeartbeats 1600000 in
theorem Bare_any (w : World) (t : List UInt8) (ht : t.length ≤ 1000000) : Calls Tryz.prog 85 #[enS t] w fun e w' => e = .returned (enS (trimB t 32)) ∧ Upd w w' (fun _ => False) := by
  rw [← trim_swap]
  have HT := hide ht
  clear ht
  go_enter Tryz.func85, Tryz.ntmps85
  go_wp2_with fail
  go_loopg [0] t.length (fun q sv wr => wr = w ∧ ∃ (z : ByteArray) (i : Nat), sv = .string z ∧ z.data.toList = t.drop i ∧ i ≤ t.length ∧ i + q = t.length ∧ ∀ (j : Nat) b, j < i → t[j]? = some b → b = 32)
  case atStart => exact ⟨rfl, ⟨t.toArray⟩, 0, rfl, by simp, by omega, by omega, fun j b hj => by omega⟩
  case round =>
    obtain ⟨hw, z, i, rfl, hz, hi, hq, hall⟩ := hrel
    replace hw := hw.symm
    subst hw
    have hzs : z.size = t.length - i := by rw [show z.size = z.data.toList.length from rfl, hz, List.length_drop]
    have HZL : Hid (z.size ≤ 1000000) := hide (by have := HT.out; omega)
    by_cases hz0 : z.size = 0
    · have e1 : decide ((z.size : Int) > 0) = false := decide_eq_false (by omega)
      have e3 : decide (0 < z.size) = false := decide_eq_false (by omega)
      have HZ : Hid (trimLeftB t 32 = z.data.toList) := hide (by
        rw [hz, trimLeftB_drop t 32 i hi hall (fun b hb => by have := (List.getElem?_eq_some_iff.1 hb).1; omega)])
      clear hall hz hq hi hzs
      go_wp2_with fail
      go_loopg [0] z.size (fun q sv wr => wr = w ∧ ∃ (y : ByteArray) (m : Nat), sv = .string y ∧ y.data.toList = z.data.toList.take m ∧ y.size = m ∧ m ≤ q ∧ m ≤ z.size ∧ ∀ (j : Nat) b, m ≤ j → z.data.toList[j]? = some b → b = 32)
      case atStart => exact ⟨rfl, z, z.size, rfl, by rw [List.take_of_length_le (Nat.le_refl z.size)], rfl, Nat.le_refl _, Nat.le_refl _, fun j b hj hb => by have := (List.getElem?_eq_some_iff.1 hb).1; have e : z.data.toList.length = z.size := rfl; omega⟩
      case round =>
        obtain ⟨hw, y, m, rfl, hy, hys, hmq, hm, hall2⟩ := hrel
        replace hw := hw.symm
        subst hw
        by_cases hm0 : m = 0
        · have hlast : ∀ b, 0 < m → z.data.toList[m - 1]? = some b → b ≠ 32 := fun b hb => by omega
          have e0 : decide (y.size > 0) = false := decide_eq_false (by omega)
          have e1 : decide ((y.size : Int) > 0) = false := decide_eq_false (by omega)
          have e3 : decide (0 < y.size) = false := decide_eq_false (by omega)
          have HALL := hide hall2
          have HLAST := hide hlast
          have HY := hide hy
          clear hall2 hlast hy
          go_wp2_with fail
          go_ret
          refine ⟨?_, Upd.refl _ _⟩
          have e2 : trimRightB (trimLeftB t 32) 32 = y.data.toList := by
            rw [HZ.out, HY.out, trimRightB_take z.data.toList 32 m (by have : z.data.toList.length = z.size := rfl; omega) HALL.out (fun b hb hb2 => HLAST.out b hb hb2)]
          rw [e2]
          rfl
        · obtain ⟨k, rfl⟩ : ∃ k, m = k + 1 := ⟨m - 1, by omega⟩
          have e1 : decide ((y.size : Int) > 0) = true := decide_eq_true (by omega)
          have e3 : decide (0 < y.size) = true := decide_eq_true (by omega)
          have hk : k < y.size := by omega
          have ew : wrap64 (k : Int) = (k : Int) := IntWalk.wrap64_in _ (by have := HZL.out; omega)
          obtain ⟨c, hc⟩ : ∃ c, y[k] = c := ⟨_, rfl⟩
          have hzc : z.data.toList[k]? = some c := by
            have h1 := getB hk
            rw [hc, hy, List.getElem?_take_of_lt (by omega)] at h1
            exact h1
          have hk0 : (0 : Int) ≤ (k : Int) := by omega
          by_cases hc32 : c = 32
          · subst hc32
            have hy2 : (y.extract 0 k).data.toList = z.data.toList.take k := by
              rw [take1 y k, hy, List.take_take]
              congr 1
              omega
            have hys2 : (y.extract 0 k).size = k := by rw [ByteArray.size_extract]; omega
            obtain ⟨y', hy'⟩ : ∃ y', y.extract 0 k = y' := ⟨_, rfl⟩
            rw [hy'] at hy2 hys2
            have HALL := hide hall2
            have HY2 := hide hy2
            have HYS := hide hys2
            have HZC := hide hzc
            clear hall2 hy hy2 hys2 hzc
            go_wp2_with fail
            go_roundg (gk - 1)
            case measure => omega
            case rel =>
              have hzl := HZL.out
              refine ⟨rfl, y', k, by first | rfl | (rw [hy']) | (rw [IntWalk.wrap64_in _ (by omega), Int.toNat_natCast, hy']), HY2.out, HYS.out, by omega, by omega, fun j b hj hb => ?_⟩
              by_cases e : j = k
              · subst e
                rw [HZC.out] at hb
                exact (Option.some.inj hb).symm
              · exact HALL.out j b (by omega) hb
          · have e4 : ((c.toNat : Int) == 32) = false := by
              have : c.toNat ≠ 32 := fun e => hc32 (UInt8.toNat_inj.1 e)
              exact beq_eq_false_iff_ne.2 (by omega)
            have e5 : decide (c.toNat = 32) = false := by
              have : c.toNat ≠ 32 := fun e => hc32 (UInt8.toNat_inj.1 e)
              simpa using this
            have HC := hide hc32
            have HALL := hide hall2
            have HY := hide hy
            have HZC := hide hzc
            clear hall2 hy hzc hc32
            go_wp2_with fail
            go_ret
            refine ⟨?_, Upd.refl _ _⟩
            have e2 : trimRightB (trimLeftB t 32) 32 = y.data.toList := by
              rw [HZ.out, HY.out, trimRightB_take z.data.toList 32 (k + 1) (by have : z.data.toList.length = z.size := rfl; omega) HALL.out (fun b _ hb2 => by
                rw [Nat.add_sub_cancel, HZC.out] at hb2
                rw [← Option.some.inj hb2]
                exact HC.out)]
            rw [e2]
            rfl
    · have e1 : decide ((z.size : Int) > 0) = true := decide_eq_true (by omega)
      have e3 : decide (0 < z.size) = true := decide_eq_true (by omega)
      have hk : 0 < z.size := by omega
      obtain ⟨c, hc⟩ : ∃ c, z[0] = c := ⟨_, rfl⟩
      have htc : t[i]? = some c := by
        have h1 := getB hk
        rw [hc, hz, List.getElem?_drop] at h1
        exact h1
      by_cases hc32 : c = 32
      · subst hc32
        have hz2 : (z.extract 1 z.size).data.toList = t.drop (i + 1) := by rw [drop1, hz, List.drop_drop]
        obtain ⟨z', hz'⟩ : ∃ z', z.extract 1 z.size = z' := ⟨_, rfl⟩
        rw [hz'] at hz2
        have HALL := hide hall
        have HZ2 := hide hz2
        have HTC := hide htc
        have HZS := hide hzs
        clear hall hz hz2 htc hzs
        go_wp2_with fail
        go_roundg (gk - 1)
        case measure => have hzs := HZS.out; omega
        case rel =>
          have hzs := HZS.out
          refine ⟨rfl, z', i + 1, by first | rfl | (rw [hz']), HZ2.out, by omega, by omega, fun j b hj hb => ?_⟩
          by_cases e : j = i
          · subst e
            rw [HTC.out] at hb
            exact (Option.some.inj hb).symm
          · exact HALL.out j b (by omega) hb
      · have e4 : ((c.toNat : Int) == 32) = false := by
          have : c.toNat ≠ 32 := fun e => hc32 (UInt8.toNat_inj.1 e)
          exact beq_eq_false_iff_ne.2 (by omega)
        have HZ : Hid (trimLeftB t 32 = z.data.toList) := hide (by
          rw [hz, trimLeftB_drop t 32 i hi hall (fun b hb => by rw [htc] at hb; rw [← Option.some.inj hb]; exact hc32)])
        clear hall hz hq hi hzs htc hc32
        go_wp2_with fail
        go_loopg [0] z.size (fun q sv wr => wr = w ∧ ∃ (y : ByteArray) (m : Nat), sv = .string y ∧ y.data.toList = z.data.toList.take m ∧ y.size = m ∧ m ≤ q ∧ m ≤ z.size ∧ ∀ (j : Nat) b, m ≤ j → z.data.toList[j]? = some b → b = 32)
        case atStart => exact ⟨rfl, z, z.size, rfl, by rw [List.take_of_length_le (Nat.le_refl z.size)], rfl, Nat.le_refl _, Nat.le_refl _, fun j b hj hb => by have := (List.getElem?_eq_some_iff.1 hb).1; have e : z.data.toList.length = z.size := rfl; omega⟩
        case round =>
          obtain ⟨hw, y, m, rfl, hy, hys, hmq, hm, hall2⟩ := hrel
          replace hw := hw.symm
          subst hw
          by_cases hm0 : m = 0
          · have hlast : ∀ b, 0 < m → z.data.toList[m - 1]? = some b → b ≠ 32 := fun b hb => by omega
            have e0 : decide (y.size > 0) = false := decide_eq_false (by omega)
            have e1 : decide ((y.size : Int) > 0) = false := decide_eq_false (by omega)
            have e3 : decide (0 < y.size) = false := decide_eq_false (by omega)
            have HALL := hide hall2
            have HLAST := hide hlast
            have HY := hide hy
            clear hall2 hlast hy
            go_wp2_with fail
            go_ret
            refine ⟨?_, Upd.refl _ _⟩
            have e2 : trimRightB (trimLeftB t 32) 32 = y.data.toList := by
              rw [HZ.out, HY.out, trimRightB_take z.data.toList 32 m (by have : z.data.toList.length = z.size := rfl; omega) HALL.out (fun b hb hb2 => HLAST.out b hb hb2)]
            rw [e2]
            rfl
          · obtain ⟨k, rfl⟩ : ∃ k, m = k + 1 := ⟨m - 1, by omega⟩
            have e1 : decide ((y.size : Int) > 0) = true := decide_eq_true (by omega)
            have e3 : decide (0 < y.size) = true := decide_eq_true (by omega)
            have hk : k < y.size := by omega
            have ew : wrap64 (k : Int) = (k : Int) := IntWalk.wrap64_in _ (by have := HZL.out; omega)
            obtain ⟨c, hc⟩ : ∃ c, y[k] = c := ⟨_, rfl⟩
            have hzc : z.data.toList[k]? = some c := by
              have h1 := getB hk
              rw [hc, hy, List.getElem?_take_of_lt (by omega)] at h1
              exact h1
            have hk0 : (0 : Int) ≤ (k : Int) := by omega
            by_cases hc32 : c = 32
            · subst hc32
              have hy2 : (y.extract 0 k).data.toList = z.data.toList.take k := by
                rw [take1 y k, hy, List.take_take]
                congr 1
                omega
              have hys2 : (y.extract 0 k).size = k := by rw [ByteArray.size_extract]; omega
              obtain ⟨y', hy'⟩ : ∃ y', y.extract 0 k = y' := ⟨_, rfl⟩
              rw [hy'] at hy2 hys2
              have HALL := hide hall2
              have HY2 := hide hy2
              have HYS := hide hys2
              have HZC := hide hzc
              clear hall2 hy hy2 hys2 hzc
              go_wp2_with fail
              go_roundg (gk - 1)
              case measure => omega
              case rel =>
                have hzl := HZL.out
                refine ⟨rfl, y', k, by first | rfl | (rw [hy']) | (rw [IntWalk.wrap64_in _ (by omega), Int.toNat_natCast, hy']), HY2.out, HYS.out, by omega, by omega, fun j b hj hb => ?_⟩
                by_cases e : j = k
                · subst e
                  rw [HZC.out] at hb
                  exact (Option.some.inj hb).symm
                · exact HALL.out j b (by omega) hb
            · have e4 : ((c.toNat : Int) == 32) = false := by
                have : c.toNat ≠ 32 := fun e => hc32 (UInt8.toNat_inj.1 e)
                exact beq_eq_false_iff_ne.2 (by omega)
              have e5 : decide (c.toNat = 32) = false := by
                have : c.toNat ≠ 32 := fun e => hc32 (UInt8.toNat_inj.1 e)
                simpa using this
              have HC := hide hc32
              have HALL := hide hall2
              have HY := hide hy
              have HZC := hide hzc
              clear hall2 hy hzc hc32
              go_wp2_with fail
              go_ret
              refine ⟨?_, Upd.refl _ _⟩
              have e2 : trimRightB (trimLeftB t 32) 32 = y.data.toList := by
                rw [HZ.out, HY.out, trimRightB_take z.data.toList 32 (k + 1) (by have : z.data.toList.length = z.size := rfl; omega) HALL.out (fun b _ hb2 => by
                  rw [Nat.add_sub_cancel, HZC.out] at hb2
                  rw [← Option.some.inj hb2]
                  exact HC.out)]
              rw [e2]
              rfl
end Go.Proofs.YtdjpkkgcoainhaaGreatDoor
/- The walks of AsNum, both sides. -/
set_option maxRecDepth 100000
namespace Go.Proofs.YtdjpkkgcoainhaaGreatDoor
open Go.RowKit Go.Lat Go.Lib

/-- A value as a number, where V, E is what Parse answers at its bare text. -/
def asNumV (y : Vl) (V E : Int) : Int × Int :=
  if y.k = 0 then (0, 0) else if y.k = 1 then (y.n, 0) else if y.k = 2 then (if E = 0 then (V, 0) else (0, 3)) else if y.k = 3 then (if y.b then 10000 else 0, 0) else (0, y.f)
set_option maxHeartbeats 1600000 in
theorem AsNum_k0 (w : World) (x : Vl) (hx : x.ok) (n : Int) (t : List UInt8) (b : Bool) (f : Int) (h : soundV x = ⟨0, n, t, b, f⟩) :
    Calls Tryz.prog 92 #[x.val] w fun e w' => e = .returned (.tuple #[.int .i64 0, .int .i64 0]) ∧ Upd w w' (fun _ => False) := by
  have SA := fun w => sound_any w x hx
  rw [h] at SA
  obtain ⟨k0, n0, t0, b0, e0⟩ := x
  unfold Vl.val at SA ⊢
  simp only at SA ⊢
  clear h
  go_enter Tryz.func92, Tryz.ntmps92
  go_wp2_with fail
  refine Calls.mono (SA _) ?_
  rintro e w1 ⟨rfl, u1⟩
  have bX := u1.get (Vnew1 w (.cells (Vl.mk k0 n0 t0 b0 e0).cs 29)) id
  obtain ⟨c0, c1, c2, c3, c4⟩ := cells5 bX
  have xl := lt_at bX
  have f0 := free_at bX 0
  have f1 := free_at bX 1
  have f2 := free_at bX 2
  have f3 := free_at bX 3
  have f4 := free_at bX 4
  have HX := hide bX
  have HU := hide (((Upd.refl w _).alloc _).then u1 (fun _ _ => id))
  clear bX u1 SA
  go_wp2_with fail
  have UU := hide (upd5 (W := w1) HU.out (g := w.heap.size) (Nat.le_refl _) (.int .i64 0) (.int .i64 n) (.string ⟨t.toArray⟩) (.bool b) (.int .i64 f))
  (try simp only [Exit.inBlock, Exit.then])
  go_ret2
  exact ⟨rfl, UU.out⟩
set_option maxHeartbeats 1600000 in
theorem AsNum_k1 (w : World) (x : Vl) (hx : x.ok) (n : Int) (t : List UInt8) (b : Bool) (f : Int) (h : soundV x = ⟨1, n, t, b, f⟩) :
    Calls Tryz.prog 92 #[x.val] w fun e w' => e = .returned (.tuple #[.int .i64 n, .int .i64 0]) ∧ Upd w w' (fun _ => False) := by
  have SA := fun w => sound_any w x hx
  rw [h] at SA
  obtain ⟨k0, n0, t0, b0, e0⟩ := x
  unfold Vl.val at SA ⊢
  simp only at SA ⊢
  clear h
  go_enter Tryz.func92, Tryz.ntmps92
  go_wp2_with fail
  refine Calls.mono (SA _) ?_
  rintro e w1 ⟨rfl, u1⟩
  have bX := u1.get (Vnew1 w (.cells (Vl.mk k0 n0 t0 b0 e0).cs 29)) id
  obtain ⟨c0, c1, c2, c3, c4⟩ := cells5 bX
  have xl := lt_at bX
  have f0 := free_at bX 0
  have f1 := free_at bX 1
  have f2 := free_at bX 2
  have f3 := free_at bX 3
  have f4 := free_at bX 4
  have HX := hide bX
  have HU := hide (((Upd.refl w _).alloc _).then u1 (fun _ _ => id))
  clear bX u1 SA
  go_wp2_with fail
  have UU := hide (upd5 (W := w1) HU.out (g := w.heap.size) (Nat.le_refl _) (.int .i64 1) (.int .i64 n) (.string ⟨t.toArray⟩) (.bool b) (.int .i64 f))
  (try simp only [Exit.inBlock, Exit.then])
  go_ret2
  exact ⟨rfl, UU.out⟩
set_option maxHeartbeats 1600000 in
theorem AsNum_k2a (w : World) (x : Vl) (hx : x.ok) (n : Int) (t : List UInt8) (b : Bool) (f : Int) (h : soundV x = ⟨2, n, t, b, f⟩) (htl : t.length ≤ 1000000) (V : Int) (PT : ∀ w, Calls Tryz.prog 100 #[enS (trimB t 32)] w fun e w' => e = .returned (.tuple #[.int .i64 V, .int .i64 0]) ∧ Upd w w' (fun _ => False)) :
    Calls Tryz.prog 92 #[x.val] w fun e w' => e = .returned (.tuple #[.int .i64 V, .int .i64 0]) ∧ Upd w w' (fun _ => False) := by
  have SA := fun w => sound_any w x hx
  rw [h] at SA
  obtain ⟨k0, n0, t0, b0, e0⟩ := x
  unfold Vl.val at SA ⊢
  simp only at SA ⊢
  clear h
  have HPT := hide PT
  clear PT
  obtain ⟨U, hU⟩ : ∃ U, trimB t 32 = U := ⟨_, rfl⟩
  rw [hU] at HPT
  have HUU := hide hU
  have HTL := hide htl
  clear hU htl
  go_enter Tryz.func92, Tryz.ntmps92
  go_wp2_with fail
  refine Calls.mono (SA _) ?_
  rintro e w1 ⟨rfl, u1⟩
  have bX := u1.get (Vnew1 w (.cells (Vl.mk k0 n0 t0 b0 e0).cs 29)) id
  obtain ⟨c0, c1, c2, c3, c4⟩ := cells5 bX
  have xl := lt_at bX
  have f0 := free_at bX 0
  have f1 := free_at bX 1
  have f2 := free_at bX 2
  have f3 := free_at bX 3
  have f4 := free_at bX 4
  have HX := hide bX
  have HU := hide (((Upd.refl w _).alloc _).then u1 (fun _ _ => id))
  clear bX u1 SA
  go_wp2_with fail
  have UU := hide (upd5 (W := w1) HU.out (g := w.heap.size) (Nat.le_refl _) (.int .i64 2) (.int .i64 n) (.string ⟨t.toArray⟩) (.bool b) (.int .i64 f))
  have TR := strings_Trim32 t HTL.out
  rw [HUU.out] at TR
  refine Calls.mono (TR _) ?_
  rintro e w2 ⟨rfl, u2⟩
  clear TR
  have HU2 := hide (UU.out.then u2 (fun _ _ => id))
  clear u2
  go_wp2_with fail
  refine Calls.mono (HPT.out _) ?_
  rintro e w3 ⟨rfl, u3⟩
  have HU3 := hide (HU2.out.then u3 (fun _ _ => id))
  clear u3
  go_wp2_with fail
  (try simp only [Exit.inBlock, Exit.then])
  go_ret2
  exact ⟨rfl, HU3.out⟩
set_option maxHeartbeats 1600000 in
theorem AsNum_k2b (w : World) (x : Vl) (hx : x.ok) (n : Int) (t : List UInt8) (b : Bool) (f : Int) (h : soundV x = ⟨2, n, t, b, f⟩) (htl : t.length ≤ 1000000) (V E : Int) (hE : (E == 0) = false) (PT : ∀ w, Calls Tryz.prog 100 #[enS (trimB t 32)] w fun e w' => e = .returned (.tuple #[.int .i64 V, .int .i64 E]) ∧ Upd w w' (fun _ => False)) :
    Calls Tryz.prog 92 #[x.val] w fun e w' => e = .returned (.tuple #[.int .i64 0, .int .i64 3]) ∧ Upd w w' (fun _ => False) := by
  have SA := fun w => sound_any w x hx
  rw [h] at SA
  obtain ⟨k0, n0, t0, b0, e0⟩ := x
  unfold Vl.val at SA ⊢
  simp only at SA ⊢
  clear h
  have HPT := hide PT
  clear PT
  obtain ⟨U, hU⟩ : ∃ U, trimB t 32 = U := ⟨_, rfl⟩
  rw [hU] at HPT
  have HUU := hide hU
  have HTL := hide htl
  clear hU htl
  go_enter Tryz.func92, Tryz.ntmps92
  go_wp2_with fail
  refine Calls.mono (SA _) ?_
  rintro e w1 ⟨rfl, u1⟩
  have bX := u1.get (Vnew1 w (.cells (Vl.mk k0 n0 t0 b0 e0).cs 29)) id
  obtain ⟨c0, c1, c2, c3, c4⟩ := cells5 bX
  have xl := lt_at bX
  have f0 := free_at bX 0
  have f1 := free_at bX 1
  have f2 := free_at bX 2
  have f3 := free_at bX 3
  have f4 := free_at bX 4
  have HX := hide bX
  have HU := hide (((Upd.refl w _).alloc _).then u1 (fun _ _ => id))
  clear bX u1 SA
  go_wp2_with fail
  have UU := hide (upd5 (W := w1) HU.out (g := w.heap.size) (Nat.le_refl _) (.int .i64 2) (.int .i64 n) (.string ⟨t.toArray⟩) (.bool b) (.int .i64 f))
  have TR := strings_Trim32 t HTL.out
  rw [HUU.out] at TR
  refine Calls.mono (TR _) ?_
  rintro e w2 ⟨rfl, u2⟩
  clear TR
  have HU2 := hide (UU.out.then u2 (fun _ _ => id))
  clear u2
  go_wp2_with fail
  refine Calls.mono (HPT.out _) ?_
  rintro e w3 ⟨rfl, u3⟩
  have HU3 := hide (HU2.out.then u3 (fun _ _ => id))
  clear u3
  go_wp2_with fail
  (try simp only [Exit.inBlock, Exit.then])
  go_ret2
  exact ⟨rfl, HU3.out⟩
set_option maxHeartbeats 1600000 in
theorem AsNum_k3t (w : World) (x : Vl) (hx : x.ok) (n : Int) (t : List UInt8) (f : Int) (h : soundV x = ⟨3, n, t, true, f⟩) :
    Calls Tryz.prog 92 #[x.val] w fun e w' => e = .returned (.tuple #[.int .i64 10000, .int .i64 0]) ∧ Upd w w' (fun _ => False) := by
  have SA := fun w => sound_any w x hx
  rw [h] at SA
  obtain ⟨k0, n0, t0, b0, e0⟩ := x
  unfold Vl.val at SA ⊢
  simp only at SA ⊢
  clear h
  go_enter Tryz.func92, Tryz.ntmps92
  go_wp2_with fail
  refine Calls.mono (SA _) ?_
  rintro e w1 ⟨rfl, u1⟩
  have bX := u1.get (Vnew1 w (.cells (Vl.mk k0 n0 t0 b0 e0).cs 29)) id
  obtain ⟨c0, c1, c2, c3, c4⟩ := cells5 bX
  have xl := lt_at bX
  have f0 := free_at bX 0
  have f1 := free_at bX 1
  have f2 := free_at bX 2
  have f3 := free_at bX 3
  have f4 := free_at bX 4
  have HX := hide bX
  have HU := hide (((Upd.refl w _).alloc _).then u1 (fun _ _ => id))
  clear bX u1 SA
  go_wp2_with fail
  have UU := hide (upd5 (W := w1) HU.out (g := w.heap.size) (Nat.le_refl _) (.int .i64 3) (.int .i64 n) (.string ⟨t.toArray⟩) (.bool true) (.int .i64 f))
  (try simp only [Exit.inBlock, Exit.then])
  go_ret2
  exact ⟨rfl, UU.out⟩
set_option maxHeartbeats 1600000 in
theorem AsNum_k3f (w : World) (x : Vl) (hx : x.ok) (n : Int) (t : List UInt8) (f : Int) (h : soundV x = ⟨3, n, t, false, f⟩) :
    Calls Tryz.prog 92 #[x.val] w fun e w' => e = .returned (.tuple #[.int .i64 0, .int .i64 0]) ∧ Upd w w' (fun _ => False) := by
  have SA := fun w => sound_any w x hx
  rw [h] at SA
  obtain ⟨k0, n0, t0, b0, e0⟩ := x
  unfold Vl.val at SA ⊢
  simp only at SA ⊢
  clear h
  go_enter Tryz.func92, Tryz.ntmps92
  go_wp2_with fail
  refine Calls.mono (SA _) ?_
  rintro e w1 ⟨rfl, u1⟩
  have bX := u1.get (Vnew1 w (.cells (Vl.mk k0 n0 t0 b0 e0).cs 29)) id
  obtain ⟨c0, c1, c2, c3, c4⟩ := cells5 bX
  have xl := lt_at bX
  have f0 := free_at bX 0
  have f1 := free_at bX 1
  have f2 := free_at bX 2
  have f3 := free_at bX 3
  have f4 := free_at bX 4
  have HX := hide bX
  have HU := hide (((Upd.refl w _).alloc _).then u1 (fun _ _ => id))
  clear bX u1 SA
  go_wp2_with fail
  have UU := hide (upd5 (W := w1) HU.out (g := w.heap.size) (Nat.le_refl _) (.int .i64 3) (.int .i64 n) (.string ⟨t.toArray⟩) (.bool false) (.int .i64 f))
  (try simp only [Exit.inBlock, Exit.then])
  go_ret2
  exact ⟨rfl, UU.out⟩
set_option maxHeartbeats 1600000 in
theorem AsNum_k4 (w : World) (x : Vl) (hx : x.ok) (n : Int) (t : List UInt8) (b : Bool) (f : Int) (h : soundV x = ⟨4, n, t, b, f⟩) :
    Calls Tryz.prog 92 #[x.val] w fun e w' => e = .returned (.tuple #[.int .i64 0, .int .i64 f]) ∧ Upd w w' (fun _ => False) := by
  have SA := fun w => sound_any w x hx
  rw [h] at SA
  obtain ⟨k0, n0, t0, b0, e0⟩ := x
  unfold Vl.val at SA ⊢
  simp only at SA ⊢
  clear h
  go_enter Tryz.func92, Tryz.ntmps92
  go_wp2_with fail
  refine Calls.mono (SA _) ?_
  rintro e w1 ⟨rfl, u1⟩
  have bX := u1.get (Vnew1 w (.cells (Vl.mk k0 n0 t0 b0 e0).cs 29)) id
  obtain ⟨c0, c1, c2, c3, c4⟩ := cells5 bX
  have xl := lt_at bX
  have f0 := free_at bX 0
  have f1 := free_at bX 1
  have f2 := free_at bX 2
  have f3 := free_at bX 3
  have f4 := free_at bX 4
  have HX := hide bX
  have HU := hide (((Upd.refl w _).alloc _).then u1 (fun _ _ => id))
  clear bX u1 SA
  go_wp2_with fail
  have UU := hide (upd5 (W := w1) HU.out (g := w.heap.size) (Nat.le_refl _) (.int .i64 4) (.int .i64 n) (.string ⟨t.toArray⟩) (.bool b) (.int .i64 f))
  go_quiet (fail)
  go_wp2_with fail
  (try simp only [Exit.inBlock, Exit.then])
  go_ret2
  exact ⟨rfl, UU.out.drewN _⟩
theorem AsNum_any (w : World) (x : Vl) (hx : x.ok) (htl : x.t.length ≤ 1000000) (V E : Int) (PT : ∀ w, Calls Tryz.prog 100 #[enS (trimB (soundV x).t 32)] w fun e w' => e = .returned (.tuple #[.int .i64 V, .int .i64 E]) ∧ Upd w w' (fun _ => False)) :
    Calls Tryz.prog 92 #[x.val] w fun e w' => e = .returned (.tuple #[.int .i64 (asNumV (soundV x) V E).1, .int .i64 (asNumV (soundV x) V E).2]) ∧ Upd w w' (fun _ => False) := by
  have htl' := sound_t htl
  obtain ⟨y, hy⟩ : ∃ y, soundV x = y := ⟨_, rfl⟩
  have hk := soundV_kind x
  rw [hy] at PT hk htl' ⊢
  obtain ⟨k, n, t, b, f⟩ := y
  simp only at PT hk htl'
  rcases hk with rfl | rfl | rfl | rfl | rfl
  · exact AsNum_k0 w x hx n t b f hy
  · exact AsNum_k1 w x hx n t b f hy
  · by_cases hE : E = 0
    · subst hE
      exact AsNum_k2a w x hx n t b f hy htl' V PT
    · have e : asNumV ⟨2, n, t, b, f⟩ V E = (0, 3) := by simp [asNumV, hE]
      rw [e]
      exact AsNum_k2b w x hx n t b f hy htl' V E (by simpa using hE) PT
  · cases b with
    | true => exact AsNum_k3t w x hx n t f hy
    | false => exact AsNum_k3f w x hx n t f hy
  · exact AsNum_k4 w x hx n t b f hy
set_option maxHeartbeats 1600000 in
theorem RAsNum_k0 (w : World) (x : Vl) (n : Int) (t : List UInt8) (b : Bool) (f : Int) (h : soundV x = ⟨0, n, t, b, f⟩) :
    Calls Tryz.prog 64 #[x.val] w fun e w' => e = .returned (.tuple #[.int .i64 0, .int .i64 0]) ∧ Upd w w' (fun _ => False) := by
  have SA := fun w => RSound_any w x
  rw [h] at SA
  obtain ⟨k0, n0, t0, b0, e0⟩ := x
  unfold Vl.val at SA ⊢
  simp only at SA ⊢
  clear h
  go_enter Tryz.func64, Tryz.ntmps64
  go_wp2_with fail
  refine Calls.mono (SA _) ?_
  rintro e w1 ⟨rfl, u1⟩
  have bX := u1.get (Vnew1 w (.cells (Vl.mk k0 n0 t0 b0 e0).cs 30)) id
  obtain ⟨c0, c1, c2, c3, c4⟩ := cells5 bX
  have xl := lt_at bX
  have f0 := free_at bX 0
  have f1 := free_at bX 1
  have f2 := free_at bX 2
  have f3 := free_at bX 3
  have f4 := free_at bX 4
  have HX := hide bX
  have HU := hide (((Upd.refl w _).alloc _).then u1 (fun _ _ => id))
  clear bX u1 SA
  go_wp2_with fail
  have UU := hide (upd5 (W := w1) HU.out (g := w.heap.size) (Nat.le_refl _) (.int .i64 0) (.int .i64 n) (.string ⟨t.toArray⟩) (.bool b) (.int .i64 f))
  (try simp only [Exit.inBlock, Exit.then])
  go_ret2
  exact ⟨rfl, UU.out⟩
set_option maxHeartbeats 1600000 in
theorem RAsNum_k1 (w : World) (x : Vl) (n : Int) (t : List UInt8) (b : Bool) (f : Int) (h : soundV x = ⟨1, n, t, b, f⟩) :
    Calls Tryz.prog 64 #[x.val] w fun e w' => e = .returned (.tuple #[.int .i64 n, .int .i64 0]) ∧ Upd w w' (fun _ => False) := by
  have SA := fun w => RSound_any w x
  rw [h] at SA
  obtain ⟨k0, n0, t0, b0, e0⟩ := x
  unfold Vl.val at SA ⊢
  simp only at SA ⊢
  clear h
  go_enter Tryz.func64, Tryz.ntmps64
  go_wp2_with fail
  refine Calls.mono (SA _) ?_
  rintro e w1 ⟨rfl, u1⟩
  have bX := u1.get (Vnew1 w (.cells (Vl.mk k0 n0 t0 b0 e0).cs 30)) id
  obtain ⟨c0, c1, c2, c3, c4⟩ := cells5 bX
  have xl := lt_at bX
  have f0 := free_at bX 0
  have f1 := free_at bX 1
  have f2 := free_at bX 2
  have f3 := free_at bX 3
  have f4 := free_at bX 4
  have HX := hide bX
  have HU := hide (((Upd.refl w _).alloc _).then u1 (fun _ _ => id))
  clear bX u1 SA
  go_wp2_with fail
  have UU := hide (upd5 (W := w1) HU.out (g := w.heap.size) (Nat.le_refl _) (.int .i64 1) (.int .i64 n) (.string ⟨t.toArray⟩) (.bool b) (.int .i64 f))
  (try simp only [Exit.inBlock, Exit.then])
  go_ret2
  exact ⟨rfl, UU.out⟩
set_option maxHeartbeats 1600000 in
theorem RAsNum_k2a (w : World) (x : Vl) (n : Int) (t : List UInt8) (b : Bool) (f : Int) (h : soundV x = ⟨2, n, t, b, f⟩) (htl : t.length ≤ 1000000) (V : Int) (PT : ∀ w, Calls Tryz.prog 86 #[enS (trimB t 32)] w fun e w' => e = .returned (.tuple #[.int .i64 V, .int .i64 0]) ∧ Upd w w' (fun _ => False)) :
    Calls Tryz.prog 64 #[x.val] w fun e w' => e = .returned (.tuple #[.int .i64 V, .int .i64 0]) ∧ Upd w w' (fun _ => False) := by
  have SA := fun w => RSound_any w x
  rw [h] at SA
  obtain ⟨k0, n0, t0, b0, e0⟩ := x
  unfold Vl.val at SA ⊢
  simp only at SA ⊢
  clear h
  have HPT := hide PT
  clear PT
  obtain ⟨U, hU⟩ : ∃ U, trimB t 32 = U := ⟨_, rfl⟩
  rw [hU] at HPT
  have HUU := hide hU
  have HTL := hide htl
  clear hU htl
  go_enter Tryz.func64, Tryz.ntmps64
  go_wp2_with fail
  refine Calls.mono (SA _) ?_
  rintro e w1 ⟨rfl, u1⟩
  have bX := u1.get (Vnew1 w (.cells (Vl.mk k0 n0 t0 b0 e0).cs 30)) id
  obtain ⟨c0, c1, c2, c3, c4⟩ := cells5 bX
  have xl := lt_at bX
  have f0 := free_at bX 0
  have f1 := free_at bX 1
  have f2 := free_at bX 2
  have f3 := free_at bX 3
  have f4 := free_at bX 4
  have HX := hide bX
  have HU := hide (((Upd.refl w _).alloc _).then u1 (fun _ _ => id))
  clear bX u1 SA
  go_wp2_with fail
  have UU := hide (upd5 (W := w1) HU.out (g := w.heap.size) (Nat.le_refl _) (.int .i64 2) (.int .i64 n) (.string ⟨t.toArray⟩) (.bool b) (.int .i64 f))
  have TR := fun w => Bare_any w t HTL.out
  rw [HUU.out] at TR
  refine Calls.mono (TR _) ?_
  rintro e w2 ⟨rfl, u2⟩
  clear TR
  have HU2 := hide (UU.out.then u2 (fun _ _ => id))
  clear u2
  go_wp2_with fail
  refine Calls.mono (HPT.out _) ?_
  rintro e w3 ⟨rfl, u3⟩
  have HU3 := hide (HU2.out.then u3 (fun _ _ => id))
  clear u3
  go_wp2_with fail
  (try simp only [Exit.inBlock, Exit.then])
  go_ret2
  exact ⟨rfl, HU3.out⟩
set_option maxHeartbeats 1600000 in
theorem RAsNum_k2b (w : World) (x : Vl) (n : Int) (t : List UInt8) (b : Bool) (f : Int) (h : soundV x = ⟨2, n, t, b, f⟩) (htl : t.length ≤ 1000000) (V E : Int) (hE : (E == 0) = false) (PT : ∀ w, Calls Tryz.prog 86 #[enS (trimB t 32)] w fun e w' => e = .returned (.tuple #[.int .i64 V, .int .i64 E]) ∧ Upd w w' (fun _ => False)) :
    Calls Tryz.prog 64 #[x.val] w fun e w' => e = .returned (.tuple #[.int .i64 0, .int .i64 3]) ∧ Upd w w' (fun _ => False) := by
  have SA := fun w => RSound_any w x
  rw [h] at SA
  obtain ⟨k0, n0, t0, b0, e0⟩ := x
  unfold Vl.val at SA ⊢
  simp only at SA ⊢
  clear h
  have HPT := hide PT
  clear PT
  obtain ⟨U, hU⟩ : ∃ U, trimB t 32 = U := ⟨_, rfl⟩
  rw [hU] at HPT
  have HUU := hide hU
  have HTL := hide htl
  clear hU htl
  go_enter Tryz.func64, Tryz.ntmps64
  go_wp2_with fail
  refine Calls.mono (SA _) ?_
  rintro e w1 ⟨rfl, u1⟩
  have bX := u1.get (Vnew1 w (.cells (Vl.mk k0 n0 t0 b0 e0).cs 30)) id
  obtain ⟨c0, c1, c2, c3, c4⟩ := cells5 bX
  have xl := lt_at bX
  have f0 := free_at bX 0
  have f1 := free_at bX 1
  have f2 := free_at bX 2
  have f3 := free_at bX 3
  have f4 := free_at bX 4
  have HX := hide bX
  have HU := hide (((Upd.refl w _).alloc _).then u1 (fun _ _ => id))
  clear bX u1 SA
  go_wp2_with fail
  have UU := hide (upd5 (W := w1) HU.out (g := w.heap.size) (Nat.le_refl _) (.int .i64 2) (.int .i64 n) (.string ⟨t.toArray⟩) (.bool b) (.int .i64 f))
  have TR := fun w => Bare_any w t HTL.out
  rw [HUU.out] at TR
  refine Calls.mono (TR _) ?_
  rintro e w2 ⟨rfl, u2⟩
  clear TR
  have HU2 := hide (UU.out.then u2 (fun _ _ => id))
  clear u2
  go_wp2_with fail
  refine Calls.mono (HPT.out _) ?_
  rintro e w3 ⟨rfl, u3⟩
  have HU3 := hide (HU2.out.then u3 (fun _ _ => id))
  clear u3
  go_wp2_with fail
  (try simp only [Exit.inBlock, Exit.then])
  go_ret2
  exact ⟨rfl, HU3.out⟩
set_option maxHeartbeats 1600000 in
theorem RAsNum_k3t (w : World) (x : Vl) (n : Int) (t : List UInt8) (f : Int) (h : soundV x = ⟨3, n, t, true, f⟩) :
    Calls Tryz.prog 64 #[x.val] w fun e w' => e = .returned (.tuple #[.int .i64 10000, .int .i64 0]) ∧ Upd w w' (fun _ => False) := by
  have SA := fun w => RSound_any w x
  rw [h] at SA
  obtain ⟨k0, n0, t0, b0, e0⟩ := x
  unfold Vl.val at SA ⊢
  simp only at SA ⊢
  clear h
  go_enter Tryz.func64, Tryz.ntmps64
  go_wp2_with fail
  refine Calls.mono (SA _) ?_
  rintro e w1 ⟨rfl, u1⟩
  have bX := u1.get (Vnew1 w (.cells (Vl.mk k0 n0 t0 b0 e0).cs 30)) id
  obtain ⟨c0, c1, c2, c3, c4⟩ := cells5 bX
  have xl := lt_at bX
  have f0 := free_at bX 0
  have f1 := free_at bX 1
  have f2 := free_at bX 2
  have f3 := free_at bX 3
  have f4 := free_at bX 4
  have HX := hide bX
  have HU := hide (((Upd.refl w _).alloc _).then u1 (fun _ _ => id))
  clear bX u1 SA
  go_wp2_with fail
  have UU := hide (upd5 (W := w1) HU.out (g := w.heap.size) (Nat.le_refl _) (.int .i64 3) (.int .i64 n) (.string ⟨t.toArray⟩) (.bool true) (.int .i64 f))
  (try simp only [Exit.inBlock, Exit.then])
  go_ret2
  exact ⟨rfl, UU.out⟩
set_option maxHeartbeats 1600000 in
theorem RAsNum_k3f (w : World) (x : Vl) (n : Int) (t : List UInt8) (f : Int) (h : soundV x = ⟨3, n, t, false, f⟩) :
    Calls Tryz.prog 64 #[x.val] w fun e w' => e = .returned (.tuple #[.int .i64 0, .int .i64 0]) ∧ Upd w w' (fun _ => False) := by
  have SA := fun w => RSound_any w x
  rw [h] at SA
  obtain ⟨k0, n0, t0, b0, e0⟩ := x
  unfold Vl.val at SA ⊢
  simp only at SA ⊢
  clear h
  go_enter Tryz.func64, Tryz.ntmps64
  go_wp2_with fail
  refine Calls.mono (SA _) ?_
  rintro e w1 ⟨rfl, u1⟩
  have bX := u1.get (Vnew1 w (.cells (Vl.mk k0 n0 t0 b0 e0).cs 30)) id
  obtain ⟨c0, c1, c2, c3, c4⟩ := cells5 bX
  have xl := lt_at bX
  have f0 := free_at bX 0
  have f1 := free_at bX 1
  have f2 := free_at bX 2
  have f3 := free_at bX 3
  have f4 := free_at bX 4
  have HX := hide bX
  have HU := hide (((Upd.refl w _).alloc _).then u1 (fun _ _ => id))
  clear bX u1 SA
  go_wp2_with fail
  have UU := hide (upd5 (W := w1) HU.out (g := w.heap.size) (Nat.le_refl _) (.int .i64 3) (.int .i64 n) (.string ⟨t.toArray⟩) (.bool false) (.int .i64 f))
  (try simp only [Exit.inBlock, Exit.then])
  go_ret2
  exact ⟨rfl, UU.out⟩
set_option maxHeartbeats 1600000 in
theorem RAsNum_k4 (w : World) (x : Vl) (n : Int) (t : List UInt8) (b : Bool) (f : Int) (h : soundV x = ⟨4, n, t, b, f⟩) :
    Calls Tryz.prog 64 #[x.val] w fun e w' => e = .returned (.tuple #[.int .i64 0, .int .i64 f]) ∧ Upd w w' (fun _ => False) := by
  have SA := fun w => RSound_any w x
  rw [h] at SA
  obtain ⟨k0, n0, t0, b0, e0⟩ := x
  unfold Vl.val at SA ⊢
  simp only at SA ⊢
  clear h
  go_enter Tryz.func64, Tryz.ntmps64
  go_wp2_with fail
  refine Calls.mono (SA _) ?_
  rintro e w1 ⟨rfl, u1⟩
  have bX := u1.get (Vnew1 w (.cells (Vl.mk k0 n0 t0 b0 e0).cs 30)) id
  obtain ⟨c0, c1, c2, c3, c4⟩ := cells5 bX
  have xl := lt_at bX
  have f0 := free_at bX 0
  have f1 := free_at bX 1
  have f2 := free_at bX 2
  have f3 := free_at bX 3
  have f4 := free_at bX 4
  have HX := hide bX
  have HU := hide (((Upd.refl w _).alloc _).then u1 (fun _ _ => id))
  clear bX u1 SA
  go_wp2_with fail
  have UU := hide (upd5 (W := w1) HU.out (g := w.heap.size) (Nat.le_refl _) (.int .i64 4) (.int .i64 n) (.string ⟨t.toArray⟩) (.bool b) (.int .i64 f))
  go_quiet (fail)
  go_wp2_with fail
  (try simp only [Exit.inBlock, Exit.then])
  go_ret2
  exact ⟨rfl, UU.out.drewN _⟩
theorem RAsNum_any (w : World) (x : Vl) (htl : x.t.length ≤ 1000000) (V E : Int) (PT : ∀ w, Calls Tryz.prog 86 #[enS (trimB (soundV x).t 32)] w fun e w' => e = .returned (.tuple #[.int .i64 V, .int .i64 E]) ∧ Upd w w' (fun _ => False)) :
    Calls Tryz.prog 64 #[x.val] w fun e w' => e = .returned (.tuple #[.int .i64 (asNumV (soundV x) V E).1, .int .i64 (asNumV (soundV x) V E).2]) ∧ Upd w w' (fun _ => False) := by
  have htl' := sound_t htl
  obtain ⟨y, hy⟩ : ∃ y, soundV x = y := ⟨_, rfl⟩
  have hk := soundV_kind x
  rw [hy] at PT hk htl' ⊢
  obtain ⟨k, n, t, b, f⟩ := y
  simp only at PT hk htl'
  rcases hk with rfl | rfl | rfl | rfl | rfl
  · exact RAsNum_k0 w x n t b f hy
  · exact RAsNum_k1 w x n t b f hy
  · by_cases hE : E = 0
    · subst hE
      exact RAsNum_k2a w x n t b f hy htl' V PT
    · have e : asNumV ⟨2, n, t, b, f⟩ V E = (0, 3) := by simp [asNumV, hE]
      rw [e]
      exact RAsNum_k2b w x n t b f hy htl' V E (by simpa using hE) PT
  · cases b with
    | true => exact RAsNum_k3t w x n t f hy
    | false => exact RAsNum_k3f w x n t f hy
  · exact RAsNum_k4 w x n t b f hy
end Go.Proofs.YtdjpkkgcoainhaaGreatDoor
/- The walk of the reference's Parse at every text. -/
set_option maxRecDepth 100000
namespace Go.Proofs.YtdjpkkgcoainhaaGreatDoor
open Go.RowKit Go.Lat

theorem byte_digit (t : ByteArray) (l : List UInt8) (k : Nat) (hk : k < t.size) (hl : t.data.toList = l) (ha : l.all dgB = true) : 48 ≤ t[k].toNat ∧ t[k].toNat ≤ 57 ∧ l[k]? = some t[k] := by
  have h := byte_list t k hk
  rw [hl] at h
  have := List.all_eq_true.1 ha _ (List.mem_of_getElem? h)
  simp [dgB] at this
  exact ⟨this.1, this.2, h⟩
theorem drop_get (l : List UInt8) (k : Nat) (b : UInt8) (h : l[k]? = some b) : l.drop k = b :: l.drop (k + 1) := by
  obtain ⟨hk, e⟩ := List.getElem?_eq_some_iff.1 h
  rw [List.drop_eq_getElem_cons hk, e]
end Go.Proofs.YtdjpkkgcoainhaaGreatDoor
