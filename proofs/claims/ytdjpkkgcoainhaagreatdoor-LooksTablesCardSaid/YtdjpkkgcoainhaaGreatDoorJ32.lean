/- The walk of LooksCalls. -/
import Derived.Test.YtdjpkkgcoainhaaGreatDoorJ29
import Derived.Test.YtdjpkkgcoainhaaGreatDoorJ31
import Derived.Test.YtdjpkkgcoainhaaGreatDoorJ27
import Derived.SizedLaws
/- The walk of LooksCalls. -/
set_option maxRecDepth 100000
namespace Go.Proofs.YtdjpkkgcoainhaaGreatDoor
open Go.RowKit Go.Lat Go.Lib

theorem slice_of (t e : TypeId) (ht : Tryz.prog.underlying t = some (.slice e)) (i : TypeInfo) (hi : Tryz.prog.info? e = some i) (va : Option Addr) (n vc M : Nat) (hM : M ≤ vc) (w : World) : (Instr.slice t (.slice va n vc) none (some (.int .i64 (M : Int))) none).run Tryz.prog w = .ok (.slice va M vc) w := by
  have hel : Tryz.prog.elem t = e := by simp [Program.elem, ht]
  rw [run_slice_h w t va n vc (by rw [hel]; exact ht) .i64 (M : Int) (by omega) (by omega), hel]
  simp [sizeOf, typeInfo, hi, sliced]
  intro _
  cases va with
  | none => rfl
  | some a => obtain ⟨b, o, s⟩ := a; cases s <;> simp [Addr.add]
theorem cut20 (l : List UInt8) : (⟨l.toArray⟩ : ByteArray).extract 0 (min (l.length : Int) 20).toNat = ⟨(l.take 20).toArray⟩ := by
  apply ByteArray.ext
  apply Array.ext'
  have e : (min (l.length : Int) 20).toNat = min l.length 20 := by omega
  rw [e, ByteArray.data_extract]
  simp only [Array.toList_extract, List.extract_eq_take_drop, Nat.sub_zero, List.drop_zero]
  rw [Nat.min_comm, ← List.take_eq_take_min]
theorem has_shape (n : List UInt8) : decide (0 < (takesF n).2) = !(shapeF n).isEmpty := by
  unfold takesF shapeF
  by_cases h1 : n = nROWS
  · subst h1; decide
  · by_cases h2 : n = nCOLUMNS
    · subst h2; decide
    · by_cases h3 : n = nMATCH
      · subst h3; decide
      · by_cases h4 : n = nINDEX
        · subst h4; decide
        · by_cases h5 : n = nLOOKUP
          · subst h5; decide
          · by_cases h6 : n = nVLOOKUP
            · subst h6; decide
            · by_cases h7 : n = nHLOOKUP
              · subst h7; decide
              · by_cases h8 : n = nCHOOSE
                · subst h8; decide
                · simp [h1, h2, h3, h4, h5, h6, h7, h8]
theorem cutA_oks (wh : Bool) {l : List Ar} (h : ∀ a ∈ l, (∀ x ∈ a.v, okK x) ∧ i64ok a.c) : oksA (cutAs wh l) := fun b hb => by
  unfold cutAs at hb
  rw [List.mem_map] at hb
  obtain ⟨a, ha, rfl⟩ := hb
  obtain ⟨h1, h2⟩ := h a (List.mem_of_mem_take ha)
  have z : okK vZero := ⟨i0, i0, i0⟩
  have hA : (∀ x ∈ (stA wh a).v, okK x) ∧ i64ok (stA wh a).c := by
    unfold stA
    split
    · refine ⟨fun x hx => ?_, i0⟩
      have := List.mem_of_mem_take hx
      rw [List.mem_append] at this
      rcases this with q | q
      · exact h1 x q
      · simp at q; subst q; exact z
    · exact ⟨h1, h2⟩
  have hB : (∀ x ∈ (stB wh (stA wh a)).v, okK x) ∧ i64ok (stB wh (stA wh a)).c := by
    unfold stB
    split
    · refine ⟨fun x hx => hA.1 x (List.mem_of_mem_take hx), ?_⟩
      unfold colW
      constructor
      · show -9223372036854775808 ≤ ((1 + (max 0 (stA wh a).c % 4).toNat : Nat) : Int); omega
      · show ((1 + (max 0 (stA wh a).c % 4).toNat : Nat) : Int) ≤ 9223372036854775807; omega
    · exact hA
  have hl := cutL_len (stB wh (stA wh a)).v
  exact ⟨cutL_oks hB.1, by show (cutL _).length ≤ 1000000; omega, hB.2⟩
theorem oksA_take {l : List Ar} (h : oksA l) (k : Nat) : oksA (l.take k) := fun a ha => h a (List.mem_of_mem_take ha)
theorem vP_ok (n : List UInt8) {aa : List Ar} (ho : oksA aa) (hl : aa.length ≤ 1000) : (callP n aa).1.ok := by
  unfold callP
  split
  · exact vZero_ok
  · split
    · exact mkE_ok 3
    · rename_i h
      have hall : aa.all goodA = true := by
        cases hq : aa.all goodA with
        | true => rfl
        | false => exact absurd (.inr (.inr hq)) h
      have A : ArgsOk aa := ⟨hl, fun x hx => by rw [List.all_eq_true] at hall; exact hall x hx, ho⟩
      split
      · exact mkE_ok _
      · exact soundV_ok (toldP_ok n A)
set_option maxHeartbeats 25600000 in
theorem LooksCalls_any (w : World) (name : List UInt8) (p : Option Addr) (cap : Nat) (l : List Ar) (hlc : l.length ≤ cap) (hr : RdC w p l) (hsz : ∀ a ∈ l, (a.v.length + 1) * 48 ≤ 140737488355328) (hok : ∀ a ∈ l, (∀ x ∈ a.v, okK x) ∧ i64ok a.c) :
    Calls Tryz.prog 4 #[enS name, .slice p l.length cap] w fun e w' => e = .returned (.bool true) ∧ Upd w w' (fun _ => False) := by
  have AR := fun w wh h => args12_any w wh p cap l hlc h (fun _ => hsz)
  obtain ⟨nm, hnm⟩ : ∃ t, name.take 20 = t := ⟨_, rfl⟩
  have HNM := hide hnm
  have HR := hide hr
  have HOK := hide hok
  have HAR := hide AR
  obtain ⟨ia, hia, -, -, -⟩ := info_p Tryz.infoPA
  obtain ⟨ib, hib, -, -, -⟩ := info_p Tryz.infoRA
  clear hnm hr hok hsz AR
  go_enter Tryz.func4, Tryz.ntmps4
  go_wp2_with fail
  simp only [cut20, HNM.out]
  go_upto_region 3 with fail
  have hBB := Vnew1 w (.cells #[.bool false, .bool true] 4)
  have HU0 : Hid (Upd w (w.alloc (.cells #[.bool false, .bool true] 4)) (fun _ => False)) := hide ((Upd.refl w _).alloc _)
  obtain ⟨W0, hW0⟩ : ∃ W, w.alloc (.cells #[.bool false, .bool true] 4) = W := ⟨_, rfl⟩
  obtain ⟨BT, hBT⟩ : ∃ g, w.heap.size = g := ⟨_, rfl⟩
  rw [hW0] at hBB HU0
  rw [hBT] at hBB
  rw [hW0, hBT]
  have HBB := hide hBB
  clear hBB hW0 hBT
  go_loopg [24] 2 (fun q iv wr => ∃ i : Nat, i + q = 2 ∧ iv = .int .i64 i ∧ Upd W0 wr (fun _ => False))
  case atStart => exact ⟨0, by omega, rfl, Upd.refl _ _⟩
  case round =>
    obtain ⟨i, hi, rfl, hu⟩ := hrel
    obtain ⟨o1, ho1⟩ : ∃ o, gk = o := ⟨_, rfl⟩
    rw [ho1] at hi
    have HO1 := hide ho1
    have HI := hide hi
    have HU1 := hide (HU0.out.then hu (fun _ _ => id))
    have HW1 := hide hu
    have hbb := hu.get HBB.out id
    clear ho1 hi hu
    by_cases hi2 : i < 2
    · obtain ⟨wh, hwh⟩ : ∃ b : Bool, wr.cell? ⟨BT, i, none⟩ = some (.bool b) := by
        obtain ⟨c0, c1⟩ := cells2 hbb
        have : i = 0 ∨ i = 1 := by omega
        rcases this with rfl | rfl
        · exact ⟨_, c0⟩
        · exact ⟨_, c1⟩
      have hbl := lt_at hbb
      have hi0 : (0 : Int) ≤ (i : Int) := by omega
      have hi1 : (i : Int) < 2 := by omega
      have AW := HAR.out wr wh (HR.out.upd HU1.out)
      have hoA := cutA_oks wh HOK.out
      obtain ⟨aa, haa⟩ : ∃ a, cutAs wh l = a := ⟨_, rfl⟩
      have hlA := cut_len wh l
      rw [haa] at AW hoA hlA
      obtain ⟨N, hN⟩ : ∃ N, aa.length = N := ⟨_, rfl⟩
      rw [hN] at AW hlA
      have hN34 : N ≤ 34 := by omega
      have HOA := hide hoA
      have HNA := hide hN
      clear hoA haa hlA hN hbb
      go_wp2_with fail
      refine Calls.mono AW ?_
      rintro e w2 ⟨p1, c1, p2, c2, rfl, R1, R2, l1, l2, u2⟩
      have HR1 := hide (R1.upd ((Upd.refl w2 _).alloc (.cells #[enS nm, .string ⟨#[77, 65, 84, 67, 72]⟩, .string ⟨#[73, 78, 68, 69, 88]⟩, .string ⟨#[86, 76, 79, 79, 75, 85, 80]⟩, .string ⟨#[72, 76, 79, 79, 75, 85, 80]⟩, .string ⟨#[76, 79, 79, 75, 85, 80]⟩, .string ⟨#[67, 72, 79, 79, 83, 69]⟩, .string ⟨#[82, 79, 87, 83]⟩, .string ⟨#[67, 79, 76, 85, 77, 78, 83]⟩] 9)))
      have HR2 := hide (R2.upd ((Upd.refl w2 _).alloc (.cells #[enS nm, .string ⟨#[77, 65, 84, 67, 72]⟩, .string ⟨#[73, 78, 68, 69, 88]⟩, .string ⟨#[86, 76, 79, 79, 75, 85, 80]⟩, .string ⟨#[72, 76, 79, 79, 75, 85, 80]⟩, .string ⟨#[76, 79, 79, 75, 85, 80]⟩, .string ⟨#[67, 72, 79, 79, 83, 69]⟩, .string ⟨#[82, 79, 87, 83]⟩, .string ⟨#[67, 79, 76, 85, 77, 78, 83]⟩] 9)))
      have HW2 := hide ((HW1.out.then u2 (fun _ _ => id)).alloc (.cells #[enS nm, .string ⟨#[77, 65, 84, 67, 72]⟩, .string ⟨#[73, 78, 68, 69, 88]⟩, .string ⟨#[86, 76, 79, 79, 75, 85, 80]⟩, .string ⟨#[72, 76, 79, 79, 75, 85, 80]⟩, .string ⟨#[76, 79, 79, 75, 85, 80]⟩, .string ⟨#[67, 72, 79, 79, 83, 69]⟩, .string ⟨#[82, 79, 87, 83]⟩, .string ⟨#[67, 79, 76, 85, 77, 78, 83]⟩] 9))
      have hST := Vnew1 w2 (.cells #[enS nm, .string ⟨#[77, 65, 84, 67, 72]⟩, .string ⟨#[73, 78, 68, 69, 88]⟩, .string ⟨#[86, 76, 79, 79, 75, 85, 80]⟩, .string ⟨#[72, 76, 79, 79, 75, 85, 80]⟩, .string ⟨#[76, 79, 79, 75, 85, 80]⟩, .string ⟨#[67, 72, 79, 79, 83, 69]⟩, .string ⟨#[82, 79, 87, 83]⟩, .string ⟨#[67, 79, 76, 85, 77, 78, 83]⟩] 9)
      clear R1 R2 u2 AW hwh hbl
      go_upto_region 7 with fail
      obtain ⟨W3, hW3⟩ : ∃ W, w2.alloc (.cells #[.string ⟨nm.toArray⟩, .string ⟨#[77, 65, 84, 67, 72]⟩, .string ⟨#[73, 78, 68, 69, 88]⟩, .string ⟨#[86, 76, 79, 79, 75, 85, 80]⟩, .string ⟨#[72, 76, 79, 79, 75, 85, 80]⟩, .string ⟨#[76, 79, 79, 75, 85, 80]⟩, .string ⟨#[67, 72, 79, 79, 83, 69]⟩, .string ⟨#[82, 79, 87, 83]⟩, .string ⟨#[67, 79, 76, 85, 77, 78, 83]⟩] 9) = W := ⟨_, rfl⟩
      obtain ⟨ST, hSTg⟩ : ∃ g, w2.heap.size = g := ⟨_, rfl⟩
      have hW3' : w2.alloc (.cells #[enS nm, .string ⟨#[77, 65, 84, 67, 72]⟩, .string ⟨#[73, 78, 68, 69, 88]⟩, .string ⟨#[86, 76, 79, 79, 75, 85, 80]⟩, .string ⟨#[72, 76, 79, 79, 75, 85, 80]⟩, .string ⟨#[76, 79, 79, 75, 85, 80]⟩, .string ⟨#[67, 72, 79, 79, 83, 69]⟩, .string ⟨#[82, 79, 87, 83]⟩, .string ⟨#[67, 79, 76, 85, 77, 78, 83]⟩] 9) = W3 := hW3
      rw [hW3'] at HR1 HR2 HW2 hST
      rw [hSTg] at hST
      rw [hW3, hSTg]
      have HST := hide hST
      clear hW3 hW3' hSTg hST
      go_loopg [37] 9 (fun q iv w3 => ∃ j : Nat, j + q = 9 ∧ iv = .int .i64 j ∧ Upd W3 w3 (fun _ => False))
      case atStart => exact ⟨0, by omega, rfl, Upd.refl _ _⟩
      case round =>
        obtain ⟨j, hj, rfl, hu⟩ := hrel
        obtain ⟨o2, ho2⟩ : ∃ o, gk = o := ⟨_, rfl⟩
        rw [ho2] at hj
        have HO2 := hide ho2
        have HJ := hide hj
        have HU3 := hide hu
        have hst := hu.get HST.out id
        clear ho2 hj hu
        by_cases hj2 : j < 9
        · obtain ⟨s, hs⟩ : ∃ s : List UInt8, wr.cell? ⟨ST, j, none⟩ = some (.string ⟨s.toArray⟩) := by
            have : j = 0 ∨ j = 1 ∨ j = 2 ∨ j = 3 ∨ j = 4 ∨ j = 5 ∨ j = 6 ∨ j = 7 ∨ j = 8 := by omega
            rcases this with rfl | rfl | rfl | rfl | rfl | rfl | rfl | rfl | rfl
            · exact ⟨nm, cell_at hst 0 _ rfl⟩
            · exact ⟨[77, 65, 84, 67, 72], cell_at hst 1 _ rfl⟩
            · exact ⟨[73, 78, 68, 69, 88], cell_at hst 2 _ rfl⟩
            · exact ⟨[86, 76, 79, 79, 75, 85, 80], cell_at hst 3 _ rfl⟩
            · exact ⟨[72, 76, 79, 79, 75, 85, 80], cell_at hst 4 _ rfl⟩
            · exact ⟨[76, 79, 79, 75, 85, 80], cell_at hst 5 _ rfl⟩
            · exact ⟨[67, 72, 79, 79, 83, 69], cell_at hst 6 _ rfl⟩
            · exact ⟨[82, 79, 87, 83], cell_at hst 7 _ rfl⟩
            · exact ⟨[67, 79, 76, 85, 77, 78, 83], cell_at hst 8 _ rfl⟩
          have hsl := lt_at hst
          have hj0 : (0 : Int) ≤ (j : Int) := by omega
          have hj1 : (j : Int) < 9 := by omega
          have HU4 := hide (HU3.out.alloc (.cells #[.int .i64 (N : Int), .int .i64 (min (N : Int) 1), .int .i64 (min (N : Int) 2), .int .i64 (min (N : Int) 3), .int .i64 (min (N : Int) 4)] 3))
          have hKT := Vnew1 wr (.cells #[.int .i64 (N : Int), .int .i64 (min (N : Int) 1), .int .i64 (min (N : Int) 2), .int .i64 (min (N : Int) 3), .int .i64 (min (N : Int) 4)] 3)
          clear hst
          go_upto_region 10 with fail
          obtain ⟨W4, hW4⟩ : ∃ W, wr.alloc (.cells #[.int .i64 (N : Int), .int .i64 (min (N : Int) 1), .int .i64 (min (N : Int) 2), .int .i64 (min (N : Int) 3), .int .i64 (min (N : Int) 4)] 3) = W := ⟨_, rfl⟩
          obtain ⟨KT, hKTg⟩ : ∃ g, wr.heap.size = g := ⟨_, rfl⟩
          rw [hW4] at HU4 hKT
          rw [hKTg] at hKT
          rw [hW4, hKTg]
          have HKT := hide hKT
          clear hW4 hKTg hKT hs hsl
          go_loopg [57] 5 (fun q iv w4 => ∃ m : Nat, m + q = 5 ∧ iv = .int .i64 m ∧ Upd W4 w4 (fun _ => False))
          case atStart => exact ⟨0, by omega, rfl, Upd.refl _ _⟩
          case round =>
            obtain ⟨m, hm, rfl, hu⟩ := hrel
            have HU5 := hide (HU4.out.then hu (fun _ _ => id))
            have HW5 := hide hu
            have hkt := hu.get HKT.out id
            clear hu
            by_cases hm2 : m < 5
            · obtain ⟨K, hK, hKN⟩ : ∃ K : Nat, wr.cell? ⟨KT, m, none⟩ = some (.int .i64 (K : Int)) ∧ K ≤ N := by
                have : m = 0 ∨ m = 1 ∨ m = 2 ∨ m = 3 ∨ m = 4 := by omega
                have e : ∀ t : Nat, (min (N : Int) (t : Int)) = ((min N t : Nat) : Int) := fun t => by omega
                rcases this with rfl | rfl | rfl | rfl | rfl
                · exact ⟨N, cell_at hkt 0 _ rfl, by omega⟩
                · exact ⟨min N 1, by rw [← e]; exact cell_at hkt 1 _ rfl, by omega⟩
                · exact ⟨min N 2, by rw [← e]; exact cell_at hkt 2 _ rfl, by omega⟩
                · exact ⟨min N 3, by rw [← e]; exact cell_at hkt 3 _ rfl, by omega⟩
                · exact ⟨min N 4, by rw [← e]; exact cell_at hkt 4 _ rfl, by omega⟩
              have hkl := lt_at hkt
              have hm0 : (0 : Int) ≤ (m : Int) := by omega
              have hm1 : (m : Int) < 5 := by omega
              obtain ⟨bb, hbb⟩ : ∃ b, aa.take K = b := ⟨_, rfl⟩
              have hbl : bb.length = K := by rw [← hbb, List.length_take, HNA.out]; omega
              have hob : oksA bb := by rw [← hbb]; exact oksA_take HOA.out K
              have T1 := fun W (u : Upd W3 W (fun _ => False)) => Call_any W s p1 c1 bb (by rw [← hbb]; exact (HR1.out.upd u).take K) hob (by omega) (by omega)
              have T2 := fun W (u : Upd W3 W (fun _ => False)) => RCall_any W s p2 c2 bb (by rw [← hbb]; exact (HR2.out.upd u).take K) hob (by omega)
              have hyo := vP_ok s hob (by omega)
              rw [← call_eq] at T2
              obtain ⟨⟨⟨yk, yn, yt, yb, yf⟩, ok⟩, hy⟩ : ∃ y, callP s bb = y := ⟨_, rfl⟩
              rw [hy] at hyo
              simp only [hy, hbl] at T1 T2
              unfold Vl.val at T1 T2
              simp only [enS] at T1 T2
              have SL1 := slice_of 44 67 Tryz.underlying44 ia hia p1 N c1 K (by omega)
              have SL2 := slice_of 45 81 Tryz.underlying45 ib hib p2 N c2 K (by omega)
              have SM := fun w => same12_any w ⟨yk, yn, yt, yb, yf⟩
              unfold Vl.val at SM
              simp only at SM
              have HS := fun w => Has_any w s
              have SH := fun w => RShape_any w s
              have hhs := has_shape s
              obtain ⟨S, hS⟩ : ∃ S, shapeF s = S := ⟨_, rfl⟩
              rw [hS] at SH hhs
              obtain ⟨hb, hhb⟩ : ∃ b, decide (0 < (takesF s).2) = b := ⟨_, rfl⟩
              rw [hhb] at HS hhs
              obtain ⟨SB, hSB⟩ : ∃ s : ByteArray, (⟨S.toArray⟩ : ByteArray) = s := ⟨_, rfl⟩
              have bS : SB.toList.isEmpty = !hb := by rw [hhs, ← hSB]; simp
              simp only [enS] at SH HS
              rw [hSB] at SH
              have HT2 := hide T2
              have HU6 := hide HU5.out
              have X1 := T1 wr HU5.out
              have hk1 : (K : Int) ≤ (c1 : Int) := by omega
              have hk2 : (K : Int) ≤ (c2 : Int) := by omega
              have hk0 : (0 : Int) ≤ (K : Int) := by omega
              clear hkt hbb hbl hob T1 T2 hy hS hhb hhs hSB hyo
              go_wp2_with fail
              refine Calls.mono X1 ?_
              rintro e w5 ⟨rfl, u5⟩
              have HU7 := hide ((HU6.out.then u5 (fun _ _ => id)).alloc (.cells #[.int .i64 yk, .int .i64 yn, enS yt, .bool yb, .int .i64 yf] 29))
              have HW7 := hide ((HW5.out.then u5 (fun _ _ => id)).alloc (.cells #[.int .i64 yk, .int .i64 yn, enS yt, .bool yb, .int .i64 yf] 29))
              have HY := hide (Vnew1 w5 (.cells #[.int .i64 yk, .int .i64 yn, enS yt, .bool yb, .int .i64 yf] 29))
              have X2 := HT2.out _ HU7.out
              clear u5 X1 hK hkl
              go_wp2_with fail
              refine Calls.mono X2 ?_
              rintro e w6 ⟨rfl, u6⟩
              have HU8 := hide ((HU7.out.then u6 (fun _ _ => id)).alloc (.cells #[.int .i64 yk, .int .i64 yn, enS yt, .bool yb, .int .i64 yf] 30))
              have HW8 := hide ((HW7.out.then u6 (fun _ _ => id)).alloc (.cells #[.int .i64 yk, .int .i64 yn, enS yt, .bool yb, .int .i64 yf] 30))
              have hY8 := block_alloc (u6.get HY.out id) (.cells #[.int .i64 yk, .int .i64 yn, enS yt, .bool yb, .int .i64 yf] 30)
              have hZ8 := Vnew1 w6 (.cells #[.int .i64 yk, .int .i64 yn, enS yt, .bool yb, .int .i64 yf] 30)
              clear u6 X2 HY HT2
              obtain ⟨y0, y1, y2, y3, y4⟩ := cells5 hY8
              have yl := lt_at hY8
              obtain ⟨z0, z1, z2, z3, z4⟩ := cells5 hZ8
              have zl := lt_at hZ8
              clear hY8 hZ8
              go_wp2_with fail
              refine Calls.mono (SM _) ?_
              rintro e w7 ⟨rfl, u7⟩
              have HW9 := hide (HW8.out.then u7 (fun _ _ => id))
              clear u7 y0 y1 y2 y3 y4 yl z0 z1 z2 z3 z4 zl SM
              go_wp2_with fail
              refine Calls.mono (HS _) ?_
              rintro e w8 ⟨rfl, u8⟩
              have HW10 := hide (HW9.out.then u8 (fun _ _ => id))
              clear u8 HS
              go_wp2_with fail
              refine Calls.mono (SH _) ?_
              rintro e w9 ⟨rfl, hw⟩
              obtain rfl := hw.symm
              clear hw SH
              go_wp2_with fail
              go_roundg (gk - 1)
              case measure => omega
              case rel => exact ⟨m + 1, by omega, by go_num, HW10.out⟩
            · have hm1 : ¬ (m : Int) < 5 := by omega
              clear hkt
              go_wp2_with fail
              go_roundg (o2 - 1)
              case measure => have := HO2.out; have := HJ.out; omega
              case rel => exact ⟨j + 1, by have := HJ.out; omega, by go_num, HU5.out⟩
        · have hj1 : ¬ (j : Int) < 9 := by omega
          clear hst
          go_wp2_with fail
          go_roundg (o1 - 1)
          case measure => have := HO1.out; have := HI.out; omega
          case rel => exact ⟨i + 1, by have := HI.out; omega, by go_num, HW2.out.then HU3.out (fun _ _ => id)⟩
    · have hi1 : ¬ (i : Int) < 2 := by omega
      clear hbb
      go_wp2_with fail
      refine Calls.mono (wakes12_any _) ?_
      rintro e w9 ⟨rfl, u9⟩
      go_wp2_with fail
      go_ret
      exact ⟨rfl, HU1.out.then u9 (fun _ _ => id)⟩
end Go.Proofs.YtdjpkkgcoainhaaGreatDoor
/- Arguments that are rows of arguments, texts, opened; what they may take at most. -/
set_option maxRecDepth 100000
namespace Go.Proofs.YtdjpkkgcoainhaaGreatDoor
open Go.ChangeShapes Go.WideShapes Go.ChangeAt Go.RowKit Go.Lat Go.Deep

theorem weightsAll_mem {H : Type} {P : Program} {e : TypeId} : ∀ {l : List (DataW H)} {d : DataW H}, d ∈ l → ∀ n ∈ d.weights P e, n ∈ DataW.weightsAll P e l
  | [], d, h, n, hn => by simp at h
  | x :: l, d, h, n, hn => by
    simp only [DataW.weightsAll, List.mem_append]
    rcases List.mem_cons.1 h with rfl | h
    · exact .inl hn
    · exact .inr (weightsAll_mem h n hn)
theorem vals_open_w {H : Type} {enc : TypeId × Value → H} {W : World} {base : Nat} {sp : Nat → Bool} {held : Bool} {n : Nat} {v : Value} {y : DataW H × List MemPlace} (h : DataW.trod enc Tryz.prog W base sp held n 24 [v] = some y) (hw : ∀ q ∈ y.1.weights Tryz.prog 24, q ≤ reachBytes) :
    ∃ (a : Option Addr) (cap : Nat) (l : List Vl), v = .slice a l.length cap ∧ l.length ≤ cap ∧ RdV W a l ∧ (∀ x ∈ l, okK x) ∧ l.length * 48 ≤ reachBytes := by
  obtain ⟨a, cap, l, e, hlc, hr, hk, -⟩ := vals_open (enc := enc) h
  refine ⟨a, cap, l, e, hlc, hr, hk, ?_⟩
  rcases open_slice Tryz.underlying24 h with ⟨h0, _⟩ | ⟨a', len, cap', m, n', D, Pl, hcs, hb, hl, hm, hmm, hx, hi⟩
  · rw [e] at h0
    simp at h0
    have := h0.2.1
    subst this
    simp
  · rw [e] at hcs
    simp at hcs
    have hb5 : Tryz.prog.bytesOf 23 = 48 := by kernel_rfl
    have k := hw ((len + (m - len)) * 48) (by
      rw [hx]
      simp only [DataW.weights, Tryz.underlying24, List.length_map, List.length_range, hb5]
      exact List.mem_cons_self)
    have := hcs.2.1
    have h1 : l.length * 48 ≤ (len + (m - len)) * 48 := Nat.mul_le_mul_right _ (by omega)
    omega
theorem argcells_open {H : Type} {enc : TypeId × Value → H} {W : World} {base : Nat} {sp : Nat → Bool} {held : Bool} {fuel : Nat} {cs : List Value} {y : DataW H × List MemPlace} (h : DataW.trod enc Tryz.prog W base sp held fuel 58 cs = some y) (hw : ∀ q ∈ y.1.weights Tryz.prog 58, q ≤ reachBytes) :
    ∃ (x : Ar) (va : Option Addr) (vc : Nat), cs = [.slice va x.v.length vc, .int .i64 x.c, .bool x.w] ∧ RdV W va x.v ∧ x.v.length ≤ vc ∧ (∀ z ∈ x.v, okK z) ∧ i64ok x.c ∧ x.v.length * 48 ≤ reachBytes := by
  obtain ⟨ys, m, -, hy, hl, hyl, hf⟩ := DataW.trod_struct Tryz.underlying58 h
  have h3 : Tryz.prog.cellsOf 58 = 3 := by kernel_rfl
  have hs : Tryz.prog.cellsOf 24 = 1 := by kernel_rfl
  have hi : Tryz.prog.cellsOf 3 = 1 := by kernel_rfl
  have hb : Tryz.prog.cellsOf 4 = 1 := by kernel_rfl
  rw [h3] at hl
  have f0 := hf 0 _ rfl
  have f1 := hf 1 _ rfl
  have f2 := hf 2 _ rfl
  change DataW.trod enc Tryz.prog W base sp held _ 24 ((cs.drop 0).take (Tryz.prog.cellsOf 24)) = _ at f0
  change DataW.trod enc Tryz.prog W base sp held _ 3 ((cs.drop 1).take (Tryz.prog.cellsOf 3)) = _ at f1
  change DataW.trod enc Tryz.prog W base sp held _ 4 ((cs.drop 2).take (Tryz.prog.cellsOf 4)) = _ at f2
  rw [hs] at f0
  rw [hi] at f1
  rw [hb] at f2
  have hyl3 : ys.length = 3 := hyl
  rw [take1c (by omega), List.getElem?_eq_getElem (by omega)] at f0 f1 f2
  obtain ⟨a, cap, l, e0, hlc, hr, hk, hwl⟩ := vals_open_w (enc := enc) f0 (fun q hq => hw q (by
    rw [hy]
    simp only [DataW.weights, Tryz.underlying58]
    exact DataW.weights_mem_each (j := 0) rfl (by rw [List.getElem?_map, List.getElem?_eq_getElem (by omega)]; rfl) q hq))
  obtain ⟨c, e1, _, wc⟩ := DataW.trod_int Tryz.underlying3 f1
  obtain ⟨b, e2, _⟩ := DataW.trod_bool Tryz.underlying4 f2
  simp only [List.cons.injEq, and_true] at e1 e2
  refine ⟨⟨l, c, b⟩, a, cap, ?_, hr, hlc, hk, i64ok_of_wf wc, hwl⟩
  apply List.ext_getElem?
  intro j
  match j with
  | 0 => rw [List.getElem?_eq_getElem (by omega), e0]; rfl
  | 1 => rw [List.getElem?_eq_getElem (by omega), e1]; rfl
  | 2 => rw [List.getElem?_eq_getElem (by omega), e2]; rfl
  | j + 3 => rw [List.getElem?_eq_none (by omega), List.getElem?_eq_none (by simp)]
theorem args_open {H : Type} {enc : TypeId × Value → H} {W : World} {base : Nat} {sp : Nat → Bool} {held : Bool} {n : Nat} {v : Value} {y : DataW H × List MemPlace} (h : DataW.trod enc Tryz.prog W base sp held n 42 [v] = some y) (hw : ∀ q ∈ y.1.weights Tryz.prog 42, q ≤ reachBytes) :
    ∃ (a : Option Addr) (cap : Nat) (l : List Ar), v = .slice a l.length cap ∧ l.length ≤ cap ∧ RdC W a l ∧ ∀ x ∈ l, ((∀ z ∈ x.v, okK z) ∧ i64ok x.c) ∧ x.v.length * 48 ≤ reachBytes := by
  rcases open_slice Tryz.underlying42 h with ⟨h0, _⟩ | ⟨a, len, cap, m, n', D, Pl, hcs, hb, hl, hm, hmm, hx, hi⟩
  · simp at h0
    subst h0
    exact ⟨none, 0, [], rfl, by simp, fun i x hx => by simp at hx, fun x hx => by simp at hx⟩
  · simp at hcs
    subst hcs
    have h3 : Tryz.prog.cellsOf 58 = 3 := by kernel_rfl
    have hall : ∀ i, i < len → ∃ p : Ar × Option Addr × Nat, W.cell? (a.add (i * 3)) = some (.slice p.2.1 p.1.v.length p.2.2) ∧ W.cell? (a.add (i * 3 + 1)) = some (.int .i64 p.1.c) ∧ W.cell? (a.add (i * 3 + 2)) = some (.bool p.1.w) ∧ RdV W p.2.1 p.1.v ∧ p.1.v.length ≤ p.2.2 ∧ ((∀ z ∈ p.1.v, okK z) ∧ i64ok p.1.c) ∧ p.1.v.length * 48 ≤ reachBytes := by
      intro i hil
      obtain ⟨cs', hc, ht⟩ := hi i (by rw [hmm]; split <;> omega)
      rw [h3] at hc
      obtain ⟨_, hcl, hat⟩ := World.cells?_some hc
      obtain ⟨x, va, vc, rfl, hr, hlc, hk, hcc, hwl⟩ := argcells_open ht (fun q hq => hw q (by
        rw [hx]
        simp only [DataW.weights, Tryz.underlying42, List.mem_cons, List.mem_append]
        exact .inr (.inl (weightsAll_mem (List.mem_map.2 ⟨i, List.mem_range.2 hil, rfl⟩) q hq))))
      refine ⟨(x, va, vc), ?_, ?_, ?_, hr, hlc, ⟨hk, hcc⟩, hwl⟩
      · have := hat 0 (by omega); rw [Go.Deep.add_add] at this; simpa using this
      · have := hat 1 (by omega); rw [Go.Deep.add_add] at this; simpa using this
      · have := hat 2 (by omega); rw [Go.Deep.add_add] at this; simpa using this
    obtain ⟨A, hA⟩ := choose_fn ((⟨[], 0, false⟩, none, 0) : Ar × Option Addr × Nat) hall
    refine ⟨some a, cap, (List.range len).map fun i => (A i).1, by simp, by simpa using hl, fun i x hx => ?_, fun x hx => ?_⟩
    · have hil : i < len := by have := (List.getElem?_eq_some_iff.1 hx).1; simpa using this
      have hxA : (A i).1 = x := by simpa [hil] using hx
      subst hxA
      have z0 := (hA 0 (by omega)).1
      have hs := cell_spot z0
      obtain ⟨k0, k1, k2, k3, k4, -⟩ := hA i hil
      obtain ⟨ab, ao, asp⟩ := a
      have hsp : asp = none := by
        cases asp with
        | none => rfl
        | some q => simp [Addr.add] at hs
      subst hsp
      rw [add_off] at k0 k1 k2
      exact ⟨ab, ao, (A i).2.1, (A i).2.2, rfl, World.block_lt_of_cell? _ _ k0, k0, by rw [Nat.add_assoc]; exact k1, by rw [Nat.add_assoc]; exact k2, k3, k4⟩
    · rw [List.mem_map] at hx
      obtain ⟨i, hi', rfl⟩ := hx
      have ho := hA i (by simpa using hi')
      exact ⟨ho.2.2.2.2.2.1, ho.2.2.2.2.2.2⟩
end Go.Proofs.YtdjpkkgcoainhaaGreatDoor
