/- NumsCalls: plain laws; its list of names. -/
import Derived.Test.YtmfngdjhkpddoaaGreatDoorJ50
import Derived.Test.YtmfngdjhkpddoaaGreatDoorJ48
import Derived.Test.YtmfngdjhkpddoaaGreatDoorJX2
/- NumsCalls: plain laws; its list of names. -/
set_option maxRecDepth 100000
namespace Go.Proofs.YtmfngdjhkpddoaaGreatDoor
open Go.RowKit Go.Lat Go.Lib

structure okK (x : Vl) : Prop where
  k : i64ok x.k
  n : i64ok x.n
  f : i64ok x.f
theorem cutV_ok {x : Vl} (h : okK x) : (cutV x).ok ∧ (cutV x).t.length ≤ 1000000 := by
  have e : (cutV x).t.length ≤ 300 := by show (x.t.take 300).length ≤ 300; rw [List.length_take]; omega
  exact ⟨⟨h.k, h.n, Nat.le_trans e (by decide), h.f⟩, by omega⟩
theorem cutL_oks {l : List Vl} (h : ∀ x ∈ l, okK x) : oksV (cutL l) := fun y hy => by
  unfold cutL at hy
  rw [List.mem_map] at hy
  obtain ⟨x, hx, rfl⟩ := hy
  exact cutV_ok (h x (List.mem_of_mem_take hx))
theorem cutL_len (l : List Vl) : (cutL l).length ≤ 40 := by unfold cutL; rw [List.length_map, List.length_take]; omega
theorem RdV.take {w : World} {va : Option Addr} {l : List Vl} (h : RdV w va l) (k : Nat) : RdV w va (l.take k) := fun i x hx => h i x (by
  rw [List.getElem?_take] at hx
  split at hx
  · exact hx
  · cases hx)
theorem oksV_take {l : List Vl} (h : oksV l) (k : Nat) : oksV (l.take k) := fun a ha => h a (List.mem_of_mem_take ha)
theorem rw_form {w : World} {T : TypeId} {v : Value} {l : List Vl} (h : Rw w T 5 v l.length (vlCells l)) : ∃ p c, v = .slice p l.length c ∧ l.length ≤ c ∧ RdV w p l := by
  rcases h.2 with ⟨rfl, h0⟩ | ⟨g, off, cap, cur, rfl, hg, hc, hr⟩
  · have e : l = [] := List.length_eq_zero_iff.1 h0
    subst e
    exact ⟨none, 0, rfl, Nat.le_refl _, RdV.nil _ _⟩
  · exact ⟨_, cap, rfl, hc, rdV_of_rw h⟩
theorem slice_of (t e : TypeId) (ht : Tryz.prog.underlying t = some (.slice e)) (i : TypeInfo) (hi : Tryz.prog.info? e = some i) (va : Option Addr) (n vc M : Nat) (hM : M ≤ vc) (w : World) : (Instr.slice t (.slice va n vc) none (some (.int .i64 (M : Int))) none).run Tryz.prog w = .ok (.slice va M vc) w := by
  have hel : Tryz.prog.elem t = e := by simp [Program.elem, ht]
  rw [run_slice_h w t va n vc (by rw [hel]; exact ht) .i64 (M : Int) (by omega) (by omega), hel]
  simp [sizeOf, typeInfo, hi, sliced]
  intro _
  cases va with
  | none => rfl
  | some a => obtain ⟨b, o, s⟩ := a; cases s <;> simp [Addr.add]
theorem cut20 (l : List UInt8) : (⟨l.toArray⟩ : ByteArray).extract 0 (min (l.length : Int) 20).toNat = ⟨(l.take 20).toArray⟩ := by
  apply ByteArray.ext
  apply Array.ext'
  have e : (min (l.length : Int) 20).toNat = min l.length 20 := by omega
  rw [e, ByteArray.data_extract]
  simp only [Array.toList_extract, List.extract_eq_take_drop, Nat.sub_zero, List.drop_zero]
  rw [Nat.min_comm, ← List.take_eq_take_min]
theorem Tryz.infoStr : (Tryz.prog.info? 9).map (fun i => (i.zero, i.size, i.bytes)) = some (some (.string ⟨#[]⟩), 1, 16) := by kernel_rfl
theorem Tryz.infoPV : (Tryz.prog.info? 26).map (fun i => (i.zero, i.size, i.bytes)) = some (some (.agg #[.int .i64 0, .int .i64 0, .string ⟨#[]⟩, .bool false, .int .i64 0]), 5, 48) := by kernel_rfl
theorem Tryz.infoRV : (Tryz.prog.info? 36).map (fun i => (i.zero, i.size, i.bytes)) = some (some (.agg #[.int .i64 0, .int .i64 0, .string ⟨#[]⟩, .bool false, .int .i64 0]), 5, 48) := by kernel_rfl
theorem names9_any (w : World) : Calls Tryz.prog 19 #[] w fun e w' => e = .returned (.slice (some ⟨w.heap.size, 0, none⟩) 13 13) ∧ w' = w.alloc (.cells #[.string ⟨#[65, 66, 83]⟩, .string ⟨#[83, 73, 71, 78]⟩, .string ⟨#[73, 78, 84]⟩, .string ⟨#[84, 82, 85, 78, 67]⟩, .string ⟨#[82, 79, 85, 78, 68]⟩, .string ⟨#[82, 79, 85, 78, 68, 85, 80]⟩, .string ⟨#[77, 79, 68]⟩, .string ⟨#[81, 85, 79, 84, 73, 69, 78, 84]⟩, .string ⟨#[83, 81, 82, 84]⟩, .string ⟨#[71, 67, 68]⟩, .string ⟨#[70, 65, 67, 84]⟩, .string ⟨#[69, 86, 69, 78]⟩, .string ⟨#[82, 65, 84, 73, 79]⟩] 9) := by
  go_enter Tryz.func19, Tryz.ntmps19
  go_wp2_with fail
  go_ret
  exact ⟨rfl, rfl⟩
def allN : List (List UInt8) := [[65, 66, 83], [83, 73, 71, 78], [73, 78, 84], [84, 82, 85, 78, 67], [82, 79, 85, 78, 68], [82, 79, 85, 78, 68, 85, 80], [77, 79, 68], [81, 85, 79, 84, 73, 69, 78, 84], [83, 81, 82, 84], [71, 67, 68], [70, 65, 67, 84], [69, 86, 69, 78], [82, 65, 84, 73, 79]]
end Go.Proofs.YtmfngdjhkpddoaaGreatDoor
/- The walk of NumsCalls. -/
set_option maxRecDepth 100000
namespace Go.Proofs.YtmfngdjhkpddoaaGreatDoor
open Go.RowKit Go.Lat Go.Lib

set_option maxHeartbeats 25600000 in
theorem NumsCalls_any (w : World) (hg : Sig w) (hp : Pow w) (name : List UInt8) (p : Option Addr) (cap : Nat) (l : List Vl) (hlc : l.length ≤ cap) (hr : RdV w p l) (hok : ∀ x ∈ l, okK x) :
    Calls Tryz.prog 5 #[enS name, .slice p l.length cap] w fun e w' => e = .returned (.bool true) ∧ Upd w w' (fun _ => False) := by
  have AR := list9_any w p cap l hlc hr
  have OKS := cutL_oks hok
  have hlen := cutL_len l
  obtain ⟨aa, haa⟩ : ∃ a, cutL l = a := ⟨_, rfl⟩
  rw [haa] at AR OKS hlen
  obtain ⟨N, hN⟩ : ∃ N, aa.length = N := ⟨_, rfl⟩
  obtain ⟨nm, hnm⟩ : ∃ t, name.take 20 = t := ⟨_, rfl⟩
  have HNM := hide hnm
  have HOK := hide OKS
  have HNA := hide hN
  have HG := hide hg
  have HP := hide hp
  obtain ⟨i0, hi, hz0, hz1, hz2⟩ := info_p Tryz.infoStr
  obtain ⟨ia, hia, -, -, -⟩ := info_p Tryz.infoPV
  obtain ⟨ib, hib, -, -, -⟩ := info_p Tryz.infoRV
  clear hnm hr hok hg hp haa OKS
  rw [hN] at hlen
  go_enter Tryz.func5, Tryz.ntmps5
  go_wp2_with fail
  refine Calls.mono AR ?_
  rintro e w1 ⟨v1, v2, rfl, r1, r2, -, -, u1⟩
  obtain ⟨p1, c1, rfl, hc1, R1⟩ := rw_form r1
  obtain ⟨p2, c2, rfl, hc2, R2⟩ := rw_form r2
  rw [hN] at hc1 hc2
  simp only [hN]
  have HR1 := hide R1
  have HR2 := hide R2
  have HU1 := hide u1
  have HC := hide (And.intro hc1 hc2)
  have HLEN := hide hlen
  clear r1 r2 R1 R2 u1 AR hN hc1 hc2 hlen
  go_wp2_with fail
  simp only [cut20, HNM.out]
  go_wp2_with fail
  refine Calls.mono (names9_any _) ?_
  rintro e w2 ⟨rfl, hw2⟩
  have M2 : Rw w2 9 1 (.slice (some ⟨w1.heap.size, 0, none⟩) 13 13) 13 [.string ⟨#[65, 66, 83]⟩, .string ⟨#[83, 73, 71, 78]⟩, .string ⟨#[73, 78, 84]⟩, .string ⟨#[84, 82, 85, 78, 67]⟩, .string ⟨#[82, 79, 85, 78, 68]⟩, .string ⟨#[82, 79, 85, 78, 68, 85, 80]⟩, .string ⟨#[77, 79, 68]⟩, .string ⟨#[81, 85, 79, 84, 73, 69, 78, 84]⟩, .string ⟨#[83, 81, 82, 84]⟩, .string ⟨#[71, 67, 68]⟩, .string ⟨#[70, 65, 67, 84]⟩, .string ⟨#[69, 86, 69, 78]⟩, .string ⟨#[82, 65, 84, 73, 79]⟩] := by
    rw [hw2]
    exact Rw.made w1 #[.string ⟨#[65, 66, 83]⟩, .string ⟨#[83, 73, 71, 78]⟩, .string ⟨#[73, 78, 84]⟩, .string ⟨#[84, 82, 85, 78, 67]⟩, .string ⟨#[82, 79, 85, 78, 68]⟩, .string ⟨#[82, 79, 85, 78, 68, 85, 80]⟩, .string ⟨#[77, 79, 68]⟩, .string ⟨#[81, 85, 79, 84, 73, 69, 78, 84]⟩, .string ⟨#[83, 81, 82, 84]⟩, .string ⟨#[71, 67, 68]⟩, .string ⟨#[70, 65, 67, 84]⟩, .string ⟨#[69, 86, 69, 78]⟩, .string ⟨#[82, 65, 84, 73, 79]⟩] 9 1 13 rfl
  have HU2 : Hid (Upd w1 w2 (fun _ => False)) := hide (by rw [hw2]; exact (Upd.refl w1 _).alloc _)
  have hz : w1.heap.size < w2.heap.size := by rw [hw2]; simp
  have HZ := hide hz
  have M3 := M2.alloc (.cells #[enS nm] 9)
  have HM3 := hide M3
  clear hw2 M2 M3 hz
  go_wp2_with (at_builtin; go_loud (refine wpList_append_rw _ rfl _ _ 47 47 rfl 9 _ i0 _ 1 16 Tryz.underlying47 Tryz.underlying47 (by simp) hi hz0 hz1 hz2 rfl _ 13 [.string ⟨#[65, 66, 83]⟩, .string ⟨#[83, 73, 71, 78]⟩, .string ⟨#[73, 78, 84]⟩, .string ⟨#[84, 82, 85, 78, 67]⟩, .string ⟨#[82, 79, 85, 78, 68]⟩, .string ⟨#[82, 79, 85, 78, 68, 85, 80]⟩, .string ⟨#[77, 79, 68]⟩, .string ⟨#[81, 85, 79, 84, 73, 69, 78, 84]⟩, .string ⟨#[83, 81, 82, 84]⟩, .string ⟨#[71, 67, 68]⟩, .string ⟨#[70, 65, 67, 84]⟩, .string ⟨#[69, 86, 69, 78]⟩, .string ⟨#[82, 65, 84, 73, 79]⟩] rfl HM3.out _ 1 [enS nm] rfl (Rw.src (Rw.made w2 #[enS nm] 9 1 1 rfl)) (by simp) (by simp [Value.oneCell']) (by omega) (by omega) (fun ga gc w3 h3 hg3 ho3 => ?_)))
  obtain ⟨ST, so, sc, hse, hsl, hsc⟩ := Rw.pos h3 (by omega)
  obtain ⟨rfl, -, rfl⟩ := Value.slice.inj hse
  have HU3 := hide (((HU2.out.alloc (.cells #[enS nm] 9)).grown hg3 (fun k hk => .inl (by
    have e : w1.heap.size = k := Option.some.inj hk
    omega))))
  have HSC := hide hsc
  have HSL := hide hsl
  clear h3 hg3 ho3 hse hsc hsl HM3 HZ
  go_loopg [30] 14 (fun q iv wr => ∃ j : Nat, j + q = 14 ∧ iv = .int .i64 j ∧ Upd w3 wr (fun _ => False))
  case atStart => exact ⟨0, by omega, rfl, Upd.refl _ _⟩
  case round =>
    obtain ⟨j, hj, rfl, hu⟩ := hrel
    obtain ⟨o2, ho2⟩ : ∃ o, gk = o := ⟨_, rfl⟩
    rw [ho2] at hj
    have HO2 := hide ho2
    have HJ := hide hj
    have HU4 := hide hu
    have hsc := HSC.out
    have hsl := HSL.out
    by_cases hj2 : j < 14
    · obtain ⟨s, hs⟩ : ∃ s : List UInt8, wr.cell? ⟨ST, so + j, none⟩ = some (.string ⟨s.toArray⟩) := by
        have : j = 0 ∨ j = 1 ∨ j = 2 ∨ j = 3 ∨ j = 4 ∨ j = 5 ∨ j = 6 ∨ j = 7 ∨ j = 8 ∨ j = 9 ∨ j = 10 ∨ j = 11 ∨ j = 12 ∨ j = 13 := by omega
        rcases this with rfl | rfl | rfl | rfl | rfl | rfl | rfl | rfl | rfl | rfl | rfl | rfl | rfl | rfl
        · exact ⟨[65, 66, 83], (hu.cell ST _ hsl id).trans (hsc 0 _ rfl)⟩
        · exact ⟨[83, 73, 71, 78], (hu.cell ST _ hsl id).trans (hsc 1 _ rfl)⟩
        · exact ⟨[73, 78, 84], (hu.cell ST _ hsl id).trans (hsc 2 _ rfl)⟩
        · exact ⟨[84, 82, 85, 78, 67], (hu.cell ST _ hsl id).trans (hsc 3 _ rfl)⟩
        · exact ⟨[82, 79, 85, 78, 68], (hu.cell ST _ hsl id).trans (hsc 4 _ rfl)⟩
        · exact ⟨[82, 79, 85, 78, 68, 85, 80], (hu.cell ST _ hsl id).trans (hsc 5 _ rfl)⟩
        · exact ⟨[77, 79, 68], (hu.cell ST _ hsl id).trans (hsc 6 _ rfl)⟩
        · exact ⟨[81, 85, 79, 84, 73, 69, 78, 84], (hu.cell ST _ hsl id).trans (hsc 7 _ rfl)⟩
        · exact ⟨[83, 81, 82, 84], (hu.cell ST _ hsl id).trans (hsc 8 _ rfl)⟩
        · exact ⟨[71, 67, 68], (hu.cell ST _ hsl id).trans (hsc 9 _ rfl)⟩
        · exact ⟨[70, 65, 67, 84], (hu.cell ST _ hsl id).trans (hsc 10 _ rfl)⟩
        · exact ⟨[69, 86, 69, 78], (hu.cell ST _ hsl id).trans (hsc 11 _ rfl)⟩
        · exact ⟨[82, 65, 84, 73, 79], (hu.cell ST _ hsl id).trans (hsc 12 _ rfl)⟩
        · exact ⟨nm, (hu.cell ST _ hsl id).trans (hsc 13 _ rfl)⟩
      have hsl2 : ST < wr.heap.size := Nat.lt_of_lt_of_le hsl hu.size
      have hj0 : (0 : Int) ≤ (j : Int) := by omega
      have hj1 : (j : Int) < 14 := by omega
      have hU5 := hu.alloc (.cells #[.int .i64 (N : Int), .int .i64 (min (N : Int) 1), .int .i64 (min (N : Int) 2)] 3)
      have hKT := Vnew1 wr (.cells #[.int .i64 (N : Int), .int .i64 (min (N : Int) 1), .int .i64 (min (N : Int) 2)] 3)
      clear hsc hsl hu hj ho2
      go_upto_region 7 with fail
      obtain ⟨W4, hW4⟩ : ∃ W, wr.alloc (.cells #[.int .i64 (N : Int), .int .i64 (min (N : Int) 1), .int .i64 (min (N : Int) 2)] 3) = W := ⟨_, rfl⟩
      obtain ⟨KT, hKTg⟩ : ∃ g, wr.heap.size = g := ⟨_, rfl⟩
      rw [hW4] at hU5 hKT
      rw [hKTg] at hKT
      rw [hW4, hKTg]
      have HU5 := hide hU5
      have HKT := hide hKT
      clear hW4 hKTg hKT hs hsl2 hU5
      go_loopg [44] 3 (fun q iv w4 => ∃ m : Nat, m + q = 3 ∧ iv = .int .i64 m ∧ Upd W4 w4 (fun _ => False))
      case atStart => exact ⟨0, by omega, rfl, Upd.refl _ _⟩
      case round =>
        obtain ⟨m, hm, rfl, hu⟩ := hrel
        have HU6 := hide (HU5.out.then hu (fun _ _ => id))
        have HW6 := hide hu
        have hkt := hu.get HKT.out id
        clear hu
        by_cases hm2 : m < 3
        · obtain ⟨K, hK, hKN⟩ : ∃ K : Nat, wr.cell? ⟨KT, m, none⟩ = some (.int .i64 (K : Int)) ∧ K ≤ N := by
            have : m = 0 ∨ m = 1 ∨ m = 2 := by omega
            have e : ∀ t : Nat, (min (N : Int) (t : Int)) = ((min N t : Nat) : Int) := fun t => by omega
            rcases this with rfl | rfl | rfl
            · exact ⟨N, cell_at hkt 0 _ rfl, by omega⟩
            · exact ⟨min N 1, by rw [← e]; exact cell_at hkt 1 _ rfl, by omega⟩
            · exact ⟨min N 2, by rw [← e]; exact cell_at hkt 2 _ rfl, by omega⟩
          have hkl := lt_at hkt
          have hm0 : (0 : Int) ≤ (m : Int) := by omega
          have hm1 : (m : Int) < 3 := by omega
          obtain ⟨bq, hbq⟩ : ∃ q, (s == [80, 79, 87, 69, 82]) = q := ⟨_, rfl⟩
          cases bq with
          | true =>
            clear hkt
            go_wp2_with fail
            go_roundg (gk - 1)
            case measure => omega
            case rel => exact ⟨m + 1, by omega, by go_num, HW6.out⟩
          | false =>
            have hcc := HC.out
            have hlen := HLEN.out
            obtain ⟨bb, hbb⟩ : ∃ b, aa.take K = b := ⟨_, rfl⟩
            have hbl : bb.length = K := by rw [← hbb, List.length_take, HNA.out]; omega
            have hob : oksV bb := by rw [← hbb]; exact oksV_take HOK.out K
            have hUX := HU3.out.then HU6.out (fun _ _ => id)
            have T1 := fun W (u : Upd w1 W (fun _ => False)) => nCall_any W s bb p1 c1 (by rw [← hbb]; exact (HR1.out.upd u).take K) hob (by omega)
            have T2 := fun W (u : Upd w1 W (fun _ => False)) => RCall_any W s bb p2 c2 (by rw [← hbb]; exact (HR2.out.upd u).take K) hob (by omega)
            obtain ⟨⟨⟨yk, yn, yt, yb, yf⟩, ok⟩, hy⟩ : ∃ y, callN s bb = y := ⟨_, rfl⟩
            simp only [hy, hbl] at T1 T2
            unfold Vl.val at T1 T2
            simp only [enS] at T1 T2
            have SL1 := slice_of 30 26 Tryz.underlying30 ia hia p1 N c1 K (by omega)
            have SL2 := slice_of 44 36 Tryz.underlying44 ib hib p2 N c2 K (by omega)
            have SM := fun w => same9_any w ⟨yk, yn, yt, yb, yf⟩
            unfold Vl.val at SM
            simp only at SM
            have HS := fun w => nHas_any w s
            have SH := fun w => RTakes_any w s
            obtain ⟨t, ht⟩ : ∃ t, takesN s = t := ⟨_, rfl⟩
            rw [ht] at HS SH
            obtain ⟨hb, hhb⟩ : ∃ b, decide (0 < t) = b := ⟨_, rfl⟩
            rw [hhb] at HS
            simp only [enS] at SH HS
            have HT2 := hide T2
            have HX6 := hide hUX
            have X1 := T1 wr hUX
            have hk1 : (K : Int) ≤ (c1 : Int) := by omega
            have hk2 : (K : Int) ≤ (c2 : Int) := by omega
            have hk0 : (0 : Int) ≤ (K : Int) := by omega
            clear hkt hbb hbl hob T1 T2 hy ht hcc hlen hUX
            go_wp2_with fail
            refine Calls.mono X1 ?_
            rintro e w5 ⟨rfl, u5⟩
            have HX7 := hide ((HX6.out.then u5 (fun _ _ => id)).alloc (.cells #[.int .i64 yk, .int .i64 yn, enS yt, .bool yb, .int .i64 yf] 26))
            have HW7 := hide ((HW6.out.then u5 (fun _ _ => id)).alloc (.cells #[.int .i64 yk, .int .i64 yn, enS yt, .bool yb, .int .i64 yf] 26))
            have HY := hide (Vnew1 w5 (.cells #[.int .i64 yk, .int .i64 yn, enS yt, .bool yb, .int .i64 yf] 26))
            have X2 := HT2.out _ HX7.out
            clear u5 X1 hK hkl
            go_wp2_with fail
            refine Calls.mono X2 ?_
            rintro e w6 ⟨rfl, u6⟩
            have HW8 := hide ((HW7.out.then u6 (fun _ _ => id)).alloc (.cells #[.int .i64 yk, .int .i64 yn, enS yt, .bool yb, .int .i64 yf] 36))
            have hY8 := block_alloc (u6.get HY.out id) (.cells #[.int .i64 yk, .int .i64 yn, enS yt, .bool yb, .int .i64 yf] 36)
            have hZ8 := Vnew1 w6 (.cells #[.int .i64 yk, .int .i64 yn, enS yt, .bool yb, .int .i64 yf] 36)
            clear u6 X2 HY HT2
            obtain ⟨y0, y1, y2, y3, y4⟩ := cells5 hY8
            have yl := lt_at hY8
            obtain ⟨z0, z1, z2, z3, z4⟩ := cells5 hZ8
            have zl := lt_at hZ8
            clear hY8 hZ8
            go_wp2_with fail
            refine Calls.mono (SM _) ?_
            rintro e w7 ⟨rfl, u7⟩
            have HW9 := hide (HW8.out.then u7 (fun _ _ => id))
            clear u7 y0 y1 y2 y3 y4 yl z0 z1 z2 z3 z4 zl SM
            go_wp2_with fail
            refine Calls.mono (HS _) ?_
            rintro e w8 ⟨rfl, hw8⟩
            obtain rfl := hw8.symm
            clear hw8 HS
            go_wp2_with fail
            refine Calls.mono (SH _) ?_
            rintro e w9 ⟨rfl, hw⟩
            obtain rfl := hw.symm
            clear hw SH
            go_wp2_with fail
            go_roundg (gk - 1)
            case measure => omega
            case rel => exact ⟨m + 1, by omega, by go_num, HW9.out⟩
        · have hm1 : ¬ (m : Int) < 3 := by omega
          clear hkt
          go_wp2_with fail
          go_roundg (o2 - 1)
          case measure => have := HO2.out; have := HJ.out; omega
          case rel => exact ⟨j + 1, by have := HJ.out; omega, by go_num, HU6.out⟩
    · have hj1 : ¬ (j : Int) < 14 := by omega
      have hfin := HU1.out.then (HU3.out.then hu (fun _ _ => id)) (fun _ _ => id)
      have WK := wakes9_any wr (HG.out.upd hfin id) (HP.out.upd hfin id)
      have HF := hide hfin
      clear hsc hsl hu hj ho2 hfin
      go_wp2_with fail
      refine Calls.mono WK ?_
      rintro e w9 ⟨rfl, u9⟩
      go_wp2_with fail
      go_ret
      exact ⟨rfl, HF.out.then u9 (fun _ _ => id)⟩
end Go.Proofs.YtmfngdjhkpddoaaGreatDoor
/- Slices of values among the arguments, opened. -/
set_option maxRecDepth 100000
namespace Go.Proofs.YtmfngdjhkpddoaaGreatDoor
open Go.ChangeShapes Go.WideShapes Go.ChangeAt Go.RowKit Go.Lat Go.Deep

/-- A value's cells, read. -/
theorem valcells_open {H : Type} {enc : TypeId × Value → H} {W : World} {base : Nat} {sp : Nat → Bool} {held : Bool} {fuel : Nat} {cs : List Value} {y : DataW H × List MemPlace} (h : DataW.trod enc Tryz.prog W base sp held fuel 35 cs = some y) : ∃ x : Vl, cs = x.cells ∧ x.ok := by
  obtain ⟨ys, m, -, -, hl, hyl, hf⟩ := DataW.trod_struct Tryz.underlying35 h
  have h5 : Tryz.prog.cellsOf 35 = 5 := by kernel_rfl
  have hs : Tryz.prog.cellsOf 9 = 1 := by kernel_rfl
  have hi : Tryz.prog.cellsOf 3 = 1 := by kernel_rfl
  have hn : Tryz.prog.cellsOf 2 = 1 := by kernel_rfl
  have hb : Tryz.prog.cellsOf 4 = 1 := by kernel_rfl
  rw [h5] at hl
  have f0 := hf 0 _ rfl
  have f1 := hf 1 _ rfl
  have f2 := hf 2 _ rfl
  have f3 := hf 3 _ rfl
  have f4 := hf 4 _ rfl
  change DataW.trod enc Tryz.prog W base sp held _ 3 ((cs.drop 0).take (Tryz.prog.cellsOf 3)) = _ at f0
  change DataW.trod enc Tryz.prog W base sp held _ 2 ((cs.drop 1).take (Tryz.prog.cellsOf 2)) = _ at f1
  change DataW.trod enc Tryz.prog W base sp held _ 9 ((cs.drop 2).take (Tryz.prog.cellsOf 9)) = _ at f2
  change DataW.trod enc Tryz.prog W base sp held _ 4 ((cs.drop 3).take (Tryz.prog.cellsOf 4)) = _ at f3
  change DataW.trod enc Tryz.prog W base sp held _ 3 ((cs.drop 4).take (Tryz.prog.cellsOf 3)) = _ at f4
  rw [hi] at f0 f4
  rw [hn] at f1
  rw [hs] at f2
  rw [hb] at f3
  have hyl5 : ys.length = 5 := hyl
  rw [take1c (by omega), List.getElem?_eq_getElem (by omega)] at f0 f1 f2 f3 f4
  obtain ⟨k, e0, _, wk⟩ := DataW.trod_int Tryz.underlying3 f0
  obtain ⟨n, e1, _, wn⟩ := DataW.trod_int Tryz.underlying2 f1
  obtain ⟨s, e2, _, ws⟩ := DataW.trod_string Tryz.underlying9 f2
  obtain ⟨b, e3, _⟩ := DataW.trod_bool Tryz.underlying4 f3
  obtain ⟨f, e4, _, wf⟩ := DataW.trod_int Tryz.underlying3 f4
  simp only [List.cons.injEq, and_true] at e0 e1 e2 e3 e4
  have es : enS s.data.toList = .string s := by
    show Value.string ⟨s.data.toList.toArray⟩ = .string s
    simp
  refine ⟨⟨k, n, s.data.toList, b, f⟩, ?_, ⟨i64ok_of_wf wk, i64ok_of_wf wn, ws, i64ok_of_wf wf⟩⟩
  unfold Vl.cells
  simp only [es]
  apply List.ext_getElem?
  intro j
  match j with
  | 0 => rw [List.getElem?_eq_getElem (by omega), e0]; rfl
  | 1 => rw [List.getElem?_eq_getElem (by omega), e1]; rfl
  | 2 => rw [List.getElem?_eq_getElem (by omega), e2]; rfl
  | 3 => rw [List.getElem?_eq_getElem (by omega), e3]; rfl
  | 4 => rw [List.getElem?_eq_getElem (by omega), e4]; rfl
  | j + 5 => rw [List.getElem?_eq_none (by omega), List.getElem?_eq_none (by simp)]
theorem vals_open {H : Type} {enc : TypeId × Value → H} {W : World} {base : Nat} {sp : Nat → Bool} {held : Bool} {n : Nat} {v : Value} {y : DataW H × List MemPlace} (h : DataW.trod enc Tryz.prog W base sp held n 43 [v] = some y) :
    ∃ (a : Option Addr) (cap : Nat) (l : List Vl), v = .slice a l.length cap ∧ l.length ≤ cap ∧ RdV W a l ∧ (∀ x ∈ l, okK x) ∧ (a = none → cap = 0) := by
  rcases open_slice Tryz.underlying43 h with ⟨h0, _⟩ | ⟨a, len, cap, m, n', D, Pl, hcs, hb, hl, hm, hmm, hx, hi⟩
  · simp at h0
    subst h0
    exact ⟨none, 0, [], rfl, by simp, RdV.nil _ _, fun x hx => by simp at hx, fun _ => rfl⟩
  · simp at hcs
    subst hcs
    have h5 : Tryz.prog.cellsOf 35 = 5 := by kernel_rfl
    have hall : ∀ i, i < len → ∃ x : Vl, x.ok ∧ W.cell? (a.add (i * 5)) = some (.int .i64 x.k) ∧ W.cell? (a.add (i * 5 + 1)) = some (.int .i64 x.n) ∧ W.cell? (a.add (i * 5 + 2)) = some (enS x.t) ∧ W.cell? (a.add (i * 5 + 3)) = some (.bool x.b) ∧ W.cell? (a.add (i * 5 + 4)) = some (.int .i64 x.f) := by
      intro i hil
      obtain ⟨cs', hc, ht⟩ := hi i (by rw [hmm]; split <;> omega)
      rw [h5] at hc
      obtain ⟨_, hcl, hat⟩ := World.cells?_some hc
      obtain ⟨x, rfl, ho⟩ := valcells_open ht
      refine ⟨x, ho, ?_, ?_, ?_, ?_, ?_⟩
      · have := hat 0 (by omega); rw [Go.Deep.add_add] at this; simpa [Vl.cells] using this
      · have := hat 1 (by omega); rw [Go.Deep.add_add] at this; simpa [Vl.cells] using this
      · have := hat 2 (by omega); rw [Go.Deep.add_add] at this; simpa [Vl.cells] using this
      · have := hat 3 (by omega); rw [Go.Deep.add_add] at this; simpa [Vl.cells] using this
      · have := hat 4 (by omega); rw [Go.Deep.add_add] at this; simpa [Vl.cells] using this
    obtain ⟨A, hA⟩ := choose_fn vZero hall
    refine ⟨some a, cap, (List.range len).map A, by simp, by simpa using hl, fun i x hx => ?_, fun x hx => ?_, by simp⟩
    · have hil : i < len := by have := (List.getElem?_eq_some_iff.1 hx).1; simpa using this
      have hxA : A i = x := by simpa [hil] using hx
      subst hxA
      obtain ⟨-, z0, -⟩ := hA 0 (by omega)
      have hs := cell_spot z0
      obtain ⟨-, k0, k1, k2, k3, k4⟩ := hA i hil
      obtain ⟨ab, ao, asp⟩ := a
      have hsp : asp = none := by
        cases asp with
        | none => rfl
        | some q => simp [Addr.add] at hs
      subst hsp
      rw [add_off] at k0 k1 k2 k3 k4
      exact ⟨ab, ao, rfl, World.block_lt_of_cell? _ _ k0, k0, by rw [Nat.add_assoc]; exact k1, by rw [Nat.add_assoc]; exact k2, by rw [Nat.add_assoc]; exact k3, by rw [Nat.add_assoc]; exact k4⟩
    · rw [List.mem_map] at hx
      obtain ⟨i, hi', rfl⟩ := hx
      have ho := (hA i (by simpa using hi')).1
      exact ⟨ho.k, ho.n, ho.f⟩
end Go.Proofs.YtmfngdjhkpddoaaGreatDoor
