/- The walks of takes, Has, of slices.ContainsFunc with what is not good, of told. -/
import Derived.Test.YtdjpkkgcoainhaaGreatDoorJ19
/- The walks of takes, Has, of slices.ContainsFunc with what is not good, of told. -/
set_option maxRecDepth 100000
namespace Go.Proofs.YtdjpkkgcoainhaaGreatDoor
open Go.RowKit Go.Lat Go.Lib

theorem name_cases (n : List UInt8) : (n = nROWS ∧ (n == [82, 79, 87, 83]) = true ∧ (n == [67, 79, 76, 85, 77, 78, 83]) = false ∧ (n == [77, 65, 84, 67, 72]) = false ∧ (n == [73, 78, 68, 69, 88]) = false ∧ (n == [76, 79, 79, 75, 85, 80]) = false ∧ (n == [86, 76, 79, 79, 75, 85, 80]) = false ∧ (n == [72, 76, 79, 79, 75, 85, 80]) = false ∧ (n == [67, 72, 79, 79, 83, 69]) = false) ∨
    (n = nCOLUMNS ∧ (n == [82, 79, 87, 83]) = false ∧ (n == [67, 79, 76, 85, 77, 78, 83]) = true ∧ (n == [77, 65, 84, 67, 72]) = false ∧ (n == [73, 78, 68, 69, 88]) = false ∧ (n == [76, 79, 79, 75, 85, 80]) = false ∧ (n == [86, 76, 79, 79, 75, 85, 80]) = false ∧ (n == [72, 76, 79, 79, 75, 85, 80]) = false ∧ (n == [67, 72, 79, 79, 83, 69]) = false) ∨
    (n = nMATCH ∧ (n == [82, 79, 87, 83]) = false ∧ (n == [67, 79, 76, 85, 77, 78, 83]) = false ∧ (n == [77, 65, 84, 67, 72]) = true ∧ (n == [73, 78, 68, 69, 88]) = false ∧ (n == [76, 79, 79, 75, 85, 80]) = false ∧ (n == [86, 76, 79, 79, 75, 85, 80]) = false ∧ (n == [72, 76, 79, 79, 75, 85, 80]) = false ∧ (n == [67, 72, 79, 79, 83, 69]) = false) ∨
    (n = nINDEX ∧ (n == [82, 79, 87, 83]) = false ∧ (n == [67, 79, 76, 85, 77, 78, 83]) = false ∧ (n == [77, 65, 84, 67, 72]) = false ∧ (n == [73, 78, 68, 69, 88]) = true ∧ (n == [76, 79, 79, 75, 85, 80]) = false ∧ (n == [86, 76, 79, 79, 75, 85, 80]) = false ∧ (n == [72, 76, 79, 79, 75, 85, 80]) = false ∧ (n == [67, 72, 79, 79, 83, 69]) = false) ∨
    (n = nLOOKUP ∧ (n == [82, 79, 87, 83]) = false ∧ (n == [67, 79, 76, 85, 77, 78, 83]) = false ∧ (n == [77, 65, 84, 67, 72]) = false ∧ (n == [73, 78, 68, 69, 88]) = false ∧ (n == [76, 79, 79, 75, 85, 80]) = true ∧ (n == [86, 76, 79, 79, 75, 85, 80]) = false ∧ (n == [72, 76, 79, 79, 75, 85, 80]) = false ∧ (n == [67, 72, 79, 79, 83, 69]) = false) ∨
    (n = nVLOOKUP ∧ (n == [82, 79, 87, 83]) = false ∧ (n == [67, 79, 76, 85, 77, 78, 83]) = false ∧ (n == [77, 65, 84, 67, 72]) = false ∧ (n == [73, 78, 68, 69, 88]) = false ∧ (n == [76, 79, 79, 75, 85, 80]) = false ∧ (n == [86, 76, 79, 79, 75, 85, 80]) = true ∧ (n == [72, 76, 79, 79, 75, 85, 80]) = false ∧ (n == [67, 72, 79, 79, 83, 69]) = false) ∨
    (n = nHLOOKUP ∧ (n == [82, 79, 87, 83]) = false ∧ (n == [67, 79, 76, 85, 77, 78, 83]) = false ∧ (n == [77, 65, 84, 67, 72]) = false ∧ (n == [73, 78, 68, 69, 88]) = false ∧ (n == [76, 79, 79, 75, 85, 80]) = false ∧ (n == [86, 76, 79, 79, 75, 85, 80]) = false ∧ (n == [72, 76, 79, 79, 75, 85, 80]) = true ∧ (n == [67, 72, 79, 79, 83, 69]) = false) ∨
    (n = nCHOOSE ∧ (n == [82, 79, 87, 83]) = false ∧ (n == [67, 79, 76, 85, 77, 78, 83]) = false ∧ (n == [77, 65, 84, 67, 72]) = false ∧ (n == [73, 78, 68, 69, 88]) = false ∧ (n == [76, 79, 79, 75, 85, 80]) = false ∧ (n == [86, 76, 79, 79, 75, 85, 80]) = false ∧ (n == [72, 76, 79, 79, 75, 85, 80]) = false ∧ (n == [67, 72, 79, 79, 83, 69]) = true) ∨
    (n ≠ nROWS ∧ n ≠ nCOLUMNS ∧ n ≠ nMATCH ∧ n ≠ nINDEX ∧ n ≠ nLOOKUP ∧ n ≠ nVLOOKUP ∧ n ≠ nHLOOKUP ∧ n ≠ nCHOOSE ∧ (n == [82, 79, 87, 83]) = false ∧ (n == [67, 79, 76, 85, 77, 78, 83]) = false ∧ (n == [77, 65, 84, 67, 72]) = false ∧ (n == [73, 78, 68, 69, 88]) = false ∧ (n == [76, 79, 79, 75, 85, 80]) = false ∧ (n == [86, 76, 79, 79, 75, 85, 80]) = false ∧ (n == [72, 76, 79, 79, 75, 85, 80]) = false ∧ (n == [67, 72, 79, 79, 83, 69]) = false) := by
  by_cases h0 : n = nROWS
  · left
    subst h0
    exact ⟨rfl, by decide, by decide, by decide, by decide, by decide, by decide, by decide, by decide⟩
  by_cases h1 : n = nCOLUMNS
  · right; left
    subst h1
    exact ⟨rfl, by decide, by decide, by decide, by decide, by decide, by decide, by decide, by decide⟩
  by_cases h2 : n = nMATCH
  · right; right; left
    subst h2
    exact ⟨rfl, by decide, by decide, by decide, by decide, by decide, by decide, by decide, by decide⟩
  by_cases h3 : n = nINDEX
  · right; right; right; left
    subst h3
    exact ⟨rfl, by decide, by decide, by decide, by decide, by decide, by decide, by decide, by decide⟩
  by_cases h4 : n = nLOOKUP
  · right; right; right; right; left
    subst h4
    exact ⟨rfl, by decide, by decide, by decide, by decide, by decide, by decide, by decide, by decide⟩
  by_cases h5 : n = nVLOOKUP
  · right; right; right; right; right; left
    subst h5
    exact ⟨rfl, by decide, by decide, by decide, by decide, by decide, by decide, by decide, by decide⟩
  by_cases h6 : n = nHLOOKUP
  · right; right; right; right; right; right; left
    subst h6
    exact ⟨rfl, by decide, by decide, by decide, by decide, by decide, by decide, by decide, by decide⟩
  by_cases h7 : n = nCHOOSE
  · right; right; right; right; right; right; right; left
    subst h7
    exact ⟨rfl, by decide, by decide, by decide, by decide, by decide, by decide, by decide, by decide⟩
  right; right; right; right; right; right; right; right
  exact ⟨h0, h1, h2, h3, h4, h5, h6, h7, by simpa [nROWS] using h0, by simpa [nCOLUMNS] using h1, by simpa [nMATCH] using h2, by simpa [nINDEX] using h3, by simpa [nLOOKUP] using h4, by simpa [nVLOOKUP] using h5, by simpa [nHLOOKUP] using h6, by simpa [nCHOOSE] using h7⟩
theorem takes_any (w : World) (n : List UInt8) : Calls Tryz.prog 30 #[enS n] w fun e w' => e = .returned (.tuple #[.int .i64 (takesF n).1, .int .i64 (takesF n).2]) ∧ w' = w := by
  rcases name_cases n with ⟨hn, b1, b2, b3, b4, b5, b6, b7, b8⟩ | ⟨hn, b1, b2, b3, b4, b5, b6, b7, b8⟩ | ⟨hn, b1, b2, b3, b4, b5, b6, b7, b8⟩ | ⟨hn, b1, b2, b3, b4, b5, b6, b7, b8⟩ | ⟨hn, b1, b2, b3, b4, b5, b6, b7, b8⟩ | ⟨hn, b1, b2, b3, b4, b5, b6, b7, b8⟩ | ⟨hn, b1, b2, b3, b4, b5, b6, b7, b8⟩ | ⟨hn, b1, b2, b3, b4, b5, b6, b7, b8⟩ | ⟨n1, n2, n3, n4, n5, n6, n7, n8, b1, b2, b3, b4, b5, b6, b7, b8⟩
  · have et : takesF n = (1, 1) := by rw [hn]; decide
    rw [et]
    clear hn et
    go_enter Tryz.func30, Tryz.ntmps30
    go_wp2_with fail
    go_ret2
    exact ⟨rfl, rfl⟩
  · have et : takesF n = (1, 1) := by rw [hn]; decide
    rw [et]
    clear hn et
    go_enter Tryz.func30, Tryz.ntmps30
    go_wp2_with fail
    go_ret2
    exact ⟨rfl, rfl⟩
  · have et : takesF n = (2, 3) := by rw [hn]; decide
    rw [et]
    clear hn et
    go_enter Tryz.func30, Tryz.ntmps30
    go_wp2_with fail
    go_ret2
    exact ⟨rfl, rfl⟩
  · have et : takesF n = (2, 3) := by rw [hn]; decide
    rw [et]
    clear hn et
    go_enter Tryz.func30, Tryz.ntmps30
    go_wp2_with fail
    go_ret2
    exact ⟨rfl, rfl⟩
  · have et : takesF n = (3, 3) := by rw [hn]; decide
    rw [et]
    clear hn et
    go_enter Tryz.func30, Tryz.ntmps30
    go_wp2_with fail
    go_ret2
    exact ⟨rfl, rfl⟩
  · have et : takesF n = (3, 4) := by rw [hn]; decide
    rw [et]
    clear hn et
    go_enter Tryz.func30, Tryz.ntmps30
    go_wp2_with fail
    go_ret2
    exact ⟨rfl, rfl⟩
  · have et : takesF n = (3, 4) := by rw [hn]; decide
    rw [et]
    clear hn et
    go_enter Tryz.func30, Tryz.ntmps30
    go_wp2_with fail
    go_ret2
    exact ⟨rfl, rfl⟩
  · have et : takesF n = (2, 32) := by rw [hn]; decide
    rw [et]
    clear hn et
    go_enter Tryz.func30, Tryz.ntmps30
    go_wp2_with fail
    go_ret2
    exact ⟨rfl, rfl⟩
  · have et : takesF n = (0, 0) := by unfold takesF; rw [if_neg n1, if_neg n2, if_neg n3, if_neg n4, if_neg n5, if_neg n6, if_neg n7, if_neg n8]
    rw [et]
    clear n1 n2 n3 n4 n5 n6 n7 n8 et
    go_enter Tryz.func30, Tryz.ntmps30
    go_wp2_with fail
    go_ret2
    exact ⟨rfl, rfl⟩
theorem Has_any (w : World) (n : List UInt8) : Calls Tryz.prog 17 #[enS n] w fun e w' => e = .returned (.bool (decide (0 < (takesF n).2))) ∧ Upd w w' (fun _ => False) := by
  have T := fun w => takes_any w n
  obtain ⟨⟨a, b⟩, ht⟩ : ∃ t, takesF n = t := ⟨_, rfl⟩
  rw [ht] at T ⊢
  simp only at T ⊢
  clear ht
  go_enter Tryz.func17, Tryz.ntmps17
  go_wp2_with fail
  refine Calls.mono (T _) ?_
  rintro e w1 ⟨rfl, hw⟩
  obtain rfl := hw.symm
  clear hw
  go_wp2_with fail
  all_goals go_ret
  all_goals exact ⟨by simp_all, Upd.refl w _⟩
theorem closG_any (w : World) (a : Ar) (va : Option Addr) (vc : Nat) (hn : a.v.length ≤ 1000000) (hc : i64ok a.c) : Calls Tryz.prog 32 #[.agg #[.slice va a.v.length vc, .int .i64 a.c, .bool a.w]] w fun e w' => e = .returned (.bool (!goodA a)) ∧ Upd w w' (fun _ => False) := by
  have GA := fun w => AGood_any w a va vc hn hc
  have bX := Vnew1 w (.cells #[.slice va a.v.length vc, .int .i64 a.c, .bool a.w] 67)
  obtain ⟨c0, c1, c2⟩ := cells3 bX
  have cl := lt_at bX
  obtain ⟨q, hq⟩ : ∃ q, goodA a = q := ⟨_, rfl⟩
  rw [hq] at GA ⊢
  obtain ⟨v, c, wd⟩ := a
  simp only at c0 c1 c2 GA ⊢
  clear hq bX
  go_enter Tryz.func32, Tryz.ntmps32
  go_wp2_with fail
  refine Calls.mono (GA _) ?_
  rintro e w1 ⟨rfl, u1⟩
  go_wp2_with fail
  go_ret
  exact ⟨rfl, ((Upd.refl w _).alloc _).then u1 (fun _ _ => id)⟩
theorem IndexG_any (w : World) (p : Option Addr) (pc : Nat) (aa : List Ar) (hr : RdA w p aa) (ho : oksA aa) (hl : aa.length ≤ 1000) :
    Calls Tryz.prog 55 #[.slice p aa.length pc, .func (Fn.func 32) #[] #[]] w fun e w' => ∃ z : Int, e = .returned (.int .i64 z) ∧ Upd w w' (fun _ => False) ∧ decide (0 ≤ z) = !aa.all goodA := by
  obtain ⟨N, hN⟩ : ∃ N, aa.length = N := ⟨_, rfl⟩
  rw [hN] at hl ⊢
  have HN := hide hN
  have HR := hide hr
  have HO := hide ho
  clear hN hr ho
  go_enter Tryz.func55, Tryz.ntmps55
  go_wp2_with fail
  go_loopg [8] N (fun q iv wr => ∃ k : Nat, k + q = N ∧ iv = .int .i64 k ∧ (∀ a ∈ aa.take k, goodA a = true) ∧ Upd w wr (fun _ => False))
  case atStart => exact ⟨0, by omega, rfl, by simp, Upd.refl _ _⟩
  case round =>
    obtain ⟨k, hk, rfl, hno, hu⟩ := hrel
    by_cases hkN : k < N
    · obtain ⟨a, ha⟩ : ∃ a, aa[k]? = some a := ⟨_, List.getElem?_eq_getElem (by rw [HN.out]; exact hkN)⟩
      obtain ⟨g, off, va, vc, rfl, hg, d0, d1, d2, -⟩ := (HR.out.upd hu) k a ha
      have hoa := HO.out a (List.mem_of_getElem? ha)
      have CL := fun w => closG_any w a va vc hoa.2.1 hoa.2.2
      have hk0 : (0 : Int) ≤ (k : Int) := by omega
      have hk1 : (k : Int) < (N : Int) := by omega
      have HNO := hide hno
      have HU := hide hu
      have HAK := hide ha
      have hmem := List.mem_of_getElem? ha
      obtain ⟨q, hq⟩ : ∃ q, goodA a = q := ⟨_, rfl⟩
      rw [hq] at CL
      have HQ := hide hq
      have HM := hide hmem
      obtain ⟨X, hX⟩ : ∃ X, X = a := ⟨_, rfl⟩
      rw [← hX] at HQ HAK HM
      clear hno hu ha hoa hq hmem hX
      obtain ⟨v, c, wd⟩ := a
      simp only at d0 d1 d2 CL
      cases q with
      | false =>
        go_wp2_with fail
        refine Calls.mono (CL _) ?_
        rintro e w2 ⟨rfl, u2⟩
        go_wp2_with fail
        go_ret
        refine ⟨k, rfl, HU.out.then u2 (fun _ _ => id), ?_⟩
        have : aa.all goodA = false := by
          rw [Bool.eq_false_iff]
          intro h
          rw [List.all_eq_true] at h
          have := h _ HM.out
          rw [HQ.out] at this
          cases this
        rw [this]
        simp
      | true =>
        go_wp2_with fail
        refine Calls.mono (CL _) ?_
        rintro e w2 ⟨rfl, u2⟩
        go_wp2_with fail
        go_roundg (gk - 1)
        case measure => omega
        case rel =>
          refine ⟨k + 1, by omega, by go_num, fun x hx => ?_, HU.out.then u2 (fun _ _ => id)⟩
          rw [List.take_add_one, HAK.out, List.mem_append] at hx
          rcases hx with hx | hx
          · exact HNO.out x hx
          · simp at hx
            rw [hx]
            exact HQ.out
    · go_wp2_with fail
      go_ret
      refine ⟨-1, rfl, hu, ?_⟩
      have : aa.all goodA = true := by
        rw [List.all_eq_true]
        intro x hx
        refine hno x ?_
        rw [List.take_of_length_le (by rw [HN.out]; omega)]
        exact hx
      rw [this]
      rfl
theorem ContG_any (w : World) (p : Option Addr) (pc : Nat) (aa : List Ar) (hr : RdA w p aa) (ho : oksA aa) (hl : aa.length ≤ 1000) :
    Calls Tryz.prog 31 #[.slice p aa.length pc, .func (Fn.func 32) #[] #[]] w fun e w' => e = .returned (.bool (!aa.all goodA)) ∧ Upd w w' (fun _ => False) := by
  have IX := IndexG_any w p pc aa hr ho hl
  clear hr ho
  go_enter Tryz.func31, Tryz.ntmps31
  go_wp2_with fail
  refine Calls.mono IX ?_
  rintro e w1 ⟨z, rfl, u1, hz⟩
  have HZ := hide hz
  clear hz
  go_wp2_with fail
  go_ret
  exact ⟨by rw [← HZ.out]; rfl, u1⟩
theorem field1 (w : World) (a : Option Addr) (n c : Nat) (p q : Int) : (Instr.field 110 (.agg #[.slice a n c, .int .i64 p, .int .i64 q]) 1).run Tryz.prog w = .ok (.int .i64 p) w := by kernel_rfl
theorem field2 (w : World) (a : Option Addr) (n c : Nat) (p q : Int) : (Instr.field 110 (.agg #[.slice a n c, .int .i64 p, .int .i64 q]) 2).run Tryz.prog w = .ok (.int .i64 q) w := by kernel_rfl
set_option maxHeartbeats 6400000 in
theorem toldL_any (w0 w : World) (r : Nat) (p : Option Addr) (pc : Nat) (aa : List Ar) (n : List UInt8) (H : RrAt w0 w r p pc aa (0, 0)) (A : ArgsOk aa) (hpc : aa.length ≤ pc) (ht0 : (takesF n).2 ≠ 0) (ht1 : (takesF n).1 ≤ (aa.length : Int)) :
    Calls Tryz.prog 34 #[enS n, .pointer (some ⟨r, 0, none⟩)] w (RdPost w0 w r p pc aa (toldP n aa).1 (toldP n aa).2) := by
  have hrl := lt_at H.blk
  have hle := H.le
  have HA0 : Hid (Upd (w.alloc (.cells #[.int .i64 0, .int .i64 0, .string ⟨#[]⟩, .bool false, .int .i64 0] 29)) (w.alloc (.cells #[.int .i64 0, .int .i64 0, .string ⟨#[]⟩, .bool false, .int .i64 0] 29)) (fun j => j = r)) := hide (Upd.refl _ _)
  rcases name_cases n with ⟨hn, b1, b2, b3, b4, b5, b6, b7, b8⟩ | ⟨hn, b1, b2, b3, b4, b5, b6, b7, b8⟩ | ⟨hn, b1, b2, b3, b4, b5, b6, b7, b8⟩ | ⟨hn, b1, b2, b3, b4, b5, b6, b7, b8⟩ | ⟨hn, b1, b2, b3, b4, b5, b6, b7, b8⟩ | ⟨hn, b1, b2, b3, b4, b5, b6, b7, b8⟩ | ⟨hn, b1, b2, b3, b4, b5, b6, b7, b8⟩ | ⟨hn, b1, b2, b3, b4, b5, b6, b7, b8⟩ | ⟨n1, n2, n3, n4, n5, n6, n7, n8, b1, b2, b3, b4, b5, b6, b7, b8⟩
  · have et : takesF n = (1, 1) := by rw [hn]; decide
    rw [et] at ht1
    have ep : toldP n aa = (mkN (rowsA (argA aa 0) * 10000), 0) := by rw [hn]; rfl
    rw [ep]
    clear ep et ht0 hn
    simp only at ht1
    obtain ⟨a, ha⟩ : ∃ a, aa[0]? = some a := ⟨_, List.getElem?_eq_getElem (by omega)⟩
    rw [argA_at ha]
    obtain ⟨R, C, hR, hC, hRC, hR1, hC1, hl, hR4, hC4⟩ := dims_le (A.good a (List.mem_of_getElem? ha))
    have TX := table_any w0 _ r p pc aa (0, 0) (H.alloc (.cells #[.int .i64 0, .int .i64 0, .string ⟨#[]⟩, .bool false, .int .i64 0] 29)) A a ha
    have FX := field1
    rw [hR, hC] at TX
    rw [hR]
    have WX := fun w => whole_any w (R : Int) (by omega) (by omega)
    obtain ⟨⟨k0, n0, t0, b0, e0'⟩, hv⟩ : ∃ v, mkN ((R : Int) * 10000) = v := ⟨_, rfl⟩
    rw [hv] at WX ⊢
    unfold Vl.val at WX
    simp only at WX
    clear hv H hR hC
    go_enter Tryz.func34, Tryz.ntmps34
    go_wp2_with fail
    refine Calls.mono TX ?_
    rintro e w6 ⟨va, vc, rfl, hv, h6, u6⟩
    have HA6 := hide (HA0.out.then u6 (fun _ _ h => h))
    have HR6 := hide h6
    clear hv u6 h6 TX
    go_wp2_with fail
    refine Calls.mono (WX _) ?_
    rintro e w7 ⟨rfl, u7'⟩
    have u7 := (HA6.out.then u7' (fun _ _ h => h.elim))
    have h7 := HR6.out.keep u7'
    have CX := True.intro
    clear u7' WX
    have HA7 := hide u7
    have bV := HA7.out.get (Vnew1 w _) (show ¬ w.heap.size = r by omega)
    obtain ⟨v0, v1, v2, v3, v4⟩ := cells5 bV
    have vl := lt_at bV
    have fv0 := free_at bV 0
    have fv1 := free_at bV 1
    have fv2 := free_at bV 2
    have fv3 := free_at bV 3
    have fv4 := free_at bV 4
    have HBV := hide bV
    have HR7 := hide h7
    clear bV u7 h7 CX
    go_wp2_with fail
    (try simp only [Exit.inBlock, Exit.then])
    refine bodyPost_ret (ret_vl rfl _ _ w.heap.size ⟨k0, n0, t0, b0, e0'⟩ rfl (block5 (x := vZero) HBV.out _ _ _ _ _)) rfl ?_
    have uu := upd5 (upd_a HA7.out) (Nat.le_refl _) (.int .i64 k0) (.int .i64 n0) (enS t0) (.bool b0) (.int .i64 e0')
    exact ⟨rfl, ⟨1, set5_get HR7.out.blk (by omega) _ _ _ _ _, hle, (upd5 HR7.out.upd (by omega) _ _ _ _ _), HR7.out.rd, HR7.out.pos⟩, uu⟩
  · have et : takesF n = (1, 1) := by rw [hn]; decide
    rw [et] at ht1
    have ep : toldP n aa = (mkN (colsA (argA aa 0) * 10000), 0) := by rw [hn]; rfl
    rw [ep]
    clear ep et ht0 hn
    simp only at ht1
    obtain ⟨a, ha⟩ : ∃ a, aa[0]? = some a := ⟨_, List.getElem?_eq_getElem (by omega)⟩
    rw [argA_at ha]
    obtain ⟨R, C, hR, hC, hRC, hR1, hC1, hl, hR4, hC4⟩ := dims_le (A.good a (List.mem_of_getElem? ha))
    have TX := table_any w0 _ r p pc aa (0, 0) (H.alloc (.cells #[.int .i64 0, .int .i64 0, .string ⟨#[]⟩, .bool false, .int .i64 0] 29)) A a ha
    have FX := field2
    rw [hR, hC] at TX
    rw [hC]
    have WX := fun w => whole_any w (C : Int) (by omega) (by omega)
    obtain ⟨⟨k0, n0, t0, b0, e0'⟩, hv⟩ : ∃ v, mkN ((C : Int) * 10000) = v := ⟨_, rfl⟩
    rw [hv] at WX ⊢
    unfold Vl.val at WX
    simp only at WX
    clear hv H hR hC
    go_enter Tryz.func34, Tryz.ntmps34
    go_wp2_with fail
    refine Calls.mono TX ?_
    rintro e w6 ⟨va, vc, rfl, hv, h6, u6⟩
    have HA6 := hide (HA0.out.then u6 (fun _ _ h => h))
    have HR6 := hide h6
    clear hv u6 h6 TX
    go_wp2_with fail
    refine Calls.mono (WX _) ?_
    rintro e w7 ⟨rfl, u7'⟩
    have u7 := (HA6.out.then u7' (fun _ _ h => h.elim))
    have h7 := HR6.out.keep u7'
    have CX := True.intro
    clear u7' WX
    have HA7 := hide u7
    have bV := HA7.out.get (Vnew1 w _) (show ¬ w.heap.size = r by omega)
    obtain ⟨v0, v1, v2, v3, v4⟩ := cells5 bV
    have vl := lt_at bV
    have fv0 := free_at bV 0
    have fv1 := free_at bV 1
    have fv2 := free_at bV 2
    have fv3 := free_at bV 3
    have fv4 := free_at bV 4
    have HBV := hide bV
    have HR7 := hide h7
    clear bV u7 h7 CX
    go_wp2_with fail
    (try simp only [Exit.inBlock, Exit.then])
    refine bodyPost_ret (ret_vl rfl _ _ w.heap.size ⟨k0, n0, t0, b0, e0'⟩ rfl (block5 (x := vZero) HBV.out _ _ _ _ _)) rfl ?_
    have uu := upd5 (upd_a HA7.out) (Nat.le_refl _) (.int .i64 k0) (.int .i64 n0) (enS t0) (.bool b0) (.int .i64 e0')
    exact ⟨rfl, ⟨1, set5_get HR7.out.blk (by omega) _ _ _ _ _, hle, (upd5 HR7.out.upd (by omega) _ _ _ _ _), HR7.out.rd, HR7.out.pos⟩, uu⟩
  · have et : takesF n = (2, 3) := by rw [hn]; decide
    rw [et] at ht1
    have ep : toldP n aa = matchP aa := by rw [hn]; rfl
    rw [ep]
    clear ep et ht0 hn
    simp only at ht1
    obtain ⟨a, ha⟩ : ∃ a, aa[0]? = some a := ⟨_, List.getElem?_eq_getElem (by omega)⟩
    obtain ⟨b, hb⟩ : ∃ a, aa[1]? = some a := ⟨_, List.getElem?_eq_getElem (by omega)⟩
    have CX := match_any w0 _ r p pc aa (H.alloc (.cells #[.int .i64 0, .int .i64 0, .string ⟨#[]⟩, .bool false, .int .i64 0] 29)) A a b ha hb
    obtain ⟨⟨⟨k0, n0, t0, b0, e0'⟩, f7⟩, hv⟩ : ∃ v, matchP aa = v := ⟨_, rfl⟩
    rw [hv] at CX ⊢
    unfold RdPost Vl.val at CX
    simp only at CX
    clear hv H
    go_enter Tryz.func34, Tryz.ntmps34
    go_wp2_with fail
    refine Calls.mono CX ?_
    rintro e w7 ⟨rfl, ⟨k7, h7⟩, u7⟩
    have HA7 := hide (HA0.out.then u7 (fun _ _ h => h))
    have bV := HA7.out.get (Vnew1 w _) (show ¬ w.heap.size = r by omega)
    obtain ⟨v0, v1, v2, v3, v4⟩ := cells5 bV
    have vl := lt_at bV
    have fv0 := free_at bV 0
    have fv1 := free_at bV 1
    have fv2 := free_at bV 2
    have fv3 := free_at bV 3
    have fv4 := free_at bV 4
    have HBV := hide bV
    have HR7 := hide h7
    clear bV u7 h7 CX
    go_wp2_with fail
    (try simp only [Exit.inBlock, Exit.then])
    refine bodyPost_ret (ret_vl rfl _ _ w.heap.size ⟨k0, n0, t0, b0, e0'⟩ rfl (block5 (x := vZero) HBV.out _ _ _ _ _)) rfl ?_
    have uu := upd5 (upd_a HA7.out) (Nat.le_refl _) (.int .i64 k0) (.int .i64 n0) (enS t0) (.bool b0) (.int .i64 e0')
    exact ⟨rfl, ⟨k7, set5_get HR7.out.blk (by omega) _ _ _ _ _, hle, (upd5 HR7.out.upd (by omega) _ _ _ _ _), HR7.out.rd, HR7.out.pos⟩, uu⟩
  · have et : takesF n = (2, 3) := by rw [hn]; decide
    rw [et] at ht1
    have ep : toldP n aa = indexP aa := by rw [hn]; rfl
    rw [ep]
    clear ep et ht0 hn
    simp only at ht1
    obtain ⟨a, ha⟩ : ∃ a, aa[0]? = some a := ⟨_, List.getElem?_eq_getElem (by omega)⟩
    obtain ⟨b, hb⟩ : ∃ a, aa[1]? = some a := ⟨_, List.getElem?_eq_getElem (by omega)⟩
    have CX := index_any w0 _ r p pc aa (H.alloc (.cells #[.int .i64 0, .int .i64 0, .string ⟨#[]⟩, .bool false, .int .i64 0] 29)) A a ha
    obtain ⟨⟨⟨k0, n0, t0, b0, e0'⟩, f7⟩, hv⟩ : ∃ v, indexP aa = v := ⟨_, rfl⟩
    rw [hv] at CX ⊢
    unfold RdPost Vl.val at CX
    simp only at CX
    clear hv H
    go_enter Tryz.func34, Tryz.ntmps34
    go_wp2_with fail
    refine Calls.mono CX ?_
    rintro e w7 ⟨rfl, ⟨k7, h7⟩, u7⟩
    have HA7 := hide (HA0.out.then u7 (fun _ _ h => h))
    have bV := HA7.out.get (Vnew1 w _) (show ¬ w.heap.size = r by omega)
    obtain ⟨v0, v1, v2, v3, v4⟩ := cells5 bV
    have vl := lt_at bV
    have fv0 := free_at bV 0
    have fv1 := free_at bV 1
    have fv2 := free_at bV 2
    have fv3 := free_at bV 3
    have fv4 := free_at bV 4
    have HBV := hide bV
    have HR7 := hide h7
    clear bV u7 h7 CX
    go_wp2_with fail
    (try simp only [Exit.inBlock, Exit.then])
    refine bodyPost_ret (ret_vl rfl _ _ w.heap.size ⟨k0, n0, t0, b0, e0'⟩ rfl (block5 (x := vZero) HBV.out _ _ _ _ _)) rfl ?_
    have uu := upd5 (upd_a HA7.out) (Nat.le_refl _) (.int .i64 k0) (.int .i64 n0) (enS t0) (.bool b0) (.int .i64 e0')
    exact ⟨rfl, ⟨k7, set5_get HR7.out.blk (by omega) _ _ _ _ _, hle, (upd5 HR7.out.upd (by omega) _ _ _ _ _), HR7.out.rd, HR7.out.pos⟩, uu⟩
  · have et : takesF n = (3, 3) := by rw [hn]; decide
    rw [et] at ht1
    have ep : toldP n aa = besideP aa := by rw [hn]; rfl
    rw [ep]
    clear ep et ht0 hn
    simp only at ht1
    obtain ⟨a, ha⟩ : ∃ a, aa[0]? = some a := ⟨_, List.getElem?_eq_getElem (by omega)⟩
    obtain ⟨b, hb⟩ : ∃ a, aa[1]? = some a := ⟨_, List.getElem?_eq_getElem (by omega)⟩
    obtain ⟨c, hc⟩ : ∃ a, aa[2]? = some a := ⟨_, List.getElem?_eq_getElem (by omega)⟩
    have CX := besideL_any w0 _ r p pc aa (H.alloc (.cells #[.int .i64 0, .int .i64 0, .string ⟨#[]⟩, .bool false, .int .i64 0] 29)) A a b c ha hb hc
    obtain ⟨⟨⟨k0, n0, t0, b0, e0'⟩, f7⟩, hv⟩ : ∃ v, besideP aa = v := ⟨_, rfl⟩
    rw [hv] at CX ⊢
    unfold RdPost Vl.val at CX
    simp only at CX
    clear hv H
    go_enter Tryz.func34, Tryz.ntmps34
    go_wp2_with fail
    refine Calls.mono CX ?_
    rintro e w7 ⟨rfl, ⟨k7, h7⟩, u7⟩
    have HA7 := hide (HA0.out.then u7 (fun _ _ h => h))
    have bV := HA7.out.get (Vnew1 w _) (show ¬ w.heap.size = r by omega)
    obtain ⟨v0, v1, v2, v3, v4⟩ := cells5 bV
    have vl := lt_at bV
    have fv0 := free_at bV 0
    have fv1 := free_at bV 1
    have fv2 := free_at bV 2
    have fv3 := free_at bV 3
    have fv4 := free_at bV 4
    have HBV := hide bV
    have HR7 := hide h7
    clear bV u7 h7 CX
    go_wp2_with fail
    (try simp only [Exit.inBlock, Exit.then])
    refine bodyPost_ret (ret_vl rfl _ _ w.heap.size ⟨k0, n0, t0, b0, e0'⟩ rfl (block5 (x := vZero) HBV.out _ _ _ _ _)) rfl ?_
    have uu := upd5 (upd_a HA7.out) (Nat.le_refl _) (.int .i64 k0) (.int .i64 n0) (enS t0) (.bool b0) (.int .i64 e0')
    exact ⟨rfl, ⟨k7, set5_get HR7.out.blk (by omega) _ _ _ _ _, hle, (upd5 HR7.out.upd (by omega) _ _ _ _ _), HR7.out.rd, HR7.out.pos⟩, uu⟩
  · have et : takesF n = (3, 4) := by rw [hn]; decide
    rw [et] at ht1
    have ep : toldP n aa = lookupP aa false := by rw [hn]; rfl
    rw [ep]
    clear ep et ht0 hn
    simp only at ht1
    obtain ⟨a, ha⟩ : ∃ a, aa[0]? = some a := ⟨_, List.getElem?_eq_getElem (by omega)⟩
    obtain ⟨b, hb⟩ : ∃ a, aa[1]? = some a := ⟨_, List.getElem?_eq_getElem (by omega)⟩
    have CX := lookup_any w0 _ r p pc aa false (H.alloc (.cells #[.int .i64 0, .int .i64 0, .string ⟨#[]⟩, .bool false, .int .i64 0] 29)) A a b ha hb
    obtain ⟨⟨⟨k0, n0, t0, b0, e0'⟩, f7⟩, hv⟩ : ∃ v, lookupP aa false = v := ⟨_, rfl⟩
    rw [hv] at CX ⊢
    unfold RdPost Vl.val at CX
    simp only at CX
    clear hv H
    go_enter Tryz.func34, Tryz.ntmps34
    go_wp2_with fail
    refine Calls.mono CX ?_
    rintro e w7 ⟨rfl, ⟨k7, h7⟩, u7⟩
    have HA7 := hide (HA0.out.then u7 (fun _ _ h => h))
    have bV := HA7.out.get (Vnew1 w _) (show ¬ w.heap.size = r by omega)
    obtain ⟨v0, v1, v2, v3, v4⟩ := cells5 bV
    have vl := lt_at bV
    have fv0 := free_at bV 0
    have fv1 := free_at bV 1
    have fv2 := free_at bV 2
    have fv3 := free_at bV 3
    have fv4 := free_at bV 4
    have HBV := hide bV
    have HR7 := hide h7
    clear bV u7 h7 CX
    go_wp2_with fail
    (try simp only [Exit.inBlock, Exit.then])
    refine bodyPost_ret (ret_vl rfl _ _ w.heap.size ⟨k0, n0, t0, b0, e0'⟩ rfl (block5 (x := vZero) HBV.out _ _ _ _ _)) rfl ?_
    have uu := upd5 (upd_a HA7.out) (Nat.le_refl _) (.int .i64 k0) (.int .i64 n0) (enS t0) (.bool b0) (.int .i64 e0')
    exact ⟨rfl, ⟨k7, set5_get HR7.out.blk (by omega) _ _ _ _ _, hle, (upd5 HR7.out.upd (by omega) _ _ _ _ _), HR7.out.rd, HR7.out.pos⟩, uu⟩
  · have et : takesF n = (3, 4) := by rw [hn]; decide
    rw [et] at ht1
    have ep : toldP n aa = lookupP aa true := by rw [hn]; rfl
    rw [ep]
    clear ep et ht0 hn
    simp only at ht1
    obtain ⟨a, ha⟩ : ∃ a, aa[0]? = some a := ⟨_, List.getElem?_eq_getElem (by omega)⟩
    obtain ⟨b, hb⟩ : ∃ a, aa[1]? = some a := ⟨_, List.getElem?_eq_getElem (by omega)⟩
    have CX := lookup_any w0 _ r p pc aa true (H.alloc (.cells #[.int .i64 0, .int .i64 0, .string ⟨#[]⟩, .bool false, .int .i64 0] 29)) A a b ha hb
    obtain ⟨⟨⟨k0, n0, t0, b0, e0'⟩, f7⟩, hv⟩ : ∃ v, lookupP aa true = v := ⟨_, rfl⟩
    rw [hv] at CX ⊢
    unfold RdPost Vl.val at CX
    simp only at CX
    clear hv H
    go_enter Tryz.func34, Tryz.ntmps34
    go_wp2_with fail
    refine Calls.mono CX ?_
    rintro e w7 ⟨rfl, ⟨k7, h7⟩, u7⟩
    have HA7 := hide (HA0.out.then u7 (fun _ _ h => h))
    have bV := HA7.out.get (Vnew1 w _) (show ¬ w.heap.size = r by omega)
    obtain ⟨v0, v1, v2, v3, v4⟩ := cells5 bV
    have vl := lt_at bV
    have fv0 := free_at bV 0
    have fv1 := free_at bV 1
    have fv2 := free_at bV 2
    have fv3 := free_at bV 3
    have fv4 := free_at bV 4
    have HBV := hide bV
    have HR7 := hide h7
    clear bV u7 h7 CX
    go_wp2_with fail
    (try simp only [Exit.inBlock, Exit.then])
    refine bodyPost_ret (ret_vl rfl _ _ w.heap.size ⟨k0, n0, t0, b0, e0'⟩ rfl (block5 (x := vZero) HBV.out _ _ _ _ _)) rfl ?_
    have uu := upd5 (upd_a HA7.out) (Nat.le_refl _) (.int .i64 k0) (.int .i64 n0) (enS t0) (.bool b0) (.int .i64 e0')
    exact ⟨rfl, ⟨k7, set5_get HR7.out.blk (by omega) _ _ _ _ _, hle, (upd5 HR7.out.upd (by omega) _ _ _ _ _), HR7.out.rd, HR7.out.pos⟩, uu⟩
  · have et : takesF n = (2, 32) := by rw [hn]; decide
    rw [et] at ht1
    have ep : toldP n aa = chooseP aa := by rw [hn]; rfl
    rw [ep]
    clear ep et ht0 hn
    simp only at ht1
    obtain ⟨a, ha⟩ : ∃ a, aa[0]? = some a := ⟨_, List.getElem?_eq_getElem (by omega)⟩
    obtain ⟨b, hb⟩ : ∃ a, aa[1]? = some a := ⟨_, List.getElem?_eq_getElem (by omega)⟩
    have CX := choose_any w0 _ r p pc aa (H.alloc (.cells #[.int .i64 0, .int .i64 0, .string ⟨#[]⟩, .bool false, .int .i64 0] 29)) A a b ha hb hpc
    obtain ⟨⟨⟨k0, n0, t0, b0, e0'⟩, f7⟩, hv⟩ : ∃ v, chooseP aa = v := ⟨_, rfl⟩
    rw [hv] at CX ⊢
    unfold RdPost Vl.val at CX
    simp only at CX
    clear hv H
    go_enter Tryz.func34, Tryz.ntmps34
    go_wp2_with fail
    refine Calls.mono CX ?_
    rintro e w7 ⟨rfl, ⟨k7, h7⟩, u7⟩
    have HA7 := hide (HA0.out.then u7 (fun _ _ h => h))
    have bV := HA7.out.get (Vnew1 w _) (show ¬ w.heap.size = r by omega)
    obtain ⟨v0, v1, v2, v3, v4⟩ := cells5 bV
    have vl := lt_at bV
    have fv0 := free_at bV 0
    have fv1 := free_at bV 1
    have fv2 := free_at bV 2
    have fv3 := free_at bV 3
    have fv4 := free_at bV 4
    have HBV := hide bV
    have HR7 := hide h7
    clear bV u7 h7 CX
    go_wp2_with fail
    (try simp only [Exit.inBlock, Exit.then])
    refine bodyPost_ret (ret_vl rfl _ _ w.heap.size ⟨k0, n0, t0, b0, e0'⟩ rfl (block5 (x := vZero) HBV.out _ _ _ _ _)) rfl ?_
    have uu := upd5 (upd_a HA7.out) (Nat.le_refl _) (.int .i64 k0) (.int .i64 n0) (enS t0) (.bool b0) (.int .i64 e0')
    exact ⟨rfl, ⟨k7, set5_get HR7.out.blk (by omega) _ _ _ _ _, hle, (upd5 HR7.out.upd (by omega) _ _ _ _ _), HR7.out.rd, HR7.out.pos⟩, uu⟩
  · exact absurd (by rw [show takesF n = (0, 0) by unfold takesF; rw [if_neg n1, if_neg n2, if_neg n3, if_neg n4, if_neg n5, if_neg n6, if_neg n7, if_neg n8]]) ht0
end Go.Proofs.YtdjpkkgcoainhaaGreatDoor
/- What a function of tables tells is a value that Go may have (plain). -/
set_option maxRecDepth 100000
namespace Go.Proofs.YtdjpkkgcoainhaaGreatDoor
open Go.RowKit Go.Lat Go.Lib

theorem getD_ok {l : List Vl} (h : oksV l) (j : Nat) : (l.getD j vZero).ok := by
  rw [List.getD_eq_getElem?_getD]
  cases hq : l[j]? with
  | none => exact vZero_ok
  | some y => exact (h y (List.mem_of_getElem? hq)).1
theorem arg_oks {aa : List Ar} (A : ArgsOk aa) (k : Nat) : oksV (argA aa k).v := by
  unfold argA
  rw [List.getD_eq_getElem?_getD]
  cases hq : aa[k]? with
  | none => exact fun x hx => by simp at hx
  | some y => exact (A.oks y (List.mem_of_getElem? hq)).1
theorem at_ok {l : List Vl} (h : oksV l) (R C row col : Int) : (atV l R C row col).ok := by
  unfold atV
  split
  · exact mkE_ok _
  · exact getD_ok h _
theorem toldP_ok (n : List UInt8) {aa : List Ar} (A : ArgsOk aa) : (toldP n aa).1.ok := by
  have hlook : ∀ ac, (lookupP aa ac).1.ok := by
    intro ac
    unfold lookupP
    simp only
    repeat' split
    all_goals first
      | exact mkE_ok _
      | exact at_ok (turn_oksA (arg_oks A _)) _ _ _ _
      | exact at_ok (arg_oks A _) _ _ _ _
  unfold toldP
  split
  · unfold matchP
    simp only
    split
    · exact mkE_ok _
    · exact mkN_ok _
  · split
    · unfold indexP
      simp only
      split
      · exact at_ok (arg_oks A _) _ _ _ _
      · exact at_ok (arg_oks A _) _ _ _ _
    · split
      · exact hlook false
      · split
        · exact hlook true
        · split
          · unfold besideP
            simp only
            split
            · exact mkE_ok _
            · exact getD_ok (arg_oks A _) _
          · split
            · unfold chooseP
              simp only
              split
              · exact mkE_ok _
              · split
                · exact mkE_ok _
                · unfold sglV
                  simp only
                  split
                  · exact vZero_ok
                  · rename_i b hb
                    split
                    · exact vZero_ok
                    · have hb' : argA (List.drop (cntS aa (0, 0)).1 aa) (cntV aa (0, 0) 0 - 1).toNat = b := by simpa using hb
                      rw [← hb']
                      refine getD_ok ?_ _
                      unfold argA
                      rw [List.getD_eq_getElem?_getD]
                      cases hq : (List.drop (cntS aa (0, 0)).1 aa)[(cntV aa (0, 0) 0 - 1).toNat]? with
                      | none => exact fun x hx => by simp at hx
                      | some y => exact (A.oks y (List.mem_of_mem_drop (List.mem_of_getElem? hq))).1
            · split
              · exact mkN_ok _
              · exact mkN_ok _
end Go.Proofs.YtdjpkkgcoainhaaGreatDoor
