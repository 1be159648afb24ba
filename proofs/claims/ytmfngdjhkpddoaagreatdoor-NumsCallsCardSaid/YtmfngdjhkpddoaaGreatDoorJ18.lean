/- The walk of the reference's Text. -/
import Derived.Test.YtmfngdjhkpddoaaGreatDoorJ17
import Derived.Laws.BytesArg
set_option maxRecDepth 100000
namespace Go.Proofs.YtmfngdjhkpddoaaGreatDoor
open Go.RowKit Go.Lat

set_option maxHeartbeats 3200000 in
theorem RefText_neg (w : World) (a : Int) (ha : okNum a = true) (s : Bool) (hsb : s = true) (x : Nat) (ea : a = (if s then -(x : Int) else (x : Int))) (hs : decide (a < 0) = s) (hx : x ≤ 9000000000000000000) :
    Calls Tryz.prog 133 #[.int .i64 a] w fun e w' => (∃ t : ByteArray, e = .returned (.string t) ∧ t.data.toList = txt s x) ∧ Upd w w' (fun _ => False) := by
  have G := fun w => RefGood_any w a
  rw [ha] at G
  have D := fun w => Digits_any w s x (by omega)
  rw [← ea] at D
  rw [hsb] at hs ⊢
  have lx := dg_len x 20 (by omega)
  have kc : ∀ (wr : World) (y : Nat), (convert 153 9 (.slice (some ⟨wr.heap.size, 0, none⟩) 1 1)).run Tryz.prog (wr.alloc (.cells #[.int .u8 (y : Int)] 5)) = .ok (.string ⟨#[UInt8.ofNat y]⟩) (wr.alloc (.cells #[.int .u8 (y : Int)] 5)) := by
    intro wr y
    have h := run_convert_bytes_arg (P := Tryz.prog) (wr.alloc (.cells #[.int .u8 (y : Int)] 5)) 153 5 Tryz.underlying153 Tryz.underlying5 wr.heap.size 0 1 1 [(y : Int)] rfl (fun i hi => by
      obtain rfl : i = 0 := by omega
      exact cells1 (heap_alloc_new wr _)) 9 Tryz.underlying9
    rw [h]
    simp [strOfNums]
  obtain ⟨i0, hin, hzA, hzB, hzC⟩ := info_parts Tryz.info3
  have HX := hide lx
  have HE := hide hx
  clear ha ea lx hx hsb
  go_enter Tryz.func133, Tryz.ntmps133
  go_wp2_with fail
  refine Calls.mono (G _) ?_
  rintro e' w1 ⟨rfl, hw⟩
  replace hw := hw.symm
  subst hw
  go_wp2_with fail
  refine Calls.mono (D _) ?_
  rintro e' w1 ⟨v1, rfl, q1, u1, ob1⟩
  clear D G
  go_wp2_with fail
  go_loopg [4] 5 (fun q v wr => ∃ (l : List Nat) (z : Nat), l = dg x ++ List.replicate z 0 ∧ 5 ≤ l.length + q ∧ l.length ≤ 20 ∧ (l.length ≤ 5 ∨ z = 0) ∧ DgAt wr v l ∧ Upd w wr (fun _ => False) ∧ (∀ k, v.ownBlock = some k → w.heap.size ≤ k))
  case atStart => exact ⟨dg x, 0, by simp, by omega, HX.out, .inr rfl, q1, u1, ob1⟩
  case round =>
    clear q1 u1 ob1
    obtain ⟨l, z, hl, h5, h20, hz, hd, hu, hob⟩ := hrel
    obtain ⟨sa, sc, rfl, -⟩ := Rw.form hd
    by_cases hl5 : l.length < 5
    · have d1 : decide (l.length < 5) = true := by simpa using hl5
      have d2 : decide ((l.length : Int) < 5) = true := by simp; omega
      have HL := hide hl
      clear hl hz
      unfold DgAt at hd
      go_wp2_with (at_builtin; go_loud (refine wpList_append_rw _ rfl _ _ 49 49 rfl 3 _ i0 _ 1 8 Tryz.underlying49 Tryz.underlying49 (by simp) hin hzA hzB hzC rfl _ l.length _ rfl (hd.alloc _) _ 1 _ rfl (Rw.made _ _ _ 1 1 rfl).src rfl (by simp [Value.oneCell']) (by omega) (by omega) ?_); intro ga gc w1 hv' hg hob')
      go_roundg (gk - 1)
      case measure => omega
      case rel =>
        refine ⟨l ++ [0], z + 1, ?_, by simp; omega, by simp; omega, .inl (by simp; omega), ?_, (hu.alloc _).grown hg (fun i k1 => .inl (hob i k1)), ?_⟩
        · rw [HL.out, List.append_assoc]
          congr 1
          exact (List.replicate_succ' ..).symm
        · unfold DgAt
          simpa using hv'
        · intro i k1
          rcases hob' with e | e
          · exact hob i (Eq.trans (show _ = _ from e.symm) k1)
          · rw [e] at k1; simp at k1; have := hu.size; omega
    · have d1 : decide (l.length < 5) = false := by simpa using hl5
      have d2 : decide ((l.length : Int) < 5) = false := by simp; omega
      obtain ⟨L, hL⟩ : ∃ L, l.length = L := ⟨_, rfl⟩
      obtain ⟨w0, hw0⟩ : ∃ w0, wr = w0 := ⟨_, rfl⟩
      rw [hw0] at hd hu ⊢
      clear hw0 wr
      have HFOUR := hide (text_four x z l hl (by omega))
      have HTW := hide (text_whole x z l hl (by omega) hz)
      have HTEN : Hid (∀ d ∈ l, d < 10) := hide (text_four x z l hl (by omega)).2.1
      have hu18 : x / 10000 < 10 ^ (17 + 1) := by
        have h1 := HE.out
        have e18 : (10 : Nat) ^ (17 + 1) = 1000000000000000000 := by decide
        rw [e18]
        omega
      have HDL : Hid ((Lib.decDigits (x / 10000)).length ≤ 18) := hide (dec_len 17 (x / 10000) hu18).2
      clear hu18
      have HL5 : Hid (5 ≤ l.length) := hide (by omega)
      have HL20 : Hid (L ≤ 20) := hide (by omega)
      have HLN := hide hL
      have HD0 := hide hd
      have HU0 := hide hu
      have hL5 : 5 ≤ L := by omega
      have hL20 : L ≤ 20 := by omega
      rw [hL] at d1 d2
      rw [hL]
      clear hd hu hl hz h5 h20 hob hl5
      go_wp2_with fail
      have HFD : Hid (∀ r, r < L → 4 ≤ r → l.drop r = l.getD r 0 :: l.drop (r + 1)) := hide (fun r h1 _ => drop_getD l r (by have := HLN.out; omega))
      have HB : Hid (([45] : List UInt8).length ≤ 1) := hide (by decide)
      have HF : Hid (4 ≤ l.length ∧ l.length ≤ 20) := hide (by have := HLN.out; omega)
      go_loopg [5, 6] L (fun q sv iv wr => ∃ (p : Nat) (str : ByteArray), 4 ≤ p ∧ p ≤ L ∧ p ≤ q + 4 ∧ sv = .string str ∧ iv = .int .i64 ((p : Int) - 1) ∧ str.data.toList = ([45] : List UInt8) ++ ((l.drop p).reverse.map ch) ∧ Upd w0 wr (fun _ => False))
      case atStart => exact ⟨L, ⟨#[45]⟩, by omega, Nat.le_refl _, by omega, rfl, by first | rfl | go_num, by rw [List.drop_eq_nil_of_le (by have := HLN.out; omega)]; rfl, Upd.refl _ _⟩
      case round =>
        obtain ⟨p, str, hp1, hp2, hp3, rfl, rfl, hstr, hu⟩ := hrel
        have hsl : str.size ≤ 50 := by
          have h1 : str.size = str.data.toList.length := rfl
          have h2 := HB.out
          have h3 := HF.out
          rw [h1, hstr, List.length_append, List.length_map, List.length_reverse, List.length_drop]
          omega
        by_cases hpl : 4 < p
        · obtain ⟨r, hr⟩ : ∃ r, p = r + 1 := ⟨p - 1, by omega⟩
          have er : (p : Int) - 1 = (r : Int) := by omega
          rw [er]
          have hrl : r < l.length := by have := HLN.out; have := HF.out; omega
          obtain ⟨g, off, he, c1⟩ := dg_cell HD0.out r hrl
          cases he
          have hg1 : g < w0.heap.size := HD0.out.lt g rfl
          have k1 := (hu.cell g _ hg1 id).trans c1
          obtain ⟨z, hz⟩ : ∃ z, l.getD r 0 = z := ⟨_, rfl⟩
          have hz10 : z < 10 := by rw [← hz]; exact HTEN.out _ (getD_mem l r hrl)
          have hfr := HFD.out r (by omega) (by omega)
          rw [hz] at k1 hfr
          have hnew : ([45] : List UInt8) ++ ((l.drop r).reverse.map ch) = str.data.toList ++ [ch z] := by
            rw [hfr, List.reverse_cons, hstr, hr]
            simp
          obtain ⟨y, hy⟩ : ∃ y, 48 + z = y := ⟨_, rfl⟩
          have e1 : (48 : Int) + (z : Int) = (y : Int) := by omega
          have e2 : IntKind.i64.wrap (y : Int) = (y : Int) := IntWalk.i64_in _ (by omega)
          have e3 : IntKind.u8.wrap (y : Int) = (y : Int) := by rw [IntKind.wrap_u8']; omega
          have hch : ch z = UInt8.ofNat y := by rw [← hy]; rfl
          rw [hch] at hnew
          have q1 : ¬ 9223372036854775807 < str.size + 1 := by omega
          have HN := hide hnew
          have j0 : (0 : Int) ≤ (r : Int) := Int.natCast_nonneg _
          have j1 : (r : Int) < (L : Int) := by have := HLN.out; omega
          have hrb : r ≤ 30 := by have := HLN.out; have := HL20.out; omega
          have hkq : 4 ≤ r ∧ r ≤ L ∧ r ≤ gk - 1 + 4 ∧ 1 ≤ gk := by omega
          have b4 : decide (4 ≤ r) = true := by simp; omega
          have b5 : decide ((4 : Int) ≤ (r : Int)) = true := by simp; omega
          clear hnew hch hy hz c1 hstr hsl hz10 hfr hp1 hp2 hp3 hpl hr er hrl
          go_wp2_with fail
          go_roundg (gk - 1)
          case measure => omega
          case rel =>
            refine ⟨r, _, by omega, by omega, by omega, rfl, by first | rfl | go_num, ?_, hu.alloc _⟩
            rw [HN.out]
            simp
        · obtain rfl : p = 4 := by omega
          have b5 : decide ((4 : Int) ≤ ((4 : Nat) : Int) - 1) = false := by decide
          have e43 : ((4 : Nat) : Int) - 1 = 3 := by decide
          rw [e43]
          clear hp1 hp2 hp3 hpl
          have hstr4 : str.data.toList = [45] ++ Lib.decDigits (x / 10000) := by rw [hstr, HTW.out]
          obtain ⟨wA, hwA⟩ : ∃ wA, wr = wA := ⟨_, rfl⟩
          rw [hwA] at hu ⊢
          clear hstr hwA wr
          have huA := hu
          clear hu
          go_wp2_with fail
          go_loopg [7] 4 (fun q v wr => wr = wA ∧ ∃ n : Nat, n + q = 4 ∧ v = .int .i64 n ∧ ∀ k, k < n → l.getD k 0 = 0)
          case atStart => exact ⟨rfl, 0, by omega, rfl, fun k hk => absurd hk (by omega)⟩
          case round =>
            obtain ⟨hwr, n, hn, rfl, hzs⟩ := hrel
            replace hwr := hwr.symm
            subst hwr
            by_cases hn4 : n < 4
            · have c4 : decide (n < 4) = true := by simpa using hn4
              have c4' : decide ((n : Int) < 4) = true := by simp; omega
              have hnl : n < l.length := by have := HL5.out; omega
              obtain ⟨g, off, rfl, c1⟩ := dg_cell HD0.out n hnl
              have hg1 : g < w0.heap.size := HD0.out.lt g rfl
              have k1 := (huA.cell g _ hg1 id).trans c1
              have j0 : (0 : Int) ≤ (n : Int) := Int.natCast_nonneg _
              have j1 : (n : Int) < (L : Int) := by have := HLN.out; omega
              by_cases hz0 : l.getD n 0 = 0
              · rw [hz0] at k1 c1
                have HZ := hide hz0
                have HZS := hide hzs
                clear hz0 hzs
                go_wp2_with fail
                go_roundg (gk - 1)
                case measure => omega
                case rel =>
                  refine ⟨rfl, n + 1, by omega, by first | rfl | go_num, fun k hk => ?_⟩
                  by_cases hkn : k < n
                  · exact HZS.out k hkn
                  · obtain rfl : k = n := by omega
                    exact HZ.out
              · have hzz : ((l.getD n 0 : Nat) : Int) ≠ 0 := by omega
                obtain ⟨zz, hzz2⟩ : ∃ zz, l.getD n 0 = zz := ⟨_, rfl⟩
                rw [hzz2] at hzz
                have cz : ((zz : Int) == 0) = false := by simpa using hzz
                have cz' : (zz == 0) = false := by simp; omega
                rw [hzz2] at k1
                clear hzz hzz2
                have hdot : ((str ++ ⟨#[46]⟩ : ByteArray)).data.toList = ([45] ++ Lib.decDigits (x / 10000) ++ [46]) := by
                  simp [hstr4]
                obtain ⟨st2, hst2⟩ : ∃ st2, str ++ ⟨#[46]⟩ = st2 := ⟨_, rfl⟩
                rw [hst2] at hdot
                have q2 : ¬ 9223372036854775807 < str.size + 1 := by omega
                have HNZ := hide hz0
                have HNL := hide hn4
                have HZS := hide hzs
                have HDOT := hide hdot
                have b1 : decide (n < 4) = true := by simpa using hn4
                have b2 : decide ((n : Int) < 4) = true := by simp; omega
                have e46 : ((n : Int) - 1 : Int) < (n : Int) := by omega
                clear hz0 hzs hdot hstr4 hsl c1
                go_wp2_with fail
                have HF4 : Hid (4 ≤ L) := hide (by have := HLN.out; have := HL5.out; omega)
                clear HFD
                have HFD : Hid (∀ r, r < 4 → n ≤ r → (l.take 4).drop r = l.getD r 0 :: (l.take 4).drop (r + 1)) := hide (fun r h1 _ => by
                  have := HL5.out
                  rw [drop_getD (l.take 4) r (by rw [List.length_take]; omega)]
                  congr 1
                  rw [List.getD_eq_getElem?_getD, List.getD_eq_getElem?_getD, List.getElem?_take_of_lt h1])
                have HB : Hid (([45] ++ Lib.decDigits (x / 10000) ++ [46]).length ≤ 24) := hide (by have := HDL.out; simp; omega)
                clear HF
                have HF : Hid (4 ≤ l.length ∧ (l.take 4).length ≤ 4) := hide ⟨by have := HL5.out; omega, by rw [List.length_take]; omega⟩
                go_loopg [5, 8] 4 (fun q sv iv wr => ∃ (p : Nat) (str : ByteArray), n ≤ p ∧ p ≤ 4 ∧ p ≤ q + n ∧ sv = .string str ∧ iv = .int .i64 ((p : Int) - 1) ∧ str.data.toList = [45] ++ Lib.decDigits (x / 10000) ++ [46] ++ (((l.take 4).drop p).reverse.map ch) ∧ Upd w0 wr (fun _ => False))
                case atStart => exact ⟨4, st2, by omega, Nat.le_refl _, by omega, rfl, by first | rfl | go_num, by rw [List.drop_eq_nil_of_le (by rw [List.length_take]; omega), HDOT.out]; simp, huA⟩
                case round =>
                  obtain ⟨p, str, hp1, hp2, hp3, rfl, rfl, hstr, hu⟩ := hrel
                  have hsl : str.size ≤ 50 := by
                    have h1 : str.size = str.data.toList.length := rfl
                    have h2 := HB.out
                    have h3 := HF.out
                    rw [h1, hstr, List.length_append, List.length_map, List.length_reverse, List.length_drop]
                    omega
                  by_cases hpl : n < p
                  · obtain ⟨r, hr⟩ : ∃ r, p = r + 1 := ⟨p - 1, by omega⟩
                    have er : (p : Int) - 1 = (r : Int) := by omega
                    rw [er]
                    have hrl : r < l.length := by have := HLN.out; have := HF.out; omega
                    obtain ⟨g, off, he, c1⟩ := dg_cell HD0.out r hrl
                    cases he
                    have hg1 : g < w0.heap.size := HD0.out.lt g rfl
                    have k1 := (hu.cell g _ hg1 id).trans c1
                    obtain ⟨z, hz⟩ : ∃ z, l.getD r 0 = z := ⟨_, rfl⟩
                    have hz10 : z < 10 := by rw [← hz]; exact HTEN.out _ (getD_mem l r hrl)
                    have hfr := HFD.out r (by omega) (by omega)
                    rw [hz] at k1 hfr
                    have hnew : [45] ++ Lib.decDigits (x / 10000) ++ [46] ++ (((l.take 4).drop r).reverse.map ch) = str.data.toList ++ [ch z] := by
                      rw [hfr, List.reverse_cons, hstr, hr]
                      simp
                    obtain ⟨y, hy⟩ : ∃ y, 48 + z = y := ⟨_, rfl⟩
                    have e1 : (48 : Int) + (z : Int) = (y : Int) := by omega
                    have e2 : IntKind.i64.wrap (y : Int) = (y : Int) := IntWalk.i64_in _ (by omega)
                    have e3 : IntKind.u8.wrap (y : Int) = (y : Int) := by rw [IntKind.wrap_u8']; omega
                    have hch : ch z = UInt8.ofNat y := by rw [← hy]; rfl
                    rw [hch] at hnew
                    have q1 : ¬ 9223372036854775807 < str.size + 1 := by omega
                    have HN := hide hnew
                    have j0 : (0 : Int) ≤ (r : Int) := Int.natCast_nonneg _
                    have j1 : (r : Int) < (L : Int) := by have := HLN.out; omega
                    have hrb : r ≤ 30 := by have := HLN.out; have := HL20.out; omega
                    have hkq : n ≤ r ∧ r ≤ 4 ∧ r ≤ gk - 1 + n ∧ 1 ≤ gk := by omega
                    have b4 : decide (n ≤ r) = true := by simp; omega
                    have b5 : decide ((n : Int) ≤ (r : Int)) = true := by simp; omega
                    clear hnew hch hy hz c1 hstr hsl hz10 hfr hp1 hp2 hp3 hpl hr er hrl
                    go_wp2_with fail
                    go_roundg (gk - 1)
                    case measure => omega
                    case rel =>
                      refine ⟨r, _, by omega, by omega, by omega, rfl, by first | rfl | go_num, ?_, hu.alloc _⟩
                      rw [HN.out]
                      simp
                  · obtain rfl : p = n := by omega
                    have b5 : decide ((p : Int) ≤ (p : Int) - 1) = false := by simp; omega
                    clear hp1 hp2 hp3 hpl
                    go_wp2_with fail
                    go_ret
                    refine ⟨⟨str, rfl, ?_⟩, HU0.out.then hu (fun _ _ => id)⟩
                    obtain ⟨f1, f2, f3, f4⟩ := HFOUR.out
                    have hfn : (l.take 4).getD p 0 ≠ 0 := by
                      have := HNZ.out
                      rw [List.getD_eq_getElem?_getD, List.getElem?_take_of_lt HNL.out, ← List.getD_eq_getElem?_getD]
                      exact this
                    have hp := text_part (l.take 4) p (fun d hd => f2 d (List.mem_of_mem_take hd)) (fun k hk => by
                      have := HZS.out k hk
                      rw [List.getD_eq_getElem?_getD, List.getElem?_take_of_lt (by have := HNL.out; omega), ← List.getD_eq_getElem?_getD]
                      exact this) (by rw [f1]; exact HNL.out) hfn
                    have hr0 : x % 10000 ≠ 0 := by
                      rw [← f3]
                      intro e
                      have hs := val_split (l.take 4) p (by rw [f1]; exact HNL.out)
                      have hpp : 0 < 10 ^ p := Nat.pow_pos (by omega)
                      rw [e] at hs
                      have := Nat.mul_le_mul hpp (show 1 ≤ (l.take 4).getD p 0 + 10 * val ((l.take 4).drop (p + 1)) by omega)
                      omega
                    unfold txt
                    rw [if_neg hr0, f4, hp, hstr]
                    simp
            · obtain rfl : n = 4 := by omega
              have c4 : decide ((4 : Int) < 4) = false := by decide
              have HZS := hide hzs
              clear hzs
              have b1 : decide ((4 : Int) < 4) = false := by decide
              go_wp2_with fail
              refine wp_loop_rounds 1 ?_
              rw [rounds_succ]
              go_wp2_with fail
              go_ret
              refine ⟨⟨str, rfl, ?_⟩, HU0.out.then huA (fun _ _ => id)⟩
              obtain ⟨f1, f2, f3, f4⟩ := HFOUR.out
              have hr0 : x % 10000 = 0 := by
                rw [← f3]
                refine val_zero _ (fun d hd => ?_)
                obtain ⟨k, hk, e⟩ := List.mem_iff_getElem.1 hd
                rw [f1] at hk
                have := HZS.out k (by omega)
                rw [← e, List.getElem_take]
                rw [List.getD_eq_getElem?_getD, List.getElem?_eq_getElem (by have := HL5.out; omega)] at this
                simpa using this
              unfold txt
              rw [if_pos hr0, hstr4]
              simp

set_option maxHeartbeats 3200000 in
theorem RefText_pos (w : World) (a : Int) (ha : okNum a = true) (s : Bool) (hsb : s = false) (x : Nat) (ea : a = (if s then -(x : Int) else (x : Int))) (hs : decide (a < 0) = s) (hx : x ≤ 9000000000000000000) :
    Calls Tryz.prog 133 #[.int .i64 a] w fun e w' => (∃ t : ByteArray, e = .returned (.string t) ∧ t.data.toList = txt s x) ∧ Upd w w' (fun _ => False) := by
  have G := fun w => RefGood_any w a
  rw [ha] at G
  have D := fun w => Digits_any w s x (by omega)
  rw [← ea] at D
  rw [hsb] at hs ⊢
  have lx := dg_len x 20 (by omega)
  have kc : ∀ (wr : World) (y : Nat), (convert 153 9 (.slice (some ⟨wr.heap.size, 0, none⟩) 1 1)).run Tryz.prog (wr.alloc (.cells #[.int .u8 (y : Int)] 5)) = .ok (.string ⟨#[UInt8.ofNat y]⟩) (wr.alloc (.cells #[.int .u8 (y : Int)] 5)) := by
    intro wr y
    have h := run_convert_bytes_arg (P := Tryz.prog) (wr.alloc (.cells #[.int .u8 (y : Int)] 5)) 153 5 Tryz.underlying153 Tryz.underlying5 wr.heap.size 0 1 1 [(y : Int)] rfl (fun i hi => by
      obtain rfl : i = 0 := by omega
      exact cells1 (heap_alloc_new wr _)) 9 Tryz.underlying9
    rw [h]
    simp [strOfNums]
  obtain ⟨i0, hin, hzA, hzB, hzC⟩ := info_parts Tryz.info3
  have HX := hide lx
  have HE := hide hx
  clear ha ea lx hx hsb
  go_enter Tryz.func133, Tryz.ntmps133
  go_wp2_with fail
  refine Calls.mono (G _) ?_
  rintro e' w1 ⟨rfl, hw⟩
  replace hw := hw.symm
  subst hw
  go_wp2_with fail
  refine Calls.mono (D _) ?_
  rintro e' w1 ⟨v1, rfl, q1, u1, ob1⟩
  clear D G
  go_wp2_with fail
  go_loopg [4] 5 (fun q v wr => ∃ (l : List Nat) (z : Nat), l = dg x ++ List.replicate z 0 ∧ 5 ≤ l.length + q ∧ l.length ≤ 20 ∧ (l.length ≤ 5 ∨ z = 0) ∧ DgAt wr v l ∧ Upd w wr (fun _ => False) ∧ (∀ k, v.ownBlock = some k → w.heap.size ≤ k))
  case atStart => exact ⟨dg x, 0, by simp, by omega, HX.out, .inr rfl, q1, u1, ob1⟩
  case round =>
    clear q1 u1 ob1
    obtain ⟨l, z, hl, h5, h20, hz, hd, hu, hob⟩ := hrel
    obtain ⟨sa, sc, rfl, -⟩ := Rw.form hd
    by_cases hl5 : l.length < 5
    · have d1 : decide (l.length < 5) = true := by simpa using hl5
      have d2 : decide ((l.length : Int) < 5) = true := by simp; omega
      have HL := hide hl
      clear hl hz
      unfold DgAt at hd
      go_wp2_with (at_builtin; go_loud (refine wpList_append_rw _ rfl _ _ 49 49 rfl 3 _ i0 _ 1 8 Tryz.underlying49 Tryz.underlying49 (by simp) hin hzA hzB hzC rfl _ l.length _ rfl (hd.alloc _) _ 1 _ rfl (Rw.made _ _ _ 1 1 rfl).src rfl (by simp [Value.oneCell']) (by omega) (by omega) ?_); intro ga gc w1 hv' hg hob')
      go_roundg (gk - 1)
      case measure => omega
      case rel =>
        refine ⟨l ++ [0], z + 1, ?_, by simp; omega, by simp; omega, .inl (by simp; omega), ?_, (hu.alloc _).grown hg (fun i k1 => .inl (hob i k1)), ?_⟩
        · rw [HL.out, List.append_assoc]
          congr 1
          exact (List.replicate_succ' ..).symm
        · unfold DgAt
          simpa using hv'
        · intro i k1
          rcases hob' with e | e
          · exact hob i (Eq.trans (show _ = _ from e.symm) k1)
          · rw [e] at k1; simp at k1; have := hu.size; omega
    · have d1 : decide (l.length < 5) = false := by simpa using hl5
      have d2 : decide ((l.length : Int) < 5) = false := by simp; omega
      obtain ⟨L, hL⟩ : ∃ L, l.length = L := ⟨_, rfl⟩
      obtain ⟨w0, hw0⟩ : ∃ w0, wr = w0 := ⟨_, rfl⟩
      rw [hw0] at hd hu ⊢
      clear hw0 wr
      have HFOUR := hide (text_four x z l hl (by omega))
      have HTW := hide (text_whole x z l hl (by omega) hz)
      have HTEN : Hid (∀ d ∈ l, d < 10) := hide (text_four x z l hl (by omega)).2.1
      have hu18 : x / 10000 < 10 ^ (17 + 1) := by
        have h1 := HE.out
        have e18 : (10 : Nat) ^ (17 + 1) = 1000000000000000000 := by decide
        rw [e18]
        omega
      have HDL : Hid ((Lib.decDigits (x / 10000)).length ≤ 18) := hide (dec_len 17 (x / 10000) hu18).2
      clear hu18
      have HL5 : Hid (5 ≤ l.length) := hide (by omega)
      have HL20 : Hid (L ≤ 20) := hide (by omega)
      have HLN := hide hL
      have HD0 := hide hd
      have HU0 := hide hu
      have hL5 : 5 ≤ L := by omega
      have hL20 : L ≤ 20 := by omega
      rw [hL] at d1 d2
      rw [hL]
      clear hd hu hl hz h5 h20 hob hl5
      go_wp2_with fail
      have HFD : Hid (∀ r, r < L → 4 ≤ r → l.drop r = l.getD r 0 :: l.drop (r + 1)) := hide (fun r h1 _ => drop_getD l r (by have := HLN.out; omega))
      have HB : Hid (([] : List UInt8).length ≤ 1) := hide (by decide)
      have HF : Hid (4 ≤ l.length ∧ l.length ≤ 20) := hide (by have := HLN.out; omega)
      go_loopg [5, 6] L (fun q sv iv wr => ∃ (p : Nat) (str : ByteArray), 4 ≤ p ∧ p ≤ L ∧ p ≤ q + 4 ∧ sv = .string str ∧ iv = .int .i64 ((p : Int) - 1) ∧ str.data.toList = ([] : List UInt8) ++ ((l.drop p).reverse.map ch) ∧ Upd w0 wr (fun _ => False))
      case atStart => exact ⟨L, ⟨#[]⟩, by omega, Nat.le_refl _, by omega, rfl, by first | rfl | go_num, by rw [List.drop_eq_nil_of_le (by have := HLN.out; omega)]; rfl, Upd.refl _ _⟩
      case round =>
        obtain ⟨p, str, hp1, hp2, hp3, rfl, rfl, hstr, hu⟩ := hrel
        have hsl : str.size ≤ 50 := by
          have h1 : str.size = str.data.toList.length := rfl
          have h2 := HB.out
          have h3 := HF.out
          rw [h1, hstr, List.length_append, List.length_map, List.length_reverse, List.length_drop]
          omega
        by_cases hpl : 4 < p
        · obtain ⟨r, hr⟩ : ∃ r, p = r + 1 := ⟨p - 1, by omega⟩
          have er : (p : Int) - 1 = (r : Int) := by omega
          rw [er]
          have hrl : r < l.length := by have := HLN.out; have := HF.out; omega
          obtain ⟨g, off, he, c1⟩ := dg_cell HD0.out r hrl
          cases he
          have hg1 : g < w0.heap.size := HD0.out.lt g rfl
          have k1 := (hu.cell g _ hg1 id).trans c1
          obtain ⟨z, hz⟩ : ∃ z, l.getD r 0 = z := ⟨_, rfl⟩
          have hz10 : z < 10 := by rw [← hz]; exact HTEN.out _ (getD_mem l r hrl)
          have hfr := HFD.out r (by omega) (by omega)
          rw [hz] at k1 hfr
          have hnew : ([] : List UInt8) ++ ((l.drop r).reverse.map ch) = str.data.toList ++ [ch z] := by
            rw [hfr, List.reverse_cons, hstr, hr]
            simp
          obtain ⟨y, hy⟩ : ∃ y, 48 + z = y := ⟨_, rfl⟩
          have e1 : (48 : Int) + (z : Int) = (y : Int) := by omega
          have e2 : IntKind.i64.wrap (y : Int) = (y : Int) := IntWalk.i64_in _ (by omega)
          have e3 : IntKind.u8.wrap (y : Int) = (y : Int) := by rw [IntKind.wrap_u8']; omega
          have hch : ch z = UInt8.ofNat y := by rw [← hy]; rfl
          rw [hch] at hnew
          have q1 : ¬ 9223372036854775807 < str.size + 1 := by omega
          have HN := hide hnew
          have j0 : (0 : Int) ≤ (r : Int) := Int.natCast_nonneg _
          have j1 : (r : Int) < (L : Int) := by have := HLN.out; omega
          have hrb : r ≤ 30 := by have := HLN.out; have := HL20.out; omega
          have hkq : 4 ≤ r ∧ r ≤ L ∧ r ≤ gk - 1 + 4 ∧ 1 ≤ gk := by omega
          have b4 : decide (4 ≤ r) = true := by simp; omega
          have b5 : decide ((4 : Int) ≤ (r : Int)) = true := by simp; omega
          clear hnew hch hy hz c1 hstr hsl hz10 hfr hp1 hp2 hp3 hpl hr er hrl
          go_wp2_with fail
          go_roundg (gk - 1)
          case measure => omega
          case rel =>
            refine ⟨r, _, by omega, by omega, by omega, rfl, by first | rfl | go_num, ?_, hu.alloc _⟩
            rw [HN.out]
            simp
        · obtain rfl : p = 4 := by omega
          have b5 : decide ((4 : Int) ≤ ((4 : Nat) : Int) - 1) = false := by decide
          have e43 : ((4 : Nat) : Int) - 1 = 3 := by decide
          rw [e43]
          clear hp1 hp2 hp3 hpl
          have hstr4 : str.data.toList = [] ++ Lib.decDigits (x / 10000) := by rw [hstr, HTW.out]
          obtain ⟨wA, hwA⟩ : ∃ wA, wr = wA := ⟨_, rfl⟩
          rw [hwA] at hu ⊢
          clear hstr hwA wr
          have huA := hu
          clear hu
          go_wp2_with fail
          go_loopg [7] 4 (fun q v wr => wr = wA ∧ ∃ n : Nat, n + q = 4 ∧ v = .int .i64 n ∧ ∀ k, k < n → l.getD k 0 = 0)
          case atStart => exact ⟨rfl, 0, by omega, rfl, fun k hk => absurd hk (by omega)⟩
          case round =>
            obtain ⟨hwr, n, hn, rfl, hzs⟩ := hrel
            replace hwr := hwr.symm
            subst hwr
            by_cases hn4 : n < 4
            · have c4 : decide (n < 4) = true := by simpa using hn4
              have c4' : decide ((n : Int) < 4) = true := by simp; omega
              have hnl : n < l.length := by have := HL5.out; omega
              obtain ⟨g, off, rfl, c1⟩ := dg_cell HD0.out n hnl
              have hg1 : g < w0.heap.size := HD0.out.lt g rfl
              have k1 := (huA.cell g _ hg1 id).trans c1
              have j0 : (0 : Int) ≤ (n : Int) := Int.natCast_nonneg _
              have j1 : (n : Int) < (L : Int) := by have := HLN.out; omega
              by_cases hz0 : l.getD n 0 = 0
              · rw [hz0] at k1 c1
                have HZ := hide hz0
                have HZS := hide hzs
                clear hz0 hzs
                go_wp2_with fail
                go_roundg (gk - 1)
                case measure => omega
                case rel =>
                  refine ⟨rfl, n + 1, by omega, by first | rfl | go_num, fun k hk => ?_⟩
                  by_cases hkn : k < n
                  · exact HZS.out k hkn
                  · obtain rfl : k = n := by omega
                    exact HZ.out
              · have hzz : ((l.getD n 0 : Nat) : Int) ≠ 0 := by omega
                obtain ⟨zz, hzz2⟩ : ∃ zz, l.getD n 0 = zz := ⟨_, rfl⟩
                rw [hzz2] at hzz
                have cz : ((zz : Int) == 0) = false := by simpa using hzz
                have cz' : (zz == 0) = false := by simp; omega
                rw [hzz2] at k1
                clear hzz hzz2
                have hdot : ((str ++ ⟨#[46]⟩ : ByteArray)).data.toList = ([] ++ Lib.decDigits (x / 10000) ++ [46]) := by
                  simp [hstr4]
                obtain ⟨st2, hst2⟩ : ∃ st2, str ++ ⟨#[46]⟩ = st2 := ⟨_, rfl⟩
                rw [hst2] at hdot
                have q2 : ¬ 9223372036854775807 < str.size + 1 := by omega
                have HNZ := hide hz0
                have HNL := hide hn4
                have HZS := hide hzs
                have HDOT := hide hdot
                have b1 : decide (n < 4) = true := by simpa using hn4
                have b2 : decide ((n : Int) < 4) = true := by simp; omega
                have e46 : ((n : Int) - 1 : Int) < (n : Int) := by omega
                clear hz0 hzs hdot hstr4 hsl c1
                go_wp2_with fail
                have HF4 : Hid (4 ≤ L) := hide (by have := HLN.out; have := HL5.out; omega)
                clear HFD
                have HFD : Hid (∀ r, r < 4 → n ≤ r → (l.take 4).drop r = l.getD r 0 :: (l.take 4).drop (r + 1)) := hide (fun r h1 _ => by
                  have := HL5.out
                  rw [drop_getD (l.take 4) r (by rw [List.length_take]; omega)]
                  congr 1
                  rw [List.getD_eq_getElem?_getD, List.getD_eq_getElem?_getD, List.getElem?_take_of_lt h1])
                have HB : Hid (([] ++ Lib.decDigits (x / 10000) ++ [46]).length ≤ 24) := hide (by have := HDL.out; simp; omega)
                clear HF
                have HF : Hid (4 ≤ l.length ∧ (l.take 4).length ≤ 4) := hide ⟨by have := HL5.out; omega, by rw [List.length_take]; omega⟩
                go_loopg [5, 8] 4 (fun q sv iv wr => ∃ (p : Nat) (str : ByteArray), n ≤ p ∧ p ≤ 4 ∧ p ≤ q + n ∧ sv = .string str ∧ iv = .int .i64 ((p : Int) - 1) ∧ str.data.toList = [] ++ Lib.decDigits (x / 10000) ++ [46] ++ (((l.take 4).drop p).reverse.map ch) ∧ Upd w0 wr (fun _ => False))
                case atStart => exact ⟨4, st2, by omega, Nat.le_refl _, by omega, rfl, by first | rfl | go_num, by rw [List.drop_eq_nil_of_le (by rw [List.length_take]; omega), HDOT.out]; simp, huA⟩
                case round =>
                  obtain ⟨p, str, hp1, hp2, hp3, rfl, rfl, hstr, hu⟩ := hrel
                  have hsl : str.size ≤ 50 := by
                    have h1 : str.size = str.data.toList.length := rfl
                    have h2 := HB.out
                    have h3 := HF.out
                    rw [h1, hstr, List.length_append, List.length_map, List.length_reverse, List.length_drop]
                    omega
                  by_cases hpl : n < p
                  · obtain ⟨r, hr⟩ : ∃ r, p = r + 1 := ⟨p - 1, by omega⟩
                    have er : (p : Int) - 1 = (r : Int) := by omega
                    rw [er]
                    have hrl : r < l.length := by have := HLN.out; have := HF.out; omega
                    obtain ⟨g, off, he, c1⟩ := dg_cell HD0.out r hrl
                    cases he
                    have hg1 : g < w0.heap.size := HD0.out.lt g rfl
                    have k1 := (hu.cell g _ hg1 id).trans c1
                    obtain ⟨z, hz⟩ : ∃ z, l.getD r 0 = z := ⟨_, rfl⟩
                    have hz10 : z < 10 := by rw [← hz]; exact HTEN.out _ (getD_mem l r hrl)
                    have hfr := HFD.out r (by omega) (by omega)
                    rw [hz] at k1 hfr
                    have hnew : [] ++ Lib.decDigits (x / 10000) ++ [46] ++ (((l.take 4).drop r).reverse.map ch) = str.data.toList ++ [ch z] := by
                      rw [hfr, List.reverse_cons, hstr, hr]
                      simp
                    obtain ⟨y, hy⟩ : ∃ y, 48 + z = y := ⟨_, rfl⟩
                    have e1 : (48 : Int) + (z : Int) = (y : Int) := by omega
                    have e2 : IntKind.i64.wrap (y : Int) = (y : Int) := IntWalk.i64_in _ (by omega)
                    have e3 : IntKind.u8.wrap (y : Int) = (y : Int) := by rw [IntKind.wrap_u8']; omega
                    have hch : ch z = UInt8.ofNat y := by rw [← hy]; rfl
                    rw [hch] at hnew
                    have q1 : ¬ 9223372036854775807 < str.size + 1 := by omega
                    have HN := hide hnew
                    have j0 : (0 : Int) ≤ (r : Int) := Int.natCast_nonneg _
                    have j1 : (r : Int) < (L : Int) := by have := HLN.out; omega
                    have hrb : r ≤ 30 := by have := HLN.out; have := HL20.out; omega
                    have hkq : n ≤ r ∧ r ≤ 4 ∧ r ≤ gk - 1 + n ∧ 1 ≤ gk := by omega
                    have b4 : decide (n ≤ r) = true := by simp; omega
                    have b5 : decide ((n : Int) ≤ (r : Int)) = true := by simp; omega
                    clear hnew hch hy hz c1 hstr hsl hz10 hfr hp1 hp2 hp3 hpl hr er hrl
                    go_wp2_with fail
                    go_roundg (gk - 1)
                    case measure => omega
                    case rel =>
                      refine ⟨r, _, by omega, by omega, by omega, rfl, by first | rfl | go_num, ?_, hu.alloc _⟩
                      rw [HN.out]
                      simp
                  · obtain rfl : p = n := by omega
                    have b5 : decide ((p : Int) ≤ (p : Int) - 1) = false := by simp; omega
                    clear hp1 hp2 hp3 hpl
                    go_wp2_with fail
                    go_ret
                    refine ⟨⟨str, rfl, ?_⟩, HU0.out.then hu (fun _ _ => id)⟩
                    obtain ⟨f1, f2, f3, f4⟩ := HFOUR.out
                    have hfn : (l.take 4).getD p 0 ≠ 0 := by
                      have := HNZ.out
                      rw [List.getD_eq_getElem?_getD, List.getElem?_take_of_lt HNL.out, ← List.getD_eq_getElem?_getD]
                      exact this
                    have hp := text_part (l.take 4) p (fun d hd => f2 d (List.mem_of_mem_take hd)) (fun k hk => by
                      have := HZS.out k hk
                      rw [List.getD_eq_getElem?_getD, List.getElem?_take_of_lt (by have := HNL.out; omega), ← List.getD_eq_getElem?_getD]
                      exact this) (by rw [f1]; exact HNL.out) hfn
                    have hr0 : x % 10000 ≠ 0 := by
                      rw [← f3]
                      intro e
                      have hs := val_split (l.take 4) p (by rw [f1]; exact HNL.out)
                      have hpp : 0 < 10 ^ p := Nat.pow_pos (by omega)
                      rw [e] at hs
                      have := Nat.mul_le_mul hpp (show 1 ≤ (l.take 4).getD p 0 + 10 * val ((l.take 4).drop (p + 1)) by omega)
                      omega
                    unfold txt
                    rw [if_neg hr0, f4, hp, hstr]
                    simp
            · obtain rfl : n = 4 := by omega
              have c4 : decide ((4 : Int) < 4) = false := by decide
              have HZS := hide hzs
              clear hzs
              have b1 : decide ((4 : Int) < 4) = false := by decide
              go_wp2_with fail
              refine wp_loop_rounds 1 ?_
              rw [rounds_succ]
              go_wp2_with fail
              go_ret
              refine ⟨⟨str, rfl, ?_⟩, HU0.out.then huA (fun _ _ => id)⟩
              obtain ⟨f1, f2, f3, f4⟩ := HFOUR.out
              have hr0 : x % 10000 = 0 := by
                rw [← f3]
                refine val_zero _ (fun d hd => ?_)
                obtain ⟨k, hk, e⟩ := List.mem_iff_getElem.1 hd
                rw [f1] at hk
                have := HZS.out k (by omega)
                rw [← e, List.getElem_take]
                rw [List.getD_eq_getElem?_getD, List.getElem?_eq_getElem (by have := HL5.out; omega)] at this
                simpa using this
              unfold txt
              rw [if_pos hr0, hstr4]
              simp

end Go.Proofs.YtmfngdjhkpddoaaGreatDoor
