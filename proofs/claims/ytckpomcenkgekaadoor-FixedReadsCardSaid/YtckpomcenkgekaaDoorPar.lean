/- The walks of strings.Cut at one byte (after the kit's worked one), of fixed.run at digits, and of fixed.Parse at one text. -/
import Derived.Test.YtckpomcenkgekaaDoorTxt
import Derived.Lib.CutLaws
import Derived.Lib.IndexLaws
import Derived.Lib.IndexBytes
import Derived.Lib.AtoiErrMem
set_option maxRecDepth 100000
namespace Go.Proofs.YtckpomcenkgekaaDoor
open Go.RowKit Go.Lat Go.Shelf Go.Sort Go.Lib

theorem indexB_one (s : ByteArray) (c : UInt8) : indexB s ⟨#[c]⟩ = indexByte s.data.toList c := index_one s.data.toList c

set_option maxHeartbeats 2000000 in
theorem CutI_any (w : World) (s : ByteArray) (c : UInt8) (hs : s.size ≤ 9223372036854775806) : Calls Tryd.prog 57 #[.string s, .string ⟨#[c]⟩] w fun e w' =>
    e = .returned (.tuple #[.string ⟨(Lib.cut s.data.toList [c]).1.toArray⟩, .string ⟨(Lib.cut s.data.toList [c]).2.1.toArray⟩, .bool (Lib.cut s.data.toList [c]).2.2]) ∧ ∃ n, w' = w.drewN n := by
  have hI := fun w => Tryd.stringslite_Index_one s c w
  have e0 : (⟨#[c]⟩ : ByteArray).data.toList = [c] := rfl
  have z0 : (⟨#[c]⟩ : ByteArray).size = 1 := rfl
  rcases Lib.indexB_cases s ⟨#[c]⟩ with hix | ⟨i, hix, hroom⟩
  · obtain ⟨e1, e2, e3⟩ := Lib.cutB_miss s ⟨#[c]⟩ hix
    rw [e0] at e1 e2 e3
    rw [e1, e2, e3]
    rw [indexB_one] at hix
    rw [hix] at hI
    clear e0 e1 e2 e3
    go_enter Tryd.func57, Tryd.ntmps57
    go_wp2_with fail
    refine Calls.mono (hI _) ?_
    rintro e w' ⟨rfl, rfl⟩
    go_wp2_with fail
    go_ret3
    exact ⟨rfl, 0, rfl⟩
  · obtain ⟨e1, e2, e3⟩ := Lib.cutB_hit s ⟨#[c]⟩ i hix
    rw [e0] at e1 e2 e3
    rw [e1, e2, e3]
    rw [indexB_one] at hix
    rw [hix] at hI
    rw [z0] at hroom ⊢
    have c1 : (0 : Int) ≤ ↑i := by omega
    have c2 : (↑i : Int) ≤ ↑s.size := by omega
    have c3 : (0 : Int) ≤ ↑i + 1 := by omega
    have c4 : (↑i + 1 : Int) ≤ ↑s.size := by omega
    have c5 : IntKind.i64.wrap (↑i + 1) = ↑i + 1 := IntWalk.i64_in _ (by omega)
    have c6 : (↑i + 1 : Int).toNat = i + 1 := by omega
    have mixed := Tryd.lays219.mixed
    clear e0 e1 e2 e3
    go_enter Tryd.func57, Tryd.ntmps57
    go_wp2_with fail
    refine Calls.mono (hI _) ?_
    rintro e w' ⟨rfl, rfl⟩
    go_wp2_with fail
    go_region_o
    go_wp2_with fail
    go_ret3
    exact ⟨rfl, 1, rfl⟩

theorem Cut_any (w : World) (s : ByteArray) (c : UInt8) (hs : s.size ≤ 9223372036854775806) : Calls Tryd.prog 42 #[.string s, .string ⟨#[c]⟩] w fun e w' =>
    e = .returned (.tuple #[.string ⟨(Lib.cut s.data.toList [c]).1.toArray⟩, .string ⟨(Lib.cut s.data.toList [c]).2.1.toArray⟩, .bool (Lib.cut s.data.toList [c]).2.2]) ∧ ∃ n, w' = w.drewN n := by
  have h := fun w => CutI_any w s c hs
  generalize (⟨(Lib.cut s.data.toList [c]).1.toArray⟩ : ByteArray) = a at *
  generalize (⟨(Lib.cut s.data.toList [c]).2.1.toArray⟩ : ByteArray) = b at *
  generalize (Lib.cut s.data.toList [c]).2.2 = d at *
  go_enter Tryd.func42, Tryd.ntmps42
  go_wp2_with fail
  refine Calls.mono (h _) ?_
  rintro e w' ⟨rfl, n, rfl⟩
  go_wp2_with fail
  go_ret3
  exact ⟨rfl, n, rfl⟩

/-- The digits. -/
def dgs : List UInt8 := [48, 49, 50, 51, 52, 53, 54, 55, 56, 57]

theorem run_good (w : World) (s : ByteArray) (h1 : 1 ≤ s.size) (h2 : s.size ≤ 18) (ht : trimS s.data.toList dgs = []) :
    Calls Tryd.prog 43 #[.string s] w fun e w' => e = .returned (.bool true) ∧ Upd w w' (fun _ => False) := by
  have hT := fun w => Any.strings_Trim_laid Tryd.lays160 (by kernel_rfl) s ⟨#[48, 49, 50, 51, 52, 53, 54, 55, 56, 57]⟩ w (by omega) (by decide) (ascii_of_all (by decide))
  have e1 : (⟨(Lib.trimS s.data.toList (⟨#[48, 49, 50, 51, 52, 53, 54, 55, 56, 57]⟩ : ByteArray).data.toList).toArray⟩ : ByteArray) = ⟨#[]⟩ := by
    rw [show (⟨#[48, 49, 50, 51, 52, 53, 54, 55, 56, 57]⟩ : ByteArray).data.toList = dgs from rfl, ht]
  rw [e1] at hT
  change ∀ w, Calls Tryd.prog 58 _ _ _ at hT
  have d1 : decide ((1 : Int) ≤ (s.size : Int)) = true := by simp; omega
  have d2 : decide ((s.size : Int) ≤ 18) = true := by simp; omega
  have d3 : decide (1 ≤ s.size) = true := by simpa using h1
  have d4 : decide (s.size ≤ 18) = true := by simpa using h2
  clear ht e1
  go_enter Tryd.func43, Tryd.ntmps43
  go_wp2_with fail
  refine Calls.mono (hT _) ?_
  rintro e w1 ⟨rfl, hB⟩
  go_wp2_with fail
  go_ret
  exact ⟨rfl, Upd.of_below hB _⟩

set_option maxHeartbeats 3200000 in
theorem Parse_one (w : World) : Calls Tryd.prog 16 #[.string ⟨#[49, 46, 50, 51]⟩] w fun e w' => e = .returned (.tuple #[.int .i64 12300, .int .i64 0]) ∧ Upd w w' (fun _ => False) := by
  have h1 : ∀ w, Calls Tryd.prog 41 #[.string ⟨#[49, 46, 50, 51]⟩, .string ⟨#[45]⟩] w fun e w' => e = .returned (.tuple #[.string ⟨#[49, 46, 50, 51]⟩, .bool false]) ∧ w' = w := fun w => Tryd.strings_CutPrefix ⟨#[49, 46, 50, 51]⟩ ⟨#[45]⟩ w
  have h2 : ∀ w, Calls Tryd.prog 42 #[.string ⟨#[49, 46, 50, 51]⟩, .string ⟨#[46]⟩] w fun e w' => e = .returned (.tuple #[.string ⟨#[49]⟩, .string ⟨#[50, 51]⟩, .bool true]) ∧ ∃ n, w' = w.drewN n := fun w => Cut_any w ⟨#[49, 46, 50, 51]⟩ 46 (by decide)
  have h3 := fun w => run_good w ⟨#[49]⟩ (by decide) (by decide) (by decide)
  have h4 := fun w => run_good w ⟨#[50, 51]⟩ (by decide) (by decide) (by decide)
  have h5 := fun w => Tryd.strconv_ParseUint_10_at64_ok ⟨#[49]⟩ (by decide) 1 (by decide) w
  have h6 := fun w => Tryd.strconv_ParseUint_10_at64_ok ⟨#[50, 51, 48, 48, 48]⟩ (by decide) 23000 (by decide) w
  go_enter Tryd.func16, Tryd.ntmps16
  go_wp2_with fail
  refine Calls.mono (h1 _) ?_
  rintro e w1 ⟨rfl, rfl⟩
  go_wp2_with fail
  refine Calls.mono (h2 _) ?_
  rintro e w2 ⟨rfl, n, rfl⟩
  go_wp2_with fail
  refine Calls.mono (h3 _) ?_
  rintro e w3 ⟨rfl, u3⟩
  go_wp2_with fail
  refine Calls.mono (h4 _) ?_
  rintro e w4 ⟨rfl, u4⟩
  go_wp2_with fail
  refine Calls.mono (h5 _) ?_
  rintro e w5 ⟨rfl, u5⟩
  go_wp2_with fail
  refine Calls.mono (h6 _) ?_
  rintro e w6 ⟨rfl, u6⟩
  go_wp2_with fail
  go_ret2
  refine ⟨rfl, ?_⟩
  have b5 : Upd w4 w5 (fun _ => False) := by
    rcases u5 with rfl | rfl
    · exact Upd.refl _ _
    · exact Upd.of_below (Lib.bytesWorld_below _ _ _) _
  have b6 : Upd w5 w6 (fun _ => False) := by
    rcases u6 with rfl | rfl
    · exact Upd.refl _ _
    · exact Upd.of_below (Lib.bytesWorld_below _ _ _) _
  exact ((((Upd.refl w1 _).drewN n).then u3 (fun _ _ => id)).then u4 (fun _ _ => id)).then (b5.then b6 (fun _ _ => id)) (fun _ _ => id)
end Go.Proofs.YtckpomcenkgekaaDoor
