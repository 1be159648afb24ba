/- NumsRounds holds, tied to the text that lays the listed variables of Go's library: for every number and byte the law returns true and leaves its arguments as they were. Its condition: the listed variables hold what the card lists. -/
import Derived.Test.YtmfngdjhkpddoaaGreatDoorJ47
import Derived.Test.YtmfngdjhkpddoaaGreatDoorCards
import Derived.Test.YtmfngdjhkpddoaaGreatDoorTie
import Derived.SevenTiedAt
import Derived.Test.YtmfngdjhkpddoaaGreatDoorJX1
set_option maxRecDepth 100000
namespace Go.Proofs.YtmfngdjhkpddoaaGreatDoor
open Go.ChangeShapes Go.WideShapes Go.ChangeAt Go.RowKit Go.Lat

theorem NumsRounds_lifted (os : Os) (started : os.Started) (H : Type) (enc : TypeId × Value → H) :
    ReturnsInHanded {} Tryz.checked os 7 .any (fun w args => (Rows.numsRoundsSpec.pre enc Tryz.prog Tryz.f7 Rows.numsRoundsRow.domain false w args ∧ laidMetH Tryz.prog Rows.numsRoundsRow.laid w) ∧ sizedMet enc Tryz.prog Tryz.f7 (OpenSpec.ofChange Rows.numsRoundsSpec) false w args)
      (Rows.numsRoundsSpec.post enc Tryz.prog Tryz.f7 false true false false) := by
  refine returnsInHanded_of_change_and (C := Tryz.checked) (X := fun w _ => laidMetH Tryz.prog Rows.numsRoundsRow.laid w) (fun _ _ _ hh h => h.of_heap hh) Tryz.own started (by kernel_rfl) Tryz.func7
    (ChangeSpec.witness_shaped (enc := enc) (C := Tryz.checked) (os := os) (X := fun w _ => laidMetH Tryz.prog Rows.numsRoundsRow.laid w) false (World.laidAll Tryz.prog os Rows.numsRoundsRow.laid) #[.int .i64 0, .int .u8 0] 8 (World.laidAll_os _ _ _)
      (World.shaped_of_ZipB (by kernel_rfl) (by kernel_rfl)) (by kernel_rfl) (by kernel_rfl) (by kernel_rfl)
      (by rw [MakeChecks.laidMetH_plain _ _ _ (by kernel_rfl)]; exact laidMet_laidAll _ (by kernel_rfl) (by kernel_rfl))) ?_
  intro W base args ds gs before hval0 hW hc _ hL _
  have hval : ∀ (j : Nat) t v, Tryz.f7.params[j]? = some t → args[j]? = some v → Value.okWide Tryz.prog W .any base t v := hval0
  have hW' := hW
  obtain ⟨p, q, hA0, hV, rfl, _, _⟩ := hW
  have hA : DataW.TrodAll enc Tryz.prog W 0 (fun _ => true) true Tryz.f7.params.toList args.toList ds p := hA0
  rw [Tryz.params7] at hA hval
  obtain ⟨v0, v1, d0, d1, p0, p1, rfl, rfl, rfl, h0, h1⟩ := trodAll_two hA
  obtain ⟨rfl, rfl⟩ := trodVars_none hV
  obtain ⟨x0, rfl, -, -, k0⟩ := open_int Tryz.underlying2 (hval 0 2 v0 rfl rfl) h0
  obtain ⟨x1, rfl, -, -, k1⟩ := open_int Tryz.underlying5 (hval 1 5 v1 rfl rfl) h1
  clear hA0 hval0
  refine (NumsRounds_any W (sig_of_laid hL) (pow_of_laid hL) x0 x1 (bounds_u8 k1).1 (bounds_u8 k1).2).mono fun e W' ⟨he, hu⟩ => ?_
  exact ⟨_, he, law_post Tryz.laidOut hW' rfl rfl (by kernel_rfl) rfl Tryz.underlying4 hu⟩

theorem NumsRounds_row : Rows.NumsRoundsSaid :=
  OpenClaim.holds_of_wide 7 Tryz.f7 rfl rfl rfl rfl rfl rfl rfl ⟨rfl, rfl, rfl, rfl, rfl⟩ rfl rfl rfl rfl rfl (by kernel_rfl) Tryz.func7 (by kernel_rfl)
    (of_decide_eq_true (by kernel_rfl)) (by unfold Func.isWrapper; first | (rw [if_pos (by decide +kernel)]; kernel_rfl) | (rw [if_neg (by decide +kernel)]; exact ⟨rfl, rfl⟩))
    (fun os started H enc _ => NumsRounds_lifted os started H enc)

theorem NumsRounds_holds : Rows.NumsRoundsCardSaid :=
  Claim7.holds_tied_plain_at .later [] [.data, .data, .data, .data, .sentinel, .sentinel, .data, .pinned] true (true, "9b74f86848fdd8b296aec640c8ab554780d5e84b876cfab8fc02adadf6be7df1") true
    NumsRounds_row (fun _ h => by cases h) (by kernel_rfl) (fun _ h => by cases h) numsRounds_row_tie rfl ⟨rfl, rfl⟩ (by kernel_rfl) rfl
    (fun f fn hf hfn => by
      have h6 : (some 7 : Option Nat) = some f := by rw [← hf]; kernel_rfl
      obtain rfl := Option.some.inj h6
      obtain rfl : fn = Tryz.f7 := (Option.some.inj (Tryz.func7.symm.trans hfn)).symm
      exact ⟨by kernel_rfl, fun j t ht => by
        rw [Tryz.params7] at ht
        have hm : t ∈ [2, 5] := by simpa using Array.mem_of_getElem? ht
        have hall : ([2, 5].all fun u => !Tryz.prog.wantsStandIn u) = true := by kernel_rfl
        exact (show Tryz.prog.wantsStandIn t = false by simpa using List.all_eq_true.1 hall t hm)⟩)
    (by kernel_rfl)
#print axioms NumsRounds_holds
end Go.Proofs.YtmfngdjhkpddoaaGreatDoor
