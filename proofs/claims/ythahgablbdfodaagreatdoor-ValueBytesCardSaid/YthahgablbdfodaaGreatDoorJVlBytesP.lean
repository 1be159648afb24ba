/- ValueBytes holds, tied to the text that lays the listed variables of Go's library: for every value, text and index the law returns true and leaves its arguments as they were. Its condition: the listed variables hold what the card lists. -/
import Derived.Test.YthahgablbdfodaaGreatDoorJ24
import Derived.Test.YthahgablbdfodaaGreatDoorJ19
import Derived.Test.YthahgablbdfodaaGreatDoorCards
import Derived.Test.YthahgablbdfodaaGreatDoorTie
import Derived.SevenTiedAt
set_option maxRecDepth 100000
namespace Go.Proofs.YthahgablbdfodaaGreatDoor
open Go.ChangeShapes Go.WideShapes Go.ChangeAt Go.RowKit Go.Lat

theorem ValueBytes_lifted (os : Os) (started : os.Started) (H : Type) (enc : TypeId × Value → H) :
    ReturnsInHanded {} Tryz.checked os 6 .any (fun w args => (Rows.valueBytesSpec.pre enc Tryz.prog Tryz.f6 Rows.valueBytesRow.domain false w args ∧ laidMetH Tryz.prog Rows.valueBytesRow.laid w) ∧ sizedMet enc Tryz.prog Tryz.f6 (OpenSpec.ofChange Rows.valueBytesSpec) false w args)
      (Rows.valueBytesSpec.post enc Tryz.prog Tryz.f6 false true false false) := by
  refine returnsInHanded_of_change_and (C := Tryz.checked) (X := fun w _ => laidMetH Tryz.prog Rows.valueBytesRow.laid w) (fun _ _ _ hh h => h.of_heap hh) Tryz.own started (by kernel_rfl) Tryz.func6
    (ChangeSpec.witness_shaped (enc := enc) (C := Tryz.checked) (os := os) (X := fun w _ => laidMetH Tryz.prog Rows.valueBytesRow.laid w) false (World.laidAll Tryz.prog os Rows.valueBytesRow.laid) #[.agg #[.int .i64 0, .int .i64 0, .string ⟨#[]⟩, .bool false, .int .i64 0], .string ⟨#[]⟩, .int .i64 0] 8 (World.laidAll_os _ _ _)
      (World.shaped_of_ZipB (by kernel_rfl) (by kernel_rfl)) (by kernel_rfl) (by kernel_rfl) (by kernel_rfl)
      (by rw [MakeChecks.laidMetH_plain _ _ _ (by kernel_rfl)]; exact laidMet_laidAll _ (by kernel_rfl) (by kernel_rfl))) ?_
  intro W base args ds gs before hval0 hW hc _ hL _
  have hval : ∀ (j : Nat) t v, Tryz.f6.params[j]? = some t → args[j]? = some v → Value.okWide Tryz.prog W .any base t v := hval0
  have hW' := hW
  obtain ⟨p, q, hA0, hV, rfl, _, _⟩ := hW
  have hA : DataW.TrodAll enc Tryz.prog W 0 (fun _ => true) true Tryz.f6.params.toList args.toList ds p := hA0
  rw [Tryz.params6] at hA hval
  obtain ⟨v0, v1, v2, d0, d1, d2, p0, p1, p2, rfl, rfl, rfl, h0, h1, h2⟩ := trodAll_three hA
  obtain ⟨rfl, rfl⟩ := trodVars_none hV
  obtain ⟨x0, rfl, k0⟩ := value_open (hval 0 23 v0 rfl rfl) h0
  obtain ⟨x1, rfl, -, -, k1⟩ := Go.ChangeMaps.open_string Tryz.underlying9 (hval 1 9 v1 rfl rfl) h1
  obtain ⟨x2, rfl, -, -, k2⟩ := open_int Tryz.underlying3 (hval 2 3 v2 rfl rfl) h2
  clear hA0 hval0
  refine (ValueBytes_any W (sig_of_laid hL) x0 k0 x1 x2).mono fun e W' ⟨he, hu⟩ => ?_
  exact ⟨_, he, law_post Tryz.laidOut hW' rfl rfl (by kernel_rfl) rfl Tryz.underlying4 hu⟩

theorem ValueBytes_row : Rows.ValueBytesSaid :=
  OpenClaim.holds_of_wide 6 Tryz.f6 rfl rfl rfl rfl rfl rfl rfl ⟨rfl, rfl, rfl, rfl, rfl⟩ rfl rfl rfl rfl rfl (by kernel_rfl) Tryz.func6 (by kernel_rfl)
    (of_decide_eq_true (by kernel_rfl)) (by unfold Func.isWrapper; first | (rw [if_pos (by decide +kernel)]; kernel_rfl) | (rw [if_neg (by decide +kernel)]; exact ⟨rfl, rfl⟩))
    (fun os started H enc _ => ValueBytes_lifted os started H enc)

theorem ValueBytes_holds : Rows.ValueBytesCardSaid :=
  Claim7.holds_tied_plain_at .later [] [.data, .data, .data, .data, .sentinel, .sentinel, .data, .pinned] true (true, "c277b3c679e1ced58f2a00b6ef3e85f91b3f4bb2db228532ff714c10943bc8fe") true
    ValueBytes_row (fun _ h => by cases h) (by kernel_rfl) (fun _ h => by cases h) valueBytes_row_tie rfl ⟨rfl, rfl⟩ (by kernel_rfl) rfl
    (fun f fn hf hfn => by
      have h6 : (some 6 : Option Nat) = some f := by rw [← hf]; kernel_rfl
      obtain rfl := Option.some.inj h6
      obtain rfl : fn = Tryz.f6 := (Option.some.inj (Tryz.func6.symm.trans hfn)).symm
      exact ⟨by kernel_rfl, fun j t ht => by
        rw [Tryz.params6] at ht
        have hm : t ∈ [23, 9, 3] := by simpa using Array.mem_of_getElem? ht
        have hall : ([23, 9, 3].all fun u => !Tryz.prog.wantsStandIn u) = true := by kernel_rfl
        exact (show Tryz.prog.wantsStandIn t = false by simpa using List.all_eq_true.1 hall t hm)⟩)
    (by kernel_rfl)
#print axioms ValueBytes_holds
end Go.Proofs.YthahgablbdfodaaGreatDoor
