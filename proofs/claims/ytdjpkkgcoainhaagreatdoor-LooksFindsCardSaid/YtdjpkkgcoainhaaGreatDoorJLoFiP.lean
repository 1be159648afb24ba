/- LooksFinds holds, tied to the text that lays the listed variables of Go's library: for every value, list and byte the law returns true and leaves its arguments as they were. Its condition: the listed variables hold what the card lists. -/
import Derived.Test.YtdjpkkgcoainhaaGreatDoorJ27
import Derived.Test.YtdjpkkgcoainhaaGreatDoorCards
import Derived.Test.YtdjpkkgcoainhaaGreatDoorTie
import Derived.SevenTiedAt
set_option maxRecDepth 100000
namespace Go.Proofs.YtdjpkkgcoainhaaGreatDoor
open Go.ChangeShapes Go.WideShapes Go.ChangeAt Go.RowKit Go.Lat

theorem LooksFinds_lifted (os : Os) (started : os.Started) (H : Type) (enc : TypeId × Value → H) :
    ReturnsInHanded {} Tryz.checked os 6 .any (fun w args => (Rows.looksFindsSpec.pre enc Tryz.prog Tryz.f6 Rows.looksFindsRow.domain false w args ∧ laidMetH Tryz.prog Rows.looksFindsRow.laid w) ∧ sizedMet enc Tryz.prog Tryz.f6 (OpenSpec.ofChange Rows.looksFindsSpec) false w args)
      (Rows.looksFindsSpec.post enc Tryz.prog Tryz.f6 false true false false) := by
  refine returnsInHanded_of_change_and (C := Tryz.checked) (X := fun w _ => laidMetH Tryz.prog Rows.looksFindsRow.laid w) (fun _ _ _ hh h => h.of_heap hh) Tryz.own started (by kernel_rfl) Tryz.func6
    (ChangeSpec.witness_shaped (enc := enc) (C := Tryz.checked) (os := os) (X := fun w _ => laidMetH Tryz.prog Rows.looksFindsRow.laid w) false (World.laidAll Tryz.prog os Rows.looksFindsRow.laid) #[.agg #[.int .i64 0, .int .i64 0, .string ⟨#[]⟩, .bool false, .int .i64 0], .slice none 0 0, .int .u8 0] 8 (World.laidAll_os _ _ _)
      (World.shaped_of_ZipB (by kernel_rfl) (by kernel_rfl)) (by kernel_rfl) (by kernel_rfl) (by kernel_rfl)
      (by rw [MakeChecks.laidMetH_plain _ _ _ (by kernel_rfl)]; exact laidMet_laidAll _ (by kernel_rfl) (by kernel_rfl))) ?_
  intro W base args ds gs before hval0 hW hc _ hL _
  have hval : ∀ (j : Nat) t v, Tryz.f6.params[j]? = some t → args[j]? = some v → Value.okWide Tryz.prog W .any base t v := hval0
  have hW' := hW
  obtain ⟨p, q, hA0, hV, rfl, _, _⟩ := hW
  have hA : DataW.TrodAll enc Tryz.prog W 0 (fun _ => true) true Tryz.f6.params.toList args.toList ds p := hA0
  rw [Tryz.params6] at hA hval
  obtain ⟨v0, v1, v2, d0, d1, d2, p0, p1, p2, rfl, rfl, rfl, h0, h1, h2⟩ := trodAll_three hA
  obtain ⟨rfl, rfl⟩ := trodVars_none hV
  obtain ⟨x0, rfl, k0⟩ := value_open (hval 0 23 v0 rfl rfl) h0
  obtain ⟨a1, l1, c1, rfl⟩ := okWide_slice Tryz.underlying24 (hval 1 24 v1 rfl rfl)
  obtain ⟨fuel1, h1⟩ := h1
  obtain ⟨a, cap, l, es, hlc, hr, hl, -⟩ := vals_open (enc := enc) (y := (d1, p1)) h1
  rw [es] at hW' hval ⊢
  obtain ⟨z2, rfl, rfl, rfl, wz⟩ := open_int Tryz.underlying5 (hval 2 5 v2 rfl rfl) h2
  obtain ⟨hz1, hz2⟩ := bounds_u8 wz
  obtain ⟨k2, rfl⟩ := Int.eq_ofNat_of_zero_le hz1
  clear hA0 hval0
  refine (LooksFinds_any W x0 (okK_of k0) a cap l hlc hl hr k2 (by omega)).mono fun e W' ⟨he, hu⟩ => ?_
  exact ⟨_, he, law_post Tryz.laidOut hW' rfl rfl (by kernel_rfl) rfl Tryz.underlying4 hu⟩

theorem LooksFinds_row : Rows.LooksFindsSaid :=
  OpenClaim.holds_of_wide 6 Tryz.f6 rfl rfl rfl rfl rfl rfl rfl ⟨rfl, rfl, rfl, rfl, rfl⟩ rfl rfl rfl rfl rfl (by kernel_rfl) Tryz.func6 (by kernel_rfl)
    (of_decide_eq_true (by kernel_rfl)) (by unfold Func.isWrapper; first | (rw [if_pos (by decide +kernel)]; kernel_rfl) | (rw [if_neg (by decide +kernel)]; exact ⟨rfl, rfl⟩))
    (fun os started H enc _ => LooksFinds_lifted os started H enc)

theorem LooksFinds_holds : Rows.LooksFindsCardSaid :=
  Claim7.holds_tied_plain_at .later [] [.data, .data, .data, .data, .sentinel, .sentinel, .pinned] true (true, "d0cdd28afd8fa55b936263029771a5767bc04687cffa60ebe3339efa43f59b43") true
    LooksFinds_row (fun _ h => by cases h) (by kernel_rfl) (fun _ h => by cases h) looksFinds_row_tie rfl ⟨rfl, rfl⟩ (by kernel_rfl) rfl
    (fun f fn hf hfn => by
      have h6 : (some 6 : Option Nat) = some f := by rw [← hf]; kernel_rfl
      obtain rfl := Option.some.inj h6
      obtain rfl : fn = Tryz.f6 := (Option.some.inj (Tryz.func6.symm.trans hfn)).symm
      exact ⟨by kernel_rfl, fun j t ht => by
        rw [Tryz.params6] at ht
        have hm : t ∈ [23, 24, 5] := by simpa using Array.mem_of_getElem? ht
        have hall : ([23, 24, 5].all fun u => !Tryz.prog.wantsStandIn u) = true := by kernel_rfl
        exact (show Tryz.prog.wantsStandIn t = false by simpa using List.all_eq_true.1 hall t hm)⟩)
    (by kernel_rfl)
#print axioms LooksFinds_holds
end Go.Proofs.YtdjpkkgcoainhaaGreatDoor
