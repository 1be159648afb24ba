/- LooksCalls holds, tied to the text that lays the listed variables of Go's library: for every name and list of arguments the law returns true and leaves its arguments as they were. Its condition: the listed variables hold what the card lists. -/
import Derived.Test.YtdjpkkgcoainhaaGreatDoorJ32
import Derived.Test.YtdjpkkgcoainhaaGreatDoorCards
import Derived.Test.YtdjpkkgcoainhaaGreatDoorTie
import Derived.SevenTiedAt
set_option maxRecDepth 100000
namespace Go.Proofs.YtdjpkkgcoainhaaGreatDoor
open Go.ChangeShapes Go.WideShapes Go.ChangeAt Go.RowKit Go.Lat

theorem LooksCalls_lifted (os : Os) (started : os.Started) (H : Type) (enc : TypeId × Value → H) :
    ReturnsInHanded {} Tryz.checked os 4 .any (fun w args => (Rows.looksCallsSpec.pre enc Tryz.prog Tryz.f4 Rows.looksCallsRow.domain false w args ∧ laidMetH Tryz.prog Rows.looksCallsRow.laid w) ∧ sizedMet enc Tryz.prog Tryz.f4 (OpenSpec.ofChange Rows.looksCallsSpec) false w args)
      (Rows.looksCallsSpec.post enc Tryz.prog Tryz.f4 false true false false) := by
  refine returnsInHanded_of_change_and (C := Tryz.checked) (X := fun w _ => laidMetH Tryz.prog Rows.looksCallsRow.laid w) (fun _ _ _ hh h => h.of_heap hh) Tryz.own started (by kernel_rfl) Tryz.func4
    (ChangeSpec.witness_shaped (enc := enc) (C := Tryz.checked) (os := os) (X := fun w _ => laidMetH Tryz.prog Rows.looksCallsRow.laid w) false (World.laidAll Tryz.prog os Rows.looksCallsRow.laid) #[.string ByteArray.empty, .slice none 0 0] 8 (World.laidAll_os _ _ _)
      (World.shaped_of_ZipB (by kernel_rfl) (by kernel_rfl)) (by kernel_rfl) (by kernel_rfl) (by kernel_rfl)
      (by rw [MakeChecks.laidMetH_plain _ _ _ (by kernel_rfl)]; exact laidMet_laidAll _ (by kernel_rfl) (by kernel_rfl))) ?_
  intro W base args ds gs before hval0 hW hc hsz hL _
  have hval : ∀ (j : Nat) t v, Tryz.f4.params[j]? = some t → args[j]? = some v → Value.okWide Tryz.prog W .any base t v := hval0
  have hW' := hW
  obtain ⟨p, q, hA0, hV, rfl, _, _⟩ := hW
  have hA : DataW.TrodAll enc Tryz.prog W 0 (fun _ => true) true Tryz.f4.params.toList args.toList ds p := hA0
  rw [Tryz.params4] at hA hval
  obtain ⟨v0, v1, d0, d1, p0, p1, rfl, rfl, rfl, h0, h1⟩ := trodAll_two hA
  obtain ⟨rfl, rfl⟩ := trodVars_none hV
  obtain ⟨s, rfl⟩ := okWide_string Tryz.underlying9 (hval 0 9 v0 rfl rfl)
  have es : Value.string s = enS s.data.toList := by
    show _ = Value.string ⟨s.data.toList.toArray⟩
    simp
  obtain ⟨a1, l1, c1, rfl⟩ := okWide_slice Tryz.underlying42 (hval 1 42 v1 rfl rfl)
  obtain ⟨fuel1, h1⟩ := h1
  obtain ⟨a, cap, l, el, hlc, hr, hl⟩ := args_open (enc := enc) (y := (d1, p1)) h1 (fun q hq => by
    have k := List.all_eq_true.1 hsz q (DataW.weights_mem_each (j := 1) (t := 42) rfl rfl q hq)
    simpa using k)
  rw [el, es] at hW' hval ⊢
  clear hA0 hval0 hsz
  refine (LooksCalls_any W s.data.toList a cap l hlc hr (fun a ha => by have := (hl a ha).2; have := reachBytes_lt; have e : reachBytes = 140737488351232 := rfl; omega) (fun a ha => (hl a ha).1)).mono fun e W' ⟨he, hu⟩ => ?_
  exact ⟨_, he, law_post Tryz.laidOut hW' rfl rfl (by kernel_rfl) rfl Tryz.underlying4 hu⟩

theorem LooksCalls_row : Rows.LooksCallsSaid :=
  OpenClaim.holds_of_wide 4 Tryz.f4 rfl rfl rfl rfl rfl rfl rfl ⟨rfl, rfl, rfl, rfl, rfl⟩ rfl rfl rfl rfl rfl (by kernel_rfl) Tryz.func4 (by kernel_rfl)
    (of_decide_eq_true (by kernel_rfl)) (by unfold Func.isWrapper; first | (rw [if_pos (by decide +kernel)]; kernel_rfl) | (rw [if_neg (by decide +kernel)]; exact ⟨rfl, rfl⟩))
    (fun os started H enc _ => LooksCalls_lifted os started H enc)

theorem LooksCalls_holds : Rows.LooksCallsCardSaid :=
  Claim7.holds_tied_plain_at .later [] [.data, .data, .data, .data, .sentinel, .sentinel, .pinned] true (true, "d0cdd28afd8fa55b936263029771a5767bc04687cffa60ebe3339efa43f59b43") true
    LooksCalls_row (fun _ h => by cases h) (by kernel_rfl) (fun _ h => by cases h) looksCalls_row_tie rfl ⟨rfl, rfl⟩ (by kernel_rfl) rfl
    (fun f fn hf hfn => by
      have h6 : (some 4 : Option Nat) = some f := by rw [← hf]; kernel_rfl
      obtain rfl := Option.some.inj h6
      obtain rfl : fn = Tryz.f4 := (Option.some.inj (Tryz.func4.symm.trans hfn)).symm
      exact ⟨by kernel_rfl, fun j t ht => by
        rw [Tryz.params4] at ht
        have hm : t ∈ [9, 42] := by simpa using Array.mem_of_getElem? ht
        have hall : ([9, 42].all fun u => !Tryz.prog.wantsStandIn u) = true := by kernel_rfl
        exact (show Tryz.prog.wantsStandIn t = false by simpa using List.all_eq_true.1 hall t hm)⟩)
    (by kernel_rfl)
#print axioms LooksCalls_holds
end Go.Proofs.YtdjpkkgcoainhaaGreatDoor
