/- LooksTables holds, tied to the text that lays the listed variables of Go's library: for every value, table and three numbers the law returns true and leaves its arguments as they were. Its condition: the listed variables hold what the card lists. -/
import Derived.Test.YtdjpkkgcoainhaaGreatDoorJ35
import Derived.Test.YtdjpkkgcoainhaaGreatDoorCards
import Derived.Test.YtdjpkkgcoainhaaGreatDoorTie
import Derived.SevenTiedAt
set_option maxRecDepth 100000
namespace Go.Proofs.YtdjpkkgcoainhaaGreatDoor
open Go.ChangeShapes Go.WideShapes Go.ChangeAt Go.RowKit Go.Lat

theorem LooksTables_lifted (os : Os) (started : os.Started) (H : Type) (enc : TypeId × Value → H) :
    ReturnsInHanded {} Tryz.checked os 5 .any (fun w args => (Rows.looksTablesSpec.pre enc Tryz.prog Tryz.f5 Rows.looksTablesRow.domain false w args ∧ laidMetH Tryz.prog Rows.looksTablesRow.laid w) ∧ sizedMet enc Tryz.prog Tryz.f5 (OpenSpec.ofChange Rows.looksTablesSpec) false w args)
      (Rows.looksTablesSpec.post enc Tryz.prog Tryz.f5 false true false false) := by
  refine returnsInHanded_of_change_and (C := Tryz.checked) (X := fun w _ => laidMetH Tryz.prog Rows.looksTablesRow.laid w) (fun _ _ _ hh h => h.of_heap hh) Tryz.own started (by kernel_rfl) Tryz.func5
    (ChangeSpec.witness_shaped (enc := enc) (C := Tryz.checked) (os := os) (X := fun w _ => laidMetH Tryz.prog Rows.looksTablesRow.laid w) false (World.laidAll Tryz.prog os Rows.looksTablesRow.laid) #[.agg #[.int .i64 0, .int .i64 0, .string ⟨#[]⟩, .bool false, .int .i64 0], .agg #[.slice none 0 0, .int .i64 0, .bool false], .agg #[.int .i64 0, .int .i64 0, .int .i64 0]] 8 (World.laidAll_os _ _ _)
      (World.shaped_of_ZipB (by kernel_rfl) (by kernel_rfl)) (by kernel_rfl) (by kernel_rfl) (by kernel_rfl)
      (by rw [MakeChecks.laidMetH_plain _ _ _ (by kernel_rfl)]; exact laidMet_laidAll _ (by kernel_rfl) (by kernel_rfl))) ?_
  intro W base args ds gs before hval0 hW hc hsz hL _
  have hval : ∀ (j : Nat) t v, Tryz.f5.params[j]? = some t → args[j]? = some v → Value.okWide Tryz.prog W .any base t v := hval0
  have hW' := hW
  obtain ⟨p, q, hA0, hV, rfl, _, _⟩ := hW
  have hA : DataW.TrodAll enc Tryz.prog W 0 (fun _ => true) true Tryz.f5.params.toList args.toList ds p := hA0
  rw [Tryz.params5] at hA hval
  obtain ⟨v0, v1, v2, d0, d1, d2, p0, p1, p2, rfl, rfl, rfl, h0, h1, h2⟩ := trodAll_three hA
  obtain ⟨rfl, rfl⟩ := trodVars_none hV
  obtain ⟨x0, rfl, k0⟩ := value_open (hval 0 23 v0 rfl rfl) h0
  obtain ⟨t1, va, vc, rfl, hr, hlc, hl⟩ := arg_open (enc := enc) (y := (d1, p1)) (hval 1 58 v1 rfl rfl) h1 (fun q hq => by
    have k := List.all_eq_true.1 hsz q (DataW.weights_mem_each (j := 1) (t := 58) rfl rfl q hq)
    simpa using k)
  obtain ⟨n0, n1, n2, rfl⟩ := ints3_open (enc := enc) (y := (d2, p2)) (hval 2 59 v2 rfl rfl) h2
  clear hA0 hval0 hsz
  refine (LooksTables_any W x0 (okK_of k0) t1 va vc hr hlc hl n0 n1 n2).mono fun e W' ⟨he, hu⟩ => ?_
  exact ⟨_, he, law_post Tryz.laidOut hW' rfl rfl (by kernel_rfl) rfl Tryz.underlying4 hu⟩

theorem LooksTables_row : Rows.LooksTablesSaid :=
  OpenClaim.holds_of_wide 5 Tryz.f5 rfl rfl rfl rfl rfl rfl rfl ⟨rfl, rfl, rfl, rfl, rfl⟩ rfl rfl rfl rfl rfl (by kernel_rfl) Tryz.func5 (by kernel_rfl)
    (of_decide_eq_true (by kernel_rfl)) (by unfold Func.isWrapper; first | (rw [if_pos (by decide +kernel)]; kernel_rfl) | (rw [if_neg (by decide +kernel)]; exact ⟨rfl, rfl⟩))
    (fun os started H enc _ => LooksTables_lifted os started H enc)

theorem LooksTables_holds : Rows.LooksTablesCardSaid :=
  Claim7.holds_tied_plain_at .later [] [.data, .data, .data, .data, .sentinel, .sentinel, .pinned] true (true, "d0cdd28afd8fa55b936263029771a5767bc04687cffa60ebe3339efa43f59b43") true
    LooksTables_row (fun _ h => by cases h) (by kernel_rfl) (fun _ h => by cases h) looksTables_row_tie rfl ⟨rfl, rfl⟩ (by kernel_rfl) rfl
    (fun f fn hf hfn => by
      have h6 : (some 5 : Option Nat) = some f := by rw [← hf]; kernel_rfl
      obtain rfl := Option.some.inj h6
      obtain rfl : fn = Tryz.f5 := (Option.some.inj (Tryz.func5.symm.trans hfn)).symm
      exact ⟨by kernel_rfl, fun j t ht => by
        rw [Tryz.params5] at ht
        have hm : t ∈ [23, 58, 59] := by simpa using Array.mem_of_getElem? ht
        have hall : ([23, 58, 59].all fun u => !Tryz.prog.wantsStandIn u) = true := by kernel_rfl
        exact (show Tryz.prog.wantsStandIn t = false by simpa using List.all_eq_true.1 hall t hm)⟩)
    (by kernel_rfl)
#print axioms LooksTables_holds
end Go.Proofs.YtdjpkkgcoainhaaGreatDoor
