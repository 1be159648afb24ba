/- WebPlays holds: for all calls and all places the law returns true and leaves its arguments as they were. No condition. -/
import Derived.Test.YtcdimledeomahaaWebPa
import Derived.Test.YtcdimledeomahaaWebArg
import Derived.Test.YtcdimledeomahaaRows
import Derived.ChangeMaps5
set_option maxRecDepth 100000
namespace Go.Proofs.Ytcdimledeomahaa
open Go.ChangeShapes Go.WideShapes Go.ChangeAt Go.RowKit Go.Deep Go.Lat

theorem Try.own : ownKnob Try.prog.godebug = none := by kernel_rfl

section
variable {H : Type} {enc : TypeId × Value → H} {W : World} {base : Nat} {spare : Nat → Bool} {held : Bool}
/-- An argument of calls. -/
theorem acts_open {n : Nat} {v : Value} {y : DataW H × List MemPlace} (h : DataW.trod enc Try.prog W base spare held n 53 [v] = some y) : ∃ l, AcArg W v l := by
  rcases open_slice Try.underlying53 h with ⟨h0, _⟩ | ⟨a, len, cap, m, n', D, Pl, hcs, hb, hl, hm, hmm, hx, hi⟩
  · simp at h0
    subst h0
    exact ⟨[], none, 0, rfl, by simp, by simp, fun _ => rfl, fun i x hx => by simp at hx⟩
  · simp at hcs
    subst hcs
    have h4 : Try.prog.cellsOf 61 = 4 := by kernel_rfl
    have hs : Try.prog.cellsOf 9 = 1 := by kernel_rfl
    have hi1 : Try.prog.cellsOf 3 = 1 := by kernel_rfl
    have hi2 : Try.prog.cellsOf 2 = 1 := by kernel_rfl
    have h1 : Try.prog.cellsOf 59 = 1 := by kernel_rfl
    have hall : ∀ i, i < len → ∃ x : Ac, ∃ ca cl cc, W.cell? (a.add (i * 4)) = some (.int .i64 x.dv) ∧ W.cell? (a.add (i * 4 + 1)) = some (encStr x.nm) ∧ W.cell? (a.add (i * 4 + 2)) = some (.int .i64 x.ver) ∧ W.cell? (a.add (i * 4 + 3)) = some (.slice ca cl cc) ∧ ClArg W (.slice ca cl cc) x.cells := by
      intro i hil
      obtain ⟨cs', hc, ht⟩ := hi i (by rw [hmm]; split <;> omega)
      rw [h4] at hc
      obtain ⟨_, hcl, hat⟩ := World.cells?_some hc
      obtain ⟨ys, m', rfl, hd, hl6, hyl, hf⟩ := DataW.trod_struct Try.underlying61 ht
      have hyl4 : ys.length = 4 := hyl
      have f0 := hf 0 _ rfl
      have f1 := hf 1 _ rfl
      have f2 := hf 2 _ rfl
      have f3 := hf 3 _ rfl
      change DataW.trod enc Try.prog W base spare held _ 3 ((cs'.drop 0).take (Try.prog.cellsOf 3)) = _ at f0
      change DataW.trod enc Try.prog W base spare held _ 9 ((cs'.drop 1).take (Try.prog.cellsOf 9)) = _ at f1
      change DataW.trod enc Try.prog W base spare held _ 2 ((cs'.drop 2).take (Try.prog.cellsOf 2)) = _ at f2
      change DataW.trod enc Try.prog W base spare held _ 59 ((cs'.drop 3).take (Try.prog.cellsOf 59)) = _ at f3
      rw [hi1] at f0
      rw [hs] at f1
      rw [hi2] at f2
      rw [h1] at f3
      rw [take1 (by omega), List.getElem?_eq_getElem (by omega)] at f0 f1 f2 f3
      obtain ⟨n0, e0, _, _⟩ := DataW.trod_int Try.underlying3 f0
      obtain ⟨s1, e1, _, _⟩ := DataW.trod_string Try.underlying9 f1
      obtain ⟨n2, e2, _, _⟩ := DataW.trod_int Try.underlying2 f2
      obtain ⟨l, hl⟩ := cells_open f3
      obtain ⟨ca, cc, e3, _⟩ := id hl
      simp only [List.cons.injEq, and_true] at e0 e1 e2
      have p : ∀ j (hj : j < 4), W.cell? (a.add (i * 4 + j)) = cs'[j]? := by
        intro j hj
        have := hat j hj
        rw [Go.Deep.add_add] at this
        rw [this, List.getElem?_eq_getElem (by omega)]
      refine ⟨⟨n0, s1.data.toList, n2, l⟩, ca, l.length, cc, ?_, ?_, ?_, ?_, by rw [← e3]; exact hl⟩
      · have := p 0 (by omega); rw [List.getElem?_eq_getElem (by omega), e0] at this; simpa using this
      · have := p 1 (by omega); rw [List.getElem?_eq_getElem (by omega), e1] at this; rw [this, enc_string]
      · have := p 2 (by omega); rw [List.getElem?_eq_getElem (by omega), e2] at this; exact this
      · have := p 3 (by omega); rw [List.getElem?_eq_getElem (by omega)] at this; rw [this]; exact congrArg some e3
    obtain ⟨A, hA⟩ := choose_fn (⟨0, [], 0, []⟩ : Ac) hall
    refine ⟨(List.range len).map A, some a, cap, by simp, by simpa using hl, hm, by simp, fun i x hx => ?_⟩
    have hil : i < len := by have := (List.getElem?_eq_some_iff.1 hx).1; simpa using this
    have hxA : A i = x := by simpa [hil] using hx
    subst hxA
    obtain ⟨_, _, _, z0, -⟩ := hA 0 (by omega)
    have hs := cell_spot z0
    obtain ⟨ca, cl, cc, k0, k1, k2, k3, k4⟩ := hA i hil
    obtain ⟨ab, ao, asp⟩ := a
    have hsp : asp = none := by
      cases asp with
      | none => rfl
      | some q => simp [Addr.add] at hs
    subst hsp
    simp only [add_off, ← Nat.add_assoc] at k0 k1 k2 k3
    exact ⟨ab, ao, ca, cl, cc, rfl, World.block_lt_of_cell? W _ k0, k0, k1, k2, k3, k4⟩
end

set_option maxRecDepth 100000 in
theorem WebPlays_lifted (os : Os) (started : os.Started) (H : Type) (enc : TypeId × Value → H) :
    ReturnsInHanded {} Try.checked os 4 .any (Rows.webPlaysSpec.pre6 enc Try.prog Try.f4 Rows.webPlaysRow.domain false) (Rows.webPlaysSpec.post enc Try.prog Try.f4 false true false false) := by
  refine returnsInHanded_of_change (C := Try.checked) Try.own started (by kernel_rfl) Try.func4
    (ChangeSpec.witness6 (enc := enc) (C := Try.checked) false ⟨#[], #[.slice none 0 0, .slice none 0 0], []⟩ 8 (by kernel_rfl) (by kernel_rfl) (by kernel_rfl) (by kernel_rfl)) ?_
  intro W base args ds gs before hval0 hW hcnd _
  have hval : ∀ (j : Nat) t v, Try.f4.params[j]? = some t → args[j]? = some v → Value.okWide Try.prog W .any base t v := hval0
  have hW' := hW
  obtain ⟨p, q, hA0, hV, rfl, hfz, hnd⟩ := hW
  have hA : DataW.TrodAll enc Try.prog W 0 (fun _ => true) true Try.f4.params.toList args.toList ds p := hA0
  rw [Try.params4] at hA hval
  obtain ⟨v0, v1, d0, d1, p0, p1, rfl, rfl, rfl, h0, h1⟩ := trodAll_two hA
  obtain ⟨rfl, rfl⟩ := trodVars_none hV
  obtain ⟨a0, l0, c0, rfl⟩ := okWide_slice Try.underlying53 (hval 0 53 v0 rfl rfl)
  obtain ⟨f0, hf0⟩ := h0
  obtain ⟨acs, hacs⟩ := acts_open hf0
  obtain ⟨a1, l1, c1, rfl⟩ := okWide_slice Try.underlying54 (hval 1 54 v1 rfl rfl)
  obtain ⟨f1, hf1⟩ := h1
  obtain ⟨l, hl⟩ := places_open hf1
  clear hA0 hval0
  refine (WebPlays_walk W _ acs hacs _ l hl).mono fun e W' ⟨he, hu⟩ => ?_
  exact ⟨_, he, law_post Try.laidOut hW' rfl rfl (by kernel_rfl) rfl Try.underlying4 hu⟩

theorem WebPlays_holds : Rows.WebPlaysSaid :=
  OpenClaim.holds_of_wide 4 Try.f4 rfl rfl rfl rfl rfl rfl rfl ⟨rfl, rfl, rfl, rfl, rfl⟩ rfl rfl rfl rfl rfl (by kernel_rfl) Try.func4 (by kernel_rfl)
    (of_decide_eq_true (by kernel_rfl)) (by unfold Func.isWrapper; rw [if_neg (of_decide_eq_false (by kernel_rfl))]; exact ⟨rfl, rfl⟩)
    (fun os started H enc _ => WebPlays_lifted os started H enc)
#print axioms WebPlays_holds
end Go.Proofs.Ytcdimledeomahaa
