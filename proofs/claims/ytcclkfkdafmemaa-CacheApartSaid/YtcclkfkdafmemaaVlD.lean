/- The walks of the reference's E, N, T, B, Good, Sound. -/
import Derived.Test.YtcclkfkdafmemaaVlC
set_option maxRecDepth 100000
namespace Go.Proofs.Ytcclkfkdafmemaa
open Go.RowKit Go.Lat

theorem Try.infoR : (Try.prog.info? 47).map (·.size) = some 5 := by kernel_rfl
theorem ret_rv {fn : Func} {p : Tmp} (h : fn.results = #[.cell p 47]) (tmps : Array Value) (W : World) (g : Nat) (x : Vl) (hp : tmps.getD p undef = .pointer (some ⟨g, 0, none⟩)) (hg : W.heap[g]? = some (.cells x.cs 47 (0, 0))) :
    (results fn tmps).run Try.prog W = .ok x.val W :=
  results_cell_row h tmps W g 47 x.cs (0, 0) _ hp hg Try.underlying47 rfl Try.infoR
theorem rblock5 {W : World} {g : Nat} {x : Vl} (h : W.heap[g]? = some (.cells x.cs 47 (0, 0))) (v0 v1 v2 v3 v4 : Value) :
    (((((W.setCell ⟨g, 0, none⟩ v0).setCell ⟨g, 1, none⟩ v1).setCell ⟨g, 2, none⟩ v2).setCell ⟨g, 3, none⟩ v3).setCell ⟨g, 4, none⟩ v4).heap[g]? = some (.cells #[v0, v1, v2, v3, v4] 47 (0, 0)) :=
  block_setCell (block_setCell (block_setCell (block_setCell (block_setCell h 0 v0) 1 v1) 2 v2) 3 v3) 4 v4

theorem RE_any (w : World) (f : Int) : Calls Try.prog 39 #[.int .i64 f] w fun e w' => e = .returned (mkE f).val ∧ Upd w w' (fun _ => False) := by
  unfold mkE
  by_cases h1 : f < 1
  · have h : okFail f = false := by simp [okFail]; omega
    have d1 : decide (f < 1) = true := by simpa using h1
    rw [h]
    simp only [Bool.false_eq_true, if_false]
    clear h h1
    go_enter Try.func39, Try.ntmps39
    go_wp2_with fail
    (try simp only [Exit.inBlock, Exit.then])
    refine bodyPost_ret (ret_rv rfl _ _ w.heap.size ⟨4, 0, [], false, 3⟩ rfl (Vnew1 w _)) rfl ?_
    exact ⟨rfl, (Upd.refl w _).alloc _⟩
  · have d1 : decide (f < 1) = false := by simpa using h1
    by_cases h2 : 8 < f
    · have h : okFail f = false := by simp [okFail]; omega
      have d2 : decide (8 < f) = true := by simpa using h2
      rw [h]
      simp only [Bool.false_eq_true, if_false]
      clear h h1 h2
      go_enter Try.func39, Try.ntmps39
      go_wp2_with fail
      (try simp only [Exit.inBlock, Exit.then])
      refine bodyPost_ret (ret_rv rfl _ _ w.heap.size ⟨4, 0, [], false, 3⟩ rfl (Vnew1 w _)) rfl ?_
      exact ⟨rfl, (Upd.refl w _).alloc _⟩
    · have h : okFail f = true := by simp [okFail]; omega
      have d2 : decide (8 < f) = false := by simpa using h2
      rw [h]
      simp only [if_true]
      clear h h1 h2
      go_enter Try.func39, Try.ntmps39
      go_wp2_with fail
      (try simp only [Exit.inBlock, Exit.then])
      refine bodyPost_ret (ret_rv rfl _ _ w.heap.size ⟨4, 0, [], false, f⟩ rfl (Vnew1 w _)) rfl ?_
      exact ⟨rfl, (Upd.refl w _).alloc _⟩
/-- The reference's word for what may be. -/
def rgoodV (x : Vl) : Bool :=
  let a := decide (x.n = 0); let b := decide (x.t = []); let c := !x.b; let d := decide (x.f = 0)
  if x.k = 0 then (a && b) && c && d else if x.k = 1 then (okNum x.n && b) && c && d else if x.k = 2 then (a && decide (x.t.length ≤ 255)) && c && d else if x.k = 3 then (a && b) && d else if x.k = 4 then ((a && b) && c && decide (1 ≤ x.f)) && decide (x.f ≤ 8) else false
theorem rgood_eq (x : Vl) : rgoodV x = goodV x := by
  obtain ⟨k, n, t, b, f⟩ := x
  unfold rgoodV goodV
  simp only
  by_cases h0 : k = 0
  · subst h0
    rw [if_pos rfl, if_pos rfl, Bool.eq_iff_iff, eqV_iff]
    simp [vZero]
    constructor
    · rintro ⟨⟨⟨rfl, rfl⟩, rfl⟩, rfl⟩; exact ⟨rfl, rfl, rfl, rfl⟩
    · rintro ⟨rfl, rfl, rfl, rfl⟩; exact ⟨⟨⟨rfl, rfl⟩, rfl⟩, rfl⟩
  · rw [if_neg h0, if_neg h0]
    by_cases h1 : k = 1
    · subst h1
      rw [if_pos rfl, if_pos rfl, Bool.eq_iff_iff, eqV_iff]
      unfold mkN
      cases ho : okNum n
      · simp [mkE]
      · simp
        constructor
        · rintro ⟨⟨rfl, rfl⟩, rfl⟩; exact ⟨rfl, rfl, rfl⟩
        · rintro ⟨rfl, rfl, rfl⟩; exact ⟨⟨rfl, rfl⟩, rfl⟩
    · rw [if_neg h1, if_neg h1]
      by_cases h2 : k = 2
      · subst h2
        rw [if_pos rfl, if_pos rfl, Bool.eq_iff_iff, eqV_iff]
        unfold mkT
        by_cases hl : t.length ≤ 255
        · simp [hl]
          constructor
          · rintro ⟨⟨rfl, rfl⟩, rfl⟩; exact ⟨rfl, rfl, rfl⟩
          · rintro ⟨rfl, rfl, rfl⟩; exact ⟨⟨rfl, rfl⟩, rfl⟩
        · simp [hl, mkE]
      · rw [if_neg h2, if_neg h2]
        by_cases h3 : k = 3
        · subst h3
          rw [if_pos rfl, if_pos rfl, Bool.eq_iff_iff, eqV_iff]
          simp [mkB]
          constructor
          · rintro ⟨⟨rfl, rfl⟩, rfl⟩; exact ⟨rfl, rfl, rfl⟩
          · rintro ⟨rfl, rfl, rfl⟩; exact ⟨⟨rfl, rfl⟩, rfl⟩
        · rw [if_neg h3, if_neg h3]
          by_cases h4 : k = 4
          · subst h4
            rw [if_pos rfl, if_pos rfl, Bool.eq_iff_iff, eqV_iff]
            unfold mkE
            cases ho : okFail f
            · have : ¬ (1 ≤ f ∧ f ≤ 8) := by simp [okFail] at ho; omega
              simp
              constructor
              · rintro ⟨⟨_, h⟩, h'⟩; exact absurd ⟨h, h'⟩ this
              · rintro ⟨_, _, _, rfl⟩; simp at this
            · have : 1 ≤ f ∧ f ≤ 8 := by simp [okFail] at ho; omega
              simp [this.1, this.2]
              constructor
              · rintro ⟨⟨rfl, rfl⟩, rfl⟩; exact ⟨rfl, rfl, rfl⟩
              · rintro ⟨rfl, rfl, rfl⟩; exact ⟨⟨rfl, rfl⟩, rfl⟩
          · rw [if_neg h4, if_neg h4]
end Go.Proofs.Ytcclkfkdafmemaa
