/- The walk of FixedReads. -/
import Derived.Test.YtckpomcenkgekaaDoorTxB
import Derived.Test.YtckpomcenkgekaaDoorPsI
import Derived.Test.YtckpomcenkgekaaDoorWak
set_option maxRecDepth 100000
namespace Go.Proofs.YtckpomcenkgekaaDoor
open Go.RowKit Go.Lat

theorem Text_both (a : Int) : ∃ t : ByteArray,
    (∀ w, Pow w → Calls Tryd.prog 18 #[.int .i64 a] w fun e w' => e = .returned (.string t) ∧ Upd w w' (fun _ => False)) ∧
    (∀ w, Calls Tryd.prog 19 #[.int .i64 a] w fun e w' => e = .returned (.string t) ∧ Upd w w' (fun _ => False)) := by
  cases h : okNum a with
  | false => exact ⟨_, fun w _ => Text_bad w a h, fun w => RefText_bad w a h⟩
  | true =>
    have ba := okNum_true h
    obtain ⟨s, x, ea, h0, hs, hx⟩ := signed a
    have hx9 : x ≤ 9000000000000000000 := by omega
    refine ⟨⟨(txt s x).toArray⟩, fun w ht => ?_, fun w => ?_⟩
    · have := Text_any s x hx9 h0 w ht
      rw [← ea] at this
      exact this
    · have key : Calls Tryd.prog 19 #[.int .i64 a] w fun e w' => (∃ t : ByteArray, e = .returned (.string t) ∧ t.data.toList = txt s x) ∧ Upd w w' (fun _ => False) := by
        cases hsb : s with
        | true =>
          rw [← hsb]
          exact RefText_neg w a h s hsb x ea hs hx9
        | false =>
          rw [← hsb]
          exact RefText_pos w a h s hsb x ea hs hx9
      refine Calls.mono key ?_
      rintro e w' ⟨⟨t, rfl, et⟩, u⟩
      exact ⟨by rw [Go.WideShapes.bytes_inj (show t.data.toList = (⟨(txt s x).toArray⟩ : ByteArray).data.toList from et)], u⟩

set_option maxHeartbeats 1600000 in
theorem reads_at (w : World) (s : ByteArray) (a : Int) (ht : Pow w) (t : ByteArray) (h : s.size ≤ 100 ∧ s = t ∨ 100 < s.size ∧ s.extract 0 100 = t) (hsz : t.size ≤ 1000) :
    Calls Tryd.prog 4 #[.string s, .int .i64 a] w fun e w' => e = .returned (.bool true) ∧ Upd w w' (fun _ => False) := by
  obtain ⟨V, E, A, B⟩ := Parse_both t hsz
  obtain ⟨tx, T1, T2⟩ := Text_both a
  rcases h with ⟨hs, rfl⟩ | ⟨hs, he⟩
  · have m1 : min (s.size : Int) 100 = (s.size : Int) := by omega
    have m2 : min 100 (s.size : Int) = (s.size : Int) := by omega
    go_enter Tryd.func4, Tryd.ntmps4
    go_wp2_with fail
    refine Calls.mono (A _) ?_
    rintro e w1 ⟨rfl, u1⟩
    go_wp2_with fail
    refine Calls.mono (B _) ?_
    rintro e w2 ⟨rfl, u2⟩
    go_wp2_with fail
    have u12 := u1.then u2 (fun _ _ => id)
    refine Calls.mono (wakes_any _ (ht.upd u12 id)) ?_
    rintro e w3 ⟨rfl, u3⟩
    have u13 := u12.then u3 (fun _ _ => id)
    go_wp2_with fail
    refine Calls.mono (T1 _ (ht.upd u13 id)) ?_
    rintro e w4 ⟨rfl, u4⟩
    go_wp2_with fail
    refine Calls.mono (T2 _) ?_
    rintro e w5 ⟨rfl, u5⟩
    go_wp2_with fail
    go_ret
    exact ⟨by simp, (u13.then u4 (fun _ _ => id)).then u5 (fun _ _ => id)⟩
  · have m1 : min (s.size : Int) 100 = 100 := by omega
    have m2 : min 100 (s.size : Int) = 100 := by omega
    have c1 : (100 : Int) ≤ (s.size : Int) := by omega
    go_enter Tryd.func4, Tryd.ntmps4
    go_wp2_with fail
    refine Calls.mono (A _) ?_
    rintro e w1 ⟨rfl, u1⟩
    go_wp2_with fail
    refine Calls.mono (B _) ?_
    rintro e w2 ⟨rfl, u2⟩
    go_wp2_with fail
    have u12 := u1.then u2 (fun _ _ => id)
    refine Calls.mono (wakes_any _ (ht.upd u12 id)) ?_
    rintro e w3 ⟨rfl, u3⟩
    have u13 := u12.then u3 (fun _ _ => id)
    go_wp2_with fail
    refine Calls.mono (T1 _ (ht.upd u13 id)) ?_
    rintro e w4 ⟨rfl, u4⟩
    go_wp2_with fail
    refine Calls.mono (T2 _) ?_
    rintro e w5 ⟨rfl, u5⟩
    go_wp2_with fail
    go_ret
    exact ⟨by simp, (u13.then u4 (fun _ _ => id)).then u5 (fun _ _ => id)⟩

theorem FixedReads_any (w : World) (s : ByteArray) (a : Int) (ht : Pow w) : Calls Tryd.prog 4 #[.string s, .int .i64 a] w fun e w' => e = .returned (.bool true) ∧ Upd w w' (fun _ => False) := by
  by_cases h : s.size ≤ 100
  · exact reads_at w s a ht s (.inl ⟨h, rfl⟩) (by omega)
  · exact reads_at w s a ht (s.extract 0 100) (.inr ⟨by omega, rfl⟩) (by simp; omega)
end Go.Proofs.YtckpomcenkgekaaDoor
