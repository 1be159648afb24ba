/- The walks of the reference's flow, continued; the law's comparison of frames; the calls of no end. -/
import Derived.Test.YtfbmhfpffciojaaRef
set_option maxRecDepth 100000
namespace Go.Proofs.Ytfbmhfpffciojaa
open Go.RowKit Go.Lat

theorem RefNew_ok (w : World) (n : Nat) (h1 : 1 ≤ n) (h2 : n ≤ 64) :
    Calls Try.prog 20 #[.int .i64 n] w fun e w' => e = .returned (.tuple #[.pointer (some ⟨w.heap.size, 0, none⟩), .int .i64 0]) ∧ RfAt w' w.heap.size (.slice none 0 0) ⟨n, 0, 0, 0, []⟩ [] ∧ Upd w w' (fun _ => False) ∧ w'.heap.size = w.heap.size + 1 := by
  have d1 : decide ((n : Int) < 1) = false := by simp; omega
  have d2 : decide ((64 : Int) < (n : Int)) = false := by simp; omega
  clear h1 h2
  go_enter Try.func20, Try.ntmps20
  go_wp2
  go_ret2
  exact ⟨rfl, ⟨heap_alloc_new w _, Rw.nil _ _ _, by simp [Value.ownBlock]⟩, (Upd.refl w _).alloc _, by simp⟩

theorem RefNew_no (w : World) (n : Int) (h1 : n < 1 ∨ 64 < n) :
    Calls Try.prog 20 #[.int .i64 n] w fun e w' => e = .returned (.tuple #[.pointer none, .int .i64 2]) ∧ w' = w := by
  by_cases d : n < 1
  · have d1 : decide (n < 1) = true := by simpa using d
    clear h1 d
    go_enter Try.func20, Try.ntmps20
    go_wp2
    go_ret2
    exact ⟨rfl, rfl⟩
  · have d1 : decide (n < 1) = false := by simpa using d
    have d2 : decide (64 < n) = true := by simp; omega
    clear h1 d
    go_enter Try.func20, Try.ntmps20
    go_wp2
    go_ret2
    exact ⟨rfl, rfl⟩

set_option maxHeartbeats 400000 in
theorem RefSend_any (w : World) (b : Nat) (tv : Value) (s : Fl) (all : List ByteArray) (body : ByteArray) (hR : RfAt w b tv s all) (hroom : all.length < 1000000) :
    Calls Try.prog 25 #[.pointer (some ⟨b, 0, none⟩), .string body] w fun e w' => e = .returned (.tuple #[]) ∧
      ∃ tv', RfAt w' b tv' s (all ++ [body]) ∧ Upd w w' (fun k => k = b ∨ tv.ownBlock = some k) ∧ (∀ k, tv'.ownBlock = some k → tv.ownBlock = some k ∨ w.heap.size ≤ k) := by
  obtain ⟨h1, h2, h3⟩ := id hR
  obtain ⟨i0, hi, hz0, hz1, hz2⟩ := info_parts Try.info9
  obtain ⟨c0, c1, c2, c3, c4⟩ := cells5 h1
  have f4 := free_at h1 1
  have hlt := lt_at h1
  have H1 := hide h1
  clear h1
  go_enter Try.func25, Try.ntmps25
  go_wp2_with (at_builtin; go_loud (refine wpList_append_rw _ rfl _ _ 42 42 rfl 9 _ i0 _ 1 16 Try.underlying42 Try.underlying42 (by simp) hi hz0 hz1 hz2 rfl tv _ _ rfl (h2.alloc _) _ 1 [.string body] rfl (Rw.made _ _ _ 1 1 rfl).src rfl (by simp [Value.oneCell']) (by omega) (by omega) ?_); intro ga gc w1 hv' hg hob; have hb1 := block_grown hg (block_alloc H1.out _) h3; have g4 := (cells5 hb1).2.1; have gf := free_at hb1 1; have HB := hide hb1; clear hb1)
  go_end0
  have hne : (Value.slice ga (all.length + 1) gc).ownBlock ≠ some b := by
    rcases hob with e | e <;> rw [e]
    · exact h3
    · simp; omega
  refine ⟨rfl, .slice ga (all.length + 1) gc, ⟨block_setCell HB.out 1 _, by simpa using hv'.setCell _ _ hne, hne⟩, ?_, ?_⟩
  · exact (((Upd.refl w _).alloc _).grown hg (fun k hk => .inr (.inr hk))).setCell _ _ (.inr (.inl rfl))
  · intro k hk
    rcases hob with e | e
    · exact .inl (by rw [← e]; exact hk)
    · rw [e] at hk; simp at hk; omega

theorem RefTake_in (w : World) (b : Nat) (tv : Value) (s : Fl) (all : List ByteArray) (n : Nat) (body : ByteArray) (hR : RfAt w b tv s all) (hb : s.base < n) (hn : n ≤ s.next) :
    Calls Try.prog 24 #[.pointer (some ⟨b, 0, none⟩), .agg #[.bool true, .int .i64 n, .string body]] w fun e w' => e = .returned (.tuple #[.slice none 0 0, .slice none 0 0]) ∧ RfAt w' b tv { s with base := n } all ∧ Upd w w' (fun k => k = b) := by
  obtain ⟨h1, h2, h3⟩ := id hR
  obtain ⟨c0, c1, c2, c3, c4⟩ := cells5 h1
  have f2 := free_at h1 2
  have hlt := lt_at h1
  have hne : w.heap.size ≠ b := by omega
  have d1 : decide (s.base < n) = true := by simpa using hb
  have d2 : decide (n ≤ s.next) = true := by simpa using hn
  have H1 := hide h1
  clear h1 hb hn
  go_enter Try.func24, Try.ntmps24
  go_wp2
  go_quiet (fail)
  go_wp2
  go_ret2
  refine ⟨rfl, ⟨block_setCell (w := (w.alloc _).drewN nq) (block_alloc (w := w) H1.out _) 2 (.int .i64 n), ?_, h3⟩, ?_⟩
  · exact Rw.setCell ((h2.alloc _).drewN nq) _ _ h3
  · exact ((((Upd.refl w _).alloc _).drewN nq).setCell _ _ (.inr rfl))

theorem RefTake_out (w : World) (b : Nat) (tv : Value) (s : Fl) (all : List ByteArray) (n : Int) (body : ByteArray) (hR : RfAt w b tv s all) (hno : ¬ ((s.base : Int) < n ∧ n ≤ s.next)) :
    Calls Try.prog 24 #[.pointer (some ⟨b, 0, none⟩), .agg #[.bool true, .int .i64 n, .string body]] w fun e w' => e = .returned (.tuple #[.slice none 0 0, .slice none 0 0]) ∧ RfAt w' b tv s all ∧ Upd w w' (fun k => k = b) := by
  obtain ⟨h1, h2, h3⟩ := id hR
  obtain ⟨c0, c1, c2, c3, c4⟩ := cells5 h1
  have hlt := lt_at h1
  have hne : w.heap.size ≠ b := by omega
  have H1 := hide h1
  clear h1
  by_cases hbn : (s.base : Int) < n
  · have d2 : decide (n ≤ (s.next : Int)) = false := by simp; omega
    have d1 : decide ((s.base : Int) < n) = true := by simpa using hbn
    clear hno hbn
    go_enter Try.func24, Try.ntmps24
    go_wp2
    go_quiet (fail)
    go_wp2
    go_ret2
    exact ⟨rfl, ⟨block_alloc (w := w) H1.out _, (h2.alloc _).drewN nq, h3⟩, ((Upd.refl w _).alloc _).drewN nq⟩
  · have d1 : decide ((s.base : Int) < n) = false := by simpa using hbn
    clear hno hbn
    go_enter Try.func24, Try.ntmps24
    go_wp2
    go_quiet (fail)
    go_wp2
    go_ret2
    exact ⟨rfl, ⟨block_alloc (w := w) H1.out _, (h2.alloc _).drewN nq, h3⟩, ((Upd.refl w _).alloc _).drewN nq⟩

/-- What a frame leaves at the reference's end. -/
def RTakePost (w : World) (b : Nat) (tv : Value) (s : Fl) (all : List ByteArray) (y : Fr) (e : Ending) (w' : World) : Prop :=
  ∃ v1 v2, e = .returned (.tuple #[v1, v2]) ∧ Rw w' 9 1 v1 (s.outs y).length ((s.outs y).map .string) ∧ RFrsAt w' v2 (s.backs y) ∧ RfAt w' b tv (s.fed y) all ∧ Upd w w' (fun k => k = b) ∧
    (∀ k, v1.ownBlock = some k → w.heap.size ≤ k) ∧ (∀ k, v2.ownBlock = some k → w.heap.size ≤ k)

set_option maxHeartbeats 800000 in
theorem RefTake_no (w : World) (b : Nat) (tv : Value) (s : Fl) (all : List ByteArray) (n : Int) (body : ByteArray) (hR : RfAt w b tv s all) (hn : n ≠ s.wanted) :
    Calls Try.prog 24 #[.pointer (some ⟨b, 0, none⟩), .agg #[.bool false, .int .i64 n, .string body]] w fun e w' => RTakePost w b tv s all ⟨false, n, body⟩ e w' := by
  obtain ⟨h1, h2, h3⟩ := id hR
  obtain ⟨c0, c1, c2, c3, c4⟩ := cells5 h1
  have hlt := lt_at h1
  have hne : w.heap.size ≠ b := by omega
  have d1 : (n == (s.wanted : Int)) = false := by simpa using hn
  have e0 : s.take n = s := by simp [Fl.take, hn]
  have e1 : s.outs ⟨false, n, body⟩ = [] := by simp [Fl.outs, Fl.got, hn]
  have e2 : s.backs ⟨false, n, body⟩ = [⟨true, s.wanted, ByteArray.empty⟩] := by simp [Fl.backs, e0]
  have e3 : s.fed ⟨false, n, body⟩ = s := by simp [Fl.fed, e0]
  unfold RTakePost
  rw [e1, e2, e3]
  clear h1 hn e0 e1 e2 e3
  go_enter Try.func24, Try.ntmps24
  go_wp2
  go_quiet (fail)
  go_wp2
  go_region_held3 (fun w' => w'.cell? ⟨b, 4, none⟩ = some (.int .i64 s.wanted)) (go_keep) (fail)
  go_wp2
  go_ret2
  have u : Upd w (((w.alloc (.cells #[.bool false, .int .i64 n, .string body] 64)).drewN (nq + 1)).alloc (.cells #[.bool true, .int .i64 s.wanted, .string ⟨#[]⟩] 64)) (fun _ => False) := (((Upd.refl w _).alloc _).drewN _).alloc _
  have m := Rw.made ((w.alloc (.cells #[.bool false, .int .i64 n, .string body] 64)).drewN (nq + 1)) #[.bool true, .int .i64 s.wanted, .string ⟨#[]⟩] 64 3 1 rfl
  refine ⟨_, _, rfl, Rw.nil _ _ _, ?_, hR.upd u id (fun _ _ => id), u.weaken (fun _ _ => False.elim), by simp [Value.ownBlock], by simp [Value.ownBlock]⟩
  rw [show w.heap.size + 1 = ((w.alloc (.cells #[.bool false, .int .i64 n, .string body] 64)).drewN (nq + 1)).heap.size from by simp]
  exact m

set_option maxHeartbeats 800000 in
theorem RefTake_yes (w : World) (b : Nat) (tv : Value) (s : Fl) (all : List ByteArray) (n : Int) (body : ByteArray) (hR : RfAt w b tv s all) (o : s.wanted ≤ 1000000) (hn : n = s.wanted) :
    Calls Try.prog 24 #[.pointer (some ⟨b, 0, none⟩), .agg #[.bool false, .int .i64 n, .string body]] w fun e w' => RTakePost w b tv s all ⟨false, n, body⟩ e w' := by
  obtain ⟨h1, h2, h3⟩ := id hR
  obtain ⟨i0, hi, hz0, hz1, hz2⟩ := info_parts Try.info9
  obtain ⟨c0, c1, c2, c3, c4⟩ := cells5 h1
  have hlt := lt_at h1
  have hne : w.heap.size ≠ b := by omega
  have d1 : (n == (s.wanted : Int)) = true := by simpa using hn
  have e0 : s.take n = { s with wanted := s.wanted + 1 } := by simp [Fl.take, hn]
  have e1 : s.outs ⟨false, n, body⟩ = [body] := by simp [Fl.outs, Fl.got, hn]
  have e2 : s.backs ⟨false, n, body⟩ = [⟨true, (s.wanted + 1 : Nat), ByteArray.empty⟩] := by simp [Fl.backs, e0]
  have e3 : s.fed ⟨false, n, body⟩ = { s with wanted := s.wanted + 1 } := by simp [Fl.fed, e0]
  unfold RTakePost
  rw [e1, e2, e3]
  have H1 := hide h1
  clear h1 hn e0 e1 e2 e3
  go_enter Try.func24, Try.ntmps24
  go_wp2
  go_quiet (fail)
  have m1 := Rw.made ((w.alloc (.cells #[.bool false, .int .i64 n, .string body] 64)).drewN nq) #[.string body] 9 1 1 rfl
  rw [show ((w.alloc (.cells #[.bool false, .int .i64 n, .string body] 64)).drewN nq).heap.size = w.heap.size + 1 from by simp] at m1
  obtain ⟨tn, htn⟩ : ∃ tn, tn = Value.slice none 0 0 := ⟨_, rfl⟩
  rw [← htn]
  have hrn : ∀ w', Rw w' 9 1 tn 0 [] := fun w' => by rw [htn]; exact Rw.nil _ _ _
  have hon : tn.ownBlock = none := by rw [htn]; rfl
  clear htn
  go_wp2_with (at_builtin; go_loud (refine wpList_append_rw _ rfl _ _ 42 42 rfl 9 _ i0 _ 1 16 Try.underlying42 Try.underlying42 (by simp) hi hz0 hz1 hz2 rfl tn 0 [] rfl (hrn _) _ 1 [.string body] rfl m1.src rfl (by simp [Value.oneCell']) (by omega) (by omega) ?_); intro ga gc w1 hv' hg hob; go_loud (have hb1 : w1.heap[b]? = _ := block_grown hg (block_alloc (w := (w.alloc _).drewN nq) (block_alloc (w := w) H1.out _) _) (fun e => by have hz := hon.symm.trans e; cases hz)); have g4 := (cells5 hb1).2.2.2.2; have gf := free_at hb1 4; have HB := hide hb1; clear hb1)
  have hbz := block_setCell HB.out 4 (.int .i64 ((s.wanted : Int) + 1))
  have k4 := (cells5 hbz).2.2.2.2
  have HZ := hide hbz
  have ob : ∀ k, (Value.slice ga 1 gc).ownBlock = some k → w.heap.size + 2 ≤ k := by
    intro k hk
    rcases hob with e | e
    · have e2 := hk.symm.trans (e.trans hon)
      cases e2
    · have e2 := hk.symm.trans e
      simp at e2
      omega
  have HO := hide ob
  have hg2 : World.grownBy _ w1 tn.ownBlock := hg
  clear hbz g4 hob hg ob
  go_region_held3 (fun w' => w'.cell? ⟨b, 4, none⟩ = some (.int .i64 (s.wanted + 1))) (go_keep) (fail)
  go_wp2
  go_ret2
  have u : Upd w w1 (fun k => k = b) := ((((Upd.refl w _).alloc _).drewN nq).alloc _).grown hg2 (fun k hk => by rw [hon] at hk; cases hk)
  have u2 := ((u.setCell ⟨b, 4, none⟩ (.int .i64 ((s.wanted : Int) + 1)) (.inr rfl)).alloc (.cells #[.bool true, .int .i64 ((s.wanted : Int) + 1), .string ⟨#[]⟩] 64)).drew
  have m2 := Rw.made (w1.setCell ⟨b, 4, none⟩ (.int .i64 ((s.wanted : Int) + 1))) #[.bool true, .int .i64 ((s.wanted + 1 : Nat) : Int), .string ⟨#[]⟩] 64 3 1 rfl
  rw [show (w1.setCell ⟨b, 4, none⟩ (.int .i64 ((s.wanted : Int) + 1))).heap.size = w1.heap.size from by simp] at m2
  have hv2 : Rw w1 9 1 (.slice ga 1 gc) 1 [.string body] := hv'
  have v1r := ((hv2.setCell ⟨b, 4, none⟩ (.int .i64 ((s.wanted : Int) + 1)) (fun e => by have := HO.out _ e; simp at this; omega)).alloc (.cells #[.bool true, .int .i64 ((s.wanted : Int) + 1), .string ⟨#[]⟩] 64)).drew
  have us := u.size
  exact ⟨_, _, rfl, v1r, m2.drew, ⟨block_alloc HZ.out _, u2.rw h2 (fun k hk e => h3 (by rw [hk, e])), h3⟩, u2, fun k hk => by have := HO.out k hk; omega, by simp [Value.ownBlock]; exact us⟩

/-- Whatever frame comes to the reference's end. -/
theorem RefTake_any (w : World) (b : Nat) (tv : Value) (s : Fl) (all : List ByteArray) (y : Fr) (hR : RfAt w b tv s all) (o : s.wanted ≤ 1000000) :
    Calls Try.prog 24 #[.pointer (some ⟨b, 0, none⟩), .agg #[.bool y.ack, .int .i64 y.seq, .string y.body]] w fun e w' => RTakePost w b tv s all y e w' := by
  obtain ⟨ack, seq, body⟩ := y
  cases ack with
  | true =>
    by_cases h : (s.base : Int) < seq ∧ seq ≤ s.next
    · obtain ⟨m, rfl⟩ := Int.eq_ofNat_of_zero_le (show 0 ≤ seq by omega)
      refine Calls.mono (RefTake_in w b tv s all m body hR (by omega) (by omega)) ?_
      rintro e w' ⟨rfl, h1, h2⟩
      have hc : s.fed ⟨true, m, body⟩ = { s with base := m, texts := s.texts.drop (m - s.base) } := by
        simp only [Fl.fed, Fl.came]
        rw [if_pos h]
        rfl
      unfold RTakePost
      rw [hc]
      exact ⟨_, _, rfl, Rw.nil _ _ _, Rw.nil _ _ _, h1, h2, by simp [Value.ownBlock], by simp [Value.ownBlock]⟩
    · refine Calls.mono (RefTake_out w b tv s all seq body hR h) ?_
      rintro e w' ⟨rfl, h1, h2⟩
      have hc : s.fed ⟨true, seq, body⟩ = s := by
        simp only [Fl.fed, Fl.came]
        rw [if_neg h]
        rfl
      unfold RTakePost
      rw [hc]
      exact ⟨_, _, rfl, Rw.nil _ _ _, Rw.nil _ _ _, h1, h2, by simp [Value.ownBlock], by simp [Value.ownBlock]⟩
  | false =>
    by_cases h : seq = s.wanted
    · exact RefTake_yes w b tv s all seq body hR o h
    · exact RefTake_no w b tv s all seq body hR h
end Go.Proofs.Ytfbmhfpffciojaa
