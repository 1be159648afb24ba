/- The walks of package flow, the rest. -/
import Derived.Test.YtfbmhfpffciojaaFlowB
set_option maxRecDepth 100000
namespace Go.Proofs.Ytfbmhfpffciojaa
open Go.RowKit Go.Lat

theorem came_any (w : World) (b : Nat) (tv : Value) (s : Fl) (n : Int) (hF : FlAt w b tv s) (ok : s.Ok) :
    Calls Try.prog 29 #[.pointer (some ⟨b, 0, none⟩), .int .i64 n] w fun e w' => e = .returned (.tuple #[]) ∧ ∃ tv', FlAt w' b tv' (s.came n) ∧ Upd w w' (fun k => k = b) ∧ tv'.ownBlock = tv.ownBlock := by
  by_cases h : (s.base : Int) < n ∧ n ≤ s.next
  · obtain ⟨m, rfl⟩ := Int.eq_ofNat_of_zero_le (show 0 ≤ n by omega)
    rw [Fl.came, if_pos h]
    exact came_in w b tv s m hF ok (by omega) (by omega)
  · rw [Fl.came, if_neg h]
    exact (came_out w b tv s n hF h).mono fun e w' ⟨he, hw⟩ => ⟨he, tv, by rw [hw]; exact hF, by rw [hw]; exact Upd.refl _ _, rfl⟩

theorem Fl.came_ok (s : Fl) (n : Int) (ok : s.Ok) : (s.came n).Ok := by
  obtain ⟨a, b, c, d, e⟩ := ok
  unfold Fl.came
  split
  · exact ⟨a, by simp; omega, by simp; omega, by simp; omega, e⟩
  · exact ⟨a, b, c, d, e⟩

theorem FlAt.upd {w w' : World} {b : Nat} {tv : Value} {s : Fl} {S : Nat → Prop} (h : FlAt w b tv s) (u : Upd w w' S) (hb : ¬ S b) (ht : ∀ k, tv.ownBlock = some k → ¬ S k) : FlAt w' b tv s :=
  ⟨u.get h.1 hb, u.rw h.2.1 ht, h.2.2⟩

set_option maxHeartbeats 800000 in
theorem Take_ack (w : World) (b : Nat) (tv : Value) (s : Fl) (n : Int) (body : ByteArray) (hF : FlAt w b tv s) (ok : s.Ok) :
    Calls Try.prog 14 #[.pointer (some ⟨b, 0, none⟩), .agg #[.bool true, .int .i64 n, .string body]] w fun e w' => e = .returned (.tuple #[.slice none 0 0, .slice none 0 0]) ∧ ∃ tv', FlAt w' b tv' (s.came n) ∧ Upd w w' (fun k => k = b) ∧ tv'.ownBlock = tv.ownBlock := by
  have hlt := lt_at hF.1
  go_enter Try.func14, Try.ntmps14
  go_wp2_with fail
  have hF1 : FlAt (w.alloc (.cells #[.bool true, .int .i64 n, .string body] 41)) b tv s := hF.upd ((Upd.refl w (fun _ => False)).alloc _) id (fun _ _ => id)
  refine Calls.mono (came_any _ b tv s n hF1 ok) ?_
  rintro e w1 ⟨rfl, tv', h1, h2, h3⟩
  go_wp2
  go_ret2
  exact ⟨rfl, tv', h1, ((Upd.refl w _).alloc _).then h2 (fun _ _ e => e), h3⟩

theorem Waits_any (w : World) (b : Nat) (tv : Value) (s : Fl) (hF : FlAt w b tv s) (ok : s.Ok) :
    Calls Try.prog 16 #[.pointer (some ⟨b, 0, none⟩)] w fun e w' => e = .returned (.tuple #[.int .i64 (s.base + s.texts.length - s.next : Nat), .int .i64 (s.next - s.base : Nat)]) ∧ ∃ n, w' = w.drewN n := by
  obtain ⟨h1, h2, h3⟩ := id hF
  obtain ⟨c0, c1, c2, c3, c4⟩ := cells5 h1
  have o2 := ok.bn
  have o3 := ok.nt
  have o4 := ok.top
  have e1 : ((s.base + s.texts.length - s.next : Nat) : Int) = (s.base : Int) + s.texts.length - s.next := by omega
  have e2 : ((s.next - s.base : Nat) : Int) = (s.next : Int) - s.base := by omega
  rw [e1, e2]
  clear h1 e1 e2
  go_enter Try.func16, Try.ntmps16
  go_wp2
  go_quiet ((go_at_call 27; exact Calls.quiet_of (sent_any _ _ _ s hF ok)))
  go_wp2
  go_ret2
  exact ⟨by simp, nq, rfl⟩

theorem Counts_any (w : World) (b : Nat) (tv : Value) (s : Fl) (hF : FlAt w b tv s) (ok : s.Ok) :
    Calls Try.prog 26 #[.pointer (some ⟨b, 0, none⟩)] w fun e w' => e = .returned (.tuple #[.int .i64 (s.base + s.texts.length : Nat), .int .i64 s.wanted]) ∧ ∃ n, w' = w.drewN n := by
  obtain ⟨h1, h2, h3⟩ := id hF
  obtain ⟨c0, c1, c2, c3, c4⟩ := cells5 h1
  clear h1
  go_enter Try.func26, Try.ntmps26
  go_wp2
  go_quiet ((go_at_call 27; exact Calls.quiet_of (sent_any _ _ _ s hF ok)))
  go_wp2
  go_ret2
  exact ⟨by simp, nq, rfl⟩

theorem Idle_any (w : World) (b : Nat) (tv : Value) (s : Fl) (hF : FlAt w b tv s) :
    Calls Try.prog 18 #[.pointer (some ⟨b, 0, none⟩)] w fun e w' => e = .returned (.bool (s.texts.length == 0)) ∧ w' = w := by
  obtain ⟨h1, h2, h3⟩ := id hF
  obtain ⟨c0, c1, c2, c3, c4⟩ := cells5 h1
  obtain ⟨sa, cap, rfl, -⟩ := h2.form
  clear h1 h2 h3 hF
  generalize s.texts.length = n at *
  go_enter Try.func18, Try.ntmps18
  go_wp2
  go_ret
  exact ⟨by simp; rw [Bool.eq_iff_iff]; simp, rfl⟩

theorem New_ok (w : World) (n : Nat) (h1 : 1 ≤ n) (h2 : n ≤ 64) :
    Calls Try.prog 11 #[.int .i64 n] w fun e w' => e = .returned (.tuple #[.pointer (some ⟨w.heap.size, 0, none⟩), .int .i64 0]) ∧ FlAt w' w.heap.size (.slice none 0 0) ⟨n, 0, 0, 0, []⟩ ∧ Upd w w' (fun _ => False) ∧ w'.heap.size = w.heap.size + 1 := by
  have d1 : decide ((n : Int) < 1) = false := by simp; omega
  have d2 : decide ((64 : Int) < (n : Int)) = false := by simp; omega
  clear h1 h2
  go_enter Try.func11, Try.ntmps11
  go_wp2
  go_ret2
  exact ⟨rfl, ⟨heap_alloc_new w _, Rw.nil _ _ _, by simp [Value.ownBlock]⟩, (Upd.refl w _).alloc _, by simp⟩

theorem New_no (w : World) (n : Int) (h1 : n < 1 ∨ 64 < n) :
    Calls Try.prog 11 #[.int .i64 n] w fun e w' => e = .returned (.tuple #[.pointer none, .int .i64 2]) ∧ w' = w := by
  by_cases d : n < 1
  · have d1 : decide (n < 1) = true := by simpa using d
    clear h1 d
    go_enter Try.func11, Try.ntmps11
    go_wp2
    go_ret2
    exact ⟨rfl, rfl⟩
  · have d1 : decide (n < 1) = false := by simpa using d
    have d2 : decide (64 < n) = true := by simp; omega
    clear h1 d
    go_enter Try.func11, Try.ntmps11
    go_wp2
    go_ret2
    exact ⟨rfl, rfl⟩

def Fl.got (s : Fl) (n : Int) (body : ByteArray) : List ByteArray := if n = s.wanted then [body] else []
def Fl.take (s : Fl) (n : Int) : Fl := if n = s.wanted then { s with wanted := s.wanted + 1 } else s

/-- What a frame that is no Ack leaves. -/
def TakePost (w : World) (b : Nat) (tv : Value) (s : Fl) (n : Int) (body : ByteArray) (e : Ending) (w' : World) : Prop :=
  ∃ v1 v2, e = .returned (.tuple #[v1, v2]) ∧ Rw w' 9 1 v1 (s.got n body).length ((s.got n body).map .string) ∧ FrsAt w' v2 [⟨true, (s.take n).wanted, ByteArray.empty⟩] ∧
    FlAt w' b tv (s.take n) ∧ Upd w w' (fun k => k = b) ∧ (∀ k, v1.ownBlock = some k → w.heap.size ≤ k) ∧ (∀ k, v2.ownBlock = some k → w.heap.size ≤ k) ∧ (∀ k, v1.ownBlock = some k → v2.ownBlock ≠ some k)

set_option maxHeartbeats 800000 in
theorem Take_no (w : World) (b : Nat) (tv : Value) (s : Fl) (n : Int) (body : ByteArray) (hF : FlAt w b tv s) (hn : n ≠ s.wanted) :
    Calls Try.prog 14 #[.pointer (some ⟨b, 0, none⟩), .agg #[.bool false, .int .i64 n, .string body]] w fun e w' => TakePost w b tv s n body e w' := by
  obtain ⟨h1, h2, h3⟩ := id hF
  obtain ⟨c0, c1, c2, c3, c4⟩ := cells5 h1
  have hlt := lt_at h1
  have hne : w.heap.size ≠ b := by omega
  have d1 : (n == (s.wanted : Int)) = false := by simpa using hn
  have e1 : s.got n body = [] := by simp [Fl.got, hn]
  have e2 : s.take n = s := by simp [Fl.take, hn]
  unfold TakePost
  rw [e1, e2]
  clear h1 hn e1 e2
  go_enter Try.func14, Try.ntmps14
  go_wp2
  go_quiet (fail)
  go_wp2
  go_region_held3 (fun w' => w'.cell? ⟨b, 3, none⟩ = some (.int .i64 s.wanted)) (go_keep) (fail)
  go_wp2
  go_ret2
  have u : Upd w (((w.alloc (.cells #[.bool false, .int .i64 n, .string body] 41)).drewN (nq + 1)).alloc (.cells #[.bool true, .int .i64 s.wanted, .string ⟨#[]⟩] 41)) (fun _ => False) := (((Upd.refl w _).alloc _).drewN _).alloc _
  have m := Rw.made ((w.alloc (.cells #[.bool false, .int .i64 n, .string body] 41)).drewN (nq + 1)) #[.bool true, .int .i64 s.wanted, .string ⟨#[]⟩] 41 3 1 rfl
  refine ⟨_, _, rfl, Rw.nil _ _ _, ?_, hF.upd u id (fun _ _ => id), u.weaken (fun _ _ => False.elim), by simp [Value.ownBlock], by simp [Value.ownBlock], by simp [Value.ownBlock]⟩
  rw [show w.heap.size + 1 = ((w.alloc (.cells #[.bool false, .int .i64 n, .string body] 41)).drewN (nq + 1)).heap.size from by simp]
  exact m

set_option maxHeartbeats 800000 in
theorem Take_yes (w : World) (b : Nat) (tv : Value) (s : Fl) (n : Int) (body : ByteArray) (hF : FlAt w b tv s) (ok : s.Ok) (hn : n = s.wanted) :
    Calls Try.prog 14 #[.pointer (some ⟨b, 0, none⟩), .agg #[.bool false, .int .i64 n, .string body]] w fun e w' => TakePost w b tv s n body e w' := by
  obtain ⟨h1, h2, h3⟩ := id hF
  obtain ⟨c0, c1, c2, c3, c4⟩ := cells5 h1
  have f3 := free_at h1 3
  have hlt := lt_at h1
  have hne : w.heap.size ≠ b := by omega
  have hne2 : w.heap.size + 1 ≠ b := by omega
  have o := ok.want
  have d1 : (n == (s.wanted : Int)) = true := by simpa using hn
  have e1 : s.got n body = [body] := by simp [Fl.got, hn]
  have e2 : s.take n = { s with wanted := s.wanted + 1 } := by simp [Fl.take, hn]
  unfold TakePost
  rw [e1, e2]
  have H1 := hide h1
  clear h1 hn e1 e2
  go_enter Try.func14, Try.ntmps14
  go_wp2
  go_quiet (fail)
  go_wp2
  have hne3 : w.heap.size + 2 ≠ b := by omega
  have hb3 := block_setCell (w := (w.alloc (.cells #[.bool false, .int .i64 n, .string body] 41)).drewN nq) (block_alloc H1.out _) 3 (.int .i64 (s.wanted + 1))
  have k3 := (cells5 hb3).2.2.2.1
  have HB := hide hb3
  clear hb3
  go_region_held3 (fun w' => w'.cell? ⟨b, 3, none⟩ = some (.int .i64 (s.wanted + 1))) (go_keep) (fail)
  go_wp2
  go_ret2
  have hs1 : (((w.alloc (.cells #[.bool false, .int .i64 n, .string body] 41)).drewN nq).setCell ⟨b, 3, none⟩ (.int .i64 (s.wanted + 1))).heap.size = w.heap.size + 1 := by simp
  have m1 := Rw.made (((w.alloc (.cells #[.bool false, .int .i64 n, .string body] 41)).drewN nq).setCell ⟨b, 3, none⟩ (.int .i64 (s.wanted + 1))) #[.string body] 9 1 1 rfl
  have m2 := Rw.made ((((w.alloc (.cells #[.bool false, .int .i64 n, .string body] 41)).drewN nq).setCell ⟨b, 3, none⟩ (.int .i64 (s.wanted + 1))).alloc (.cells #[.string body] 9)) #[.bool true, .int .i64 (s.wanted + 1 : Nat), .string ⟨#[]⟩] 41 3 1 rfl
  rw [hs1] at m1
  rw [World.size_alloc, hs1] at m2
  have m1' := m1.alloc (.cells #[.bool true, .int .i64 (s.wanted + 1 : Nat), .string ⟨#[]⟩] 41)
  have u : Upd w ((((w.alloc (.cells #[.bool false, .int .i64 n, .string body] 41)).drewN nq).setCell ⟨b, 3, none⟩ (.int .i64 (s.wanted + 1))).alloc (.cells #[.string body] 9)) (fun k => k = b) := ((((Upd.refl w (fun k => k = b)).alloc _).drewN nq).setCell ⟨b, 3, none⟩ _ (.inr rfl)).alloc _
  have u' := (u.alloc (.cells #[.bool true, .int .i64 (s.wanted + 1 : Nat), .string ⟨#[]⟩] 41)).drew
  exact ⟨_, _, rfl, m1'.drew, m2.drew, ⟨block_alloc (block_alloc HB.out _) _, u'.rw h2 (fun k hk e => h3 (by rw [hk, e])), h3⟩, u', by simp [Value.ownBlock], by simp [Value.ownBlock]; omega, by simp [Value.ownBlock]⟩

theorem Take_msg (w : World) (b : Nat) (tv : Value) (s : Fl) (n : Int) (body : ByteArray) (hF : FlAt w b tv s) (ok : s.Ok) :
    Calls Try.prog 14 #[.pointer (some ⟨b, 0, none⟩), .agg #[.bool false, .int .i64 n, .string body]] w fun e w' => TakePost w b tv s n body e w' := by
  by_cases h : n = s.wanted
  · exact Take_yes w b tv s n body hF ok h
  · exact Take_no w b tv s n body hF h
end Go.Proofs.Ytfbmhfpffciojaa
