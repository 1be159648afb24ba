/- The walks of package flow: what each method does to the object. -/
import Derived.Test.YtfbmhfpffciojaaLib
set_option maxRecDepth 100000
namespace Go.Proofs.Ytfbmhfpffciojaa
open Go.RowKit Go.Lat

/-- What an end has. -/
structure Fl where
  win : Nat
  base : Nat
  next : Nat
  wanted : Nat
  texts : List ByteArray

/-- The numbers of an end are as they should be. -/
structure Fl.Ok (s : Fl) : Prop where
  win : s.win ≤ 64
  bn : s.base ≤ s.next
  nt : s.next ≤ s.base + s.texts.length
  top : s.base + s.texts.length ≤ 1000000
  want : s.wanted ≤ 1000000

def FlAt (w : World) (b : Nat) (tv : Value) (s : Fl) : Prop :=
  w.heap[b]? = some (.cells #[.int .i64 s.win, .int .i64 s.base, .int .i64 s.next, .int .i64 s.wanted, tv] 72 (0, 0)) ∧
  Rw w 9 1 tv s.texts.length (s.texts.map .string) ∧ tv.ownBlock ≠ some b

theorem Try.info9 : (Try.prog.info? 9).map (fun i => (i.zero, i.size, i.bytes)) = some (some (.string ByteArray.empty), 1, 16) := by kernel_rfl
theorem Try.info41 : (Try.prog.info? 41).map (fun i => (i.zero, i.size, i.bytes)) = some (some (.agg #[.bool false, .int .i64 0, .string ByteArray.empty]), 3, 32) := by kernel_rfl

set_option maxHeartbeats 400000 in
theorem sent_any (w : World) (b : Nat) (tv : Value) (s : Fl) (h : FlAt w b tv s) (ok : s.Ok) :
    Calls Try.prog 27 #[.pointer (some ⟨b, 0, none⟩)] w fun e w' => e = .returned (.int .i64 (s.base + s.texts.length : Nat)) ∧ ∃ n, w' = w.drewN n := by
  obtain ⟨h1, h2, h3⟩ := h
  obtain ⟨sa, cap, rfl, -⟩ := h2.form
  obtain ⟨c0, c1, c2, c3, c4⟩ := cells5 h1
  have ht := ok.top
  clear h1 h2 h3 ok
  generalize s.texts.length = n at *
  generalize s.base = base at *
  go_enter Try.func27, Try.ntmps27
  go_wp2
  go_quiet (fail)
  go_wp2
  skip
  go_ret
  exact ⟨by go_num, nq, rfl⟩
set_option maxHeartbeats 400000 in
theorem Send_any (w : World) (b : Nat) (tv : Value) (s : Fl) (body : ByteArray) (h : FlAt w b tv s) (ok : s.Ok) (hroom : s.base + s.texts.length < 1000000) :
    Calls Try.prog 15 #[.pointer (some ⟨b, 0, none⟩), .string body] w fun e w' => e = .returned (.int .i64 0) ∧
      ∃ tv', FlAt w' b tv' { s with texts := s.texts ++ [body] } ∧ Upd w w' (fun k => k = b ∨ tv.ownBlock = some k) ∧ (∀ k, tv'.ownBlock = some k → tv.ownBlock = some k ∨ w.heap.size ≤ k) := by
  obtain ⟨h1, h2, h3⟩ := id h
  obtain ⟨i0, hi, hz0, hz1, hz2⟩ := info_parts Try.info9
  obtain ⟨c0, c1, c2, c3, c4⟩ := cells5 h1
  have f4 := free_at h1 4
  have hlt := lt_at h1
  have H1 := hide h1
  have hlen : s.texts.length + 1 ≤ 1000000 := by omega
  obtain ⟨N, hN⟩ : ∃ N, N = s.base + s.texts.length := ⟨_, rfl⟩
  have hd : decide ((9007199254740992 : Int) ≤ (N : Int)) = false := by simp; omega
  have sent := fun w' h' => hN ▸ sent_any w' b tv s h' ok
  have HN := hide hN
  clear h1 hN hroom
  go_enter Try.func15, Try.ntmps15
  go_wp2_with fail
  refine (sent _ h).mono ?_; rintro e w' ⟨rfl, n1, rfl⟩
  go_wp2_with (at_builtin; go_loud (refine wpList_append_rw _ rfl _ _ 42 42 rfl 9 _ i0 _ 1 16 Try.underlying42 Try.underlying42 (by simp) hi hz0 hz1 hz2 rfl tv _ _ rfl ((h2.drewN _).alloc _) _ 1 [.string body] rfl (Rw.made _ _ _ 1 1 rfl).src rfl (by simp [Value.oneCell']) (by omega) (by omega) ?_); intro ga gc w1 hv' hg hob; have hb1 := block_grown hg (block_alloc H1.out _) h3; have g4 := (cells5 hb1).2.2.2.2; have gf := free_at hb1 4; have HB := hide hb1; clear hb1)
  go_ret
  have hne : (Value.slice ga (s.texts.length + 1) gc).ownBlock ≠ some b := by
    rcases hob with e | e <;> rw [e]
    · exact h3
    · simp; omega
  refine ⟨rfl, .slice ga (s.texts.length + 1) gc, ⟨block_setCell HB.out 4 _, by simpa using hv'.setCell _ _ hne, hne⟩, ?_, ?_⟩
  · exact ((((Upd.refl w _).drewN n1).alloc _).grown hg (fun k hk => .inr (.inr hk))).setCell _ _ (.inr (.inl rfl))
  · intro k hk
    rcases hob with e | e
    · exact .inl (by rw [← e]; exact hk)
    · rw [e] at hk; simp at hk; omega

/-- A frame. -/
structure Fr where
  ack : Bool
  seq : Int
  body : ByteArray
def Fr.cells (f : Fr) : List Value := [.bool f.ack, .int .i64 f.seq, .string f.body]
def frCells (l : List Fr) : List Value := l.flatMap Fr.cells
def FrsAt (w : World) (v : Value) (l : List Fr) : Prop := Rw w 41 3 v l.length (frCells l)
def Fl.body (s : Fl) (i : Nat) : ByteArray := s.texts.getD (i - s.base) ByteArray.empty
def Fl.frs (s : Fl) (f n : Nat) : List Fr := (List.range n).map fun i => ⟨false, (f + i : Nat), s.body (f + i)⟩
theorem Fl.frs_succ (s : Fl) (f n : Nat) : s.frs f (n + 1) = s.frs f n ++ [⟨false, (f + n : Nat), s.body (f + n)⟩] := by simp [Fl.frs, List.range_succ]
theorem Fl.frs_len (s : Fl) (f n : Nat) : (s.frs f n).length = n := by simp [Fl.frs]
theorem frCells_app (a b : List Fr) : frCells (a ++ b) = frCells a ++ frCells b := by simp [frCells]
theorem frCells_len (a : List Fr) : (frCells a).length = a.length * 3 := by
  induction a with
  | nil => rfl
  | cons x l ih => simp [frCells, Fr.cells] at *; omega

/-- The cell of a text of an end. -/
theorem FlAt.text {w : World} {b : Nat} {tv : Value} {s : Fl} (h : FlAt w b tv s) (j : Nat) (hj : j < s.texts.length) :
    ∃ tb off cap, tv = .slice (some ⟨tb, off, none⟩) s.texts.length cap ∧ tb < w.heap.size ∧ w.cell? ⟨tb, off + j, none⟩ = some (.string (s.texts.getD j ByteArray.empty)) := by
  obtain ⟨tb, off, cap, rfl, hlt, hc⟩ := h.2.1.pos (by omega)
  exact ⟨tb, off, cap, rfl, hlt, hc j _ (by simp [hj])⟩

def FramesRel (w : World) (s : Fl) (f n : Nat) (v i : Value) (wr : World) : Prop :=
  ∃ k : Nat, k ≤ n ∧ i = .int .i64 k ∧ FrsAt wr v (s.frs f k) ∧ Upd w wr (fun _ => False) ∧ (∀ k, v.ownBlock = some k → w.heap.size ≤ k)

set_option maxHeartbeats 1600000 in
theorem frames_any (w : World) (b : Nat) (tv : Value) (s : Fl) (f n : Nat) (h : FlAt w b tv s) (ok : s.Ok) (hf : s.base ≤ f) (hn : f + n ≤ s.base + s.texts.length) :
    Calls Try.prog 28 #[.pointer (some ⟨b, 0, none⟩), .int .i64 f, .int .i64 (f + n : Nat)] w fun e w' => ∃ v, e = .returned v ∧ FrsAt w' v (s.frs f n) ∧ Upd w w' (fun _ => False) ∧ (∀ k, v.ownBlock = some k → w.heap.size ≤ k) := by
  obtain ⟨h1, h2, h3⟩ := id h
  obtain ⟨i0, hi, hz0, hz1, hz2⟩ := info_parts Try.info41
  have htop := ok.top
  have hlt := lt_at h1
  have H1 := hide h1
  clear h1
  have eN : ((f : Int) + (n : Int) - (f : Int)) = (n : Int) := by omega
  go_enter Try.func28, Try.ntmps28
  go_wp2
  go_loopw [7, 12] (fun v i wr => FramesRel w s f n v i wr) (fun _ i _ => n - (intOf i).toNat)
  case atStart => exact ⟨0, Nat.zero_le _, rfl, Rw.nil _ _ _, Upd.refl _ _, by simp [Value.ownBlock]⟩
  case round =>
    obtain ⟨k, hk, rfl, hv, hu, hob⟩ := hrel
    rw [FrsAt, Fl.frs_len] at hv
    by_cases hkn : k < n
    · obtain ⟨tb, off, cap, rfl, htb, htc⟩ := h.text (f + k - s.base) (by omega)
      obtain ⟨c0, c1, c2, c3, c4⟩ := cells5 H1.out
      have d1 : wr.cell? ⟨b, 1, none⟩ = some (.int .i64 s.base) := by rw [World.cell?_of_block (hu.block b hlt id)]; exact c1
      have d4 : wr.cell? ⟨b, 4, none⟩ = some (.slice (some ⟨tb, off, none⟩) s.texts.length cap) := by rw [World.cell?_of_block (hu.block b hlt id)]; exact c4
      have dt : wr.cell? ⟨tb, off + (f + k - s.base), none⟩ = some (.string (s.body (f + k))) := by rw [World.cell?_of_block (hu.block tb htb id)]; exact htc
      clear c0 c1 c2 c3 c4 htc
      obtain ⟨j, hj⟩ : ∃ j : Nat, j = f + k - s.base := ⟨_, rfl⟩
      rw [← hj] at dt
      have hjl : (j : Int) < (s.texts.length : Int) := by omega
      have ej : ((f : Int) + (k : Int) - (s.base : Int)) = (j : Int) := by omega
      have hj0 : (0 : Int) ≤ (j : Int) := Int.natCast_nonneg _
      clear hj
      have nb : u7.ownBlock ≠ some b := fun e => by have := hob _ e; omega
      have nt : u7.ownBlock ≠ some tb := fun e => by have := hob _ e; omega
      go_wp2_with fail
      have wa : IntKind.i64.wrap ((f : Int) + (k : Int)) = (f : Int) + (k : Int) := IntWalk.i64_in _ (by omega)
      have wb : IntKind.i64.wrap (j : Int) = (j : Int) := IntWalk.i64_in _ (by omega)
      go_region_held3 (fun w' => w'.cell? ⟨b, 1, none⟩ = some (.int .i64 s.base) ∧ w'.cell? ⟨b, 4, none⟩ = some (.slice (some ⟨tb, off, none⟩) s.texts.length cap) ∧ w'.cell? ⟨tb, off + j, none⟩ = some (.string (s.body (f + k))))
        (first | go_keep | (go_split_ands; exact ⟨hg.cell (by assumption) (Ne.symm nb), hg.cell (by assumption) (Ne.symm nb), hg.cell (by assumption) (Ne.symm nt)⟩))
        ((go_loud (refine step_append_rw _ (by rfl) _ _ 38 38 (by rfl) 41 _ i0 _ 3 32 Try.underlying38 Try.underlying38 (by simp) hi hz0 hz1 hz2 rfl _ k _ (by rfl) ((hv.alloc _).drew) _ 1 _ (by rfl) (Rw.made _ _ _ 3 1 rfl).drew.src rfl (by simp [Value.oneCell']) (by omega) (by omega) ?_); intro ga gc w1 hv' hg hob'))
      clear wa wb
      go_wp2
      have hr' : FramesRel w s f n (.slice ga (k + 1) gc) (.int .i64 (k + 1)) w1 := ⟨k + 1, by omega, by go_num, by rw [FrsAt, Fl.frs_len, Fl.frs_succ, frCells_app]; simpa [frCells, Fr.cells] using hv', (hu.alloc _).drew.grown hg (fun k hk => .inl (hob k hk)), by
        intro i hi
        rcases hob' with e | e
        · exact hob i (by rw [← e]; exact hi)
        · rw [e] at hi; simp at hi; have := hu.size; omega⟩
      go_roundw
      case rel => exact ⟨_, _, _, hr', rfl, rfl, rfl⟩
      case measure => simp [intOf]; omega
    · go_wp2
      go_ret
      exact ⟨_, rfl, by have : k = n := by omega
                        subst this; rw [FrsAt, Fl.frs_len]; exact hv, hu, hob⟩
end Go.Proofs.Ytfbmhfpffciojaa
