/- The walks of the reference's flow, and of the law's comparison of frames. -/
import Derived.Test.YtfbmhfpffciojaaEnds
set_option maxRecDepth 100000
namespace Go.Proofs.Ytfbmhfpffciojaa
open Go.RowKit Go.Lat

/-- Where the reference's end lies: the numbers of s, and all texts. -/
def RfAt (w : World) (b : Nat) (tv : Value) (s : Fl) (all : List ByteArray) : Prop :=
  w.heap[b]? = some (.cells #[.int .i64 s.win, tv, .int .i64 s.base, .int .i64 s.next, .int .i64 s.wanted] 69 (0, 0)) ∧
  Rw w 9 1 tv all.length (all.map .string) ∧ tv.ownBlock ≠ some b

theorem RfAt.upd {w w' : World} {b : Nat} {tv : Value} {s : Fl} {all : List ByteArray} {S : Nat → Prop} (h : RfAt w b tv s all) (u : Upd w w' S) (hb : ¬ S b) (ht : ∀ k, tv.ownBlock = some k → ¬ S k) : RfAt w' b tv s all :=
  ⟨u.get h.1 hb, u.rw h.2.1 ht, h.2.2⟩

theorem Try.info64 : (Try.prog.info? 64).map (fun i => (i.zero, i.size, i.bytes)) = some (some (.agg #[.bool false, .int .i64 0, .string ByteArray.empty]), 3, 32) := by kernel_rfl

def RFrsAt (w : World) (v : Value) (l : List Fr) : Prop := Rw w 64 3 v l.length (frCells l)
def rfrs (all : List ByteArray) (f n : Nat) : List Fr := (List.range n).map fun i => ⟨false, (f + i : Nat), all.getD (f + i) ByteArray.empty⟩
theorem rfrs_succ (all : List ByteArray) (f n : Nat) : rfrs all f (n + 1) = rfrs all f n ++ [⟨false, (f + n : Nat), all.getD (f + n) ByteArray.empty⟩] := by simp [rfrs, List.range_succ]
theorem rfrs_len (all : List ByteArray) (f n : Nat) : (rfrs all f n).length = n := by simp [rfrs]
theorem frs_rfrs (s : Fl) (all : List ByteArray) (f n : Nat) (h : s.texts = all.drop s.base) (hf : s.base ≤ f) : s.frs f n = rfrs all f n := by
  unfold Fl.frs rfrs
  refine List.map_congr_left fun i _ => ?_
  have e : s.body (f + i) = all.getD (f + i) ByteArray.empty := by
    unfold Fl.body
    rw [h, List.getD_eq_getElem?_getD, List.getD_eq_getElem?_getD, List.getElem?_drop]
    congr 2
    omega
  rw [e]

theorem RfAt.text {w : World} {b : Nat} {tv : Value} {s : Fl} {all : List ByteArray} (h : RfAt w b tv s all) (j : Nat) (hj : j < all.length) :
    ∃ tb off cap, tv = .slice (some ⟨tb, off, none⟩) all.length cap ∧ tb < w.heap.size ∧ w.cell? ⟨tb, off + j, none⟩ = some (.string (all.getD j ByteArray.empty)) := by
  obtain ⟨tb, off, cap, rfl, hlt, hc⟩ := h.2.1.pos (by omega)
  exact ⟨tb, off, cap, rfl, hlt, hc j _ (by simp [hj])⟩

def RTickRel (w : World) (all : List ByteArray) (f n q : Nat) (v i : Value) (wr : World) : Prop :=
  ∃ k j : Nat, k + q = n ∧ j = f + k ∧ i = .int .i64 j ∧ RFrsAt wr v (rfrs all f k) ∧ Upd w wr (fun _ => False) ∧ (∀ k, v.ownBlock = some k → w.heap.size ≤ k)

set_option maxHeartbeats 1600000 in
theorem RefTick_any (w : World) (b : Nat) (tv : Value) (s : Fl) (all : List ByteArray) (hF : RfAt w b tv s all) (hb : s.base ≤ s.next) (hn : s.next ≤ all.length) (hl : all.length ≤ 1000000) :
    Calls Try.prog 23 #[.pointer (some ⟨b, 0, none⟩)] w fun e w' => ∃ v, e = .returned v ∧ RFrsAt w' v (rfrs all s.base (s.next - s.base)) ∧ Upd w w' (fun _ => False) ∧ (∀ k, v.ownBlock = some k → w.heap.size ≤ k) := by
  obtain ⟨h1, h2, h3⟩ := id hF
  obtain ⟨i0, hi, hz0, hz1, hz2⟩ := info_parts Try.info64
  obtain ⟨c0, c1, c2, c3, c4⟩ := cells5 h1
  have hlt := lt_at h1
  clear h1
  obtain ⟨n, en⟩ : ∃ n, s.next - s.base = n := ⟨_, rfl⟩
  rw [en]
  have hle : s.next = s.base + n := by omega
  go_enter Try.func23, Try.ntmps23
  go_wp2
  go_loopg [3, 4] n (fun q v i wr => RTickRel w all s.base n q v i wr)
  case atStart => exact ⟨0, s.base, by omega, rfl, rfl, Rw.nil _ _ _, Upd.refl _ _, by simp [Value.ownBlock]⟩
  case round =>
    obtain ⟨k, j, hk, hj, rfl, hv, hu, hob⟩ := hrel
    rw [RFrsAt, rfrs_len] at hv
    have d1 := (hu.cell b 1 hlt id).trans c1
    have d3 := (hu.cell b 3 hlt id).trans c3
    by_cases hkn : k < n
    · obtain ⟨tb, off, cap, rfl, htb, htc⟩ := hF.text j (by omega)
      have dt := (hu.cell tb _ htb id).trans htc
      have hjn : decide (j < s.next) = true := by simp; omega
      have hjl : (j : Int) < (all.length : Int) := by omega
      have hj0 : (0 : Int) ≤ (j : Int) := Int.natCast_nonneg _
      have hk1 : k + 1 ≤ 1000000 := by omega
      have e1 : rfrs all s.base (k + 1) = rfrs all s.base k ++ [⟨false, j, all.getD j ByteArray.empty⟩] := by rw [rfrs_succ, hj]
      have E1 := hide e1
      have HJ := hide hj
      have HL := hide hle
      have HE := hide en
      clear c0 c1 c2 c3 c4 htc e1 hj hle en
      go_wp2_with (at_builtin; go_loud (refine wpList_append_rw _ rfl _ _ 60 60 rfl 64 _ i0 _ 3 32 Try.underlying60 Try.underlying60 (by simp) hi hz0 hz1 hz2 rfl _ k _ rfl (hv.alloc _) _ 1 _ rfl (Rw.made _ _ _ 3 1 rfl).src rfl (by simp [Value.oneCell']) (by omega) (by omega) ?_); intro ga gc w1 hv' hg hob')
      have hr' : RTickRel w all s.base n (gk - 1) (.slice ga (k + 1) gc) (.int .i64 (j + 1 : Nat)) w1 := ⟨k + 1, j + 1, by omega, by have := HJ.out; omega, rfl, by rw [RFrsAt, rfrs_len, E1.out, frCells_app]; simpa [frCells, Fr.cells] using hv', (hu.alloc _).grown hg (fun k hk => .inl (hob k hk)), by
        intro i hi
        rcases hob' with e | e
        · exact hob i (Eq.trans (show u3.ownBlock = _ from e.symm) hi)
        · rw [e] at hi; simp at hi; have := hu.size; omega⟩
      go_roundg (gk - 1)
      case measure => omega
      case rel => exact hr'
    · have hjn : decide (j < s.next) = false := by simp; omega
      have : k = n := by omega
      subst this
      clear hle hj en
      go_wp2
      go_ret
      exact ⟨_, rfl, by rw [RFrsAt, rfrs_len]; exact hv, hu, hob⟩

def RReadyRel (w : World) (b : Nat) (tv : Value) (s : Fl) (all : List ByteArray) (n q : Nat) (v : Value) (wr : World) : Prop :=
  ∃ k j : Nat, k + q = n ∧ j = s.next + k ∧ RFrsAt wr v (rfrs all s.next k) ∧ RfAt wr b tv { s with next := j } all ∧ Upd w wr (fun i => i = b) ∧ (∀ k, v.ownBlock = some k → w.heap.size ≤ k)

set_option maxHeartbeats 1600000 in
theorem RefReady_any (w : World) (b : Nat) (tv : Value) (s : Fl) (all : List ByteArray) (hF : RfAt w b tv s all) (ok : s.Ok) (hall : all.length = s.base + s.texts.length) :
    Calls Try.prog 22 #[.pointer (some ⟨b, 0, none⟩)] w fun e w' => ∃ v, e = .returned v ∧ RFrsAt w' v (rfrs all s.next (s.upTo - s.next)) ∧ RfAt w' b tv { s with next := s.upTo } all ∧ Upd w w' (fun k => k = b) ∧ (∀ k, v.ownBlock = some k → w.heap.size ≤ k) := by
  have o1 := ok.win
  have o2 := ok.bn
  have o3 := ok.nt
  have o4 := ok.top
  have hlt := lt_at hF.1
  obtain ⟨i0, hi, hz0, hz1, hz2⟩ := info_parts Try.info64
  obtain ⟨n, en⟩ : ∃ n, s.upTo - s.next = n := ⟨_, rfl⟩
  rw [en]
  have hup : s.upTo = s.next + n := by unfold Fl.upTo at en ⊢; omega
  have hin : ∀ k, k < n → s.next + k < all.length ∧ s.next + k < s.base + s.win := fun k hk => by unfold Fl.upTo at en; omega
  have hout : ¬ (s.next + n < all.length ∧ s.next + n < s.base + s.win) := by unfold Fl.upTo at en; omega
  rw [hup]
  obtain ⟨sa0, cap0, htv, -⟩ := hF.2.1.form
  have h3 := hF.2.2
  have HA := hide hall
  clear en hup ok
  go_enter Try.func22, Try.ntmps22
  go_wp2
  go_loopg [3] n (fun q v wr => RReadyRel w b tv s all n q v wr)
  case atStart => exact ⟨0, s.next, by omega, rfl, Rw.nil _ _ _, hF, Upd.refl _ _, by simp [Value.ownBlock]⟩
  case round =>
    obtain ⟨k, j, hk, hj, hv, hR, hu, hob⟩ := hrel
    rw [RFrsAt, rfrs_len] at hv
    have hRt := hR.2.1
    have hRb := hide hR.1
    obtain ⟨d0, d1, d2, d3, d4⟩ := cells5 hR.1
    have f3 := free_at hR.1 3
    have hwr := hu.size
    simp only at d0 d1 d2 d3 d4
    clear hR
    by_cases hkn : k < n
    · obtain ⟨q1, q2⟩ := hin k hkn
      obtain ⟨tb, off, cap, rfl, htb, dt0⟩ := hF.text j (by omega)
      have nb2 : tb ≠ b := fun e => h3 (by rw [e]; rfl)
      have dt := (hu.cell tb (off + j) htb nb2).trans dt0
      have t1 : decide (j < all.length) = true := by simp; omega
      have t2 : decide ((j : Int) < (s.base : Int) + (s.win : Int)) = true := by simp; omega
      have hjl : (j : Int) < (all.length : Int) := by omega
      have hj0 : (0 : Int) ≤ (j : Int) := Int.natCast_nonneg _
      have hk1 : k + 1 ≤ 1000000 := by omega
      have e1 : rfrs all s.next (k + 1) = rfrs all s.next k ++ [⟨false, j, all.getD j ByteArray.empty⟩] := by rw [rfrs_succ, hj]
      generalize all.getD j ByteArray.empty = x at dt0 dt e1
      have E1 := hide e1
      have nb : u3.ownBlock ≠ some b := fun e => by have := hob _ e; omega
      have nt : u3.ownBlock ≠ some tb := fun e => by have := hob _ e; omega
      have wa : IntKind.i64.wrap ((s.base : Int) + (s.win : Int)) = (s.base : Int) + (s.win : Int) := IntWalk.i64_in _ (by omega)
      have HJ := hide hj
      have hj6 : j ≤ 1000000 := by omega
      clear e1 htv dt0 hj hall
      go_wp2_with fail
      go_quiet (fail)
      clear wa
      go_wp2_with fail
      go_region_held3 (fun w' => w'.cell? ⟨b, 1, none⟩ = some (.slice (some ⟨tb, off, none⟩) all.length cap) ∧ w'.cell? ⟨b, 3, none⟩ = some (.int .i64 j) ∧ w'.cell? ⟨tb, off + j, none⟩ = some (.string x))
        (first | go_keep | (go_split_ands; exact ⟨hg.cell (by assumption) (Ne.symm nb), hg.cell (by assumption) (Ne.symm nb), hg.cell (by assumption) (Ne.symm nt)⟩))
        ((go_loud (refine step_append_rw _ (by rfl) _ _ 60 60 (by rfl) 64 _ i0 _ 3 32 Try.underlying60 Try.underlying60 (by simp) hi hz0 hz1 hz2 rfl _ k _ (by rfl) ((hv.alloc _).drewN _) _ 1 _ (by rfl) (Rw.made _ _ _ 3 1 rfl).src rfl (by simp [Value.oneCell']) (by omega) (by omega) ?_); intro ga gc w1 hv' hg hob'))
      have hg2 : World.grownBy _ w1 u3.ownBlock := hg
      have hb1 := block_grown hg2 (block_alloc (w := wr) hRb.out _) nb
      have k3 := (cells5 hb1).2.2.2.1
      have kf := free_at hb1 3
      have HB := hide hb1
      clear hb1 d0 d1 d2 d3 d4 f3
      go_wp2
      have hr' : RReadyRel w b (.slice (some ⟨tb, off, none⟩) all.length cap) s all n (gk - 1) (.slice ga (k + 1) gc) (w1.setCell ⟨b, 3, none⟩ (.int .i64 (j + 1 : Nat))) := by
        have hob2 : ∀ i, (Value.slice ga (k + 1) gc).ownBlock = some i → w.heap.size ≤ i := by
          intro i hi
          rcases hob' with e | e
          · exact hob i (Eq.trans (show u3.ownBlock = _ from e.symm) hi)
          · rw [e] at hi; simp at hi; omega
        refine ⟨k + 1, j + 1, by omega, by have := HJ.out; omega, ?_, ⟨?_, ?_, h3⟩, ?_, hob2⟩
        · rw [RFrsAt, rfrs_len, E1.out, frCells_app]
          exact Rw.setCell (by simpa [frCells, Fr.cells] using hv') _ _ (fun e => by have := hob2 _ e; simp at this; omega)
        · have := block_setCell HB.out 3 (.int .i64 (j + 1 : Nat))
          simpa using this
        · exact Rw.setCell (Rw.grown (Rw.alloc (hRt.drewN (nq + 1)) _) hg2 (.inr (Ne.symm fun e => nt e))) _ _ h3
        · exact ((((hu.drewN (nq + 1)).alloc _).grown hg2 (fun i hi => .inl (hob i hi)))).setCell _ _ (.inr rfl)
      rw [show ((j + 1 : Nat) : Int) = (j : Int) + 1 from by omega] at hr'
      go_roundg (gk - 1)
      case measure => omega
      case rel => exact hr'
    · have hkn' : k = n := by omega
      subst hkn'
      subst htv
      by_cases hjl : j < all.length
      · have t1 : decide (j < all.length) = true := by simpa using hjl
        have t2 : decide ((j : Int) < (s.base : Int) + (s.win : Int)) = false := by simp; omega
        have wa : IntKind.i64.wrap ((s.base : Int) + (s.win : Int)) = (s.base : Int) + (s.win : Int) := IntWalk.i64_in _ (by omega)
        have HJ := hide hj
        clear hj hall
        go_wp2_with fail
        go_quiet (fail)
        go_wp2_with fail
        go_ret
        exact ⟨_, rfl, by rw [RFrsAt, rfrs_len]; exact hv, by rw [← HJ.out]; exact ⟨hRb.out, hRt, h3⟩, hu.drewN _, hob⟩
      · have t1 : decide (j < all.length) = false := by simpa using hjl
        have HJ := hide hj
        clear hj hall
        go_wp2_with fail
        go_quiet (fail)
        go_wp2_with fail
        go_ret
        exact ⟨_, rfl, by rw [RFrsAt, rfrs_len]; exact hv, by rw [← HJ.out]; exact ⟨hRb.out, hRt, h3⟩, hu.drewN _, hob⟩
end Go.Proofs.Ytfbmhfpffciojaa
