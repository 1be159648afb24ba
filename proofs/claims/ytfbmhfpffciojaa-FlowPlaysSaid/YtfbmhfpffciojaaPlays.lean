/- The law FlowPlays walked. -/
import Derived.Test.YtfbmhfpffciojaaTwoB
import Derived.Deep.CutBlock
set_option maxRecDepth 100000
namespace Go.Proofs.Ytfbmhfpffciojaa
open Go.RowKit Go.Lat

theorem FlowPlays_no (w : World) (win : Int) (v : Value) (hwin : win < 1 ∨ 64 < win) :
    Calls Try.prog 6 #[.int .i64 win, v] w fun e w' => e = .returned (.bool true) ∧ Upd w w' (fun _ => False) := by
  go_enter Try.func6, Try.ntmps6
  go_wp2_with fail
  refine Calls.mono (New_no w win hwin) ?_
  rintro e w1 ⟨rfl, rfl⟩
  go_wp2_with fail
  refine Calls.mono (RefNew_no _ win hwin) ?_
  rintro e w1 ⟨rfl, rfl⟩
  go_wp2_with fail
  refine Calls.mono (wakes_any _) ?_
  rintro e w1 ⟨rfl, hu⟩
  go_wp2_with fail
  refine Calls.mono (Take_nil w1 _ _ _) ?_
  rintro e w2 ⟨rfl, hu2⟩
  go_wp2_with fail
  refine Calls.mono (Waits_nil _) ?_
  rintro e w3 ⟨rfl, rfl⟩
  go_wp2_with fail
  refine Calls.mono (Send_nil _ _) ?_
  rintro e w3 ⟨rfl, rfl⟩
  go_wp2_with fail
  refine Calls.mono (Idle_nil _) ?_
  rintro e w3 ⟨rfl, rfl⟩
  go_wp2_with fail
  refine Calls.mono (Ready_nil _) ?_
  rintro e w3 ⟨rfl, rfl⟩
  go_wp2_with fail
  refine Calls.mono (Tick_nil _) ?_
  rintro e w3 ⟨rfl, rfl⟩
  go_wp2_with fail
  go_ret
  exact ⟨rfl, hu.then hu2 (fun _ _ => id)⟩

/-- What holds at every round's head. -/
def PlayRel (w : World) (N b c : Nat) (q : Nat) (i : Value) (wr : World) : Prop :=
  ∃ (k : Nat) (tv tr : Value) (s : Fl) (all : List ByteArray), k + q = N ∧ i = .int .i64 k ∧ Two w wr b c tv tr s s all ∧ Agree s all k

set_option maxHeartbeats 1600000 in
theorem FlowPlays_in (w : World) (W : Nat) (W1 : 1 ≤ W) (W64 : W ≤ 64) (v : Value) (n : Nat) (A : Nat → ActD) (hA : ActsAt w v n A)
    (hdo : ∀ i, i < n → -9223372036854775808 ≤ (A i).dov ∧ (A i).dov ≤ 9223372036854775807) :
    Calls Try.prog 6 #[.int .i64 W, v] w fun e w' => e = .returned (.bool true) ∧ Upd w w' (fun _ => False) := by
  obtain ⟨a, cap, rfl, hnc, hcm, hcell⟩ := hA
  obtain ⟨N, eN⟩ : ∃ N : Nat, min (n : Int) 80 = (N : Int) := ⟨min n 80, by omega⟩
  have hNn : N ≤ n := by omega
  have hN80 : N ≤ 80 := by omega
  go_enter Try.func6, Try.ntmps6
  go_wp2_with fail
  refine Calls.mono (New_ok w W W1 W64) ?_
  rintro e w1 ⟨rfl, hF, hu, hsz⟩
  go_wp2_with fail
  refine Calls.mono (RefNew_ok w1 W W1 W64) ?_
  rintro e w2 ⟨rfl, hR, hu2, hsz2⟩
  have T0 : Two w w2 w.heap.size w1.heap.size (.slice none 0 0) (.slice none 0 0) ⟨W, 0, 0, 0, []⟩ ⟨W, 0, 0, 0, []⟩ [] :=
    ⟨hF.upd hu2 id (fun _ _ => id), hR, hu.then hu2 (fun _ _ => id), by omega, by omega, by omega, by simp [Value.ownBlock], by simp [Value.ownBlock], by simp [Value.ownBlock], by simp [Value.ownBlock], by simp [Value.ownBlock]⟩
  clear hF hR hu hu2 hsz hsz2
  generalize w.heap.size = b at T0 ⊢
  generalize w1.heap.size = c at T0 ⊢
  go_wp2_with fail
  refine Calls.mono (wakes_any _) ?_
  rintro e w3 ⟨rfl, hu3⟩
  have T1 := T0.step hu3
  clear T0 hu3
  go_wp2_with fail
  go_loopg [98] N (fun q i wr => PlayRel w N b c q i wr)
  case atStart => exact ⟨0, _, _, _, _, by omega, rfl, T1, ⟨⟨W64, by simp, by simp, by simp, by simp⟩, rfl, by simp, by simp, by simp⟩⟩
  case round =>
    clear T1
    obtain ⟨k, tv, tr, s, all, hk, rfl, T, G⟩ := hrel
    obtain ⟨ogk, rfl⟩ : ∃ ogk : Nat, ogk = gk := ⟨_, rfl⟩
    by_cases hkN : k < N
    · obtain ⟨b0, off, rfl, hb0, hc⟩ := hcell (by omega)
      obtain ⟨c0, c1, c2⟩ := hc k (by omega)
      rw [← T.upd.cell _ _ hb0 id] at c0 c1 c2
      clear hc hcell
      have hd := hdo k (by omega)
      clear hdo
      generalize A k = x at c0 c1 c2 hd
      obtain ⟨dv, sq, bd⟩ := x
      simp only at c0 c1 c2 hd
      -- ARMS
      go_wp2_with fail
      all_goals
        have hbl := lt_at T.fl.1
        have hcl := lt_at T.rf.1
        have htl := T.fl.2.1.lt
        have hrl := T.rf.2.1.lt
        have TA := T.step ((Upd.refl wr (fun _ => False)).alloc (.cells #[.int .i64 dv, .int .i64 sq, .string (bd.extract 0 (min (bd.size : Int) 10).toNat)] 37))
        clear T
        generalize bd.extract 0 (min (bd.size : Int) 10).toNat = bd at TA ⊢
        have hact : (wr.alloc (.cells #[.int .i64 dv, .int .i64 sq, .string bd] 37)).heap[wr.heap.size]? = some (.cells #[.int .i64 dv, .int .i64 sq, .string bd] 37 (0, 0)) := heap_alloc_new wr _
        generalize wr.alloc (.cells #[.int .i64 dv, .int .i64 sq, .string bd] 37) = wa at TA hact ⊢
        generalize wr.heap.size = ab at *
      · -- Ready
        refine Calls.mono (Ready_any _ _ _ _ TA.fl G.ok) ?_
        rintro e w4 ⟨v1, rfl, hv1, hF, hu4, ho1⟩
        have T4 := TA.left hF (hu4.weaken (fun _ _ e => .inl e)) (fun _ e => .inl e)
        have hc4 : c < wa.heap.size := lt_at TA.rf.1
        clear hF TA hact htl hrl
        go_wp2_with fail
        refine Calls.mono (RefReady_any _ _ _ _ _ (T4.rf) G.ok G.all) ?_
        rintro e w5 ⟨v2, rfl, hv2, hR, hu5, ho2⟩
        have TZ := T4.right hR (hu5.weaken (fun _ _ e => .inl e)) (fun _ e => .inl e)
        have GZ := G.ready
        rw [frs_rfrs s all _ _ G.txt G.ok.bn] at hv1
        have hv3 := hu5.rw hv1 (fun i hi e => by have := ho1 i hi; omega)
        have SF := sameFrames_true w5 _ _ _ hv3 hv2 (by rw [rfrs_len]; have := G.ok.nt; have := G.ok.top; simp only [Fl.upTo]; omega)
        clear hv1 hv2 hv3 hR T4 G hu4 hu5 ho1 ho2
        go_wp2_with fail
        refine Calls.mono SF ?_
        clear SF
        rintro e w6 ⟨rfl, n5, rfl⟩
        replace TZ := TZ.draws n5
        generalize w5.drewN n5 = wz at TZ ⊢
        obtain ⟨L, hL⟩ : ∃ L, all.length = L := ⟨_, rfl⟩
        obtain ⟨nx, hnx⟩ : ∃ nx, { s with next := s.upTo }.next = nx := ⟨_, rfl⟩
        obtain ⟨bs, hbs⟩ : ∃ bs, { s with next := s.upTo }.base = bs := ⟨_, rfl⟩
        obtain ⟨wt, hwt⟩ : ∃ wt, { s with next := s.upTo }.wanted = wt := ⟨_, rfl⟩
        obtain ⟨dI, hdI⟩ : ∃ dI, (bs == L) = dI := ⟨_, rfl⟩
        obtain ⟨sz, z1, z2⟩ := GZ.sizes hL hnx hbs
        have WT := Waits_two TZ GZ hL hnx hbs
        have CT := fun n => Counts_two (TZ.draws n) GZ hL hwt
        have HL := hide hL
        have HN := hide hnx
        have HB := hide hbs
        have HW := hide hwt
        have HI := hide hdI
        have TZh := hide TZ
        have GZh := hide GZ
        clear hL hnx hbs hwt TZ GZ hdI
        go_wp2_with fail
        refine Calls.mono WT ?_
        clear WT
        rintro e w6 ⟨rfl, n6, rfl⟩
        go_wp2_with fail
        refine Calls.mono (CT _) ?_
        clear CT
        rintro e w6 ⟨rfl, n7, rfl⟩
        go_wp2_with fail
        have TY := TZh.out.draws (n6 + n7)
        generalize wz.drewN (n6 + n7) = wy at TY ⊢
        clear TZh
        have IT := fun n => Idle_two (TY.draws n) GZh.out HL.out HB.out HI.out
        obtain ⟨⟨ra, rc, rfl⟩, r1, r2, r3, r4⟩ := Two.cells TY HL.out HN.out HB.out HW.out
        have TYh := hide TY
        have dI1 : ((bs : Int) == (L : Int)) = dI := by rw [← HI.out, Bool.eq_iff_iff]; simp; omega
        have wa : IntKind.i64.wrap ((L : Int) - (nx : Int)) = (L : Int) - (nx : Int) := IntWalk.i64_in _ (by omega)
        have wb : IntKind.i64.wrap ((nx : Int) - (bs : Int)) = (nx : Int) - (bs : Int) := IntWalk.i64_in _ (by omega)
        clear TY
        go_quiet ((go_at_call 18; exact Calls.quiet_of_same (IT _)))
        clear wa wb dI1 IT r1 r2 r3 r4
        go_wp2_with fail
        go_roundg (ogk - 1)
        case measure => omega
        case rel => exact ⟨k + 1, _, _, _, _, by omega, by go_num, TYh.out.draws _, GZh.out⟩
      · -- Tick
        refine Calls.mono (Tick_any _ _ _ _ TA.fl G.ok) ?_
        rintro e w4 ⟨v1, rfl, hv1, hu4, ho1⟩
        have T4 := TA.step hu4
        clear TA hact htl hrl
        go_wp2_with fail
        refine Calls.mono (RefTick_any _ _ _ _ _ (T4.rf) G.ok.bn G.next (by have := G.len; omega)) ?_
        rintro e w5 ⟨v2, rfl, hv2, hu5, ho2⟩
        have TZ := T4.step hu5
        have GZ := G.same
        rw [frs_rfrs s all _ _ G.txt (Nat.le_refl _)] at hv1
        have hv3 := hu5.rw hv1 (fun _ _ => id)
        have SF := sameFrames_true w5 _ _ _ hv3 hv2 (by rw [rfrs_len]; have := G.ok.nt; have := G.ok.top; omega)
        clear hv1 hv2 hv3 T4 G hu4 hu5 ho1 ho2
        go_wp2_with fail
        refine Calls.mono SF ?_
        clear SF
        rintro e w6 ⟨rfl, n5, rfl⟩
        replace TZ := TZ.draws n5
        generalize w5.drewN n5 = wz at TZ ⊢
        obtain ⟨L, hL⟩ : ∃ L, all.length = L := ⟨_, rfl⟩
        obtain ⟨nx, hnx⟩ : ∃ nx, s.next = nx := ⟨_, rfl⟩
        obtain ⟨bs, hbs⟩ : ∃ bs, s.base = bs := ⟨_, rfl⟩
        obtain ⟨wt, hwt⟩ : ∃ wt, s.wanted = wt := ⟨_, rfl⟩
        obtain ⟨dI, hdI⟩ : ∃ dI, (bs == L) = dI := ⟨_, rfl⟩
        obtain ⟨sz, z1, z2⟩ := GZ.sizes hL hnx hbs
        have WT := Waits_two TZ GZ hL hnx hbs
        have CT := fun n => Counts_two (TZ.draws n) GZ hL hwt
        have HL := hide hL
        have HN := hide hnx
        have HB := hide hbs
        have HW := hide hwt
        have HI := hide hdI
        have TZh := hide TZ
        have GZh := hide GZ
        clear hL hnx hbs hwt TZ GZ hdI
        go_wp2_with fail
        refine Calls.mono WT ?_
        clear WT
        rintro e w6 ⟨rfl, n6, rfl⟩
        go_wp2_with fail
        refine Calls.mono (CT _) ?_
        clear CT
        rintro e w6 ⟨rfl, n7, rfl⟩
        go_wp2_with fail
        have TY := TZh.out.draws (n6 + n7)
        generalize wz.drewN (n6 + n7) = wy at TY ⊢
        clear TZh
        have IT := fun n => Idle_two (TY.draws n) GZh.out HL.out HB.out HI.out
        obtain ⟨⟨ra, rc, rfl⟩, r1, r2, r3, r4⟩ := Two.cells TY HL.out HN.out HB.out HW.out
        have TYh := hide TY
        have dI1 : ((bs : Int) == (L : Int)) = dI := by rw [← HI.out, Bool.eq_iff_iff]; simp; omega
        have wa : IntKind.i64.wrap ((L : Int) - (nx : Int)) = (L : Int) - (nx : Int) := IntWalk.i64_in _ (by omega)
        have wb : IntKind.i64.wrap ((nx : Int) - (bs : Int)) = (nx : Int) - (bs : Int) := IntWalk.i64_in _ (by omega)
        clear TY
        go_quiet ((go_at_call 18; exact Calls.quiet_of_same (IT _)))
        clear wa wb dI1 IT r1 r2 r3 r4
        go_wp2_with fail
        go_roundg (ogk - 1)
        case measure => omega
        case rel => exact ⟨k + 1, _, _, _, _, by omega, by go_num, TYh.out.draws _, GZh.out⟩
      · -- Take
        have GF := G.fed (by omega : k < 1000000) ⟨((wrap64 (dv.tmod 6 + 6)).tmod 6 == 5), sq, bd⟩
        refine Calls.mono (Take_all _ _ _ _ ⟨((wrap64 (dv.tmod 6 + 6)).tmod 6 == 5), sq, bd⟩ TA.fl G.ok) ?_
        rintro e w4 ⟨v1, v2, tv4, rfl, hv1, hv2, hF, hu4, ho1, ho2, -, ho4⟩
        have T4 := TA.left hF (hu4.weaken (fun _ _ e => .inl e)) (fun i e => .inl (by rw [← ho4]; exact e))
        have hc4 : c < wa.heap.size := lt_at TA.rf.1
        obtain ⟨-, g1, g2⟩ := cells3 (hu4.get hact (by omega))
        clear hF TA hact htl hrl
        go_wp2_with fail
        clear g1 g2
        refine Calls.mono (RefTake_any _ _ _ _ _ ⟨((wrap64 (dv.tmod 6 + 6)).tmod 6 == 5), sq, bd⟩ (T4.rf) G.ok.want) ?_
        rintro e w5 ⟨v3, v4, rfl, hv3, hv4, hR, hu5, -, -⟩
        have TZ := T4.right hR (hu5.weaken (fun _ _ e => .inl e)) (fun _ e => .inl e)
        have hx1 := hu5.rw hv1 (fun i hi e => by have := ho1 i hi; omega)
        have hx2 := hu5.rw hv2 (fun i hi e => by have := ho2 i hi; omega)
        have l1 : (s.outs ⟨((wrap64 (dv.tmod 6 + 6)).tmod 6 == 5), sq, bd⟩).length ≤ 1000000 := by simp only [Fl.outs, Fl.got]; (repeat' split) <;> simp
        have l2 : (s.backs ⟨((wrap64 (dv.tmod 6 + 6)).tmod 6 == 5), sq, bd⟩).length ≤ 1000000 := by simp only [Fl.backs]; (repeat' split) <;> simp
        have EQ := fun n => equal_true (w5.drewN n) _ _ _ (Rs.of (hx1.drewN n)) (Rs.of (hv3.drewN n)) l1
        have SF := fun n => sameFrames_true (w5.drewN n) _ _ _ (hx2.drewN n) (hv4.drewN n) l2
        have GZ := GF
        clear hv1 hv2 hv3 hv4 hx1 hx2 hR T4 G GF hu4 hu5 ho1 ho2 ho4 l1 l2
        generalize s.fed ⟨((wrap64 (dv.tmod 6 + 6)).tmod 6 == 5), sq, bd⟩ = sz at TZ GZ
        go_wp2_with fail
        refine Calls.mono (EQ 0) ?_
        rintro e w6 ⟨rfl, n5, rfl⟩
        go_wp2_with fail
        refine Calls.mono (SF _) ?_
        clear SF EQ
        rintro e w6 ⟨rfl, n6, rfl⟩
        replace TZ := (TZ.draws n5).draws n6
        generalize (w5.drewN n5).drewN n6 = wz at TZ ⊢
        obtain ⟨L, hL⟩ : ∃ L, all.length = L := ⟨_, rfl⟩
        obtain ⟨nx, hnx⟩ : ∃ nx, sz.next = nx := ⟨_, rfl⟩
        obtain ⟨bs, hbs⟩ : ∃ bs, sz.base = bs := ⟨_, rfl⟩
        obtain ⟨wt, hwt⟩ : ∃ wt, sz.wanted = wt := ⟨_, rfl⟩
        obtain ⟨dI, hdI⟩ : ∃ dI, (bs == L) = dI := ⟨_, rfl⟩
        obtain ⟨sz, z1, z2⟩ := GZ.sizes hL hnx hbs
        have WT := Waits_two TZ GZ hL hnx hbs
        have CT := fun n => Counts_two (TZ.draws n) GZ hL hwt
        have HL := hide hL
        have HN := hide hnx
        have HB := hide hbs
        have HW := hide hwt
        have HI := hide hdI
        have TZh := hide TZ
        have GZh := hide GZ
        clear hL hnx hbs hwt TZ GZ hdI
        go_wp2_with fail
        refine Calls.mono WT ?_
        clear WT
        rintro e w6 ⟨rfl, n6, rfl⟩
        go_wp2_with fail
        refine Calls.mono (CT _) ?_
        clear CT
        rintro e w6 ⟨rfl, n7, rfl⟩
        go_wp2_with fail
        have TY := TZh.out.draws (n6 + n7)
        generalize wz.drewN (n6 + n7) = wy at TY ⊢
        clear TZh
        have IT := fun n => Idle_two (TY.draws n) GZh.out HL.out HB.out HI.out
        obtain ⟨⟨ra, rc, rfl⟩, r1, r2, r3, r4⟩ := Two.cells TY HL.out HN.out HB.out HW.out
        have TYh := hide TY
        have dI1 : ((bs : Int) == (L : Int)) = dI := by rw [← HI.out, Bool.eq_iff_iff]; simp; omega
        have wa : IntKind.i64.wrap ((L : Int) - (nx : Int)) = (L : Int) - (nx : Int) := IntWalk.i64_in _ (by omega)
        have wb : IntKind.i64.wrap ((nx : Int) - (bs : Int)) = (nx : Int) - (bs : Int) := IntWalk.i64_in _ (by omega)
        clear TY
        go_quiet ((go_at_call 18; exact Calls.quiet_of_same (IT _)))
        clear wa wb dI1 IT r1 r2 r3 r4
        go_wp2_with fail
        go_roundg (ogk - 1)
        case measure => omega
        case rel => exact ⟨k + 1, _, _, _, _, by omega, by go_num, TYh.out.draws _, GZh.out⟩
      · -- Take
        have GF := G.fed (by omega : k < 1000000) ⟨true, sq, bd⟩
        refine Calls.mono (Take_all _ _ _ _ ⟨true, sq, bd⟩ TA.fl G.ok) ?_
        rintro e w4 ⟨v1, v2, tv4, rfl, hv1, hv2, hF, hu4, ho1, ho2, -, ho4⟩
        have T4 := TA.left hF (hu4.weaken (fun _ _ e => .inl e)) (fun i e => .inl (by rw [← ho4]; exact e))
        have hc4 : c < wa.heap.size := lt_at TA.rf.1
        obtain ⟨-, g1, g2⟩ := cells3 (hu4.get hact (by omega))
        clear hF TA hact htl hrl
        go_wp2_with fail
        clear g1 g2
        refine Calls.mono (RefTake_any _ _ _ _ _ ⟨true, sq, bd⟩ (T4.rf) G.ok.want) ?_
        rintro e w5 ⟨v3, v4, rfl, hv3, hv4, hR, hu5, -, -⟩
        have TZ := T4.right hR (hu5.weaken (fun _ _ e => .inl e)) (fun _ e => .inl e)
        have hx1 := hu5.rw hv1 (fun i hi e => by have := ho1 i hi; omega)
        have hx2 := hu5.rw hv2 (fun i hi e => by have := ho2 i hi; omega)
        have l1 : (s.outs ⟨true, sq, bd⟩).length ≤ 1000000 := by simp only [Fl.outs, Fl.got]; (repeat' split) <;> simp
        have l2 : (s.backs ⟨true, sq, bd⟩).length ≤ 1000000 := by simp only [Fl.backs]; (repeat' split) <;> simp
        have EQ := fun n => equal_true (w5.drewN n) _ _ _ (Rs.of (hx1.drewN n)) (Rs.of (hv3.drewN n)) l1
        have SF := fun n => sameFrames_true (w5.drewN n) _ _ _ (hx2.drewN n) (hv4.drewN n) l2
        have GZ := GF
        clear hv1 hv2 hv3 hv4 hx1 hx2 hR T4 G GF hu4 hu5 ho1 ho2 ho4 l1 l2
        generalize s.fed ⟨true, sq, bd⟩ = sz at TZ GZ
        go_wp2_with fail
        refine Calls.mono (EQ 0) ?_
        rintro e w6 ⟨rfl, n5, rfl⟩
        go_wp2_with fail
        refine Calls.mono (SF _) ?_
        clear SF EQ
        rintro e w6 ⟨rfl, n6, rfl⟩
        replace TZ := (TZ.draws n5).draws n6
        generalize (w5.drewN n5).drewN n6 = wz at TZ ⊢
        obtain ⟨L, hL⟩ : ∃ L, all.length = L := ⟨_, rfl⟩
        obtain ⟨nx, hnx⟩ : ∃ nx, sz.next = nx := ⟨_, rfl⟩
        obtain ⟨bs, hbs⟩ : ∃ bs, sz.base = bs := ⟨_, rfl⟩
        obtain ⟨wt, hwt⟩ : ∃ wt, sz.wanted = wt := ⟨_, rfl⟩
        obtain ⟨dI, hdI⟩ : ∃ dI, (bs == L) = dI := ⟨_, rfl⟩
        obtain ⟨sz, z1, z2⟩ := GZ.sizes hL hnx hbs
        have WT := Waits_two TZ GZ hL hnx hbs
        have CT := fun n => Counts_two (TZ.draws n) GZ hL hwt
        have HL := hide hL
        have HN := hide hnx
        have HB := hide hbs
        have HW := hide hwt
        have HI := hide hdI
        have TZh := hide TZ
        have GZh := hide GZ
        clear hL hnx hbs hwt TZ GZ hdI
        go_wp2_with fail
        refine Calls.mono WT ?_
        clear WT
        rintro e w6 ⟨rfl, n6, rfl⟩
        go_wp2_with fail
        refine Calls.mono (CT _) ?_
        clear CT
        rintro e w6 ⟨rfl, n7, rfl⟩
        go_wp2_with fail
        have TY := TZh.out.draws (n6 + n7)
        generalize wz.drewN (n6 + n7) = wy at TY ⊢
        clear TZh
        have IT := fun n => Idle_two (TY.draws n) GZh.out HL.out HB.out HI.out
        obtain ⟨⟨ra, rc, rfl⟩, r1, r2, r3, r4⟩ := Two.cells TY HL.out HN.out HB.out HW.out
        have TYh := hide TY
        have dI1 : ((bs : Int) == (L : Int)) = dI := by rw [← HI.out, Bool.eq_iff_iff]; simp; omega
        have wa : IntKind.i64.wrap ((L : Int) - (nx : Int)) = (L : Int) - (nx : Int) := IntWalk.i64_in _ (by omega)
        have wb : IntKind.i64.wrap ((nx : Int) - (bs : Int)) = (nx : Int) - (bs : Int) := IntWalk.i64_in _ (by omega)
        clear TY
        go_quiet ((go_at_call 18; exact Calls.quiet_of_same (IT _)))
        clear wa wb dI1 IT r1 r2 r3 r4
        go_wp2_with fail
        go_roundg (ogk - 1)
        case measure => omega
        case rel => exact ⟨k + 1, _, _, _, _, by omega, by go_num, TYh.out.draws _, GZh.out⟩
      · -- Send
        refine Calls.mono (RefSend_any _ _ _ _ _ _ TA.rf (by have := G.len; omega)) ?_
        rintro e w4 ⟨rfl, tr4, hR, hu4, ho4⟩
        have T4 := TA.right hR hu4 ho4
        obtain ⟨-, g1, g2⟩ := cells3 (hu4.get hact (fun e => by
          rcases e with e | e
          · omega
          · have := hrl _ e; omega))
        clear hR TA hact htl hrl
        go_wp2_with fail
        clear g1 g2
        refine Calls.mono (Send_any _ _ _ _ _ T4.fl G.ok (by have := G.len; have := G.all; omega)) ?_
        rintro e w5 ⟨rfl, tv5, hF, hu5, ho5⟩
        have TZ0 := T4.left hF hu5 ho5
        have TZ : Two w w5 b c tv5 tr4 { s with texts := s.texts ++ [bd] } { s with texts := s.texts ++ [bd] } (all ++ [bd]) := { TZ0 with rf := TZ0.rf }
        clear TZ0
        have GZ := G.send (by omega) bd
        clear hF T4 G hu4 hu5 ho4 ho5
        generalize w5 = wz at TZ ⊢
        obtain ⟨L, hL⟩ : ∃ L, (all ++ [bd]).length = L := ⟨_, rfl⟩
        obtain ⟨nx, hnx⟩ : ∃ nx, { s with texts := s.texts ++ [bd] }.next = nx := ⟨_, rfl⟩
        obtain ⟨bs, hbs⟩ : ∃ bs, { s with texts := s.texts ++ [bd] }.base = bs := ⟨_, rfl⟩
        obtain ⟨wt, hwt⟩ : ∃ wt, { s with texts := s.texts ++ [bd] }.wanted = wt := ⟨_, rfl⟩
        obtain ⟨dI, hdI⟩ : ∃ dI, (bs == L) = dI := ⟨_, rfl⟩
        obtain ⟨sz, z1, z2⟩ := GZ.sizes hL hnx hbs
        have WT := Waits_two TZ GZ hL hnx hbs
        have CT := fun n => Counts_two (TZ.draws n) GZ hL hwt
        have HL := hide hL
        have HN := hide hnx
        have HB := hide hbs
        have HW := hide hwt
        have HI := hide hdI
        have TZh := hide TZ
        have GZh := hide GZ
        clear hL hnx hbs hwt TZ GZ hdI
        go_wp2_with fail
        refine Calls.mono WT ?_
        clear WT
        rintro e w6 ⟨rfl, n6, rfl⟩
        go_wp2_with fail
        refine Calls.mono (CT _) ?_
        clear CT
        rintro e w6 ⟨rfl, n7, rfl⟩
        go_wp2_with fail
        have TY := TZh.out.draws (n6 + n7)
        generalize wz.drewN (n6 + n7) = wy at TY ⊢
        clear TZh
        have IT := fun n => Idle_two (TY.draws n) GZh.out HL.out HB.out HI.out
        obtain ⟨⟨ra, rc, rfl⟩, r1, r2, r3, r4⟩ := Two.cells TY HL.out HN.out HB.out HW.out
        have TYh := hide TY
        have dI1 : ((bs : Int) == (L : Int)) = dI := by rw [← HI.out, Bool.eq_iff_iff]; simp; omega
        have wa : IntKind.i64.wrap ((L : Int) - (nx : Int)) = (L : Int) - (nx : Int) := IntWalk.i64_in _ (by omega)
        have wb : IntKind.i64.wrap ((nx : Int) - (bs : Int)) = (nx : Int) - (bs : Int) := IntWalk.i64_in _ (by omega)
        clear TY
        go_quiet ((go_at_call 18; exact Calls.quiet_of_same (IT _)))
        clear wa wb dI1 IT r1 r2 r3 r4
        go_wp2_with fail
        go_roundg (ogk - 1)
        case measure => omega
        case rel => exact ⟨k + 1, _, _, _, _, by omega, by go_num, TYh.out.draws _, GZh.out⟩
    · go_wp2_with fail
      go_ret
      exact ⟨rfl, T.upd⟩

theorem FlowPlays_any (w : World) (win : Int) (v : Value) (n : Nat) (A : Nat → ActD) (hA : ActsAt w v n A)
    (hdo : ∀ i, i < n → -9223372036854775808 ≤ (A i).dov ∧ (A i).dov ≤ 9223372036854775807) :
    Calls Try.prog 6 #[.int .i64 win, v] w fun e w' => e = .returned (.bool true) ∧ Upd w w' (fun _ => False) := by
  by_cases h : win < 1 ∨ 64 < win
  · exact FlowPlays_no w win v h
  · obtain ⟨W, rfl⟩ := Int.eq_ofNat_of_zero_le (show 0 ≤ win by omega)
    exact FlowPlays_in w W (by omega) (by omega) v n A hA hdo
end Go.Proofs.Ytfbmhfpffciojaa
