/- The law FlowComes walked. -/
import Derived.Test.YtfbmhfpffciojaaDrain
import Derived.Test.YtfbmhfpffciojaaOnce
import Derived.Deep.CutBlock
set_option maxRecDepth 100000
namespace Go.Proofs.Ytfbmhfpffciojaa
open Go.RowKit Go.Lat

theorem Core.small {s : Bool → Sd} (h : Core s) (hs : ∀ c, (s c).sent.length ≤ 100) (hw : ∀ c, (s c).way.length ≤ 90000) : Small s := by
  obtain ⟨k, hk⟩ := h.side
  have hl : ∀ c, (s c).fl.base + (s c).fl.texts.length ≤ 100 := fun c => by have h1 := (hk c).1.len; have h2 := hs c; omega
  have hi : ∀ c, (s c).fl.wanted ≤ 100 := fun c => by have h1 := (hk c).1.want; have h2 := hs (!c); omega
  refine ⟨fun c => ⟨(hk c).1.win, (hk c).1.bn, ?_, by have := hl c; omega, by have := hi c; omega⟩, hw, fun c => by have := hs c; omega, fun c => by rw [(hk c).1.innLen]; have := hi c; omega, fun c => by have := hl c; omega⟩
  have := (hk c).1.nt; have := (hk c).1.len; omega

/-- What holds at every step's head. -/
def OnceRelB (w : World) (eb N : Nat) (q : Nat) (i : Value) (wr : World) : Prop :=
  ∃ (k : Nat) (own : Nat → Nat) (V : Bool → Vs) (s : Bool → Sd), k + q = N ∧ i = .int .i64 k ∧ EndsAt wr eb own V s ∧ Inv k s ∧ Nx s ∧ Win s ∧ Upd w wr (fun _ => False) ∧ (∀ j, j < w.heap.size → own j = 99)

theorem fresh_nx (W : Nat) : Nx (fresh W) := fun c => ⟨by simp [fresh], by simp [fresh]⟩

/-- What holds at the head of every round in which nothing is lost. -/
def ComesRel (w : World) (eb R : Nat) (T : Bool → Nat) (q : Nat) (i : Value) (wr : World) : Prop :=
  ∃ (r : Nat) (own : Nat → Nat) (V : Bool → Vs) (s : Bool → Sd), r + q = R ∧ i = .int .i64 r ∧ EndsAt wr eb own V s ∧ Core s ∧ Nx s ∧ Win s ∧ (∀ c, (s c).way = []) ∧ (∀ c, (s c).sent.length ≤ 100) ∧ (∀ c, (s c).fl.texts.length ≤ T c - r) ∧
    Upd w wr (fun _ => False) ∧ (∀ j, j < w.heap.size → own j = 99)

/-- What holds while frames are on their way. -/
def DrainRel (wr : World) (eb : Nat) (own : Nat → Nat) (s1 : Bool → Sd) (q : Nat) (wz : World) : Prop :=
  ∃ (own' : Nat → Nat) (V' : Bool → Vs) (s' : Bool → Sd) (n : Bool → Nat) (A : Bool → List Fr), Mid wr wz eb own own' V' s' ∧ Dr s' n A ∧ Dr.left n A ≤ q ∧ q ≤ 1000 ∧ Core s' ∧ Nx s' ∧ Win s' ∧ Keeps s1 s'

theorem Dr.wayLen {s : Bool → Sd} {n : Bool → Nat} {A : Bool → List Fr} (h : Dr s n A) (c : Bool) : (s c).way.length ≤ Dr.left n A := by
  rw [h.way c, left_put n A c]; simp [dat_len]; omega

theorem Nx.none {s : Bool → Sd} (h : Nx s) (c : Bool) : Nx (put s c { s c with way := [] }) := by
  intro d
  have := h d
  cases c <;> cases d <;> simp [put] at * <;> first | exact this | exact this.1
theorem Win.none {s : Bool → Sd} (h : Win s) (c : Bool) : Win (put s c { s c with way := [] }) := by
  intro d
  have := h d
  cases c <;> cases d <;> exact this
theorem tickS_way (s : Bool → Sd) (c : Bool) (B : Nat) (h : ∀ d, (s d).way.length ≤ B) (hC : Core s) (hs : ∀ d, (s d).sent.length ≤ 100) : ∀ d, (tickS s c d).way.length ≤ B + 100 := by
  obtain ⟨k, hk⟩ := hC.side
  intro d
  have h1 := (hk c).1.nt; have h2 := hs c; have h3 := h d
  cases c <;> cases d <;> simp [tickS, put, Fl.frs_len] at * <;> omega
theorem readyS_way (s : Bool → Sd) (c : Bool) (B : Nat) (h : ∀ d, (s d).way.length ≤ B) (hC : Core s) (hs : ∀ d, (s d).sent.length ≤ 100) : ∀ d, (readyS s c d).way.length ≤ B + 100 := by
  obtain ⟨k, hk⟩ := hC.side
  intro d
  have h1 := (hk c).1.nt; have h2 := hs c; have h3 := h d; have h4 := (hk c).1.len
  have h5 : (s c).fl.upTo ≤ 100 := by unfold Fl.upTo; omega
  cases c <;> cases d <;> simp [readyS, put, Fl.frs_len] at * <;> omega

/-- A round brings over all that the window lets. -/
theorem ComesRel.next {w wr wz : World} {eb R r q : Nat} {T : Bool → Nat} {own own' : Nat → Nat} {V' : Bool → Vs} {s s' : Bool → Sd} {n : Bool → Nat} {A : Bool → List Fr} (hr : r + q = R) (hq : 0 < q) (hC : Core s) (hW : Win s) (he : ∀ c, (s c).way = [])
    (hs : ∀ c, (s c).sent.length ≤ 100) (ht : ∀ c, (s c).fl.texts.length ≤ T c - r) (hu : Upd w wr (fun _ => False)) (ho : ∀ j, j < w.heap.size → own j = 99)
    (hM : Mid wr wz eb own own' V' s') (hD : Dr s' n A) (hC' : Core s') (hN' : Nx s') (hW' : Win s') (hK : Keeps (roundS s) s') (he' : ∀ c, (s' c).way = []) : ComesRel w eb R T (q - 1) (.int .i64 (r + 1)) wz := by
  obtain ⟨_, hnx, hst⟩ := Dr.start hC he
  have hb := hD.done hC' he'
  obtain ⟨k, hk⟩ := hC'.side
  obtain ⟨k0, hk0⟩ := hC.side
  refine ⟨r + 1, own', V', s', by omega, by go_num, hM.at_, hC', hN', hW', he', fun c => by rw [hK.sent, hst]; exact hs c, fun c => ?_, hu.then hM.upd (fun i hi e => by rw [ho i hi] at e; omega), fun j hj => by rw [hM.old j (by have := hu.size; omega)]; exact ho j hj⟩
  have h1 := (hk c).1.len
  have h2 := hb c
  have h3 := hK.next c
  have h4 := hnx c
  have h5 := hK.sent c
  have h6 := hst c
  have h7 := (hk0 c).1.len
  have h8 := hW c
  have h9 := ht c
  have h10 := (hk0 c).1.bn
  rw [h5, h6] at h1
  have h11 : min ((s c).fl.base + (s c).fl.texts.length) ((s c).fl.base + (s c).fl.win) ≤ (s c).fl.upTo := by unfold Fl.upTo; omega
  omega

theorem Dr.start' {s : Bool → Sd} (hC : Core s) (he : ∀ c, (s c).way = []) (hs : ∀ c, (s c).sent.length ≤ 100) : ∃ n A, Dr (roundS s) n A ∧ Dr.left n A ≤ 1000 := by
  refine ⟨_, _, (Dr.start hC he).1, ?_⟩
  obtain ⟨k, hk⟩ := hC.side
  have hu : ∀ c, (s c).fl.upTo ≤ 100 := fun c => by have h1 := (hk c).1.len; have h2 := hs c; have h3 := (hk c).1.nt; unfold Fl.upTo; omega
  have h1 := hu false
  have h2 := hu true
  simp [Dr.left]
  omega

set_option maxHeartbeats 12800000 in
theorem FlowComes_any (w : World) (win : Int) (v : Value) (n : Nat) (A : Nat → StepD) (hA : StepsAt w v n A) :
    Calls Try.prog 5 #[.int .i64 win, v] w fun e w' => e = .returned (.bool true) ∧ Upd w w' (fun _ => False) := by
  obtain ⟨a, cap, rfl, hnc, hcm, hcell⟩ := hA
  obtain ⟨N, eN⟩ : ∃ N : Nat, min (n : Int) 100 = (N : Int) := ⟨min n 100, by omega⟩
  have hNn : N ≤ n := by omega
  have hN80 : N ≤ 100 := by omega
  obtain ⟨i0, hi0, hz0, hz1, hz2⟩ := info_parts Try.info41
  have wa : IntKind.i64.wrap 1 = 1 := IntWalk.i64_in _ (by omega)
  have wb : IntKind.i64.wrap 0 = 0 := IntWalk.i64_in _ (by omega)
  go_enter Try.func5, Try.ntmps5
  go_wp2_with fail
  refine Calls.mono (begin_any w win) ?_
  rintro e w1 ⟨eb, own, V, W, hW1, hW, rfl, hE, hu, ho⟩
  go_wp2_with fail
  refine Calls.mono (wakes_any w1) ?_
  rintro e w2 ⟨rfl, hu2⟩
  have hE2 := hE.upd hu2
  have u2 := hu.then hu2 (fun _ _ => id)
  clear hE hu hu2
  go_wp2_with fail
  go_loopg [32] N (fun q i wr => OnceRelB w eb N q i wr)
  case atStart => exact ⟨0, own, V, fresh W, by omega, rfl, hE2, fresh_inv W hW, fresh_nx W, fun c => hW1, u2, ho⟩
  case round =>
    obtain ⟨k, own', V', s, hk, rfl, hE', hI, hX, hWn, u, ho'⟩ := hrel
    by_cases hkN : k < N
    · obtain ⟨b0, off, rfl, hb0, hc⟩ := hcell (by omega)
      obtain ⟨c0, c1, c2⟩ := hc k (by omega)
      rw [← u.cell _ _ hb0 id] at c0 c1 c2
      clear hc hcell
      generalize A k = x at c0 c1 c2
      obtain ⟨dv, at_, oth⟩ := x
      simp only at c0 c1 c2
      have ha := (Upd.refl wr (fun _ => False)).alloc (.cells #[.int .i64 dv, .int .i64 at_, .bool oth] 28)
      have hEa := hE'.upd ha
      have ua := u.then ha (fun _ _ => id)
      go_wp2_with fail
      refine Calls.mono (step_any _ eb own' V' s dv at_ oth hEa (hI.small (by omega))) ?_
      rintro e w3 ⟨rfl, own3, V3, s3, M3, hr3⟩
      go_wp2_with fail
      go_roundg (gk - 1)
      case measure => omega
      case rel => exact ⟨k + 1, own3, V3, s3, by omega, by go_num, M3.at_, hI.step oth hr3, hX.step ⟨k, hI⟩ oth hr3, hWn.step oth hr3, ua.then M3.upd (fun i hi e => by rw [ho' i hi] at e; omega), fun j hj => by rw [M3.old j (by have := ua.size; omega)]; exact ho' j hj⟩
    · -- how many rounds there are
      have hkN' : k = N := by omega
      subst hkN'
      have sm := hI.small (by omega)
      have hC : Core s := ⟨_, hI⟩
      have hs100 : ∀ c, (s c).sent.length ≤ 100 := fun c => by have := (hI c).bS; omega
      obtain ⟨c0, c1, c2, c3, c4, c5, c6, c7⟩ := hE'.cells
      have F0 := hE'.fl false
      have F1 := hE'.fl true
      obtain ⟨x0, hx0⟩ : ∃ x, (s false).fl.base + (s false).fl.texts.length - (s false).fl.next = x := ⟨_, rfl⟩
      obtain ⟨x1, hx1⟩ : ∃ x, (s true).fl.base + (s true).fl.texts.length - (s true).fl.next = x := ⟨_, rfl⟩
      obtain ⟨y0, hy0⟩ : ∃ x, (s false).fl.next - (s false).fl.base = x := ⟨_, rfl⟩
      obtain ⟨y1, hy1⟩ : ∃ x, (s true).fl.next - (s true).fl.base = x := ⟨_, rfl⟩
      have W0 := fun n => Waits_at (wr.drewN n) _ (V' false).t (s false).fl F0 (sm.ok false) _ _ hx0 hy0
      have W1 := fun n => Waits_at (wr.drewN n) _ (V' true).t (s true).fl F1 (sm.ok true) _ _ hx1 hy1
      have W0' := Waits_at wr _ (V' false).t (s false).fl F0 (sm.ok false) _ _ hx0 hy0
      have b0 := (sm.ok false).bn
      have b1 := (sm.ok true).bn
      have n0 := (sm.ok false).nt
      have n1 := (sm.ok true).nt
      have t0 : (s false).fl.texts.length = x0 + y0 := by omega
      have t1 : (s true).fl.texts.length = x1 + y1 := by omega
      have l0 : x0 + y0 ≤ 100 := by have := (hI false).len; have := hs100 false; omega
      have l1 : x1 + y1 ≤ 100 := by have := (hI true).len; have := hs100 true; omega
      have HT0 := hide t0
      have HT1 := hide t1
      clear hx0 hx1 hy0 hy1 F0 F1 t0 t1 b0 b1 n0 n1
      go_wp2_with fail
      refine wp_loop_rounds 3 ?_
      rw [rounds_succ]
      go_wp2_with fail
      refine Calls.mono W0' ?_
      rintro e w3 ⟨rfl, n3, rfl⟩
      go_wp2_with fail
      rw [rounds_succ]
      go_wp2_with fail
      refine Calls.mono (W1 _) ?_
      rintro e w4 ⟨rfl, n4, rfl⟩
      go_wp2_with fail
      rw [rounds_succ]
      go_upto_region 16 with fail
      have hEq : EndsAt (wr.drewN (n3 + n4)) eb own' V' s := hE'.upd ((Upd.refl wr (fun _ => False)).drewN _)
      have hUq : Upd w (wr.drewN (n3 + n4)) (fun _ => False) := u.drewN _
      generalize (wr.drewN (n3 + n4)) = wq at hEq hUq ⊢
      clear W0 W1 W0' hE' u c0 c1 c2 c3 c4 c5 c6 c7
      obtain ⟨c0, c1, c2, c3, c4, c5, c6, c7⟩ := hEq.cells
      have f2 := free_at hEq.blk 2
      have f3 := free_at hEq.blk 3
      have heb := lt_at hEq.blk
      have hhb := hEq.blk
      obtain ⟨R, eR⟩ : ∃ R : Nat, (1 + ((x0 : Int) + (y0 : Int)) + ((x1 : Int) + (y1 : Int))) = (R : Int) := ⟨1 + (x0 + y0) + (x1 + y1), by omega⟩
      have hR : R ≤ 201 := by omega
      have hRT : R = 1 + (x0 + y0) + (x1 + y1) := by omega
      have HRT := hide hRT
      clear hRT
      -- what is on its way is lost
      have M0 := Mid.begin hEq
      have M1 := M0.setWay false (.slice none 0 0) [] ((Upd.refl wq (fun k => k = eb ∨ (V' false).wv.ownBlock = some k)).setCell ⟨eb, 2, none⟩ (.slice none 0 0) (.inr (.inl rfl))) (block_setCell hhb 2 _) (Rw.nil _ _ _) (by simp [Value.ownBlock])
      have M2 := M1.setWay true (.slice none 0 0) [] ((Upd.refl (wq.setCell ⟨eb, 2, none⟩ (.slice none 0 0)) (fun k => k = eb ∨ (put V' false { V' false with wv := .slice none 0 0 } true).wv.ownBlock = some k)).setCell ⟨eb, 3, none⟩ (.slice none 0 0) (.inr (.inl rfl))) (block_setCell M1.at_.blk 3 _) (Rw.nil _ _ _) (by simp [Value.ownBlock])
      have hC2 := (hC.none false).none true
      have hX2 := (hX.none false).none true
      have hW2 := (hWn.none false).none true
      have hU2 := hUq.then M2.upd (fun i hi e => by rw [ho' i hi] at e; omega)
      have hO2 : ∀ j, j < w.heap.size → _ = 99 := fun j hj => (M2.old j (by have := hUq.size; omega)).trans (ho' j hj)
      have HH := hide hhb
      clear hhb M0 M1
      go_wp2_with fail
      go_loopg [64] R (fun q i wr => ComesRel w eb R (fun c => (s c).fl.texts.length) q i wr)
      case atStart =>
        refine ⟨0, _, _, _, by omega, rfl, M2.at_, hC2, hX2, hW2, ?_, ?_, ?_, hU2, hO2⟩
        · intro c; cases c <;> rfl
        · intro c; cases c <;> exact hs100 _
        · intro c; cases c <;> exact Nat.le_refl _
      case round =>
        obtain ⟨r, own0, V0, s0, hr, rfl, hE0, C0, X0, Wn0, hway0, l0, ht0, hu0, ho0⟩ := hrel
        clear hC2 hX2 hW2 hU2 hO2 M2 hI hX hWn sm hC hs100 hEq hUq f2 f3 heb c0 c1 c2 c3 c4 c5 c6 c7 ho'
        by_cases hrR : r < R
        · have n0 : ∀ d, (s0 d).way.length ≤ 1 := fun d => by rw [hway0 d]; simp
          have HW0 := hide hway0
          clear hway0
          obtain ⟨wx0, hwx0⟩ : ∃ x : World, x = wr := ⟨wr, rfl⟩
          have M0 : Mid wr wx0 eb own0 (newOwn own0 wr.heap.size 99) V0 s0 := by rw [hwx0]; exact Mid.begin hE0
          obtain ⟨ogk, hogk⟩ : ∃ x, x = gk := ⟨_, rfl⟩
          go_wp2_with fail
          refine wp_loop_rounds 3 ?_
          rw [rounds_succ]
          rw [← hwx0]
          have HWX := hide hwx0
          clear hwx0
          generalize (newOwn own0 wr.heap.size 99) = ow0 at M0
          go_upto_block 7 with fail
          go_cut [] (fun wz => ∃ own' V', Mid wr wz eb own0 own' V' (readyS (tickS s0 false) false))
          case first =>
            -- tick of side false
            have sm0 := C0.small l0 (fun d => by have := n0 d; omega)
            have ok := sm0.ok false
            have tp := sm0.top false
            have lw := n0 true
            have hF := M0.at_.fl false
            have hwd := M0.at_.wy true
            have nwd : (V0 true).wv.ownBlock ≠ some eb := fun e => by have h1 := M0.at_.ow true _ e; rw [M0.at_.oe] at h1; simp at h1
            have neb : eb ≠ (V0 false).b := fun e => by have h1 := M0.at_.ob false; rw [← e, M0.at_.oe] at h1; simp at h1
            have heb := lt_at M0.at_.blk
            have f3 := free_at M0.at_.blk 3
            have HB := hide M0.at_.blk
            obtain ⟨c0, c1, c2, c3, c4, c5, c6, c7⟩ := M0.at_.cells
            go_upto_region 22 with fail
            go_cut [] (fun wz => ∃ own' V', Mid wr wz eb own0 own' V' (tickS s0 false))
            case first =>
              go_region_law (first
                  | (refine step_append_rw _ (by rfl) _ _ 38 38 (by rfl) 41 _ i0 _ 3 32 Try.underlying38 Try.underlying38 (by simp) hi0 hz0 hz1 hz2 rfl _ _ _ (by rfl) hw3 _ _ _ (by rfl) (Rw.src r3) r3.1 (frCells_one _) (by rw [Fl.frs_len]; have := ok.nt; omega) (by rw [Fl.frs_len]; have := ok.nt; omega) ?_; intro ga gc w4 hA hg ho; have hb4 := block_grown hg HB3.out nwd; have g4 := cell_at hb4 3 _ rfl; have gf := free_at hb4 3; have HB4 := hide hb4; clear hb4)
                  | (go_simp; go_at_call 13; refine Calls.mono (Tick_any wx0.drew _ (V0 false).t (s0 false).fl hF ok) ?_; rintro e w3 ⟨v3, rfl, r3, hu3, fr3⟩; have hw3 := hu3.rw hwd.drew (fun _ _ => id); have k3 := (hu3.cell eb 3 heb id).trans c3; have HB3 := hide (hu3.get HB.out id)))
              all_goals
                go_wp2_with fail
                go_meet
                have nv : (Value.slice ga ((s0 true).way.length + ((s0 false).fl.frs (s0 false).fl.base ((s0 false).fl.next - (s0 false).fl.base)).length) gc).ownBlock ≠ some eb := by
                  rcases ho with e | e <;> rw [e]
                  · exact nwd
                  · have := hu3.size; simp at this; simp; omega
                have M3 := M0.upd' (((Upd.refl wx0 (fun _ => False)).drew).then hu3 (fun _ _ => id))
                have u4 := ((Upd.refl w3 (fun k => k = eb ∨ (V0 true).wv.ownBlock = some k)).grown hg (fun k hk => .inr (.inr hk))).setCell ⟨eb, 3, none⟩ (.slice ga ((s0 true).way.length + ((s0 false).fl.frs (s0 false).fl.base ((s0 false).fl.next - (s0 false).fl.base)).length) gc) (.inr (.inl rfl))
                have M4 := M3.setWay true (.slice ga ((s0 true).way.length + ((s0 false).fl.frs (s0 false).fl.base ((s0 false).fl.next - (s0 false).fl.base)).length) gc) ((s0 true).way ++ ((s0 false).fl.frs (s0 false).fl.base ((s0 false).fl.next - (s0 false).fl.base))) u4 (block_setCell HB4.out 3 _)
                  (by have := hA.setCell ⟨eb, 3, none⟩ (.slice ga ((s0 true).way.length + ((s0 false).fl.frs (s0 false).fl.base ((s0 false).fl.next - (s0 false).fl.base)).length) gc) nv; simpa [FrsAt, frCells_app] using this)
                  (fun k hk => by
                    rcases ho with e | e
                    · rw [e] at hk; exact .inl hk
                    · rw [e] at hk; simp at hk; exact .inr (by omega))
                exact ⟨_, _, M4⟩
            obtain ⟨ow1, V1, M1⟩ := hcut
            have C1 := C0.tick false
            have X1 := X0.step C0 false (s' := tickS s0 false) (.inr (.inr (.inr (.inl rfl))))
            have Wn1 := Wn0.step false (s' := tickS s0 false) (.inr (.inr (.inr (.inl rfl))))
            have l1 : ∀ d, (tickS s0 false d).sent.length ≤ 100 := fun d => by cases d <;> exact l0 _
            have n1 := tickS_way s0 false 1 n0 C0 l0
            clear hwd hF ok tp lw nwd neb heb f3 HB c0 c1 c2 c3 c4 c5 c6 c7 sm0 M0
            obtain ⟨s1, hs1⟩ : ∃ x, x = tickS s0 false := ⟨_, rfl⟩
            rw [← hs1] at M1 C1 X1 Wn1 l1 n1
            have HS1 := hide hs1
            have hgo : readyS (tickS s0 false) false = readyS s1 false := by rw [HS1.out]
            have HGO := hide hgo
            clear hgo hs1
            obtain ⟨wx1, hwx1⟩ : ∃ x : World, x = wc := ⟨wc, rfl⟩
            subst hwx1
            -- ready of side false
            have sm1 := C1.small l1 (fun d => by have := n1 d; omega)
            have ok := sm1.ok false
            have tp := sm1.top false
            have lw := n1 true
            have hF := M1.at_.fl false
            have hwd := M1.at_.wy true
            have nwd : (V1 true).wv.ownBlock ≠ some eb := fun e => by have h1 := M1.at_.ow true _ e; rw [M1.at_.oe] at h1; simp at h1
            have neb : eb ≠ (V1 false).b := fun e => by have h1 := M1.at_.ob false; rw [← e, M1.at_.oe] at h1; simp at h1
            have heb := lt_at M1.at_.blk
            have f3 := free_at M1.at_.blk 3
            have HB := hide M1.at_.blk
            obtain ⟨c0, c1, c2, c3, c4, c5, c6, c7⟩ := M1.at_.cells
            go_upto_region 23 with fail
            go_region_law (first
                | (refine step_append_rw _ (by rfl) _ _ 38 38 (by rfl) 41 _ i0 _ 3 32 Try.underlying38 Try.underlying38 (by simp) hi0 hz0 hz1 hz2 rfl _ _ _ (by rfl) hw3 _ _ _ (by rfl) (Rw.src r3) r3.1 (frCells_one _) (by rw [Fl.frs_len]; unfold Fl.upTo; omega) (by rw [Fl.frs_len]; unfold Fl.upTo; omega) ?_; intro ga gc w4 hA hg ho; have hb4 := block_grown hg HB3.out nwd; have g4 := cell_at hb4 3 _ rfl; have gf := free_at hb4 3; have HB4 := hide hb4; clear hb4)
                | (go_simp; go_at_call 12; refine Calls.mono (Ready_any wx1.drew _ (V1 false).t (s1 false).fl hF ok) ?_; rintro e w3 ⟨v3, rfl, r3, hF3, hu3, fr3⟩; have hw3 := hu3.rw hwd.drew (fun k hk e => by have h1 := M1.at_.ow true k hk; rw [e, M1.at_.ob false] at h1; simp at h1); have k3 := (hu3.cell eb 3 heb neb).trans c3; have HB3 := hide (hu3.get HB.out neb)))
            all_goals
              go_wp2_with fail
              go_meet
              have nv : (Value.slice ga ((s1 true).way.length + ((s1 false).fl.frs (s1 false).fl.next ((s1 false).fl.upTo - (s1 false).fl.next)).length) gc).ownBlock ≠ some eb := by
                rcases ho with e | e <;> rw [e]
                · exact nwd
                · have := hu3.size; simp at this; simp; omega
              have M3 := M1.setFl false (V1 false).t { (s1 false).fl with next := (s1 false).fl.upTo } (((Upd.refl wx1 _).drew).then (hu3.weaken (T := fun k => k = (V1 false).b ∨ (V1 false).t.ownBlock = some k) (fun _ _ e => .inl e)) (fun _ _ e => e)) hF3 (fun k hk => .inl hk)
              have u4 := ((Upd.refl w3 (fun k => k = eb ∨ (V1 true).wv.ownBlock = some k)).grown hg (fun k hk => .inr (.inr hk))).setCell ⟨eb, 3, none⟩ (.slice ga ((s1 true).way.length + ((s1 false).fl.frs (s1 false).fl.next ((s1 false).fl.upTo - (s1 false).fl.next)).length) gc) (.inr (.inl rfl))
              have M4 := M3.setWay true (.slice ga ((s1 true).way.length + ((s1 false).fl.frs (s1 false).fl.next ((s1 false).fl.upTo - (s1 false).fl.next)).length) gc) ((s1 true).way ++ ((s1 false).fl.frs (s1 false).fl.next ((s1 false).fl.upTo - (s1 false).fl.next))) u4 (block_setCell HB4.out 3 _)
                (by have := hA.setCell ⟨eb, 3, none⟩ (.slice ga ((s1 true).way.length + ((s1 false).fl.frs (s1 false).fl.next ((s1 false).fl.upTo - (s1 false).fl.next)).length) gc) nv; simpa [FrsAt, frCells_app] using this)
                (fun k hk => by
                  rcases ho with e | e
                  · rw [e] at hk; exact .inl hk
                  · rw [e] at hk; simp at hk; exact .inr (by omega))
              rw [HGO.out]
              exact ⟨_, _, M4⟩
          obtain ⟨ow2, V2, M2⟩ := hcut
          have CA := C0.tick false
          have XA := X0.step C0 false (s' := tickS s0 false) (.inr (.inr (.inr (.inl rfl))))
          have WA := Wn0.step false (s' := tickS s0 false) (.inr (.inr (.inr (.inl rfl))))
          have lA : ∀ d, (tickS s0 false d).sent.length ≤ 100 := fun d => by cases d <;> exact l0 _
          have nA := tickS_way s0 false 1 n0 C0 l0
          have C2 := CA.ready false
          have X2 := XA.step CA false (s' := readyS (tickS s0 false) false) (.inr (.inr (.inl rfl)))
          have Wn2 := WA.step false (s' := readyS (tickS s0 false) false) (.inr (.inr (.inl rfl)))
          have l2 : ∀ d, (readyS (tickS s0 false) false d).sent.length ≤ 100 := fun d => by cases d <;> exact l0 _
          have n2 := readyS_way (tickS s0 false) false (1 + 100) nA CA lA
          clear M0 CA XA WA lA nA
          obtain ⟨s2, hs2⟩ : ∃ x, x = readyS (tickS s0 false) false := ⟨_, rfl⟩
          rw [← hs2] at M2 C2 X2 Wn2 l2 n2
          have HS2 := hide hs2
          clear hs2
          obtain ⟨wx2, hwx2⟩ : ∃ x : World, x = wc := ⟨wc, rfl⟩
          subst hwx2
          go_wp2_with fail
          rw [rounds_succ]
          go_upto_block 7 with fail
          go_cut [] (fun wz => ∃ own' V', Mid wr wz eb own0 own' V' (readyS (tickS s2 true) true))
          case first =>
            -- tick of side true
            have sm2 := C2.small l2 (fun d => by have := n2 d; omega)
            have ok := sm2.ok true
            have tp := sm2.top true
            have lw := n2 false
            have hF := M2.at_.fl true
            have hwd := M2.at_.wy false
            have nwd : (V2 false).wv.ownBlock ≠ some eb := fun e => by have h1 := M2.at_.ow false _ e; rw [M2.at_.oe] at h1; simp at h1
            have neb : eb ≠ (V2 true).b := fun e => by have h1 := M2.at_.ob true; rw [← e, M2.at_.oe] at h1; simp at h1
            have heb := lt_at M2.at_.blk
            have f2 := free_at M2.at_.blk 2
            have HB := hide M2.at_.blk
            obtain ⟨c0, c1, c2, c3, c4, c5, c6, c7⟩ := M2.at_.cells
            go_upto_region 22 with fail
            go_cut [] (fun wz => ∃ own' V', Mid wr wz eb own0 own' V' (tickS s2 true))
            case first =>
              go_region_law (first
                  | (refine step_append_rw _ (by rfl) _ _ 38 38 (by rfl) 41 _ i0 _ 3 32 Try.underlying38 Try.underlying38 (by simp) hi0 hz0 hz1 hz2 rfl _ _ _ (by rfl) hw3 _ _ _ (by rfl) (Rw.src r3) r3.1 (frCells_one _) (by rw [Fl.frs_len]; have := ok.nt; omega) (by rw [Fl.frs_len]; have := ok.nt; omega) ?_; intro ga gc w4 hA hg ho; have hb4 := block_grown hg HB3.out nwd; have g4 := cell_at hb4 2 _ rfl; have gf := free_at hb4 2; have HB4 := hide hb4; clear hb4)
                  | (go_simp; go_at_call 13; refine Calls.mono (Tick_any wx2.drew _ (V2 true).t (s2 true).fl hF ok) ?_; rintro e w3 ⟨v3, rfl, r3, hu3, fr3⟩; have hw3 := hu3.rw hwd.drew (fun _ _ => id); have k3 := (hu3.cell eb 2 heb id).trans c2; have HB3 := hide (hu3.get HB.out id)))
              all_goals
                go_wp2_with fail
                go_meet
                have nv : (Value.slice ga ((s2 false).way.length + ((s2 true).fl.frs (s2 true).fl.base ((s2 true).fl.next - (s2 true).fl.base)).length) gc).ownBlock ≠ some eb := by
                  rcases ho with e | e <;> rw [e]
                  · exact nwd
                  · have := hu3.size; simp at this; simp; omega
                have M3 := M2.upd' (((Upd.refl wx2 (fun _ => False)).drew).then hu3 (fun _ _ => id))
                have u4 := ((Upd.refl w3 (fun k => k = eb ∨ (V2 false).wv.ownBlock = some k)).grown hg (fun k hk => .inr (.inr hk))).setCell ⟨eb, 2, none⟩ (.slice ga ((s2 false).way.length + ((s2 true).fl.frs (s2 true).fl.base ((s2 true).fl.next - (s2 true).fl.base)).length) gc) (.inr (.inl rfl))
                have M4 := M3.setWay false (.slice ga ((s2 false).way.length + ((s2 true).fl.frs (s2 true).fl.base ((s2 true).fl.next - (s2 true).fl.base)).length) gc) ((s2 false).way ++ ((s2 true).fl.frs (s2 true).fl.base ((s2 true).fl.next - (s2 true).fl.base))) u4 (block_setCell HB4.out 2 _)
                  (by have := hA.setCell ⟨eb, 2, none⟩ (.slice ga ((s2 false).way.length + ((s2 true).fl.frs (s2 true).fl.base ((s2 true).fl.next - (s2 true).fl.base)).length) gc) nv; simpa [FrsAt, frCells_app] using this)
                  (fun k hk => by
                    rcases ho with e | e
                    · rw [e] at hk; exact .inl hk
                    · rw [e] at hk; simp at hk; exact .inr (by omega))
                exact ⟨_, _, M4⟩
            obtain ⟨ow3, V3, M3⟩ := hcut
            have C3 := C2.tick true
            have X3 := X2.step C2 true (s' := tickS s2 true) (.inr (.inr (.inr (.inl rfl))))
            have Wn3 := Wn2.step true (s' := tickS s2 true) (.inr (.inr (.inr (.inl rfl))))
            have l3 : ∀ d, (tickS s2 true d).sent.length ≤ 100 := fun d => by cases d <;> exact l2 _
            have n3 := tickS_way s2 true (1 + 100 + 100) n2 C2 l2
            clear hwd hF ok tp lw nwd neb heb f2 HB c0 c1 c2 c3 c4 c5 c6 c7 sm2 M2
            obtain ⟨s3, hs3⟩ : ∃ x, x = tickS s2 true := ⟨_, rfl⟩
            rw [← hs3] at M3 C3 X3 Wn3 l3 n3
            have HS3 := hide hs3
            have hgo : readyS (tickS s2 true) true = readyS s3 true := by rw [HS3.out]
            have HGO := hide hgo
            clear hgo hs3
            obtain ⟨wx3, hwx3⟩ : ∃ x : World, x = wc := ⟨wc, rfl⟩
            subst hwx3
            -- ready of side true
            have sm3 := C3.small l3 (fun d => by have := n3 d; omega)
            have ok := sm3.ok true
            have tp := sm3.top true
            have lw := n3 false
            have hF := M3.at_.fl true
            have hwd := M3.at_.wy false
            have nwd : (V3 false).wv.ownBlock ≠ some eb := fun e => by have h1 := M3.at_.ow false _ e; rw [M3.at_.oe] at h1; simp at h1
            have neb : eb ≠ (V3 true).b := fun e => by have h1 := M3.at_.ob true; rw [← e, M3.at_.oe] at h1; simp at h1
            have heb := lt_at M3.at_.blk
            have f2 := free_at M3.at_.blk 2
            have HB := hide M3.at_.blk
            obtain ⟨c0, c1, c2, c3, c4, c5, c6, c7⟩ := M3.at_.cells
            go_upto_region 23 with fail
            go_region_law (first
                | (refine step_append_rw _ (by rfl) _ _ 38 38 (by rfl) 41 _ i0 _ 3 32 Try.underlying38 Try.underlying38 (by simp) hi0 hz0 hz1 hz2 rfl _ _ _ (by rfl) hw3 _ _ _ (by rfl) (Rw.src r3) r3.1 (frCells_one _) (by rw [Fl.frs_len]; unfold Fl.upTo; omega) (by rw [Fl.frs_len]; unfold Fl.upTo; omega) ?_; intro ga gc w4 hA hg ho; have hb4 := block_grown hg HB3.out nwd; have g4 := cell_at hb4 2 _ rfl; have gf := free_at hb4 2; have HB4 := hide hb4; clear hb4)
                | (go_simp; go_at_call 12; refine Calls.mono (Ready_any wx3.drew _ (V3 true).t (s3 true).fl hF ok) ?_; rintro e w3 ⟨v3, rfl, r3, hF3, hu3, fr3⟩; have hw3 := hu3.rw hwd.drew (fun k hk e => by have h1 := M3.at_.ow false k hk; rw [e, M3.at_.ob true] at h1; simp at h1); have k3 := (hu3.cell eb 2 heb neb).trans c2; have HB3 := hide (hu3.get HB.out neb)))
            all_goals
              go_wp2_with fail
              go_meet
              have nv : (Value.slice ga ((s3 false).way.length + ((s3 true).fl.frs (s3 true).fl.next ((s3 true).fl.upTo - (s3 true).fl.next)).length) gc).ownBlock ≠ some eb := by
                rcases ho with e | e <;> rw [e]
                · exact nwd
                · have := hu3.size; simp at this; simp; omega
              have M3 := M3.setFl true (V3 true).t { (s3 true).fl with next := (s3 true).fl.upTo } (((Upd.refl wx3 _).drew).then (hu3.weaken (T := fun k => k = (V3 true).b ∨ (V3 true).t.ownBlock = some k) (fun _ _ e => .inl e)) (fun _ _ e => e)) hF3 (fun k hk => .inl hk)
              have u4 := ((Upd.refl w3 (fun k => k = eb ∨ (V3 false).wv.ownBlock = some k)).grown hg (fun k hk => .inr (.inr hk))).setCell ⟨eb, 2, none⟩ (.slice ga ((s3 false).way.length + ((s3 true).fl.frs (s3 true).fl.next ((s3 true).fl.upTo - (s3 true).fl.next)).length) gc) (.inr (.inl rfl))
              have M4 := M3.setWay false (.slice ga ((s3 false).way.length + ((s3 true).fl.frs (s3 true).fl.next ((s3 true).fl.upTo - (s3 true).fl.next)).length) gc) ((s3 false).way ++ ((s3 true).fl.frs (s3 true).fl.next ((s3 true).fl.upTo - (s3 true).fl.next))) u4 (block_setCell HB4.out 2 _)
                (by have := hA.setCell ⟨eb, 2, none⟩ (.slice ga ((s3 false).way.length + ((s3 true).fl.frs (s3 true).fl.next ((s3 true).fl.upTo - (s3 true).fl.next)).length) gc) nv; simpa [FrsAt, frCells_app] using this)
                (fun k hk => by
                  rcases ho with e | e
                  · rw [e] at hk; exact .inl hk
                  · rw [e] at hk; simp at hk; exact .inr (by omega))
              rw [HGO.out]
              exact ⟨_, _, M4⟩
          obtain ⟨ow4, V4, M4⟩ := hcut
          have CA := C2.tick true
          have XA := X2.step C2 true (s' := tickS s2 true) (.inr (.inr (.inr (.inl rfl))))
          have WA := Wn2.step true (s' := tickS s2 true) (.inr (.inr (.inr (.inl rfl))))
          have lA : ∀ d, (tickS s2 true d).sent.length ≤ 100 := fun d => by cases d <;> exact l2 _
          have nA := tickS_way s2 true (1 + 100 + 100) n2 C2 l2
          have C4 := CA.ready true
          have X4 := XA.step CA true (s' := readyS (tickS s2 true) true) (.inr (.inr (.inl rfl)))
          have Wn4 := WA.step true (s' := readyS (tickS s2 true) true) (.inr (.inr (.inl rfl)))
          have l4 : ∀ d, (readyS (tickS s2 true) true d).sent.length ≤ 100 := fun d => by cases d <;> exact l2 _
          have n4 := readyS_way (tickS s2 true) true ((1 + 100 + 100) + 100) nA CA lA
          clear M2 CA XA WA lA nA
          obtain ⟨s4, hs4⟩ : ∃ x, x = readyS (tickS s2 true) true := ⟨_, rfl⟩
          rw [← hs4] at M4 C4 X4 Wn4 l4 n4
          have HS4 := hide hs4
          clear hs4
          obtain ⟨wx4, hwx4⟩ : ∃ x : World, x = wc := ⟨wc, rfl⟩
          subst hwx4
          go_wp2_with fail
          rw [rounds_succ]
          go_wp2_with fail
          rw [← hogk] at hr
          have e4 : s4 = roundS s0 := by rw [HS4.out, HS2.out]; rfl
          obtain ⟨nD, AD, hD0, hD1⟩ := Dr.start' C0 HW0.out l0
          rw [← e4] at hD0
          have E4 := hide e4
          clear e4
          obtain ⟨wo, hwo⟩ : ∃ x : World, x = wr := ⟨wr, rfl⟩
          subst hwo
          clear n4 n0
          go_loopg [] (Dr.left nD AD) (fun q wz => DrainRel wo eb own0 s4 q wz)
          case atStart => exact ⟨_, _, s4, nD, AD, M4, hD0, Nat.le_refl _, hD1, C4, X4, Wn4, Keeps.refl _⟩
          case round =>
            obtain ⟨ow5, V5, s5, n5, A5, M5, D5, hq5, hq1, C5, X5, Wn5, K5⟩ := hrel
            clear M4 hD0 hD1
            have hl5 : ∀ d, (s5 d).sent.length ≤ 100 := fun d => by rw [K5.sent]; exact l4 d
            obtain ⟨c0, c1, c2, c3, c4, c5, c6, c7⟩ := M5.at_.cells
            obtain ⟨a2, p2, e2, -⟩ := (M5.at_.wy false).form
            obtain ⟨a3, p3, e3, -⟩ := (M5.at_.wy true).form
            rw [e2] at c2
            rw [e3] at c3
            obtain ⟨z0, hz0'⟩ : ∃ x, (s5 false).way.length = x := ⟨_, rfl⟩
            obtain ⟨z1, hz1'⟩ : ∃ x, (s5 true).way.length = x := ⟨_, rfl⟩
            have hb0 := D5.wayLen false
            have hb1 := D5.wayLen true
            rw [hz0'] at c2 hb0
            rw [hz1'] at c3 hb1
            have Z0 := hide hz0'
            have Z1 := hide hz1'
            clear hz0' hz1' e2 e3
            have wj : IntKind.i64.wrap ((z0 : Int) + (z1 : Int)) = (z0 : Int) + (z1 : Int) := IntWalk.i64_in _ (by omega)
            by_cases hz : z0 + z1 = 0
            · have he5 : ∀ c, (s5 c).way = [] := fun c => List.eq_nil_of_length_eq_zero (by have := Z0.out; have := Z1.out; cases c <;> omega)
              have H5 := hide he5
              clear he5
              have d1 : decide ((0 : Int) < (z0 : Int) + (z1 : Int)) = false := by simp; omega
              go_wp2_with fail
              go_quiet (fail)
              clear c0 c1 c2 c3 c4 c5 c6 c7 d1 wj
              go_wp2_with fail
              go_roundg (ogk - 1)
              case measure => omega
              case rel => exact ComesRel.next hr (by omega) C0 Wn0 HW0.out l0 ht0 hu0 ho0 (M5.upd' ((Upd.refl wr (fun _ => False)).drewN nq)) D5 C5 X5 Wn5 (E4.out ▸ K5) H5.out
            · have d1 : decide ((0 : Int) < (z0 : Int) + (z1 : Int)) = true := by simp; omega
              go_wp2_with fail
              go_quiet (fail)
              clear d1 wj
              go_wp2_with fail
              refine wp_loop_rounds 3 ?_
              rw [rounds_succ]
              by_cases hz2 : 0 < z0
              · go_wp2_with fail
                clear c0 c1 c2 c3 c4 c5 c6 c7
                have hzz0 := Z0.out
                obtain ⟨y, hy⟩ : ∃ y, (s5 false).way[0]? = some y := ⟨_, List.getElem?_eq_getElem (by omega)⟩
                have sm5 := C5.small hl5 (fun d => by have := D5.wayLen d; omega)
                refine Calls.mono (take_any wo (wr.drewN nq) eb own0 ow5 V5 s5 false 0 false y (M5.upd' ((Upd.refl wr (fun _ => False)).drewN nq)) (sm5.ok false) hy (fun d => by have := D5.wayLen d; omega) (by have := sm5.inn false; omega) 0 rfl) ?_
                rintro e w6 ⟨rfl, ow6, V6, M6⟩
                obtain ⟨n6, A6, D6, lt6⟩ := D5.take X5 C5 false y hy
                have C6 := C5.take false 0 false y hy
                have r6 : StepRel false s5 (takeS s5 false 0 false y) := .inr (.inr (.inr (.inr (.inr (.inr ⟨0, false, y, hy, rfl⟩)))))
                have X6 := X5.step C5 false r6
                have Wn6 := Wn5.step false r6
                have K6 := K5.trans (takeS_keeps s5 false 0 false y)
                obtain ⟨s6, hs6⟩ : ∃ x, x = takeS s5 false 0 false y := ⟨_, rfl⟩
                rw [← hs6] at M6 D6 C6 X6 Wn6 K6
                clear hs6 r6 hy
                have hl6 : ∀ d, (s6 d).sent.length ≤ 100 := fun d => by rw [K6.sent]; exact l4 d
                clear hzz0
                obtain ⟨c0, c1, c2, c3, c4, c5, c6, c7⟩ := M6.at_.cells
                obtain ⟨aa, pp, ee, -⟩ := (M6.at_.wy true).form
                rw [ee] at c3
                obtain ⟨zz, hzz⟩ : ∃ x, (s6 true).way.length = x := ⟨_, rfl⟩
                have hzl := D6.wayLen true
                rw [hzz] at c3 hzl
                have HZZ := hide hzz
                clear hzz ee
                by_cases hz3 : 0 < zz
                · go_wp2_with fail
                  rw [rounds_succ]
                  go_wp2_with fail
                  clear c0 c1 c2 c3 c4 c5 c6 c7
                  have hzz0 := HZZ.out
                  obtain ⟨y, hy⟩ : ∃ y, (s6 true).way[0]? = some y := ⟨_, List.getElem?_eq_getElem (by omega)⟩
                  have sm6 := C6.small hl6 (fun d => by have := D6.wayLen d; omega)
                  refine Calls.mono (take_any wo w6 eb own0 ow6 V6 s6 true 0 false y M6 (sm6.ok true) hy (fun d => by have := D6.wayLen d; omega) (by have := sm6.inn true; omega) 1 rfl) ?_
                  rintro e w7 ⟨rfl, ow7, V7, M7⟩
                  obtain ⟨n7, A7, D7, lt7⟩ := D6.take X6 C6 true y hy
                  have C7 := C6.take true 0 false y hy
                  have r7 : StepRel true s6 (takeS s6 true 0 false y) := .inr (.inr (.inr (.inr (.inr (.inr ⟨0, false, y, hy, rfl⟩)))))
                  have X7 := X6.step C6 true r7
                  have Wn7 := Wn6.step true r7
                  have K7 := K6.trans (takeS_keeps s6 true 0 false y)
                  obtain ⟨s7, hs7⟩ : ∃ x, x = takeS s6 true 0 false y := ⟨_, rfl⟩
                  rw [← hs7] at M7 D7 C7 X7 Wn7 K7
                  clear hs7 r7 hy
                  have hl7 : ∀ d, (s7 d).sent.length ≤ 100 := fun d => by rw [K7.sent]; exact l4 d
                  clear hzz0
                  go_wp2_with fail
                  rw [rounds_succ]
                  go_wp2_with fail
                  go_roundg (gk - 1)
                  case measure => omega
                  case rel => exact ⟨ow7, V7, s7, n7, A7, M7, D7, by omega, by omega, C7, X7, Wn7, K7⟩
                · go_wp2_with fail
                  rw [rounds_succ]
                  go_wp2_with fail
                  clear c0 c1 c2 c3 c4 c5 c6 c7
                  go_wp2_with fail
                  rw [rounds_succ]
                  go_wp2_with fail
                  go_roundg (gk - 1)
                  case measure => omega
                  case rel => exact ⟨ow6, V6, s6, n6, A6, M6, D6, by omega, by omega, C6, X6, Wn6, K6⟩
              · have hz4 : 0 < z1 := by omega
                go_wp2_with fail
                rw [rounds_succ]
                go_wp2_with fail
                clear c0 c1 c2 c3 c4 c5 c6 c7
                have hzz0 := Z1.out
                obtain ⟨y, hy⟩ : ∃ y, (s5 true).way[0]? = some y := ⟨_, List.getElem?_eq_getElem (by omega)⟩
                have sm5 := C5.small hl5 (fun d => by have := D5.wayLen d; omega)
                refine Calls.mono (take_any wo (wr.drewN nq) eb own0 ow5 V5 s5 true 0 false y (M5.upd' ((Upd.refl wr (fun _ => False)).drewN nq)) (sm5.ok true) hy (fun d => by have := D5.wayLen d; omega) (by have := sm5.inn true; omega) 1 rfl) ?_
                rintro e w6 ⟨rfl, ow6, V6, M6⟩
                obtain ⟨n6, A6, D6, lt6⟩ := D5.take X5 C5 true y hy
                have C6 := C5.take true 0 false y hy
                have r6 : StepRel true s5 (takeS s5 true 0 false y) := .inr (.inr (.inr (.inr (.inr (.inr ⟨0, false, y, hy, rfl⟩)))))
                have X6 := X5.step C5 true r6
                have Wn6 := Wn5.step true r6
                have K6 := K5.trans (takeS_keeps s5 true 0 false y)
                obtain ⟨s6, hs6⟩ : ∃ x, x = takeS s5 true 0 false y := ⟨_, rfl⟩
                rw [← hs6] at M6 D6 C6 X6 Wn6 K6
                clear hs6 r6 hy
                have hl6 : ∀ d, (s6 d).sent.length ≤ 100 := fun d => by rw [K6.sent]; exact l4 d
                clear hzz0
                go_wp2_with fail
                rw [rounds_succ]
                go_wp2_with fail
                go_roundg (gk - 1)
                case measure => omega
                case rel => exact ⟨ow6, V6, s6, n6, A6, M6, D6, by omega, by omega, C6, X6, Wn6, K6⟩
        · have hT : ∀ c, (s0 c).fl.texts.length = 0 := fun c => by
            have h1 := ht0 c; have h2 := HT0.out; have h3 := HT1.out; have h4 := HRT.out
            cases c <;> simp only at h1 <;> omega
          have sm := C0.small l0 (fun c => by rw [hway0 c]; simp)
          obtain ⟨kk, hI⟩ := id C0
          obtain ⟨i1, i2, i3, i4⟩ := hI.right
          have hEn : ∀ n, EndsAt (wr.drewN n) eb own0 V0 s0 := fun n => hE0.upd ((Upd.refl wr (fun _ => False)).drewN n)
          have RT := fun n => right_true (wr.drewN n) eb own0 V0 s0 (hEn n) sm i1 i2 i3 i4
          have I0 := fun n => Idle_any (wr.drewN n) _ _ _ ((hEn n).fl false)
          have I1 := fun n => Idle_any (wr.drewN n) _ _ _ ((hEn n).fl true)
          simp only [hT, beq_self_eq_true] at I0 I1
          have hio : ∀ c, (s0 c).inn = (s0 (!c)).sent := fun c => by
            have h1 := i1 c; have h2 := i2 c; have h3 := i3 (!c); have h4 := i4 (!c); have h5 := hT (!c)
            rw [Bool.not_not] at h3
            rw [← h2, List.take_of_length_le (by omega)]
          have j0 : (s0 false).inn = (s0 true).sent := hio false
          have j1 : (s0 true).inn = (s0 false).sent := hio true
          have k0 : (s0 true).sent.length ≤ 1000000 := by have := l0 true; omega
          have k1 : (s0 false).sent.length ≤ 1000000 := by have := l0 false; omega
          have E0 := fun n => equal_true (wr.drewN n) (V0 false).iv (V0 true).sv (s0 true).sent (by rw [← j0]; exact Rs.of ((hEn n).inn false)) (Rs.of ((hEn n).st true)) k0
          have E1 := fun n => equal_true (wr.drewN n) (V0 true).iv (V0 false).sv (s0 false).sent (by rw [← j1]; exact Rs.of ((hEn n).inn true)) (Rs.of ((hEn n).st false)) k1
          obtain ⟨c0, c1, c2, c3, c4, c5, c6, c7⟩ := hE0.cells
          clear hT sm hI i1 i2 i3 i4 hEn hio j0 j1 k0 k1 hway0 ht0 hE0 C0 X0 Wn0 l0 ho0
          go_wp2_with fail
          refine wp_region_quiet_lit (by kernel_rfl) (by kernel_rfl) ?_
          go_big_quiet_step (fail)
          go_big_quiet_want
          go_big_quiet_op
          go_big_quiet_call ((go_at_call 10; exact Calls.quiet_of (RT _)))
          repeat (go_big_quiet_step (fail))
          go_big_quiet_want
          go_big_quiet_op
          go_big_quiet_call ((go_at_call 18; exact Calls.quiet_of_same (I0 _)))
          repeat (go_big_quiet_step (fail))
          go_big_quiet_want
          go_big_quiet_op
          go_big_quiet_call ((go_at_call 18; exact Calls.quiet_of_same (I1 _)))
          repeat (go_big_quiet_step (fail))
          go_big_quiet_want
          go_big_quiet_op
          go_big_quiet_call ((go_at_call 19; exact Calls.quiet_of (E0 _)))
          repeat (go_big_quiet_step (fail))
          go_big_quiet_want
          go_big_quiet_op
          go_big_quiet_call ((go_at_call 19; exact Calls.quiet_of (E1 _)))
          repeat (go_big_quiet_step (fail))
          refine wpQuiet_nil ?_
          intro _ hw'
          obtain ⟨nq, hw''⟩ := hw'
          subst hw''
          go_wp2_with fail
          go_ret
          exact ⟨rfl, hu0.drewN _⟩
end Go.Proofs.Ytfbmhfpffciojaa
