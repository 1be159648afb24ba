/- The reference's Closure. -/
import Derived.Test.YtnhggncpebifhaaGsA
set_option maxRecDepth 100000
namespace Go.Proofs.Ytnhggncpebifhaa
open Go.RowKit Go.Lat Go.Tarjan

/-- The table while a round is under way: rows below i are done, row i up to k. -/
def Ck (E : Nat → Nat → Bool) (m i k : Nat) : Nat → Nat → Bool := fun a x => if a < i ∨ (a = i ∧ x < k) then wrun E (m + 1) a x else wrun E m a x
theorem wrun_row (E : Nat → Nat → Bool) (m k : Nat) : wrun E (m + 1) m k = wrun E m m k := by
  show (wrun E m m k || (wrun E m m m && wrun E m m k)) = wrun E m m k
  cases wrun E m m k <;> simp
theorem wrun_col (E : Nat → Nat → Bool) (m a : Nat) : wrun E (m + 1) a m = wrun E m a m := by
  show (wrun E m a m || (wrun E m a m && wrun E m m m)) = wrun E m a m
  cases wrun E m a m <;> simp
theorem Ck_col (E : Nat → Nat → Bool) (m i k a : Nat) : Ck E m i k a m = wrun E m a m := by
  unfold Ck
  split
  · exact wrun_col E m a
  · rfl
theorem Ck_row (E : Nat → Nat → Bool) (m i k x : Nat) : Ck E m i k m x = wrun E m m x := by
  unfold Ck
  split
  · exact wrun_row E m x
  · rfl
theorem Ck_zero (E : Nat → Nat → Bool) (m : Nat) : Ck E m 0 0 = wrun E m := by
  funext a x
  unfold Ck
  rw [if_neg (by omega)]
theorem Ck_next {E : Nat → Nat → Bool} {m i k : Nat} {n : Nat} (h : ∀ x, k ≤ x → x < n → wrun E (m + 1) i x = wrun E m i x) : ∀ a x, a < n → x < n → Ck E m i k a x = Ck E m (i + 1) 0 a x := by
  intro a x _ hx
  unfold Ck
  by_cases e : a = i
  · subst e
    by_cases q : x < k
    · rw [if_pos (by omega), if_pos (by omega)]
    · rw [if_neg (by omega), if_pos (by omega)]
      exact (h x (by omega) hx).symm
  · by_cases q : a < i
    · rw [if_pos (by omega), if_pos (by omega)]
    · rw [if_neg (by omega), if_neg (by omega)]
theorem Ck_end {E : Nat → Nat → Bool} {m n : Nat} : ∀ a x, a < n → x < n → Ck E m n 0 a x = wrun E (m + 1) a x := by
  intro a x ha _
  unfold Ck
  rw [if_pos (by omega)]
theorem Ck_no {E : Nat → Nat → Bool} {m i k n : Nat} (h : wrun E (m + 1) i k = wrun E m i k) : ∀ a x, a < n → x < n → Ck E m i k a x = Ck E m i (k + 1) a x := by
  intro a x _ _
  unfold Ck
  by_cases e : a = i ∧ x = k
  · obtain ⟨rfl, rfl⟩ := e
    rw [if_neg (by omega), if_pos (by omega)]
    exact h.symm
  · by_cases q : a < i ∨ (a = i ∧ x < k)
    · rw [if_pos q, if_pos (by omega)]
    · rw [if_neg q, if_neg (by omega)]
theorem Ck_yes {E : Nat → Nat → Bool} {m i k n : Nat} (h : wrun E (m + 1) i k = true) : ∀ a x, a < n → x < n → setE (Ck E m i k) i k true a x = Ck E m i (k + 1) a x := by
  intro a x _ _
  unfold setE Ck
  by_cases e : a = i ∧ x = k
  · obtain ⟨rfl, rfl⟩ := e
    rw [if_pos ⟨rfl, rfl⟩, if_pos (by omega)]
    exact h.symm
  · rw [if_neg e]
    by_cases q : a < i ∨ (a = i ∧ x < k)
    · rw [if_pos q, if_pos (by omega)]
    · rw [if_neg q, if_neg (by omega)]
set_option maxHeartbeats 6400000 in
theorem Closure_any {bs : Nat} {w : World} {rb n : Nat} {v : Value} {fr : Nat → Value} {E : Nat → Nat → Bool} (hr : RgAt bs w rb n v fr E) (hn : n ≤ 4096) :
    Calls Try.prog 30 #[.pointer (some ⟨rb, 0, none⟩)] w fun e w' => ∃ a c f, e = .returned (.slice a n c) ∧ MatAt w.heap.size w' (.slice a n c) n n f (wrun E n) ∧ Upd w w' (fun _ => False) := by
  have MB := fun w => mkB n hn w
  obtain ⟨i0, hi, hz0, hz1, hz2⟩ := info_parts infoBs
  have HR := hide hr
  clear hr
  go_enter Try.func30, Try.ntmps30
  go_wp2_with fail
  go_loopg [3, 4] (n + 1) (fun q cv jv wr => ∃ j ca cc f, j ≤ n ∧ n - j < q ∧ jv = .int .i64 (j : Nat) ∧ cv = .slice ca j cc ∧ MatAt w.heap.size wr (.slice ca j cc) j n f E ∧ Upd w wr (fun _ => False))
  case atStart => exact ⟨0, none, 0, fun _ => .slice none 0 0, by omega, by omega, rfl, rfl, RwsAt.nil _ _ _ _ _ _, Upd.refl _ _⟩
  case round =>
    obtain ⟨j, ca, cc, f, hj, hq, rfl, rfl, hm, uw⟩ := hrel
    have hr2 := HR.out.quiet uw
    obtain ⟨d0, d1⟩ := cells2 hr2.c
    have lb := lt_at hr2.c
    by_cases hjn : j < n
    · have j1 : (j : Int) < (n : Int) := by omega
      have j0 : (0 : Int) ≤ (j : Int) := by omega
      have r0 := Rw.made1 wr 4 n (.bool false)
      have u0 : Upd wr (wr.alloc (.cells (madeCells #[.bool false] n) 4)) (fun _ => False) := (Upd.refl _ _).alloc _
      obtain ⟨ob, hob⟩ : ∃ b, wr.heap.size = b := ⟨_, rfl⟩
      obtain ⟨W1, hW1⟩ : ∃ W, wr.alloc (.cells (madeCells #[.bool false] n) 4) = W := ⟨_, rfl⟩
      rw [hW1] at r0 u0
      rw [hob] at r0
      have HM := hide hm
      have HUW := hide uw
      have HR0 := hide r0
      have HU0 := hide u0
      have HOB := hide hob
      have HW1 := hide hW1
      clear hm uw hr2 r0 u0 hob hW1
      go_wp2_with fail
      rw [HW1.out, HOB.out]
      obtain ⟨wq, hwq⟩ : ∃ W, W = wr := ⟨_, rfl⟩
      rw [← hwq] at HM HUW HU0 HOB
      clear hwq d0 d1 lb HW1
      obtain ⟨gko, hgko⟩ : ∃ x, x = gk := ⟨_, rfl⟩
      rw [← hgko] at hq
      go_loopg [6] (n + 1) (fun q kv wr => ∃ k, k ≤ n ∧ n - k < q ∧ kv = .int .i64 (k : Nat) ∧ Rw wr 4 1 (.slice (some ⟨ob, 0, none⟩) n n) n (fRow n (boolR (fun x => decide (x < k) && E j x))) ∧ Upd W1 wr (fun i => i = ob))
      case atStart => exact ⟨0, by omega, by omega, rfl, by rw [fRow_congr (g := fun _ => Value.bool false) (fun i hi => by simp [boolR])]; exact HR0.out, Upd.refl _ _⟩
      case round =>
        obtain ⟨k, hk, hq2, rfl, rk, u2⟩ := hrel
        have uwr : Upd w wr (fun _ => False) := (HUW.out.then HU0.out (fun _ _ => id)).then u2 (fun i hi e => by have := HUW.out.size; have := HOB.out; omega)
        have hr2 := HR.out.quiet uwr
        obtain ⟨d0, d1⟩ := cells2 hr2.c
        have lb := lt_at hr2.c
        by_cases hkn : k < n
        · have k1 : (k : Int) < (n : Int) := by omega
          have k0 : (0 : Int) ≤ (k : Int) := by omega
          obtain ⟨sg, so, sc, rg, ro, rc, rfl, hf, sgl, rgl, s0, r1, r2⟩ := hr2.m.at hjn hkn
          obtain ⟨bo, o1, o2⟩ := bool_at rk hkn
          have HRK := hide rk
          have HU2 := hide u2
          clear rk u2 uwr hr2 hf
          go_wp2_with fail
          go_roundg (gk - 1)
          case measure => omega
          case rel => exact ⟨k + 1, by omega, by omega, by go_num, by
            have q := Rw.set1 HRK.out k hkn (.bool (E j k))
            have e : (fun x => decide (x < k + 1) && E j x) = updF (fun x => decide (x < k) && E j x) k (E j k) := cyc_row (f := fun x => E j x) rfl
            rw [Nat.zero_add, boolR_upd, ← e] at q
            exact q, HU2.out.setCell _ _ (.inr rfl)⟩
        · have k1 : ¬ (k : Int) < (n : Int) := by omega
          have hkn2 : k = n := by omega
          have rk2 : Rw wr 4 1 (.slice (some ⟨ob, 0, none⟩) n n) n (fRow n (boolR (E j))) := by
            rw [fRow_congr (g := boolR (fun x => decide (x < k) && E j x)) (fun x hx => by simp [boolR, hkn2, hx])]
            exact rk
          have u2' : Upd wq wr (fun _ => False) := HU0.out.then u2 (fun i hi e => by have := HOB.out; omega)
          have hsp := (MatAt.quiet HM.out u2').spine
          have hj6 : j ≤ 4096 := by omega
          have HRK := hide rk2
          have HU2 := hide u2'
          have HSP := hide hsp
          have HM2 := hide (MatAt.quiet HM.out u2')
          have HUR := hide uwr
          clear rk rk2 u2 u2' hsp hr2 uwr hkn2
          go_wp2_with (at_builtin; go_loud (refine wpList_append_rw _ rfl _ _ 52 52 rfl 51 _ i0 _ 1 24 Try.underlying52 Try.underlying52 (by simp) hi hz0 hz1 hz2 rfl _ j _ rfl (HSP.out.alloc _) _ 1 [.slice (some ⟨ob, 0, none⟩) n n] rfl (Rw.made wr #[.slice (some ⟨ob, 0, none⟩) n n] 51 1 1 rfl).src rfl (by simp [Value.oneCell']) (by omega) (by omega) ?_); intro ga gc w4 hA hg4 hob')
          have u41 : Upd wr w4 (fun k => (Value.slice ca j cc).ownBlock = some k) := ((Upd.refl _ _).alloc _).grown hg4 (fun k e => .inr e)
          obtain ⟨m4, o4⟩ := HM.out.snoc (g := E j) HU2.out HRK.out (fun k q => by have e : ob = k := Option.some.inj q; have := HOB.out; omega) HUW.out.size hA u41 (by simp) hob'
          go_roundg (gko - 1)
          case measure => omega
          case rel => exact ⟨j + 1, ga, gc, _, by omega, by omega, by go_num, rfl, MatAt.congr m4 (fun i k _ _ => by
            by_cases e : i = j
            · subst e; rw [if_pos rfl]
            · rw [if_neg e]), HUR.out.then u41 (fun k hk q => by have := RwsAt.base HM.out k (.inl q); omega)⟩
    · have j1 : ¬ (j : Int) < (n : Int) := by omega
      have hjn2 : j = n := by omega
      subst hjn2
      have HM := hide hm
      have HUW := hide uw
      clear hm uw hr2
      go_wp2_with fail
      obtain ⟨wq, hwq⟩ : ∃ W, W = wr := ⟨_, rfl⟩
      rw [← hwq] at HM HUW ⊢
      clear hwq d0 d1 lb
      go_loopg [7] (j + 1) (fun q mv wr => ∃ m, m ≤ j ∧ j - m < q ∧ mv = .int .i64 (m : Nat) ∧ MatAt w.heap.size wr (.slice ca j cc) j j f (wrun E m) ∧ Upd w wr (fun _ => False))
      case atStart => exact ⟨0, by omega, by omega, rfl, HM.out, HUW.out⟩
      case round =>
        obtain ⟨m, hm, hqm, rfl, mm, um⟩ := hrel
        have hr2 := HR.out.quiet um
        obtain ⟨d0, d1⟩ := cells2 hr2.c
        have lb := lt_at hr2.c
        by_cases hmn : m < j
        · have m1 : (m : Int) < (j : Int) := by omega
          have m0 : (0 : Int) ≤ (m : Int) := by omega
          have HMM := hide mm
          have HUM := hide um
          clear mm um hr2
          go_wp2_with fail
          obtain ⟨wq, hwq⟩ : ∃ W, W = wr := ⟨_, rfl⟩
          rw [← hwq] at HMM HUM ⊢
          clear hwq d0 d1 lb
          obtain ⟨gkm, hgkm⟩ : ∃ x, x = gk := ⟨_, rfl⟩
          rw [← hgkm] at hqm
          go_loopg [8] (j + 1) (fun q iv wr => ∃ i, i ≤ j ∧ j - i < q ∧ iv = .int .i64 (i : Nat) ∧ MatAt w.heap.size wr (.slice ca j cc) j j f (Ck E m i 0) ∧ Upd w wr (fun _ => False))
          case atStart => exact ⟨0, by omega, by omega, rfl, by rw [Ck_zero]; exact HMM.out, HUM.out⟩
          case round =>
            obtain ⟨i, hin, hqi, rfl, mi, ui⟩ := hrel
            have hr2 := HR.out.quiet ui
            obtain ⟨d0, d1⟩ := cells2 hr2.c
            have lb := lt_at hr2.c
            by_cases hij : i < j
            · have i1 : (i : Int) < (j : Int) := by omega
              have i0' : (0 : Int) ≤ (i : Int) := by omega
              have HMI := hide mi
              have HUI := hide ui
              clear mi ui hr2
              go_wp2_with fail
              obtain ⟨wq, hwq⟩ : ∃ W, W = wr := ⟨_, rfl⟩
              rw [← hwq] at HMI HUI ⊢
              clear hwq d0 d1 lb
              obtain ⟨gki, hgki⟩ : ∃ x, x = gk := ⟨_, rfl⟩
              rw [← hgki] at hqi
              obtain ⟨bt, hbt⟩ : ∃ b, wrun E m i m = b := ⟨_, rfl⟩
              have HBT := hide hbt
              clear hbt
              go_loopg [9] (j + 1) (fun q kv wr => ∃ k, k ≤ j ∧ j - k < q ∧ kv = .int .i64 (k : Nat) ∧ MatAt w.heap.size wr (.slice ca j cc) j j f (Ck E m i k) ∧ Upd w wr (fun _ => False))
              case atStart => exact ⟨0, by omega, by omega, rfl, HMI.out, HUI.out⟩
              case round =>
                obtain ⟨k, hk, hqk, rfl, mk, uk⟩ := hrel
                have hr2 := HR.out.quiet uk
                obtain ⟨d0, d1⟩ := cells2 hr2.c
                have lb := lt_at hr2.c
                by_cases hkj : k < j
                · have k1 : (k : Int) < (j : Int) := by omega
                  have k0 : (0 : Int) ≤ (k : Int) := by omega
                  obtain ⟨sg, so, sc, rg, ro, rc, hv, hf, sgl, rgl, s0, r1, r2⟩ := mk.at hij hmn
                  rw [Ck_col, HBT.out] at r1
                  simp only [Value.slice.injEq] at hv
                  obtain ⟨rfl, -, rfl⟩ := hv
                  have HMK := hide mk
                  have HUK := hide uk
                  cases bt with
                  | false =>
                    clear mk uk hr2 hf r2
                    go_wp2_with fail
                    go_roundg (gki - 1)
                    case measure => omega
                    case rel => exact ⟨i + 1, by omega, by omega, by go_num, MatAt.congr HMK.out (Ck_next (fun x _ _ => by
                      show (wrun E m i x || (wrun E m i m && wrun E m m x)) = wrun E m i x
                      rw [HBT.out]
                      simp)), HUK.out⟩
                  | true =>
                    obtain ⟨sg2, so2, sc2, rg2, ro2, rc2, hv2, hf2, sgl2, rgl2, s02, r12, r22⟩ := mk.at hmn hkj
                    obtain ⟨sg3, so3, sc3, rg3, ro3, rc3, hv3, hf3, sgl3, rgl3, s03, r13, r23⟩ := mk.at hij hkj
                    rw [Ck_row] at r12
                    simp only [Value.slice.injEq, Option.some.injEq, Addr.mk.injEq] at hv2 hv3
                    obtain ⟨⟨rfl, rfl, -⟩, -, rfl⟩ := hv2
                    obtain ⟨⟨rfl, rfl, -⟩, -, rfl⟩ := hv3
                    obtain ⟨bk, hbk⟩ : ∃ b, wrun E m m k = b := ⟨_, rfl⟩
                    rw [hbk] at r12
                    have hwk : wrun E (m + 1) i k = (wrun E m i k || bk) := by
                      show (wrun E m i k || (wrun E m i m && wrun E m m k)) = _
                      rw [HBT.out, hbk]
                      simp
                    have HWK := hide hwk
                    have HF3 := hide hf3
                    have e31 : rg3 = rg ∧ ro3 = ro ∧ rc3 = rc := by
                      rw [hf] at hf3
                      simp only [Value.slice.injEq, Option.some.injEq, Addr.mk.injEq] at hf3
                      omega
                    obtain ⟨rfl, rfl, rfl⟩ := e31
                    cases bk with
                    | false =>
                      clear mk uk hr2 hf hf2 hf3 r2 r22 hbk hwk
                      go_wp2_with fail
                      go_roundg (gk - 1)
                      case measure => omega
                      case rel => exact ⟨k + 1, by omega, by omega, by go_num, MatAt.congr HMK.out (Ck_no (by rw [HWK.out]; simp)), HUK.out⟩
                    | true =>
                      obtain ⟨q1, q2⟩ := mk.set hij hkj hf3 true
                      have Q1 := hide q1
                      have Q2 := hide q2
                      clear mk uk hr2 hf hf2 hf3 r2 r22 hbk hwk q1 q2
                      go_wp2_with fail
                      go_roundg (gk - 1)
                      case measure => omega
                      case rel => exact ⟨k + 1, by omega, by omega, by go_num, MatAt.congr Q1.out (Ck_yes (by rw [HWK.out]; simp)), HUK.out.then Q2.out (fun x hx q => by have := RwsAt.base HMK.out x q; omega)⟩
                · have k1 : ¬ (k : Int) < (j : Int) := by omega
                  have hkj2 : k = j := by omega
                  have HMK := hide mk
                  have HUK := hide uk
                  clear mk uk hr2
                  go_wp2_with fail
                  go_roundg (gki - 1)
                  case measure => omega
                  case rel => exact ⟨i + 1, by omega, by omega, by go_num, MatAt.congr HMK.out (Ck_next (fun x h1 h2 => by omega)), HUK.out⟩
            · have i1 : ¬ (i : Int) < (j : Int) := by omega
              have hij2 : i = j := by omega
              have HMI := hide mi
              have HUI := hide ui
              clear mi ui hr2
              go_wp2_with fail
              go_roundg (gkm - 1)
              case measure => omega
              case rel => exact ⟨m + 1, by omega, by omega, by go_num, MatAt.congr HMI.out (fun a x ha hx => by rw [hij2]; exact Ck_end a x ha hx), HUI.out⟩
        · have m1 : ¬ (m : Int) < (j : Int) := by omega
          have hmn2 : m = j := by omega
          have HMM := hide mm
          have HUM := hide um
          clear mm um hr2
          go_wp2_with fail
          go_ret
          rw [hmn2] at HMM
          exact ⟨_, _, rfl, ⟨f, HMM.out⟩, HUM.out⟩
end Go.Proofs.Ytnhggncpebifhaa
