/- The heap: Push, down, Pop. -/
import Derived.Test.YtnhggncpebifhaaGrV
set_option maxRecDepth 100000
namespace Go.Proofs.Ytnhggncpebifhaa
open Go.RowKit Go.Lat Go.Tarjan Go.Heapl

theorem gf_snoc (l : List Nat) (x m : Nat) (h : m < l.length) : gf (l ++ [x]) m = gf l m := by
  unfold gf
  rw [List.getElem?_append_left h]
set_option maxHeartbeats 1600000 in
theorem HPush_any {base : Nat} {w : World} {b : Nat} {a : Option Addr} {c : Nat} {l : List Nat} (h : HpAt base w b a c l) (x : Nat) (hl : l.length ≤ 100000) (hp : HpF (gf l) l.length) (hbw : base ≤ w.heap.size) :
    Calls Try.prog 38 #[.iface 70 (.pointer (some ⟨b, 0, none⟩)), .iface 3 (.int .i64 (x : Int))] w fun e w' => ∃ a' c' l', e = .returned (.tuple #[]) ∧ HpAt base w' b a' c' l' ∧ l'.Perm (l ++ [x]) ∧ HpF (gf l') l'.length ∧ (∀ k, HpAt.own b a' k → HpAt.own b a k ∨ w.heap.size ≤ k) ∧ Upd w w' (fun k => HpAt.own b a k) := by
  have PM := PushM_any h x (by omega) hbw
  obtain ⟨n, hn⟩ : ∃ n, l.length = n := ⟨_, rfl⟩
  have hl1 : (l ++ [x]).length = n + 1 := by simp [hn]
  have hup := hp_push (g := gf (l ++ [x])) hp (fun m hm => gf_snoc l x m hm)
  rw [hn] at hup
  have M1 := methPush ⟨b, 0, none⟩ w
  have hw : wrap64 (n : Int) = (n : Int) := IntWalk.wrap64_in _ (by omega)
  have HL := hide hl1
  have HUP := hide hup
  have hn6 : n ≤ 100000 := by omega
  clear h hp hn hl1 hup hl
  go_enter Try.func38, Try.ntmps38
  go_wp2_with (first
    | (go_at_call 99; refine Calls.mono PM ?_; rintro e w1 ⟨a', c', rfl, h1, h2, h3⟩; obtain ⟨m1, -, -⟩ := h1.ms HL.out; have H1 := hide h1; have H2 := hide h2; have H3 := hide h3; clear h1 h2 h3)
    | (go_at_call 39; refine Calls.mono (Len_any _ _ _ _) ?_; rintro e w2 ⟨rfl, hw2⟩; obtain rfl := hw2.symm; clear hw2)
    | (go_at_call 48; refine Calls.mono (up_any H1.out HL.out (by omega) n (by omega) HUP.out) ?_; rintro e w3 ⟨l', rfl, k1, k2, k3, k4⟩))
  go_end0
  have hll := k2.length_eq.trans HL.out
  exact ⟨a', c', l', rfl, k1, k2, by rw [hll]; exact k3, H2.out, H3.out.then k4 (fun k hk q => by
    rcases H2.out k q with z | z
    · exact z
    · omega)⟩
set_option maxHeartbeats 6400000 in
theorem down_any {base : Nat} {w : World} {b : Nat} {a : Option Addr} {c N n : Nat} {l : List Nat} (h : HpAt base w b a c l) (hN : l.length = N) (hN6 : N ≤ 1000000) (hnN : n ≤ N) (hu : HpDn (gf l) n 0) :
    Calls Try.prog 49 #[.iface 70 (.pointer (some ⟨b, 0, none⟩)), .int .i64 0, .int .i64 (n : Int)] w fun e w' => ∃ l' r, e = .returned (.bool r) ∧ HpAt base w' b a c l' ∧ l'.Perm l ∧ HpF (gf l') n ∧ (∀ m, n ≤ m → l'[m]? = l[m]?) ∧ Upd w w' (fun k => HpAt.own b a k) := by
  have H := hide h
  have HN := hide hN
  have HU := hide hu
  clear h hN hu
  go_enter Try.func49, Try.ntmps49
  go_wp2_with fail
  go_loopg [7] (n + 1) (fun q jv wr => ∃ i l', i ≤ n ∧ n - i < q ∧ jv = .int .i64 (i : Nat) ∧ HpAt base wr b a c l' ∧ l'.Perm l ∧ HpDn (gf l') n i ∧ (∀ m, n ≤ m → l'[m]? = l[m]?) ∧ Upd w wr (fun k => HpAt.own b a k))
  case atStart => exact ⟨0, l, by omega, by omega, rfl, H.out, List.Perm.refl _, HU.out, fun _ _ => rfl, Upd.refl _ _⟩
  case round =>
    obtain ⟨i, l', hi, hq, rfl, h1, hp, hu, hs, u1⟩ := hrel
    have hl : l'.length = N := hp.length_eq.trans HN.out
    obtain ⟨J, hJ⟩ : ∃ J, 2 * i + 1 = J := ⟨_, rfl⟩
    have hwa : IntKind.i64.wrap (2 * (i : Int)) = 2 * (i : Int) := IntWalk.i64_in _ (by omega)
    have hwb : IntKind.i64.wrap (2 * (i : Int) + 1) = (J : Int) := by rw [IntWalk.i64_in _ (by omega)]; omega
    have HL := hide hl
    have HU1 := hide u1
    have HH1 := hide h1
    have HP := hide hp
    have HS := hide hs
    have HD := hide hu
    by_cases hJn : J < n
    · have t1 : ¬ (n : Int) ≤ (J : Int) := by omega
      have t2 : ¬ (J : Int) < 0 := by omega
      have hwc : IntKind.i64.wrap ((J : Int) + 1) = (J : Int) + 1 := IntWalk.i64_in _ (by omega)
      have hiJ : (J - 1) / 2 = i := by omega
      have hin : i < n := by omega
      by_cases h2 : J + 1 < n
      · have t3 : (J : Int) + 1 < (n : Int) := by omega
        have LE2 := Less_any h1.n hl (J + 1) J (gf l' (J + 1)) (gf l' J) (gf_at (by rw [hl]; omega)) (gf_at (by rw [hl]; omega))
        have ec : (((J + 1 : Nat) : Nat) : Int) = (J : Int) + 1 := by omega
        rw [ec] at LE2
        by_cases h3 : gf l' (J + 1) < gf l' J
        · have e3 : decide (gf l' (J + 1) < gf l' J) = true := by simpa using h3
          rw [e3] at LE2
          have hmin : ∀ m, 0 < m → m < n → (m - 1) / 2 = i → gf l' (J + 1) ≤ gf l' m := fun m m0 hm hmi => by
            have : m = J ∨ m = J + 1 := by omega
            rcases this with rfl | rfl
            · omega
            · exact Nat.le_refl _
          have HLE2 := hide LE2
          have hiJ1 : (J + 1 - 1) / 2 = i := by omega
          clear LE2 e3 ec
          by_cases h5 : gf l' (J + 1) < gf l' i
          · have e5 : decide (gf l' (J + 1) < gf l' i) = true := by simpa using h5
            have hd2 := dn_step hu hiJ1 (by omega) (by omega) h5 hmin
            rw [← gf_swap (by rw [hl]; omega) (by rw [hl]; omega)] at hd2
            have hp2 := (swapL_perm l' i (J + 1) (by rw [hl]; omega) (by rw [hl]; omega)).trans hp
            have hs2 : ∀ m, n ≤ m → (swapL l' i (J + 1))[m]? = l[m]? := fun m hm => by
              rw [swapL_get l' i (J + 1) m (by rw [hl]; omega) (by rw [hl]; omega), if_neg (by omega), if_neg (by omega)]
              exact hs m hm
            have HD2 := hide hd2
            have HP2 := hide hp2
            have HS2 := hide hs2
            have E5 := hide e5
            have HIJ : Hid (i ≠ J + 1) := hide (by omega)
            have HJL : Hid (J + 1 < N) := hide (by omega)
            obtain ⟨m1, m2, m3⟩ := h1.ms hl
            clear h1 hp hu hs u1 hd2 hp2 hs2 hJ hmin e5 hl m1
            go_wp2_with (first
              | (go_at_call 96; with_reducible refine Calls.mono HLE2.out ?_; rintro e w4 ⟨rfl, u4⟩; have h4 := HH1.out.quiet u4; obtain ⟨-, m2, -⟩ := h4.ms HL.out; have H4 := hide h4; have U4 := hide u4; have LE5 := Less_any h4.n HL.out (J + 1) i (gf l' (J + 1)) (gf l' i) (gf_at (by rw [HL.out]; omega)) (gf_at (by rw [HL.out]; omega)); rw [E5.out] at LE5; rw [show (((J + 1 : Nat) : Nat) : Int) = (J : Int) + 1 by omega] at LE5; have HLE5 := hide LE5; clear h4 u4 LE5)
              | (go_at_call 96; with_reducible refine Calls.mono HLE5.out ?_; rintro e w5 ⟨rfl, u5⟩; have h5 := (HH1.out.quiet U4.out).quiet u5; obtain ⟨-, -, m3⟩ := h5.ms HL.out; have H5 := hide h5; have U5 := hide u5; clear h5 u5)
              | (go_at_call 97; refine Calls.mono (Swap_any H5.out.n HL.out i (J + 1) (by have := HJL.out; omega) HJL.out HIJ.out) ?_; rintro e w6 ⟨rfl, n6, u6⟩))
            go_roundg (gk - 1)
            case measure => have := HIJ.out; omega
            case rel => exact ⟨J + 1, swapL l' i (J + 1), by omega, by have := HIJ.out; omega, by go_num, H5.out.swapped (swapL_len _ _ _) n6 u6, HP2.out, HD2.out, HS2.out, ((HU1.out.then U4.out (fun _ _ q => q.elim)).then U5.out (fun _ _ q => q.elim)).then u6 (fun k _ q => .inr q)⟩
          · have e5 : decide (gf l' (J + 1) < gf l' i) = false := by simpa using h5
            have hf := dn_done hu (fun m m0 hm hmi => by have := hmin m m0 hm hmi; omega)
            have HF := hide hf
            have E5 := hide e5
            obtain ⟨m1, m2, m3⟩ := h1.ms hl
            clear h1 hp hu hs u1 hJ hmin e5 hl hf m1
            go_wp2_with (first
              | (go_at_call 96; with_reducible refine Calls.mono HLE2.out ?_; rintro e w4 ⟨rfl, u4⟩; have h4 := HH1.out.quiet u4; obtain ⟨-, m2, -⟩ := h4.ms HL.out; have H4 := hide h4; have U4 := hide u4; have LE5 := Less_any h4.n HL.out (J + 1) i (gf l' (J + 1)) (gf l' i) (gf_at (by rw [HL.out]; omega)) (gf_at (by rw [HL.out]; omega)); rw [E5.out] at LE5; rw [show (((J + 1 : Nat) : Nat) : Int) = (J : Int) + 1 by omega] at LE5; have HLE5 := hide LE5; clear h4 u4 LE5)
              | (go_at_call 96; with_reducible refine Calls.mono HLE5.out ?_; rintro e w5 ⟨rfl, u5⟩))
            go_ret
            exact ⟨l', _, rfl, (HH1.out.quiet U4.out).quiet u5, HP.out, HF.out, HS.out, (HU1.out.then U4.out (fun _ _ q => q.elim)).then u5 (fun _ _ q => q.elim)⟩
        · have e3 : decide (gf l' (J + 1) < gf l' J) = false := by simpa using h3
          rw [e3] at LE2
          have hmin : ∀ m, 0 < m → m < n → (m - 1) / 2 = i → gf l' J ≤ gf l' m := fun m m0 hm hmi => by
            have : m = J ∨ m = J + 1 := by omega
            rcases this with rfl | rfl
            · exact Nat.le_refl _
            · omega
          have HLE2 := hide LE2
          clear LE2 e3 ec
          by_cases h5 : gf l' J < gf l' i
          · have e5 : decide (gf l' J < gf l' i) = true := by simpa using h5
            have hd2 := dn_step hu hiJ (by omega) (by omega) h5 hmin
            rw [← gf_swap (by rw [hl]; omega) (by rw [hl]; omega)] at hd2
            have hp2 := (swapL_perm l' i J (by rw [hl]; omega) (by rw [hl]; omega)).trans hp
            have hs2 : ∀ m, n ≤ m → (swapL l' i J)[m]? = l[m]? := fun m hm => by
              rw [swapL_get l' i J m (by rw [hl]; omega) (by rw [hl]; omega), if_neg (by omega), if_neg (by omega)]
              exact hs m hm
            have HD2 := hide hd2
            have HP2 := hide hp2
            have HS2 := hide hs2
            have E5 := hide e5
            have HIJ : Hid (i ≠ J) := hide (by omega)
            have HJL : Hid (J < N) := hide (by omega)
            obtain ⟨m1, m2, m3⟩ := h1.ms hl
            clear h1 hp hu hs u1 hd2 hp2 hs2 hJ hmin e5 hl m1
            go_wp2_with (first
              | (go_at_call 96; with_reducible refine Calls.mono HLE2.out ?_; rintro e w4 ⟨rfl, u4⟩; have h4 := HH1.out.quiet u4; obtain ⟨-, m2, -⟩ := h4.ms HL.out; have H4 := hide h4; have U4 := hide u4; have LE5 := Less_any h4.n HL.out J i (gf l' J) (gf l' i) (gf_at (by rw [HL.out]; omega)) (gf_at (by rw [HL.out]; omega)); rw [E5.out] at LE5; have HLE5 := hide LE5; clear h4 u4 LE5)
              | (go_at_call 96; with_reducible refine Calls.mono HLE5.out ?_; rintro e w5 ⟨rfl, u5⟩; have h5 := (HH1.out.quiet U4.out).quiet u5; obtain ⟨-, -, m3⟩ := h5.ms HL.out; have H5 := hide h5; have U5 := hide u5; clear h5 u5)
              | (go_at_call 97; refine Calls.mono (Swap_any H5.out.n HL.out i J (by have := HJL.out; omega) HJL.out HIJ.out) ?_; rintro e w6 ⟨rfl, n6, u6⟩))
            go_roundg (gk - 1)
            case measure => have := HIJ.out; omega
            case rel => exact ⟨J, swapL l' i J, by omega, by have := HIJ.out; omega, by go_num, H5.out.swapped (swapL_len _ _ _) n6 u6, HP2.out, HD2.out, HS2.out, ((HU1.out.then U4.out (fun _ _ q => q.elim)).then U5.out (fun _ _ q => q.elim)).then u6 (fun k _ q => .inr q)⟩
          · have e5 : decide (gf l' J < gf l' i) = false := by simpa using h5
            have hf := dn_done hu (fun m m0 hm hmi => by have := hmin m m0 hm hmi; omega)
            have HF := hide hf
            have E5 := hide e5
            obtain ⟨m1, m2, m3⟩ := h1.ms hl
            clear h1 hp hu hs u1 hJ hmin e5 hl hf m1
            go_wp2_with (first
              | (go_at_call 96; with_reducible refine Calls.mono HLE2.out ?_; rintro e w4 ⟨rfl, u4⟩; have h4 := HH1.out.quiet u4; obtain ⟨-, m2, -⟩ := h4.ms HL.out; have H4 := hide h4; have U4 := hide u4; have LE5 := Less_any h4.n HL.out J i (gf l' J) (gf l' i) (gf_at (by rw [HL.out]; omega)) (gf_at (by rw [HL.out]; omega)); rw [E5.out] at LE5; have HLE5 := hide LE5; clear h4 u4 LE5)
              | (go_at_call 96; with_reducible refine Calls.mono HLE5.out ?_; rintro e w5 ⟨rfl, u5⟩))
            go_ret
            exact ⟨l', _, rfl, (HH1.out.quiet U4.out).quiet u5, HP.out, HF.out, HS.out, (HU1.out.then U4.out (fun _ _ q => q.elim)).then u5 (fun _ _ q => q.elim)⟩
      · have t3 : ¬ (J : Int) + 1 < (n : Int) := by omega
        have hmin : ∀ m, 0 < m → m < n → (m - 1) / 2 = i → gf l' J ≤ gf l' m := fun m m0 hm hmi => by
          have : m = J := by omega
          rw [this]
          exact Nat.le_refl _
        by_cases h5 : gf l' J < gf l' i
        · have e5 : decide (gf l' J < gf l' i) = true := by simpa using h5
          have hd2 := dn_step hu hiJ (by omega) (by omega) h5 hmin
          rw [← gf_swap (by rw [hl]; omega) (by rw [hl]; omega)] at hd2
          have hp2 := (swapL_perm l' i J (by rw [hl]; omega) (by rw [hl]; omega)).trans hp
          have hs2 : ∀ m, n ≤ m → (swapL l' i J)[m]? = l[m]? := fun m hm => by
            rw [swapL_get l' i J m (by rw [hl]; omega) (by rw [hl]; omega), if_neg (by omega), if_neg (by omega)]
            exact hs m hm
          have HD2 := hide hd2
          have HP2 := hide hp2
          have HS2 := hide hs2
          have E5 := hide e5
          have HIJ : Hid (i ≠ J) := hide (by omega)
          have HJL : Hid (J < N) := hide (by omega)
          obtain ⟨m1, m2, m3⟩ := h1.ms hl
          have u4 : Upd wr wr (fun _ => False) := Upd.refl _ _
          have U4 := hide u4
          have LE5 := Less_any h1.n hl J i (gf l' J) (gf l' i) (gf_at (by rw [hl]; omega)) (gf_at (by rw [hl]; omega))
          rw [e5] at LE5
          have HLE5 := hide LE5
          clear LE5 u4
          clear h1 hp hu hs u1 hd2 hp2 hs2 hJ hmin e5 hl m1
          go_wp2_with (first
            | (go_at_call 96; with_reducible refine Calls.mono HLE5.out ?_; rintro e w5 ⟨rfl, u5⟩; have h5 := (HH1.out.quiet U4.out).quiet u5; obtain ⟨-, -, m3⟩ := h5.ms HL.out; have H5 := hide h5; have U5 := hide u5; clear h5 u5)
            | (go_at_call 97; refine Calls.mono (Swap_any H5.out.n HL.out i J (by have := HJL.out; omega) HJL.out HIJ.out) ?_; rintro e w6 ⟨rfl, n6, u6⟩))
          go_roundg (gk - 1)
          case measure => have := HIJ.out; omega
          case rel => exact ⟨J, swapL l' i J, by omega, by have := HIJ.out; omega, by go_num, H5.out.swapped (swapL_len _ _ _) n6 u6, HP2.out, HD2.out, HS2.out, ((HU1.out.then U4.out (fun _ _ q => q.elim)).then U5.out (fun _ _ q => q.elim)).then u6 (fun k _ q => .inr q)⟩
        · have e5 : decide (gf l' J < gf l' i) = false := by simpa using h5
          have hf := dn_done hu (fun m m0 hm hmi => by have := hmin m m0 hm hmi; omega)
          have HF := hide hf
          have E5 := hide e5
          obtain ⟨m1, m2, m3⟩ := h1.ms hl
          have u4 : Upd wr wr (fun _ => False) := Upd.refl _ _
          have U4 := hide u4
          have LE5 := Less_any h1.n hl J i (gf l' J) (gf l' i) (gf_at (by rw [hl]; omega)) (gf_at (by rw [hl]; omega))
          rw [e5] at LE5
          have HLE5 := hide LE5
          clear LE5 u4
          clear h1 hp hu hs u1 hJ hmin e5 hl hf m1
          go_wp2_with (first
            | (go_at_call 96; with_reducible refine Calls.mono HLE5.out ?_; rintro e w5 ⟨rfl, u5⟩))
          go_ret
          exact ⟨l', _, rfl, (HH1.out.quiet U4.out).quiet u5, HP.out, HF.out, HS.out, (HU1.out.then U4.out (fun _ _ q => q.elim)).then u5 (fun _ _ q => q.elim)⟩
    · have t1 : (n : Int) ≤ (J : Int) := by omega
      have hf := dn_done hu (fun m m0 hm hmi => by omega)
      have HF := hide hf
      clear h1 hp hu hs u1 hf hl hJ
      go_wp2_with fail
      go_ret
      exact ⟨l', _, rfl, HH1.out, HP.out, HF.out, HS.out, HU1.out⟩
end Go.Proofs.Ytnhggncpebifhaa
