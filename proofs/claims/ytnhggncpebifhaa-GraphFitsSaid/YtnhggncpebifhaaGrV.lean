/- The heap: up, down, Push, Pop. -/
import Derived.Test.YtnhggncpebifhaaGrV0
import Derived.Test.YtnhggncpebifhaaGrV1
set_option maxRecDepth 100000
namespace Go.Proofs.Ytnhggncpebifhaa
open Go.RowKit Go.Lat Go.Tarjan Go.Heapl

theorem methPush (a : Addr) (w : World) : (method 230 70 (.pointer (some a)) "Push").run Try.prog w = .ok (99, .pointer (some a)) w := by kernel_rfl
theorem methPop (a : Addr) (w : World) : (method 230 70 (.pointer (some a)) "Pop").run Try.prog w = .ok (98, .pointer (some a)) w := by kernel_rfl
theorem methLen0 (a : Addr) (w : World) : (method 230 70 (.pointer (some a)) "Len").run Try.prog w = ((loadVar 68 a) >>= fun v => pure (39, v)).run Try.prog w := by kernel_rfl
theorem methLess0 (a : Addr) (w : World) : (method 230 70 (.pointer (some a)) "Less").run Try.prog w = ((loadVar 68 a) >>= fun v => pure (96, v)).run Try.prog w := by kernel_rfl
theorem methSwap0 (a : Addr) (w : World) : (method 230 70 (.pointer (some a)) "Swap").run Try.prog w = ((loadVar 68 a) >>= fun v => pure (97, v)).run Try.prog w := by kernel_rfl
theorem HpAt.ms {base : Nat} {w : World} {b : Nat} {a : Option Addr} {c n : Nat} {l : List Nat} (h : HpAt base w b a c l) (hn : l.length = n) :
    (method 230 70 (.pointer (some ⟨b, 0, none⟩)) "Len").run Try.prog w = .ok (39, .slice a n c) w ∧ (method 230 70 (.pointer (some ⟨b, 0, none⟩)) "Less").run Try.prog w = .ok (96, .slice a n c) w ∧ (method 230 70 (.pointer (some ⟨b, 0, none⟩)) "Swap").run Try.prog w = .ok (97, .slice a n c) w := by
  have d0 := cells1 h.h
  rw [hn] at d0
  refine ⟨?_, ?_, ?_⟩
  · rw [methLen0]
    go_simp
  · rw [methLess0]
    go_simp
  · rw [methSwap0]
    go_simp
def gf (l : List Nat) : Nat → Nat := fun i => l[i]?.getD 0
theorem gf_at {l : List Nat} {i : Nat} (h : i < l.length) : l[i]? = some (gf l i) := by
  unfold gf
  rw [List.getElem?_eq_getElem h]
  rfl
theorem gf_swap {l : List Nat} {i k : Nat} (hi : i < l.length) (hk : k < l.length) : gf (swapL l i k) = swapF (gf l) i k := by
  funext x
  unfold gf swapF
  rw [swapL_get l i k x hi hk]
  split
  · rfl
  · split <;> rfl
theorem HpAt.quiet {base : Nat} {w w' : World} {b : Nat} {a : Option Addr} {c : Nat} {l : List Nat} (h : HpAt base w b a c l) (u : Upd w w' (fun _ => False)) : HpAt base w' b a c l := h.upd u (fun _ _ => id)
theorem HpAt.swapped {base : Nat} {w w' : World} {b : Nat} {a : Option Addr} {c : Nat} {l l' : List Nat} (h : HpAt base w b a c l) (hl : l'.length = l.length) (hn : NatAt base w' a c l') (u : Upd w w' (fun k => (Value.slice a 0 0).ownBlock = some k)) : HpAt base w' b a c l' :=
  ⟨by rw [hl]; exact u.get h.h (fun q => h.nb b q rfl), hn, h.nb, h.bb⟩
set_option maxHeartbeats 3200000 in
theorem up_any {base : Nat} {w : World} {b : Nat} {a : Option Addr} {c n : Nat} {l : List Nat} (h : HpAt base w b a c l) (hn : l.length = n) (hn6 : n ≤ 1000000) (j : Nat) (hj : j < n) (hu : HpUp (gf l) n j) :
    Calls Try.prog 48 #[.iface 70 (.pointer (some ⟨b, 0, none⟩)), .int .i64 (j : Int)] w fun e w' => ∃ l', e = .returned (.tuple #[]) ∧ HpAt base w' b a c l' ∧ l'.Perm l ∧ HpF (gf l') n ∧ Upd w w' (fun k => HpAt.own b a k) := by
  have H := hide h
  have HN := hide hn
  have HU := hide hu
  clear h hn hu
  go_enter Try.func48, Try.ntmps48
  go_wp2_with fail
  go_loopg [1] (n + 1) (fun q jv wr => ∃ j l', j < n ∧ j < q ∧ jv = .int .i64 (j : Nat) ∧ HpAt base wr b a c l' ∧ l'.Perm l ∧ HpUp (gf l') n j ∧ Upd w wr (fun k => HpAt.own b a k))
  case atStart => exact ⟨j, l, hj, by omega, rfl, H.out, List.Perm.refl _, HU.out, Upd.refl _ _⟩
  case round =>
    obtain ⟨i, l', hi, hq, rfl, h1, hp, hu, u1⟩ := hrel
    have hl : l'.length = n := hp.length_eq.trans HN.out
    obtain ⟨m1, m2, m3⟩ := h1.ms hl
    by_cases h0 : i = 0
    · subst h0
      have hf := up_done hu (.inl rfl)
      have hd : Int.tdiv (-1) 2 = 0 := by decide
      have HH1 := hide h1
      have HP := hide hp
      have HF := hide hf
      have HU1 := hide u1
      clear h1 hp hu u1 hf hl
      go_wp2_with fail
      go_end0
      exact ⟨l', rfl, HH1.out, HP.out, HF.out, HU1.out⟩
    · obtain ⟨p, hpe⟩ : ∃ p, (i - 1) / 2 = p := ⟨_, rfl⟩
      have hpi : p < i := by omega
      have hpn : p < n := by omega
      have hw : IntKind.i64.wrap ((i : Int) - 1) = (i : Int) - 1 := IntWalk.i64_in _ (by omega)
      have hdv : Int.tdiv ((i : Int) - 1) 2 = (p : Int) := by
        rw [show (i : Int) - 1 = ((i - 1 : Nat) : Int) by omega, show (2 : Int) = ((2 : Nat) : Int) by rfl, ← Int.ofNat_tdiv, hpe]
      have hb : ((p : Int) == (i : Int)) = false := by simp; omega
      have LE := Less_any h1.n hl i p (gf l' i) (gf l' p) (gf_at (by rw [hl]; exact hi)) (gf_at (by rw [hl]; exact hpn))
      by_cases hlt : gf l' i < gf l' p
      · have e : decide (gf l' i < gf l' p) = true := by simpa using hlt
        rw [e] at LE
        have hu2 := up_step hu hpe (by omega) hi hlt
        rw [← gf_swap (by rw [hl]; exact hpn) (by rw [hl]; exact hi)] at hu2
        have hp2 := (swapL_perm l' p i (by rw [hl]; exact hpn) (by rw [hl]; exact hi)).trans hp
        have HH1 := hide h1
        have HU2 := hide hu2
        have HP2 := hide hp2
        have HU1 := hide u1
        have HLE := hide LE
        have HL := hide hl
        clear h1 hp hu u1 LE hlt e hu2 hp2 hl hpe m1 m3
        have wp := IntWalk.wrap64_in (p : Int) (by omega)
        go_wp2_with (first
          | (go_at_call 96; refine Calls.mono HLE.out ?_; rintro e w5 ⟨rfl, u5⟩; have h5 := HH1.out.quiet u5; obtain ⟨-, -, m3⟩ := h5.ms HL.out; have H5 := hide h5; have U5 := hide u5; clear h5 u5)
          | (go_at_call 97; refine Calls.mono (Swap_any H5.out.n HL.out p i hpn hi (Nat.ne_of_lt hpi)) ?_; rintro e w6 ⟨rfl, n6, u6⟩))
        go_roundg (gk - 1)
        case measure => omega
        case rel => exact ⟨p, swapL l' p i, hpn, by omega, rfl, H5.out.swapped (swapL_len _ _ _) n6 u6, HP2.out, HU2.out, (HU1.out.then U5.out (fun _ _ q => q.elim)).then u6 (fun k _ q => .inr q)⟩
      · have e : decide (gf l' i < gf l' p) = false := by simpa using hlt
        rw [e] at LE
        have hf := up_done hu (.inr (by rw [hpe]; omega))
        have HH1 := hide h1
        have HP := hide hp
        have HF := hide hf
        have HU1 := hide u1
        have HLE := hide LE
        clear h1 hp hu u1 LE hlt e hf hl hpe m1 m3
        have wp := IntWalk.wrap64_in (p : Int) (by omega)
        go_wp2_with (go_at_call 96; refine Calls.mono HLE.out ?_; rintro e w5 ⟨rfl, u5⟩)
        go_end0
        exact ⟨l', rfl, HH1.out.quiet u5, HP.out, HF.out, HU1.out.then u5 (fun _ _ q => q.elim)⟩
end Go.Proofs.Ytnhggncpebifhaa
