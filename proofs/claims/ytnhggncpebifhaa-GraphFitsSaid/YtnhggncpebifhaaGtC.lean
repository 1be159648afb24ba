/- The walks of GraphCycles, GraphReach, GraphOrder. -/
import Derived.Test.YtnhggncpebifhaaGtB
set_option maxRecDepth 100000
namespace Go.Proofs.Ytnhggncpebifhaa
open Go.RowKit Go.Lat Go.Tarjan

theorem reach_flip {n : Nat} {E : Nat → Nat → Bool} (fr : Nat → Bool) : rowE n (reachB n (wrun (fun a b => E b a) n) fr) = rowE n (reachB n (fun k i => wrun E n i k) fr) := by
  refine rowE_congr (fun i hi => ?_)
  have key : ∀ a b, Pl n (fun a b => E b a) a b → Pl n E b a := fun a b h => by
    induction h with
    | edge h1 h2 h3 => exact .edge h2 h1 h3
    | trans _ _ h1 h2 => exact .trans h2 h1
  have key2 : ∀ a b, Pl n E b a → Pl n (fun a b => E b a) a b := fun a b h => by
    induction h with
    | edge h1 h2 h3 => exact .edge h2 h1 h3
    | trans _ _ h1 h2 => exact .trans h2 h1
  unfold reachB
  congr 1
  have : ∀ (l : List Nat), (∀ k ∈ l, k < n) → l.any (fun k => fr k && wrun (fun a b => E b a) n k i) = l.any (fun k => fr k && wrun E n i k) := by
    intro l
    induction l with
    | nil => intro _; rfl
    | cons k l ih =>
      intro hl
      rw [List.any_cons, List.any_cons, ih (fun x hx => hl x (by simp [hx]))]
      have hk := hl k (by simp)
      have e : wrun (fun a b => E b a) n k i = wrun E n i k := by
        rw [Bool.eq_iff_iff, wrun_iff hk hi, wrun_iff hi hk]
        exact ⟨key k i, key2 k i⟩
      rw [e]
  exact this _ (fun k hk => List.mem_range.1 hk)
set_option maxHeartbeats 3200000 in
theorem GraphCycles_walk (w : World) (n : Int) (va : Option Addr) (cap L : Nat) (l : List (Int × Int)) (hL : l.length = L) (hcap : L ≤ cap) (hr : EdRd w va l) :
    Calls Try.prog 3 #[.int .i64 n, .slice va L cap] w fun e w' => e = .returned (.bool true) ∧ Upd w w' (fun _ => False) := by
  have GS := graphs_any w n va cap L l hL hcap hr
  have hn1 := nOf_lt n
  obtain ⟨N, hN⟩ : ∃ N, nOf n = N := ⟨_, rfl⟩
  obtain ⟨E, hE⟩ : ∃ E, edgN (nOf n) (l.take 80) = E := ⟨_, rfl⟩
  rw [hE, hN] at GS
  rw [hN] at hn1
  clear hr hL hcap hE hN
  obtain ⟨pl, hpl⟩ : ∃ p, (List.range N).map (partF (wrun E N)) = p := ⟨_, rfl⟩
  obtain ⟨cl, hcl⟩ : ∃ p, rowE N (fun i => wrun E N i i) = p := ⟨_, rfl⟩
  have lp : pl.length ≤ 1000 := by rw [← hpl]; simp; omega
  have lc : cl.length ≤ 1000 := by rw [← hcl]; have := rowE_len N (fun i => wrun E N i i); omega
  have PA : ∀ {W : World} {gb : Nat} {mg : Gm} (_ : GrAt W gb N mg E (fun a b => E b a)), Calls Try.prog 13 #[.pointer (some ⟨gb, 0, none⟩)] W fun e w' => ∃ a c, e = .returned (.slice a pl.length c) ∧ RdI w' a (pl.map (fun (k : Nat) => (k : Int))) ∧ Upd W w' (fun _ => False) := fun h => (Parts_any h).mono fun e w' q => q.rd hpl
  have RPA : ∀ {W : World} {rb : Nat} {rv : Value} {rf : Nat → Value} (_ : RgAt w.heap.size W rb N rv rf E), Calls Try.prog 14 #[.pointer (some ⟨rb, 0, none⟩)] W fun e w' => ∃ a c, e = .returned (.slice a pl.length c) ∧ RdI w' a (pl.map (fun (k : Nat) => (k : Int))) ∧ Upd W w' (fun _ => False) := fun h => (Rparts_any h (by omega)).mono fun e w' q => q.rd hpl
  have CY : ∀ {W : World} {gb : Nat} {mg : Gm} (_ : GrAt W gb N mg E (fun a b => E b a)), Calls Try.prog 15 #[.pointer (some ⟨gb, 0, none⟩)] W fun e w' => ∃ a c, e = .returned (.slice a cl.length c) ∧ RdI w' a (cl.map (fun (k : Nat) => (k : Int))) ∧ Upd W w' (fun _ => False) := fun h => (Cycles_any h).mono fun e w' q => q.rd hcl
  have RCY : ∀ {W : World} {rb : Nat} {rv : Value} {rf : Nat → Value} (_ : RgAt w.heap.size W rb N rv rf E), Calls Try.prog 16 #[.pointer (some ⟨rb, 0, none⟩)] W fun e w' => ∃ a c, e = .returned (.slice a cl.length c) ∧ RdI w' a (cl.map (fun (k : Nat) => (k : Int))) ∧ Upd W w' (fun _ => False) := fun h => (Rcycles_any h (by omega)).mono fun e w' q => q.rd hcl
  clear hpl hcl
  have EQ : ∀ (W : World) (a b : Option Addr) (ca cb : Nat) (l : List Nat), RdI W a (l.map (fun (k : Nat) => (k : Int))) → RdI W b (l.map (fun (k : Nat) => (k : Int))) → l.length ≤ 1000 → Calls Try.prog 12 #[.slice a l.length ca, .slice b l.length cb] W fun e w' => e = .returned (.bool true) ∧ Upd W w' (fun _ => False) := fun W a b ca cb l h1 h2 h3 => by
    have := equal_true W a b ca cb (l.map (fun (k : Nat) => (k : Int))) h1 h2 (by rw [List.length_map]; omega)
    rw [List.length_map] at this
    exact this
  go_enter Try.func3, Try.ntmps3
  go_wp2_with (first
    | (go_at_call 10; go_loud (refine Calls.mono GS ?_); rintro e w1 ⟨gb, mg, rb, rv, rf, rfl, g1, r1, u1⟩; have HG1 := hide g1; have HRG := hide r1; have HU0 := hide u1; have HU1 := hide (Upd.refl w1 (fun _ => False)); clear g1 r1 u1)
    | (go_at_call 11; go_loud (refine Calls.mono (wakes_any _) ?_); rintro e w2 ⟨rfl, u⟩; have HU2 := hide (HU1.out.then u (fun _ _ => id)); clear u)
    | (go_at_call 13; go_loud (refine Calls.mono (PA (HG1.out.upd HU2.out (fun _ _ => id))) ?_); rintro e w3 ⟨a3, c3, rfl, r, u⟩; have HX3 := hide r; have HU3 := hide (HU2.out.then u (fun _ _ => id)); have HV3 := hide u; clear r u)
    | (go_at_call 14; go_loud (refine Calls.mono (RPA (HRG.out.quiet HU3.out)) ?_); rintro e w4 ⟨a4, c4, rfl, r, u⟩; have HX4 := hide r; have HU4 := hide (HU3.out.then u (fun _ _ => id)); have HV4 := hide u; clear r u)
    | (go_at_call 12; with_reducible refine Calls.mono (EQ _ a3 a4 c3 c4 pl (HX3.out.upd HV4.out) HX4.out lp) ?_; rintro e w5 ⟨rfl, u⟩; have HU5 := hide (HU4.out.then u (fun _ _ => id)); clear u)
    | (go_at_call 15; go_loud (refine Calls.mono (CY (HG1.out.upd HU5.out (fun _ _ => id))) ?_); rintro e w6 ⟨a6, c6, rfl, r, u⟩; have HX6 := hide r; have HU6 := hide (HU5.out.then u (fun _ _ => id)); have HV6 := hide u; clear r u)
    | (go_at_call 16; go_loud (refine Calls.mono (RCY (HRG.out.quiet HU6.out)) ?_); rintro e w7 ⟨a7, c7, rfl, r, u⟩; have HX7 := hide r; have HU7 := hide (HU6.out.then u (fun _ _ => id)); have HV7 := hide u; clear r u)
    | (go_at_call 12; with_reducible refine Calls.mono (EQ _ a6 a7 c6 c7 cl (HX6.out.upd HV7.out) HX7.out lc) ?_; rintro e w8 ⟨rfl, u⟩; have HU8 := hide (HU7.out.then u (fun _ _ => id)); clear u))
  go_ret
  exact ⟨rfl, HU0.out.then HU8.out (fun _ _ => id)⟩
set_option maxHeartbeats 3200000 in
theorem GraphReach_walk (w : World) (n : Int) (va : Option Addr) (cap L : Nat) (l : List (Int × Int)) (hL : l.length = L) (hcap : L ≤ cap) (hr : EdRd w va l) (fa : Option Addr) (fc K : Nat) (fs : List Int) (hK : fs.length = K) (hKc : K ≤ fc) (hf : RdI w fa fs) :
    Calls Try.prog 4 #[.int .i64 n, .slice va L cap, .slice fa K fc] w fun e w' => e = .returned (.bool true) ∧ Upd w w' (fun _ => False) := by
  have GS := graphs_any w n va cap L l hL hcap hr
  have hn1 := nOf_lt n
  obtain ⟨N, hN⟩ : ∃ N, nOf n = N := ⟨_, rfl⟩
  obtain ⟨E, hE⟩ : ∃ E, edgN (nOf n) (l.take 80) = E := ⟨_, rfl⟩
  rw [hE, hN] at GS
  rw [hN] at hn1
  clear hr hL hcap hE hN
  obtain ⟨F, hF⟩ : ∃ F, min K 30 = F := ⟨_, rfl⟩
  have hF2 : (min (K : Int) 30) = (F : Int) := by omega
  have f0 : (0 : Int) ≤ (F : Int) := by omega
  have f1 : (F : Int) ≤ (fc : Int) := by omega
  have hF30 : F ≤ 30 := by omega
  obtain ⟨fr, hfr⟩ : ∃ f, fs.take 30 = f := ⟨_, rfl⟩
  have hlen : fr.length = F := by rw [← hfr, List.length_take, hK, Nat.min_comm]; exact hF
  have hfr2 : RdI w fa fr := fun i x hx => hf i x (by
    rw [← hfr] at hx
    rw [List.getElem?_take] at hx
    split at hx
    · exact hx
    · cases hx)
  obtain ⟨pl, hpl⟩ : ∃ p, rowE N (reachB N (wrun E N) (fun k => decide ((k : Int) ∈ fr))) = p := ⟨_, rfl⟩
  obtain ⟨cl, hcl⟩ : ∃ p, rowE N (reachB N (fun k i => wrun E N i k) (fun k => decide ((k : Int) ∈ fr))) = p := ⟨_, rfl⟩
  have hcl2 : rowE N (reachB N (wrun (fun a b => E b a) N) (fun k => decide ((k : Int) ∈ fr))) = cl := by rw [reach_flip, hcl]
  have lp : pl.length ≤ 1000 := by rw [← hpl]; have := rowE_len N (reachB N (wrun E N) (fun k => decide ((k : Int) ∈ fr))); omega
  have lc : cl.length ≤ 1000 := by rw [← hcl]; have := rowE_len N (reachB N (fun k i => wrun E N i k) (fun k => decide ((k : Int) ∈ fr))); omega
  have hl63 : fr.length ≤ 9223372036854775807 := by omega
  have PA : ∀ {W : World} {gb : Nat} {mg : Gm} (_ : GrAt W gb N mg E (fun a b => E b a)) (_ : RdI W fa fr), Calls Try.prog 17 #[.pointer (some ⟨gb, 0, none⟩), .slice fa fr.length fc] W fun e w' => ∃ a c, e = .returned (.slice a pl.length c) ∧ RdI w' a (pl.map (fun (k : Nat) => (k : Int))) ∧ Upd W w' (fun _ => False) := fun h hf => (Reach_any h fa fc fr hf hl63).mono fun e w' q => q.rd hpl
  have RPA : ∀ {W : World} {rb : Nat} {rv : Value} {rf : Nat → Value} (_ : RgAt w.heap.size W rb N rv rf E) (_ : RdI W fa fr), Calls Try.prog 18 #[.pointer (some ⟨rb, 0, none⟩), .slice fa fr.length fc, .bool false] W fun e w' => ∃ a c, e = .returned (.slice a pl.length c) ∧ RdI w' a (pl.map (fun (k : Nat) => (k : Int))) ∧ Upd W w' (fun _ => False) := fun h hf => (RreachF_any h (by omega) fa fc fr hf hl63).mono fun e w' q => q.rd hpl
  have CY : ∀ {W : World} {gb : Nat} {mg : Gm} (_ : GrAt W gb N mg E (fun a b => E b a)) (_ : RdI W fa fr), Calls Try.prog 19 #[.pointer (some ⟨gb, 0, none⟩), .slice fa fr.length fc] W fun e w' => ∃ a c, e = .returned (.slice a cl.length c) ∧ RdI w' a (cl.map (fun (k : Nat) => (k : Int))) ∧ Upd W w' (fun _ => False) := fun h hf => (Dirty_any h fa fc fr hf hl63).mono fun e w' q => q.rd hcl2
  have RCY : ∀ {W : World} {rb : Nat} {rv : Value} {rf : Nat → Value} (_ : RgAt w.heap.size W rb N rv rf E) (_ : RdI W fa fr), Calls Try.prog 18 #[.pointer (some ⟨rb, 0, none⟩), .slice fa fr.length fc, .bool true] W fun e w' => ∃ a c, e = .returned (.slice a cl.length c) ∧ RdI w' a (cl.map (fun (k : Nat) => (k : Int))) ∧ Upd W w' (fun _ => False) := fun h hf => (RreachB_any h (by omega) fa fc fr hf hl63).mono fun e w' q => q.rd hcl
  rw [hlen] at PA RPA CY RCY
  have HF := hide hfr2
  clear hpl hcl hcl2 hfr hfr2 hlen hf hK hF
  have EQ : ∀ (W : World) (a b : Option Addr) (ca cb : Nat) (l : List Nat), RdI W a (l.map (fun (k : Nat) => (k : Int))) → RdI W b (l.map (fun (k : Nat) => (k : Int))) → l.length ≤ 1000 → Calls Try.prog 12 #[.slice a l.length ca, .slice b l.length cb] W fun e w' => e = .returned (.bool true) ∧ Upd W w' (fun _ => False) := fun W a b ca cb l h1 h2 h3 => by
    have := equal_true W a b ca cb (l.map (fun (k : Nat) => (k : Int))) h1 h2 (by rw [List.length_map]; omega)
    rw [List.length_map] at this
    exact this
  go_enter Try.func4, Try.ntmps4
  go_wp2_with (first
    | (go_at_call 10; go_loud (refine Calls.mono GS ?_); rintro e w1 ⟨gb, mg, rb, rv, rf, rfl, g1, r1, u1⟩; have HG1 := hide g1; have HRG := hide r1; have HU0 := hide u1; have HU1 := hide (Upd.refl w1 (fun _ => False)); clear g1 r1 u1)
    | (go_at_call 11; go_loud (refine Calls.mono (wakes_any _) ?_); rintro e w2 ⟨rfl, u⟩; have HU2 := hide (HU1.out.then u (fun _ _ => id)); clear u)
    | (go_at_call 17; go_loud (refine Calls.mono (PA (HG1.out.upd HU2.out (fun _ _ => id)) (HF.out.upd (HU0.out.then HU2.out (fun _ _ => id)))) ?_); rintro e w3 ⟨a3, c3, rfl, r, u⟩; have HX3 := hide r; have HU3 := hide (HU2.out.then u (fun _ _ => id)); have HV3 := hide u; clear r u)
    | (go_at_call 18; with_reducible (refine Calls.mono (RPA (HRG.out.quiet HU3.out) (HF.out.upd (HU0.out.then HU3.out (fun _ _ => id)))) ?_); rintro e w4 ⟨a4, c4, rfl, r, u⟩; have HX4 := hide r; have HU4 := hide (HU3.out.then u (fun _ _ => id)); have HV4 := hide u; clear r u)
    | (go_at_call 12; with_reducible refine Calls.mono (EQ _ a3 a4 c3 c4 pl (HX3.out.upd HV4.out) HX4.out lp) ?_; rintro e w5 ⟨rfl, u⟩; have HU5 := hide (HU4.out.then u (fun _ _ => id)); clear u)
    | (go_at_call 19; go_loud (refine Calls.mono (CY (HG1.out.upd HU5.out (fun _ _ => id)) (HF.out.upd (HU0.out.then HU5.out (fun _ _ => id)))) ?_); rintro e w6 ⟨a6, c6, rfl, r, u⟩; have HX6 := hide r; have HU6 := hide (HU5.out.then u (fun _ _ => id)); have HV6 := hide u; clear r u)
    | (go_at_call 18; with_reducible (refine Calls.mono (RCY (HRG.out.quiet HU6.out) (HF.out.upd (HU0.out.then HU6.out (fun _ _ => id)))) ?_); rintro e w7 ⟨a7, c7, rfl, r, u⟩; have HX7 := hide r; have HU7 := hide (HU6.out.then u (fun _ _ => id)); have HV7 := hide u; clear r u)
    | (go_at_call 12; with_reducible refine Calls.mono (EQ _ a6 a7 c6 c7 cl (HX6.out.upd HV7.out) HX7.out lc) ?_; rintro e w8 ⟨rfl, u⟩; have HU8 := hide (HU7.out.then u (fun _ _ => id)); clear u))
  go_ret
  exact ⟨rfl, HU0.out.then HU8.out (fun _ _ => id)⟩
set_option maxHeartbeats 3200000 in
theorem GraphOrder_walk (w : World) (n : Int) (va : Option Addr) (cap L : Nat) (l : List (Int × Int)) (hL : l.length = L) (hcap : L ≤ cap) (hr : EdRd w va l) (fa : Option Addr) (fc K : Nat) (fs : List Int) (hK : fs.length = K) (hKc : K ≤ fc) (hf : RdI w fa fs) :
    Calls Try.prog 5 #[.int .i64 n, .slice va L cap, .slice fa K fc] w fun e w' => e = .returned (.bool true) ∧ Upd w w' (fun _ => False) := by
  have GS := graphs_any w n va cap L l hL hcap hr
  have hn1 := nOf_lt n
  obtain ⟨N, hN⟩ : ∃ N, nOf n = N := ⟨_, rfl⟩
  obtain ⟨E, hE⟩ : ∃ E, edgN (nOf n) (l.take 80) = E := ⟨_, rfl⟩
  rw [hE, hN] at GS
  rw [hN] at hn1
  clear hr hL hcap hE hN
  obtain ⟨F, hF⟩ : ∃ F, min K 30 = F := ⟨_, rfl⟩
  have hF2 : (min (K : Int) 30) = (F : Int) := by omega
  have f0 : (0 : Int) ≤ (F : Int) := by omega
  have f1 : (F : Int) ≤ (fc : Int) := by omega
  have hF30 : F ≤ 30 := by omega
  obtain ⟨fr, hfr⟩ : ∃ f, fs.take 30 = f := ⟨_, rfl⟩
  have hlen : fr.length = F := by rw [← hfr, List.length_take, hK, Nat.min_comm]; exact hF
  have hfr2 : RdI w fa fr := fun i x hx => hf i x (by
    rw [← hfr] at hx
    rw [List.getElem?_take] at hx
    split at hx
    · exact hx
    · cases hx)
  obtain ⟨pl, hpl⟩ : ∃ p, ordF N (fun k => decide ((k : Int) ∈ fr) && !wrun E N k k) (wrun E N) (N + 1) [] = p := ⟨_, rfl⟩
  have lp : pl.length ≤ 1000 := by rw [← hpl]; have := (ordF_ok (f := N + 1) (OrdOk.nil (n := N) (inn := fun k => decide ((k : Int) ∈ fr) && !wrun E N k k) (c := wrun E N))).len; omega
  have hl63 : fr.length ≤ 9223372036854775807 := by omega
  have PA : ∀ {W : World} {gb : Nat} {mg : Gm} (_ : GrAt W gb N mg E (fun a b => E b a)) (_ : RdI W fa fr), Calls Try.prog 20 #[.pointer (some ⟨gb, 0, none⟩), .slice fa fr.length fc] W fun e w' => ∃ a c, e = .returned (.slice a pl.length c) ∧ RdI w' a (pl.map (fun (k : Nat) => (k : Int))) ∧ Upd W w' (fun _ => False) := fun h hf => (Order_any h fa fc fr hf hl63).mono fun e w' q => q.rd hpl
  have RPA : ∀ {W : World} {rb : Nat} {rv : Value} {rf : Nat → Value} (_ : RgAt w.heap.size W rb N rv rf E) (_ : RdI W fa fr), Calls Try.prog 21 #[.pointer (some ⟨rb, 0, none⟩), .slice fa fr.length fc] W fun e w' => ∃ a c, e = .returned (.slice a pl.length c) ∧ RdI w' a (pl.map (fun (k : Nat) => (k : Int))) ∧ Upd W w' (fun _ => False) := fun h hf => (Rorder_any h (by omega) fa fc fr hf hl63).mono fun e w' q => q.rd hpl
  rw [hlen] at PA RPA
  have HF := hide hfr2
  clear hpl hfr hfr2 hlen hf hK hF
  have EQ : ∀ (W : World) (a b : Option Addr) (ca cb : Nat) (l : List Nat), RdI W a (l.map (fun (k : Nat) => (k : Int))) → RdI W b (l.map (fun (k : Nat) => (k : Int))) → l.length ≤ 1000 → Calls Try.prog 12 #[.slice a l.length ca, .slice b l.length cb] W fun e w' => e = .returned (.bool true) ∧ Upd W w' (fun _ => False) := fun W a b ca cb l h1 h2 h3 => by
    have := equal_true W a b ca cb (l.map (fun (k : Nat) => (k : Int))) h1 h2 (by rw [List.length_map]; omega)
    rw [List.length_map] at this
    exact this
  go_enter Try.func5, Try.ntmps5
  go_wp2_with (first
    | (go_at_call 10; go_loud (refine Calls.mono GS ?_); rintro e w1 ⟨gb, mg, rb, rv, rf, rfl, g1, r1, u1⟩; have HG1 := hide g1; have HRG := hide r1; have HU0 := hide u1; have HU1 := hide (Upd.refl w1 (fun _ => False)); clear g1 r1 u1)
    | (go_at_call 11; go_loud (refine Calls.mono (wakes_any _) ?_); rintro e w2 ⟨rfl, u⟩; have HU2 := hide (HU1.out.then u (fun _ _ => id)); clear u)
    | (go_at_call 20; go_loud (refine Calls.mono (PA (HG1.out.upd HU2.out (fun _ _ => id)) (HF.out.upd (HU0.out.then HU2.out (fun _ _ => id)))) ?_); rintro e w3 ⟨a3, c3, rfl, r, u⟩; have HX3 := hide r; have HU3 := hide (HU2.out.then u (fun _ _ => id)); have HV3 := hide u; clear r u)
    | (go_at_call 21; go_loud (refine Calls.mono (RPA (HRG.out.quiet HU3.out) (HF.out.upd (HU0.out.then HU3.out (fun _ _ => id)))) ?_); rintro e w4 ⟨a4, c4, rfl, r, u⟩; have HX4 := hide r; have HU4 := hide (HU3.out.then u (fun _ _ => id)); have HV4 := hide u; clear r u)
    | (go_at_call 12; with_reducible refine Calls.mono (EQ _ a3 a4 c3 c4 pl (HX3.out.upd HV4.out) HX4.out lp) ?_; rintro e w5 ⟨rfl, u⟩; have HU5 := hide (HU4.out.then u (fun _ _ => id)); clear u))
  go_ret
  exact ⟨rfl, HU0.out.then HU5.out (fun _ _ => id)⟩
end Go.Proofs.Ytnhggncpebifhaa
