/- The walk of GraphTurned. -/
import Derived.Test.YtnhggncpebifhaaGtC
set_option maxRecDepth 100000
namespace Go.Proofs.Ytnhggncpebifhaa
open Go.RowKit Go.Lat Go.Tarjan

theorem wrun_flip {n : Nat} {E : Nat → Nat → Bool} {i k : Nat} (hi : i < n) (hk : k < n) : wrun (fun a b => E b a) n i k = wrun E n k i := by
  have key : ∀ a b, Pl n (fun a b => E b a) a b → Pl n E b a := fun a b h => by
    induction h with
    | edge h1 h2 h3 => exact .edge h2 h1 h3
    | trans _ _ h1 h2 => exact .trans h2 h1
  have key2 : ∀ a b, Pl n E b a → Pl n (fun a b => E b a) a b := fun a b h => by
    induction h with
    | edge h1 h2 h3 => exact .edge h2 h1 h3
    | trans _ _ h1 h2 => exact .trans h2 h1
  rw [Bool.eq_iff_iff, wrun_iff hi hk, wrun_iff hk hi]
  exact ⟨key i k, key2 i k⟩
theorem parts_flip {n : Nat} {E : Nat → Nat → Bool} : (List.range n).map (partF (wrun (fun a b => E b a) n)) = (List.range n).map (partF (wrun E n)) := by
  refine List.map_congr_left (fun i hi => ?_)
  have hi := List.mem_range.1 hi
  have h1 := part_ref (E := E) hi
  have h2 := part_ref (E := fun a b => E b a) hi
  have key : ∀ a b, Pl n (fun a b => E b a) a b → Pl n E b a := fun a b h => by
    induction h with
    | edge h1 h2 h3 => exact .edge h2 h1 h3
    | trans _ _ h1 h2 => exact .trans h2 h1
  have key2 : ∀ a b, Pl n E b a → Pl n (fun a b => E b a) a b := fun a b h => by
    induction h with
    | edge h1 h2 h3 => exact .edge h2 h1 h3
    | trans _ _ h1 h2 => exact .trans h2 h1
  have r1 : ∀ a b, a < n → Rch (adjE n (fun a b => E b a)) a b → Rch (adjE n E) b a := fun a b ha h => by
    rcases rch_pl ha h with rfl | h
    · exact .refl _
    · exact pl_rch (key a b h)
  have r2 : ∀ a b, b < n → Rch (adjE n E) b a → Rch (adjE n (fun a b => E b a)) a b := fun a b hb h => by
    rcases rch_pl hb h with rfl | h
    · exact .refl _
    · exact pl_rch (key2 a b h)
  have hp : partF (wrun (fun a b => E b a) n) i < n := partF_lt hi
  have h3 : Least (adjE n E) i (partF (wrun (fun a b => E b a) n) i) := ⟨r1 _ _ hp h2.2.1, r1 _ _ hi h2.1, fun x hx hy => by
    have hxn : x < n := by
      rcases rch_pl hi hx with rfl | h
      · exact hi
      · exact h.lt.2
    exact h2.2.2 x (r2 _ _ hxn hy) (r2 _ _ hi hx)⟩
  exact h3.uniq h1
theorem cycles_flip {n : Nat} {E : Nat → Nat → Bool} : rowE n (fun i => wrun (fun a b => E b a) n i i) = rowE n (fun i => wrun E n i i) :=
  rowE_congr (fun i hi => wrun_flip hi hi)
def edC (l : List (Int × Int)) : List Value := l.flatMap (fun x => [.int .i64 x.1, .int .i64 x.2])
theorem edC_len : ∀ l : List (Int × Int), (edC l).length = l.length * 2
  | [] => rfl
  | x :: l => by
    have := edC_len l
    simp only [edC, List.flatMap_cons, List.length_append, List.length_cons, List.length_nil] at this ⊢
    omega
theorem edC_snoc (l : List (Int × Int)) (x : Int × Int) : edC (l ++ [x]) = edC l ++ [.int .i64 x.1, .int .i64 x.2] := by simp [edC]
theorem edC_at : ∀ {l : List (Int × Int)} {i : Nat} {x : Int × Int}, l[i]? = some x → (edC l)[i * 2]? = some (.int .i64 x.1) ∧ (edC l)[i * 2 + 1]? = some (.int .i64 x.2)
  | [], i, x, h => by simp at h
  | y :: l, 0, x, h => by
    simp only [List.getElem?_cons_zero, Option.some.injEq] at h
    subst h
    exact ⟨rfl, rfl⟩
  | y :: l, i + 1, x, h => by
    have q := edC_at (l := l) (i := i) (x := x) (by simpa using h)
    have e : edC (y :: l) = .int .i64 y.1 :: .int .i64 y.2 :: edC l := rfl
    rw [e, show (i + 1) * 2 = i * 2 + 1 + 1 by omega]
    simpa using q
theorem EdRd.of_rw {w : World} {va : Option Addr} {vc n : Nat} {l : List (Int × Int)} (h : Rw w 37 2 (.slice va n vc) n (edC l)) : EdRd w va l := fun i x hx => by
  have hi := (List.getElem?_eq_some_iff.1 hx).1
  have hn : n = l.length := by have := h.1; rw [edC_len] at this; omega
  obtain ⟨g, off, cap, hv, hg, hc⟩ := Rw.pos h (by omega)
  simp only [Value.slice.injEq] at hv
  obtain ⟨rfl, -, rfl⟩ := hv
  obtain ⟨q1, q2⟩ := edC_at hx
  exact ⟨g, off, rfl, hg, hc _ _ q1, by rw [Nat.add_assoc]; exact hc _ _ q2⟩
def swp (x : Int × Int) : Int × Int := (x.2, x.1)
theorem edgN_swap (N : Nat) (l : List (Int × Int)) : edgN N (l.map swp) = fun a b => edgN N l b a := by
  funext a b
  unfold edgN
  have : ((a : Int), (b : Int)) ∈ l.map swp ↔ ((b : Int), (a : Int)) ∈ l := by
    simp only [List.mem_map, swp, Prod.mk.injEq]
    constructor
    · rintro ⟨⟨x, y⟩, hx, h1, h2⟩
      simp only at h1 h2
      rw [← h1, ← h2]
      exact hx
    · intro h
      exact ⟨_, h, rfl, rfl⟩
  rw [Bool.eq_iff_iff]
  simp only [decide_eq_true_eq, this]
  exact ⟨fun ⟨a, b, c⟩ => ⟨b, a, c⟩, fun ⟨a, b, c⟩ => ⟨b, a, c⟩⟩
theorem info2 : (Try.prog.info? 37).map (fun i => (i.zero, i.size, i.bytes)) = some (some (.agg #[.int .i64 0, .int .i64 0]), 2, 16) := by kernel_rfl
set_option maxHeartbeats 6400000 in
theorem GraphTurned_walk (w : World) (n : Int) (va : Option Addr) (cap L : Nat) (l : List (Int × Int)) (hL : l.length = L) (hcap : L ≤ cap) (hr : EdRd w va l) (fa : Option Addr) (fc K : Nat) (fr : List Int) (hK : fr.length = K) (hK63 : K ≤ 9223372036854775807) (hf : RdI w fa fr) :
    Calls Try.prog 6 #[.int .i64 n, .slice va L cap, .slice fa K fc] w fun e w' => e = .returned (.bool true) ∧ Upd w w' (fun _ => False) := by
  have GS := graphs_any w n va cap L l hL hcap hr
  have hn1 := nOf_lt n
  obtain ⟨M, hM⟩ : ∃ M, min L 80 = M := ⟨_, rfl⟩
  have hM2 : (min (L : Int) 80) = (M : Int) := by omega
  have m0 : (0 : Int) ≤ (M : Int) := by omega
  have m1 : (M : Int) ≤ (cap : Int) := by omega
  have hM8 : M ≤ 80 := by omega
  have hlen : (l.take 80).length = M := by rw [List.length_take, hL, Nat.min_comm]; exact hM
  have hr8 : EdRd w va (l.take 80) := fun i x hx => hr i x (by
    rw [List.getElem?_take] at hx
    split at hx
    · exact hx
    · cases hx)
  obtain ⟨N, hN⟩ : ∃ N, nOf n = N := ⟨_, rfl⟩
  obtain ⟨lt, hlt0⟩ : ∃ q, l.take 80 = q := ⟨_, rfl⟩
  rw [hlt0] at hlen hr8 GS
  obtain ⟨E, hE⟩ : ∃ E, edgN N lt = E := ⟨_, rfl⟩
  rw [hN, hE] at GS
  rw [hN] at hn1
  obtain ⟨i0, hi, hz0, hz1, hz2⟩ := info_parts info2
  have GS2 : ∀ (W : World) (a : Option Addr) (c : Nat), M ≤ c → EdRd W a (lt.map swp) → Calls Try.prog 10 #[.int .i64 n, .slice a M c] W (GsRes W N (fun a b => E b a)) := fun W a c hc h => by
    have q := graphs_any W n a c M (lt.map swp) (by rw [List.length_map]; exact hlen) hc h
    rw [List.take_of_length_le (by rw [List.length_map]; omega), hN, edgN_swap, hE] at q
    exact q
  obtain ⟨pl, hpl⟩ : ∃ p, (List.range N).map (partF (wrun E N)) = p := ⟨_, rfl⟩
  obtain ⟨cl, hcl⟩ : ∃ p, rowE N (fun i => wrun E N i i) = p := ⟨_, rfl⟩
  obtain ⟨rl, hrl⟩ : ∃ p, rowE N (reachB N (wrun E N) (fun k => decide ((k : Int) ∈ fr))) = p := ⟨_, rfl⟩
  have hpl2 : (List.range N).map (partF (wrun (fun a b => E b a) N)) = pl := by rw [parts_flip, hpl]
  have hcl2 : rowE N (fun i => wrun (fun a b => E b a) N i i) = cl := by rw [cycles_flip, hcl]
  have lp : pl.length ≤ 1000 := by rw [← hpl]; simp; omega
  have lc : cl.length ≤ 1000 := by rw [← hcl]; have := rowE_len N (fun i => wrun E N i i); omega
  have lr : rl.length ≤ 1000 := by rw [← hrl]; have := rowE_len N (reachB N (wrun E N) (fun k => decide ((k : Int) ∈ fr))); omega
  have hl63 : fr.length ≤ 9223372036854775807 := by omega
  have PA : ∀ {W : World} {gb : Nat} {mg : Gm} {D : Nat → Nat → Bool} (_ : GrAt W gb N mg E D), Calls Try.prog 13 #[.pointer (some ⟨gb, 0, none⟩)] W fun e w' => ∃ a c, e = .returned (.slice a pl.length c) ∧ RdI w' a (pl.map (fun (k : Nat) => (k : Int))) ∧ Upd W w' (fun _ => False) := fun h => (Parts_any h).mono fun e w' q => q.rd hpl
  have PB : ∀ {W : World} {gb : Nat} {mg : Gm} {D : Nat → Nat → Bool} (_ : GrAt W gb N mg (fun a b => E b a) D), Calls Try.prog 13 #[.pointer (some ⟨gb, 0, none⟩)] W fun e w' => ∃ a c, e = .returned (.slice a pl.length c) ∧ RdI w' a (pl.map (fun (k : Nat) => (k : Int))) ∧ Upd W w' (fun _ => False) := fun h => (Parts_any h).mono fun e w' q => q.rd hpl2
  have CA : ∀ {W : World} {gb : Nat} {mg : Gm} {D : Nat → Nat → Bool} (_ : GrAt W gb N mg E D), Calls Try.prog 15 #[.pointer (some ⟨gb, 0, none⟩)] W fun e w' => ∃ a c, e = .returned (.slice a cl.length c) ∧ RdI w' a (cl.map (fun (k : Nat) => (k : Int))) ∧ Upd W w' (fun _ => False) := fun h => (Cycles_any h).mono fun e w' q => q.rd hcl
  have CB : ∀ {W : World} {gb : Nat} {mg : Gm} {D : Nat → Nat → Bool} (_ : GrAt W gb N mg (fun a b => E b a) D), Calls Try.prog 15 #[.pointer (some ⟨gb, 0, none⟩)] W fun e w' => ∃ a c, e = .returned (.slice a cl.length c) ∧ RdI w' a (cl.map (fun (k : Nat) => (k : Int))) ∧ Upd W w' (fun _ => False) := fun h => (Cycles_any h).mono fun e w' q => q.rd hcl2
  have RA : ∀ {W : World} {gb : Nat} {mg : Gm} {D : Nat → Nat → Bool} (_ : GrAt W gb N mg E D) (_ : RdI W fa fr), Calls Try.prog 17 #[.pointer (some ⟨gb, 0, none⟩), .slice fa fr.length fc] W fun e w' => ∃ a c, e = .returned (.slice a rl.length c) ∧ RdI w' a (rl.map (fun (k : Nat) => (k : Int))) ∧ Upd W w' (fun _ => False) := fun h hf => (Reach_any h fa fc fr hf hl63).mono fun e w' q => q.rd hrl
  have DB : ∀ {W : World} {gb : Nat} {mg : Gm} {F : Nat → Nat → Bool} (_ : GrAt W gb N mg F E) (_ : RdI W fa fr), Calls Try.prog 19 #[.pointer (some ⟨gb, 0, none⟩), .slice fa fr.length fc] W fun e w' => ∃ a c, e = .returned (.slice a rl.length c) ∧ RdI w' a (rl.map (fun (k : Nat) => (k : Int))) ∧ Upd W w' (fun _ => False) := fun h hf => (Dirty_any h fa fc fr hf hl63).mono fun e w' q => q.rd hrl
  rw [hK] at RA DB
  have EQ : ∀ (W : World) (a b : Option Addr) (ca cb : Nat) (l : List Nat), RdI W a (l.map (fun (k : Nat) => (k : Int))) → RdI W b (l.map (fun (k : Nat) => (k : Int))) → l.length ≤ 1000 → Calls Try.prog 12 #[.slice a l.length ca, .slice b l.length cb] W fun e w' => e = .returned (.bool true) ∧ Upd W w' (fun _ => False) := fun W a b ca cb l h1 h2 h3 => by
    have := equal_true W a b ca cb (l.map (fun (k : Nat) => (k : Int))) h1 h2 (by rw [List.length_map]; omega)
    rw [List.length_map] at this
    exact this
  have HR := hide hr8
  have HF := hide hf
  have HLEN := hide hlen
  have HGS2 := hide GS2
  clear hr hL hcap hE hN hr8 hf hlen hlt0 hM GS2 hpl hcl hrl hpl2 hcl2 hK
  go_enter Try.func6, Try.ntmps6
  go_wp2_with (go_at_call 10; go_loud (refine Calls.mono GS ?_); rintro e w1 ⟨gb, mg, rb, rv, rf, rfl, g1, r1, u1⟩; have HG1 := hide g1; have HU0 := hide u1; clear g1 r1 u1)
  clear GS
  go_loopg [10, 29] (M + 1) (fun q ov jv wr => ∃ j a c, j ≤ M ∧ M - j < q ∧ jv = .int .i64 (j : Nat) ∧ ov = .slice a j c ∧ Rw wr 37 2 (.slice a j c) j (edC ((lt.take j).map swp)) ∧ (∀ k, (Value.slice a j c).ownBlock = some k → w1.heap.size ≤ k) ∧ Upd w1 wr (fun _ => False))
  case atStart => exact ⟨0, none, 0, by omega, by omega, rfl, rfl, Rw.nil _ _ _, fun k q => by simp [Value.ownBlock] at q, Upd.refl _ _⟩
  case round =>
    obtain ⟨j, a, c, hj, hq, rfl, rfl, rj, oj, u⟩ := hrel
    by_cases hjM : j < M
    · obtain ⟨⟨x0, x1⟩, hx⟩ : ∃ x, lt[j]? = some x := ⟨_, List.getElem?_eq_getElem (by rw [HLEN.out]; exact hjM)⟩
      obtain ⟨g, off, rfl, hgl, e0, e1⟩ := (HR.out.upd (HU0.out.then u (fun _ _ => id))) j _ hx
      have j0 : (0 : Int) ≤ (j : Int) := by omega
      have j1 : (j : Int) < (M : Int) := by omega
      have hj80 : j ≤ 80 := by omega
      have hsz : (wr.alloc (.cells #[.int .i64 x0, .int .i64 x1] 37)).heap.size = wr.heap.size + 1 := by simp
      have hmd := Rw.made (wr.alloc (.cells #[.int .i64 x0, .int .i64 x1] 37)) #[.int .i64 x1, .int .i64 x0] 37 2 1 rfl
      rw [hsz] at hmd
      have HMD := hide hmd
      have HRJ := hide rj
      have HOJ := hide oj
      have HU := hide u
      have HX := hide hx
      clear rj oj u hx hmd hsz
      go_wp2_with (at_builtin; go_loud (refine wpList_append_rw _ rfl _ _ 22 22 rfl 37 _ i0 _ 2 16 Try.underlying22 Try.underlying22 (by simp) hi hz0 hz1 hz2 rfl _ j _ rfl ((HRJ.out.alloc _).alloc _) _ 1 [.int .i64 x1, .int .i64 x0] rfl HMD.out.src rfl (by simp [Value.oneCell']) (by omega) (by omega) ?_); intro ga gc w4 hv' hg4 hob')
      have u4 : Upd wr w4 (fun k => (Value.slice a j c).ownBlock = some k) := (((Upd.refl wr _).alloc _).alloc _).grown hg4 (fun k e => .inr e)
      have hcells : edC ((lt.take j).map swp) ++ [Value.int .i64 x1, .int .i64 x0] = edC ((lt.take (j + 1)).map swp) := by
        rw [List.take_add_one, HX.out]
        simp only [Option.toList_some, List.map_append, List.map_cons, List.map_nil, edC_snoc, swp]
      rw [hcells] at hv'
      go_roundg (gk - 1)
      case measure => omega
      case rel => exact ⟨j + 1, ga, gc, by omega, by omega, by go_num, rfl, hv', fun k q => by
        rcases hob' with e | e
        · exact HOJ.out k (e.symm.trans q)
        · have e2 := Option.some.inj (e.symm.trans q)
          have := HU.out.size
          simp at e2
          omega, HU.out.then u4 (fun k hk q => by have := HOJ.out k q; omega)⟩
    · have j1 : ¬ (j : Int) < (M : Int) := by omega
      have hjM2 : j = M := by omega
      subst hjM2
      have et : lt.take j = lt := List.take_of_length_le (by rw [HLEN.out]; exact Nat.le_refl _)
      rw [et] at rj
      have hcc : j ≤ c := by
        rcases rj.2 with ⟨he, h0⟩ | ⟨g, off, cap, cur, he, hg, hnc, _⟩
        · omega
        · cases he; exact hnc
      have ed := EdRd.of_rw rj
      have GB := HGS2.out wr a c hcc ed
      have HU := hide u
      have HGB := hide GB
      clear rj oj u et ed GB hcc
      go_wp2_with (first
        | (go_at_call 10; go_loud (refine Calls.mono HGB.out ?_); rintro e w2 ⟨gb2, mg2, rb2, rv2, rf2, rfl, g2, r2, u2⟩; have HG2 := hide g2; have HU2 := hide (HU.out.then u2 (fun _ _ => id)); have HW2 := hide (Upd.refl w2 (fun _ => False)); clear g2 r2 u2)
        | (go_at_call 11; go_loud (refine Calls.mono (wakes_any _) ?_); rintro e w3 ⟨rfl, u⟩; have HW3 := hide u; clear u)
        | (go_at_call 13; with_reducible refine Calls.mono (PA ((HG1.out.upd HU2.out (fun _ _ => id)).upd HW3.out (fun _ _ => id))) ?_; rintro e w4 ⟨a4, c4, rfl, r, u⟩; have HX4 := hide r; have HW4 := hide (HW3.out.then u (fun _ _ => id)); clear r u)
        | (go_at_call 13; with_reducible refine Calls.mono (PB (HG2.out.upd HW4.out (fun _ _ => id))) ?_; rintro e w5 ⟨a5, c5, rfl, r, u⟩; have HX5 := hide r; have HV5 := hide u; have HW5 := hide (HW4.out.then u (fun _ _ => id)); clear r u)
        | (go_at_call 12; with_reducible refine Calls.mono (EQ _ a4 a5 c4 c5 pl (HX4.out.upd HV5.out) HX5.out lp) ?_; rintro e w6 ⟨rfl, u⟩; have HW6 := hide (HW5.out.then u (fun _ _ => id)); clear u)
        | (go_at_call 15; with_reducible refine Calls.mono (CA ((HG1.out.upd HU2.out (fun _ _ => id)).upd HW6.out (fun _ _ => id))) ?_; rintro e w7 ⟨a7, c7, rfl, r, u⟩; have HX7 := hide r; have HW7 := hide (HW6.out.then u (fun _ _ => id)); clear r u)
        | (go_at_call 15; with_reducible refine Calls.mono (CB (HG2.out.upd HW7.out (fun _ _ => id))) ?_; rintro e w8 ⟨a8, c8, rfl, r, u⟩; have HX8 := hide r; have HV8 := hide u; have HW8 := hide (HW7.out.then u (fun _ _ => id)); clear r u)
        | (go_at_call 12; with_reducible refine Calls.mono (EQ _ a7 a8 c7 c8 cl (HX7.out.upd HV8.out) HX8.out lc) ?_; rintro e w9 ⟨rfl, u⟩; have HW9 := hide (HW8.out.then u (fun _ _ => id)); clear u)
        | (go_at_call 17; with_reducible refine Calls.mono (RA ((HG1.out.upd HU2.out (fun _ _ => id)).upd HW9.out (fun _ _ => id)) (HF.out.upd ((HU0.out.then HU2.out (fun _ _ => id)).then HW9.out (fun _ _ => id)))) ?_; rintro e w10 ⟨a10, c10, rfl, r, u⟩; have HX10 := hide r; have HW10 := hide (HW9.out.then u (fun _ _ => id)); clear r u)
        | (go_at_call 19; with_reducible refine Calls.mono (DB (HG2.out.upd HW10.out (fun _ _ => id)) (HF.out.upd ((HU0.out.then HU2.out (fun _ _ => id)).then HW10.out (fun _ _ => id)))) ?_; rintro e w11 ⟨a11, c11, rfl, r, u⟩; have HX11 := hide r; have HV11 := hide u; have HW11 := hide (HW10.out.then u (fun _ _ => id)); clear r u)
        | (go_at_call 12; with_reducible refine Calls.mono (EQ _ a10 a11 c10 c11 rl (HX10.out.upd HV11.out) HX11.out lr) ?_; rintro e w12 ⟨rfl, u⟩; have HW12 := hide (HW11.out.then u (fun _ _ => id)); clear u))
      go_ret
      exact ⟨rfl, (HU0.out.then HU2.out (fun _ _ => id)).then HW12.out (fun _ _ => id)⟩
end Go.Proofs.Ytnhggncpebifhaa
