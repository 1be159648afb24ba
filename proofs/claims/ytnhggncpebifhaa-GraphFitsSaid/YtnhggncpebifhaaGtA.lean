/- The law's equal, graphs. -/
import Derived.Test.YtnhggncpebifhaaGsA
import Derived.StillTailTactics
set_option maxRecDepth 100000
namespace Go.Proofs.Ytnhggncpebifhaa
open Go.RowKit Go.Lat Go.Tarjan

theorem equal_true (w : World) (a b : Option Addr) (ca cb : Nat) (l : List Int) (ha : RdI w a l) (hb : RdI w b l) (hl : l.length ≤ 1000000) :
    Calls Try.prog 12 #[.slice a l.length ca, .slice b l.length cb] w fun e w' => e = .returned (.bool true) ∧ Upd w w' (fun _ => False) := by
  obtain ⟨N, hN⟩ : ∃ N, l.length = N := ⟨_, rfl⟩
  rw [hN] at hl ⊢
  have HA := hide ha
  have HB := hide hb
  have HN := hide hN
  clear ha hb hN
  go_enter Try.func12, Try.ntmps12
  go_wp2_with fail
  go_loopg [13] (N + 1) (fun q jv wr => ∃ j, j ≤ N ∧ N - j < q ∧ jv = .int .i64 (j : Nat) ∧ Upd w wr (fun _ => False))
  case atStart => exact ⟨0, by omega, by omega, rfl, Upd.refl _ _⟩
  case round =>
    obtain ⟨j, hj, hq, rfl, u⟩ := hrel
    by_cases hjN : j < N
    · obtain ⟨x, hx⟩ : ∃ x, l[j]? = some x := ⟨_, List.getElem?_eq_getElem (by rw [HN.out]; exact hjN)⟩
      obtain ⟨g, off, rfl, hgl, e0⟩ := (HA.out.upd u) j x hx
      obtain ⟨g2, off2, rfl, hgl2, e2⟩ := (HB.out.upd u) j x hx
      have j0 : (0 : Int) ≤ (j : Int) := by omega
      have j1 : (j : Int) < (N : Int) := by omega
      have HU := hide u
      clear hx u
      go_wp2_with fail
      go_quiet (fail)
      go_wp2_with fail
      go_roundg (gk - 1)
      case measure => omega
      case rel => exact ⟨j + 1, by omega, by omega, by go_num, HU.out.drewN _⟩
    · have j1 : ¬ (j : Int) < (N : Int) := by omega
      have HU := hide u
      clear u
      go_wp2_with fail
      go_ret
      exact ⟨rfl, HU.out⟩
/-- A slice of edges reads so. -/
def EdRd (w : World) (va : Option Addr) (l : List (Int × Int)) : Prop := ∀ i x, l[i]? = some x → ∃ g off, va = some ⟨g, off, none⟩ ∧ g < w.heap.size ∧ w.cell? ⟨g, off + i * 2, none⟩ = some (.int .i64 x.1) ∧ w.cell? ⟨g, off + i * 2 + 1, none⟩ = some (.int .i64 x.2)
theorem EdRd.upd {w w' : World} {va : Option Addr} {l : List (Int × Int)} (h : EdRd w va l) (u : Upd w w' (fun _ => False)) : EdRd w' va l := fun i x hx => by
  obtain ⟨g, off, e, hg, h1, h2⟩ := h i x hx
  exact ⟨g, off, e, Nat.lt_of_lt_of_le hg u.size, (u.cell g _ hg id).trans h1, (u.cell g _ hg id).trans h2⟩
def edgN (n : Nat) (l : List (Int × Int)) (a b : Nat) : Bool := decide (a < n ∧ b < n ∧ ((a : Int), (b : Int)) ∈ l)
def nOf (n : Int) : Nat := (max 0 n % 20).toNat
theorem nOf_eq (n : Int) : max 0 n % 20 = (nOf n : Int) := by unfold nOf; omega
theorem nOf_lt (n : Int) : nOf n < 20 := by unfold nOf; omega
theorem edgN_yes {n j a b : Nat} {l : List (Int × Int)} (h : l[j]? = some ((a : Int), (b : Int))) (ha : a < n) (hb : b < n) : addE (edgN n (l.take j)) a b = edgN n (l.take (j + 1)) := by
  funext i k
  unfold addE edgN
  rw [List.take_add_one, h]
  by_cases e : i = a ∧ k = b
  · obtain ⟨rfl, rfl⟩ := e
    simp [ha, hb]
  · have : (((i : Int), (k : Int)) ∈ l.take j ++ (some ((a : Int), (b : Int))).toList) ↔ ((i : Int), (k : Int)) ∈ l.take j := by
      simp only [Option.toList_some, List.mem_append, List.mem_singleton, Prod.mk.injEq]
      constructor
      · rintro (q | ⟨q1, q2⟩)
        · exact q
        · exact (e ⟨by omega, by omega⟩).elim
      · exact .inl
    simp only [this]
    have : (decide (i = a) && decide (k = b)) = false := by
      simp only [Bool.and_eq_false_iff, decide_eq_false_iff_not]
      by_cases q : i = a
      · exact .inr (fun z => e ⟨q, z⟩)
      · exact .inl q
    rw [this, Bool.or_false]
theorem edgN_no {n j : Nat} {l : List (Int × Int)} {x : Int × Int} (h : l[j]? = some x) (hx : ¬ ((0 ≤ x.1 ∧ x.1 < n) ∧ (0 ≤ x.2 ∧ x.2 < n))) : edgN n (l.take (j + 1)) = edgN n (l.take j) := by
  funext i k
  unfold edgN
  rw [List.take_add_one, h]
  congr 1
  simp only [eq_iff_iff, Option.toList_some, List.mem_append, List.mem_singleton]
  constructor
  · rintro ⟨a, b, q | q⟩
    · exact ⟨a, b, q⟩
    · rw [← q] at hx
      exact (hx ⟨⟨by simp, by simp; omega⟩, by simp, by simp; omega⟩).elim
  · rintro ⟨a, b, q⟩; exact ⟨a, b, .inl q⟩
theorem addE_flip (E : Nat → Nat → Bool) (a b : Nat) : addE (fun x y => E y x) b a = fun x y => addE E a b y x := by
  funext x y
  unfold addE
  rw [Bool.and_comm]
theorem setE_addE {E : Nat → Nat → Bool} {a b : Nat} : setE E a b true = addE E a b := by
  funext i k
  unfold setE addE
  by_cases e : i = a ∧ k = b
  · obtain ⟨rfl, rfl⟩ := e
    simp
  · rw [if_neg e]
    have : (decide (i = a) && decide (k = b)) = false := by
      simp only [Bool.and_eq_false_iff, decide_eq_false_iff_not]
      by_cases q : i = a
      · exact .inr (fun z => e ⟨q, z⟩)
      · exact .inl q
    rw [this, Bool.or_false]
theorem RgAt.weak {b b' : Nat} {w : World} {rb n : Nat} {v : Value} {f : Nat → Value} {C : Nat → Nat → Bool} (h : RgAt b w rb n v f C) (hb : b' ≤ b) : RgAt b' w rb n v f C :=
  ⟨h.c, ⟨h.m.spine, h.m.row, h.m.apart, h.m.off, fun k q => Nat.le_trans hb (h.m.base k q)⟩, h.off, Nat.le_trans hb h.bb⟩
theorem edgN_nil (n : Nat) : edgN n [] = fun _ _ => false := by
  funext a b
  simp [edgN]
theorem take_take_lt {α : Type} (l : List α) (j M : Nat) (h : j ≤ M) : (l.take M).take j = l.take j := by
  rw [List.take_take, Nat.min_eq_left h]
/-- What graphs hands back. -/
def GsRes (w : World) (n : Nat) (E : Nat → Nat → Bool) (e : Ending) (w' : World) : Prop :=
  ∃ gb mg rb rv rf, e = .returned (.tuple #[.pointer (some ⟨gb, 0, none⟩), .pointer (some ⟨rb, 0, none⟩), .bool true]) ∧ GrAt w' gb n mg E (fun a b => E b a) ∧ RgAt w.heap.size w' rb n rv rf E ∧ Upd w w' (fun _ => False)
set_option maxHeartbeats 6400000 in
theorem graphs_any (w : World) (n : Int) (va : Option Addr) (cap L : Nat) (l : List (Int × Int)) (hL : l.length = L) (hcap : L ≤ cap) (hr : EdRd w va l) :
    Calls Try.prog 10 #[.int .i64 n, .slice va L cap] w (GsRes w (nOf n) (edgN (nOf n) (l.take 80))) := by
  have hn0 := nOf_eq n
  have hn1 := nOf_lt n
  obtain ⟨nn, hnn⟩ : ∃ m, nOf n = m := ⟨_, rfl⟩
  rw [hnn] at hn0 hn1 ⊢
  obtain ⟨M, hM⟩ : ∃ M, min L 80 = M := ⟨_, rfl⟩
  have hM2 : (min (L : Int) 80) = (M : Int) := by omega
  have m0 : (0 : Int) ≤ (M : Int) := by omega
  have m1 : (M : Int) ≤ (cap : Int) := by omega
  have hM8 : M ≤ 80 := by omega
  have htm : ((max 0 n).tmod 20) = (nn : Int) := by
    rw [Int.tmod_eq_emod_of_nonneg (by omega)]
    exact hn0
  have NW := New_ok w nn (by omega)
  have HR := hide hr
  have HL := hide hL
  have HM := hide hM
  clear hr hL hM hn0 hnn
  go_enter Try.func10, Try.ntmps10
  go_wp2_with (first
    | (go_at_call 22; go_loud (refine Calls.mono NW ?_); rintro e w1 ⟨gb, mg, rfl, g1, o1, u1⟩; have HG1 := hide g1; have HO1 := hide o1; have HU1 := hide u1; have RN := Rnew_any w1 nn (by omega); clear g1 o1 u1)
    | (go_at_call 28; go_loud (refine Calls.mono RN ?_); rintro e w2 ⟨rb, rv, rf, rfl, r2, u2⟩; have HR2 := hide r2; have HU2 := hide u2; clear r2 u2))
  clear NW RN
  have g2 : GrAt w2 gb nn mg (edgN nn (l.take 0)) (fun a b => edgN nn (l.take 0) b a) := by
    rw [List.take_zero, edgN_nil]
    exact HG1.out.upd HU2.out (fun _ _ => id)
  have r2 : RgAt w1.heap.size w2 rb nn rv rf (edgN nn (l.take 0)) := by
    rw [List.take_zero, edgN_nil]
    exact HR2.out
  have hd0 : ∀ k, (k = rb ∨ rowsOwn rv nn rf k) → ¬ mg.own gb nn k := fun k q q2 => by
    have := HG1.out.lt q2
    rcases q with q | q
    · have := HR2.out.bb; omega
    · have := RwsAt.base HR2.out.m k q; omega
  have HG2 := hide g2
  have HRR := hide r2
  have HD0 := hide hd0
  have HUW := hide (HU1.out.then HU2.out (fun _ _ => id))
  clear g2 r2 hd0
  go_loopg [29] (M + 1) (fun q jv wr => ∃ j mg, j ≤ M ∧ M - j < q ∧ jv = .int .i64 (j : Nat) ∧ GrAt wr gb nn mg (edgN nn (l.take j)) (fun a b => edgN nn (l.take j) b a) ∧ RgAt w1.heap.size wr rb nn rv rf (edgN nn (l.take j)) ∧ (∀ k, mg.own gb nn k → w.heap.size ≤ k) ∧ (∀ k, (k = rb ∨ rowsOwn rv nn rf k) → ¬ mg.own gb nn k) ∧ Upd w wr (fun _ => False))
  case atStart => exact ⟨0, mg, by omega, by omega, rfl, HG2.out, HRR.out, HO1.out, HD0.out, HUW.out⟩
  case round =>
    obtain ⟨j, mg2, hj, hq, rfl, gr, rr, ho, hd, u⟩ := hrel
    by_cases hjM : j < M
    · obtain ⟨⟨x0, x1⟩, hx⟩ : ∃ x, l[j]? = some x := ⟨_, List.getElem?_eq_getElem (by have := HL.out; have := HM.out; omega)⟩
      obtain ⟨g, off, rfl, hgl, e0, e1⟩ := (HR.out.upd u) j _ hx
      have j0 : (0 : Int) ≤ (j : Int) := by omega
      have j1 : (j : Int) < (M : Int) := by omega
      have ua : Upd wr (wr.alloc (.cells #[.int .i64 x0, .int .i64 x1] 37)) (fun _ => False) := (Upd.refl wr _).alloc _
      have gA := gr.upd ua (fun _ _ => id)
      have rA := rr.quiet ua
      have HX := hide hx
      have HGA := hide gA
      have HRA := hide rA
      have HO := hide ho
      have HD := hide hd
      have HU := hide u
      have HGR := hide gr
      have HUA := hide ua
      have hla : wr.heap.size < (wr.alloc (.cells #[.int .i64 x0, .int .i64 x1] 37)).heap.size := by simp
      clear gr rr ho hd u ua
      by_cases a0 : 0 ≤ x0
      · by_cases a1 : x0 < (nn : Int)
        · by_cases b0 : 0 ≤ x1
          · by_cases b1 : x1 < (nn : Int)
            · obtain ⟨a, rfl⟩ : ∃ a : Nat, x0 = a := ⟨x0.toNat, by omega⟩
              obtain ⟨b, rfl⟩ : ∃ b : Nat, x1 = b := ⟨x1.toNat, by omega⟩
              have ha : a < nn := by omega
              have hb : b < nn := by omega
              have EE := Edge_any gA a b ha hb
              have HEE := hide EE
              have o0 := heap_alloc_new wr (.cells #[.int .i64 (a : Int), .int .i64 (b : Int)] 37)
              have hne : ¬ mg2.own gb nn wr.heap.size := fun q => by have := HGR.out.lt q; omega
              have HNE := hide hne
              have HO0 := hide o0
              clear EE hx gA rA o0 hne
              go_upto_region 11 with (go_at_call 23; go_loud (refine Calls.mono HEE.out ?_); rintro e w5 ⟨rfl, mg5, g5, o5, u5⟩; have b5 := u5.get HO0.out HNE.out; have f0 := cell_at b5 0 _ rfl; have f1 := cell_at b5 1 _ rfl; have fl := lt_at b5; have HG5 := hide g5; have HO5 := hide o5; have HU5 := hide u5; clear g5 o5 u5 b5)
              have r5 := HRA.out.upd HU5.out (fun k q q2 => HD.out k q q2)
              obtain ⟨d0, d1⟩ := cells2 r5.c
              have lb := lt_at r5.c
              obtain ⟨sg, so, sc, rg, ro, rc, hv, hf, sgl, rgl, s0, q1, q2⟩ := r5.m.at ha hb
              have hv5 := hv
              rw [hv] at d1
              obtain ⟨m6, u6⟩ := r5.m.set ha hb hf true
              have hd6 : ∀ k, (k = rb ∨ rowsOwn rv nn rf k) → ¬ mg5.own gb nn k := fun k q q2 => by
                rcases HO5.out k q2 with z | z
                · exact HD.out k q z
                · rcases q with q | q
                  · have := lt_at HRA.out.c
                    omega
                  · have := RwsAt.lt HRA.out.m q
                    omega
              have r6 : RgAt w1.heap.size (w5.setCell ⟨rg, ro + b, none⟩ (.bool true)) rb nn rv rf (edgN nn (l.take (j + 1))) := ⟨u6.get r5.c (fun q => r5.off q), by rw [← edgN_yes HX.out ha hb, ← setE_addE]; exact m6, r5.off, r5.bb⟩
              have g6 : GrAt (w5.setCell ⟨rg, ro + b, none⟩ (.bool true)) gb nn mg5 (edgN nn (l.take (j + 1))) (fun a b => edgN nn (l.take (j + 1)) b a) := by
                have q := HG5.out.upd u6 (fun k q q2 => hd6 k (.inr q2) q)
                have e1 : addE (fun a b => edgN nn (l.take j) b a) b a = fun x y => addE (edgN nn (l.take j)) a b y x := addE_flip (edgN nn (l.take j)) a b
                rw [e1, edgN_yes HX.out ha hb] at q
                exact q
              have a0' : (0 : Int) ≤ (a : Int) := by omega
              have b0' : (0 : Int) ≤ (b : Int) := by omega
              have hob : ∀ k, rowsOwn rv nn rf k → w.heap.size ≤ k := fun k q => Nat.le_trans HU1.out.size (RwsAt.base r5.m k q)
              have u7 : Upd w (w5.setCell ⟨rg, ro + b, none⟩ (.bool true)) (fun _ => False) := (((HU.out.then HUA.out (fun _ _ => id)).then HU5.out (fun k hk q => by have := HO.out k q; omega))).then u6 (fun k hk q => by have := hob k q; omega)
              have HR6 := hide r6
              have HG6 := hide g6
              have HD6 := hide hd6
              have HU7 := hide u7
              have ho6 : ∀ k, mg5.own gb nn k → w.heap.size ≤ k := fun k q => by
                rcases HO5.out k q with z | z
                · exact HO.out k z
                · have := HU.out.size; omega
              have HO6 := hide ho6
              clear r5 hv hf m6 u6 hd6 r6 g6 hob u7 ho6 hv5
              go_still_tail 11, (by kernel_rfl)
              change wpList _ _ _ _ _ w5.drew
              go_wp2_with fail
              go_roundg (gk - 1)
              case measure => omega
              case rel => exact ⟨j + 1, mg5, by omega, by omega, by go_num, HG6.out.drew, HR6.out.quiet (Upd.refl _ _).drew, HO6.out, HD6.out, HU7.out.drew⟩
            · have hok : ¬ ((0 ≤ x0 ∧ x0 < (nn : Int)) ∧ (0 ≤ x1 ∧ x1 < (nn : Int))) := by omega
              have EN := Edge_no gA x0 x1 hok
              have HEN := hide EN
              have HOK := hide hok
              clear EN hx gA rA hok
              go_wp2_with (go_at_call 23; go_loud (refine Calls.mono HEN.out ?_); rintro e w9 ⟨rfl, hw9⟩; obtain rfl := hw9.symm; clear hw9)
              go_roundg (gk - 1)
              case measure => omega
              case rel => exact ⟨j + 1, mg2, by omega, by omega, by go_num, by rw [edgN_no HX.out HOK.out]; exact HGA.out, by rw [edgN_no HX.out HOK.out]; exact HRA.out, HO.out, HD.out, HU.out.alloc _⟩
          · have hok : ¬ ((0 ≤ x0 ∧ x0 < (nn : Int)) ∧ (0 ≤ x1 ∧ x1 < (nn : Int))) := by omega
            have EN := Edge_no gA x0 x1 hok
            have HEN := hide EN
            have HOK := hide hok
            clear EN hx gA rA hok
            go_wp2_with (go_at_call 23; go_loud (refine Calls.mono HEN.out ?_); rintro e w9 ⟨rfl, hw9⟩; obtain rfl := hw9.symm; clear hw9)
            go_roundg (gk - 1)
            case measure => omega
            case rel => exact ⟨j + 1, mg2, by omega, by omega, by go_num, by rw [edgN_no HX.out HOK.out]; exact HGA.out, by rw [edgN_no HX.out HOK.out]; exact HRA.out, HO.out, HD.out, HU.out.alloc _⟩
        · have hok : ¬ ((0 ≤ x0 ∧ x0 < (nn : Int)) ∧ (0 ≤ x1 ∧ x1 < (nn : Int))) := by omega
          have EN := Edge_no gA x0 x1 hok
          have HEN := hide EN
          have HOK := hide hok
          clear EN hx gA rA hok
          go_wp2_with (go_at_call 23; go_loud (refine Calls.mono HEN.out ?_); rintro e w9 ⟨rfl, hw9⟩; obtain rfl := hw9.symm; clear hw9)
          go_roundg (gk - 1)
          case measure => omega
          case rel => exact ⟨j + 1, mg2, by omega, by omega, by go_num, by rw [edgN_no HX.out HOK.out]; exact HGA.out, by rw [edgN_no HX.out HOK.out]; exact HRA.out, HO.out, HD.out, HU.out.alloc _⟩
      · have hok : ¬ ((0 ≤ x0 ∧ x0 < (nn : Int)) ∧ (0 ≤ x1 ∧ x1 < (nn : Int))) := by omega
        have EN := Edge_no gA x0 x1 hok
        have HEN := hide EN
        have HOK := hide hok
        clear EN hx gA rA hok
        go_wp2_with (go_at_call 23; go_loud (refine Calls.mono HEN.out ?_); rintro e w9 ⟨rfl, hw9⟩; obtain rfl := hw9.symm; clear hw9)
        go_roundg (gk - 1)
        case measure => omega
        case rel => exact ⟨j + 1, mg2, by omega, by omega, by go_num, by rw [edgN_no HX.out HOK.out]; exact HGA.out, by rw [edgN_no HX.out HOK.out]; exact HRA.out, HO.out, HD.out, HU.out.alloc _⟩
    · have j1 : ¬ (j : Int) < (M : Int) := by omega
      have hjM2 : j = M := by omega
      have NO := Nodes_any gr
      have et : l.take j = l.take 80 := by
        rw [hjM2, ← HM.out, ← HL.out]
        by_cases q : l.length ≤ 80
        · rw [Nat.min_eq_left q, List.take_length, List.take_of_length_le q]
        · rw [Nat.min_eq_right (by omega)]
      rw [et] at gr rr
      have HGR := hide gr
      have HRR2 := hide rr
      have HU := hide u
      have hw1 : w.heap.size ≤ w1.heap.size := HU1.out.size
      clear gr rr ho hd u et hjM2
      go_wp2_with (go_at_call 24; refine Calls.mono NO ?_; rintro e w9 ⟨rfl, hw9⟩; obtain rfl := hw9.symm; clear hw9)
      go_ret3
      exact ⟨gb, mg2, rb, rv, rf, rfl, HGR.out, HRR2.out.weak hw1, HU.out⟩
end Go.Proofs.Ytnhggncpebifhaa
