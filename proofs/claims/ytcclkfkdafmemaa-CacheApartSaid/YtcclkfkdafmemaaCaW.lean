/- The walk of the law's wakes; Want at one link. -/
import Derived.Test.YtcclkfkdafmemaaCaV
import Derived.Deep.RegionHeld3
import Derived.Deep.RegionWith
import Derived.Deep.DeepCutAuto
set_option maxRecDepth 100000
namespace Go.Proofs.Ytcclkfkdafmemaa
open Go.RowKit Go.Lat

/-- What one wanted link, that was not there, makes of a cache without links. -/
def oneM (l : Lk) : Lk → Option En := fun x => if x = l then some enZero else none
theorem one_len {ks : List Lk} (h : ks.Pairwise ltP) (l : Lk) (m : ∀ x ∈ ks, x = l) (hl : l ∈ ks) : ks.length = 1 := by
  match ks, h, m, hl with
  | [x], _, _, _ => rfl
  | x :: y :: r, h, m, _ =>
    have h1 := (List.pairwise_cons.1 h).1 y (by simp)
    rw [m x (by simp), m y (by simp)] at h1
    exact absurd h1 (ltP_irrefl _)
/-- Want of one link at a cache without links. -/
theorem Want_one (w : World) (b bm n : Nat) (D : DataW Value) (h : Cas w b bm n D (fun _ => none)) (hn : n + 1 ≤ 1000000) (g : Nat) (l : Lk) (hl : l.ok) (hg : w.heap[g]? = some (.cells l.cs 30 (0, 0))) :
    Calls Try.prog 9 #[.pointer (some ⟨b, 0, none⟩), .slice (some ⟨g, 0, none⟩) 1 1] w fun e w' => ∃ a1 c1 a2 c2, e = .returned (.tuple #[.slice a1 1 c1, .slice a2 0 c2]) ∧ (∃ n' D', n' ≤ n + 1 ∧ Cas w' b bm n' D' (oneM l)) ∧ Upd w w' (fun k => k = bm) := by
  have hv : Rw w 30 4 (.slice (some ⟨g, 0, none⟩) 1 1) 1 (lkCells [l]) := by
    refine ⟨by simp [lkCells_len], .inr ⟨g, 0, 1, _, rfl, hg, Nat.le_refl _, by simp [Lk.cs], by simp [Lk.cs, lkCells, lkEnc]⟩⟩
  refine Calls.mono (Want_any w b bm n D _ h (some ⟨g, 0, none⟩) 1 [l] hv (by simpa using hl) (by simpa using hn)) ?_
  rintro e w' ⟨a1, c1, k1, a2, c2, k2, rfl, r1, r2, -, -, ⟨n', D', hn', hc⟩, u⟩
  have e1 : k1.length = 1 := one_len r1.ord l (fun x hx => by simpa using ((r1.mem x (r1.ok x hx)).1 hx)) ((r1.mem l hl).2 (by simp))
  have e2 : k2.length = 0 := by
    cases k2 with
    | nil => rfl
    | cons x r => simpa using (r2.mem x (r2.ok x (by simp))).1 (by simp)
  rw [e1, e2]
  refine ⟨a1, c1, a2, c2, rfl, ⟨n', D', by simpa using hn', hc.imp fun x _ => ?_⟩, u⟩
  unfold wantM oneM
  simp

def lW : Lk := ⟨[66], [83], 0, 0⟩
theorem lW_ok : lW.ok := by constructor <;> first | decide | (unfold i64ok; decide)
def vW5 : Vl := ⟨1, 5, [], false, 0⟩
def vW6 : Vl := ⟨1, 6, [], false, 0⟩
theorem vW5_ok : vW5.ok := by constructor <;> first | decide | (unfold i64ok; decide)
theorem vW6_ok : vW6.ok := by constructor <;> first | decide | (unfold i64ok; decide)
theorem vE8_ok : (Vl.mk 4 0 [] false 8).ok := by constructor <;> first | decide | (unfold i64ok; decide)
def MW1 : Lk → Option En := takeM (oneM lW) lW vW5 2 1
theorem tk5 : takeOk (oneM lW lW) vW5 2 1 = true := by decide
theorem tk6 : takeOk (MW1 lW) vW6 1 1 = false := by decide
theorem MW2 : takeM MW1 lW vW6 1 1 = MW1 := by
  unfold takeM
  rw [tk6]
  rfl

/-- The memory of the law's wakes: the cache at b, its link at X. -/
def StW (w W : World) (X b bm k : Nat) (M : Lk → Option En) : Prop :=
  (∃ n D, n ≤ k ∧ Cas W b bm n D M) ∧ W.heap[X]? = some (.cells lW.cs 30 (0, 0)) ∧ Upd w W (fun _ => False) ∧ w.heap.size ≤ b ∧ w.heap.size ≤ bm ∧ X ≠ bm
theorem StW.quiet {w W W' : World} {X b bm k : Nat} {M : Lk → Option En} (u : Upd W W' (fun _ => False)) (h : StW w W X b bm k M) : StW w W' X b bm k M := by
  obtain ⟨⟨n, D, hn, hc⟩, hx, hu, h1, h2, h3⟩ := h
  exact ⟨⟨n, D, hn, hc.upd u id id⟩, u.get hx id, hu.then u (fun _ _ e => e.elim), h1, h2, h3⟩
theorem StW.take {w W : World} {X b bm k : Nat} {M : Lk → Option En} (hk : k ≤ 1000) (v : Vl) (hv : v.ok) (ver inc : Int) (h : StW w W X b bm k M) :
    Calls Try.prog 11 #[.pointer (some ⟨b, 0, none⟩), lW.val, .int .i64 ver, v.val, .int .i64 inc] W fun e w' => e = .returned (.bool (takeOk (M lW) v ver inc)) ∧ StW w w' X b bm (k + 1) (takeM M lW v ver inc) := by
  obtain ⟨⟨n, D, hn, hc⟩, hx, hu, h1, h2, h3⟩ := h
  refine Calls.mono (Take_any W b bm n D M hc (by omega) lW v ver inc lW_ok hv) ?_
  rintro e w' ⟨rfl, ⟨n', D', hn', hc'⟩, u⟩
  exact ⟨rfl, ⟨n', D', by omega, hc'⟩, u.get hx h3, hu.then u (fun i hi e => by omega), h1, h2, h3⟩
theorem StW.seen {w W : World} {X b bm k : Nat} {M : Lk → Option En} (h : StW w W X b bm k M) :
    Calls Try.prog 14 #[.pointer (some ⟨b, 0, none⟩), lW.val] W fun e w' => e = .returned (seenV (M lW)).val ∧ StW w w' X b bm k M ∧ Upd W w' (fun _ => False) := by
  obtain ⟨⟨n, D, hn, hc⟩, r⟩ := id h
  refine Calls.mono (Seen_any W b bm n D M hc lW lW_ok) ?_
  rintro e w' ⟨rfl, u⟩
  exact ⟨rfl, h.quiet u, u⟩
theorem StW.lose {w W : World} {X b bm k : Nat} {M : Lk → Option En} (hk : k ≤ 1000) (nm : List UInt8) (h : StW w W X b bm k M) :
    Calls Try.prog 27 #[.pointer (some ⟨b, 0, none⟩), enS nm] W fun e w' => e = .returned (.tuple #[]) ∧ StW w w' X b bm k (MB M loseE nm) ∧ Upd W w' (fun j => j = bm) := by
  obtain ⟨⟨n, D, hn, hc⟩, hx, hu, h1, h2, h3⟩ := id h
  refine Calls.mono (Lose_any W b bm n D M hc (by omega) nm) ?_
  rintro e w' ⟨rfl, ⟨D', hc'⟩, u⟩
  exact ⟨rfl, ⟨⟨n, D', hn, hc'⟩, u.get hx h3, hu.then u (fun i hi e => by omega), h1, h2, h3⟩, u⟩
theorem StW.cells {w W : World} {X b bm k : Nat} {M : Lk → Option En} (h : StW w W X b bm k M) : X < W.heap.size ∧ W.cell? ⟨X, 0, none⟩ = some (.string ⟨#[66]⟩) ∧ W.cell? ⟨X, 1, none⟩ = some (.string ⟨#[83]⟩) ∧ W.cell? ⟨X, 2, none⟩ = some (.int .i64 0) ∧ W.cell? ⟨X, 3, none⟩ = some (.int .i64 0) := by
  obtain ⟨_, hx, _⟩ := h
  exact ⟨lt_at hx, cell_at hx 0 _ rfl, cell_at hx 1 _ rfl, cell_at hx 2 _ rfl, cell_at hx 3 _ rfl⟩

set_option maxHeartbeats 3200000 in
theorem wakes_any (w : World) : Calls Try.prog 13 #[] w fun e w' => e = .returned (.bool true) ∧ Upd w w' (fun _ => False) := by
  go_enter Try.func13, Try.ntmps13
  go_wp2_with fail
  refine Calls.mono (New_any _) ?_
  rintro e w1 ⟨b, bm, rfl, hc, hb, hbm, u1⟩
  have HC := hide hc
  have HU1 := hide u1
  clear hc u1
  have HB := hide hb
  have HBM := hide hbm
  obtain ⟨X, hX⟩ : ∃ X, w1.heap.size = X := ⟨_, rfl⟩
  have HX := hide hX
  have blt := lt_at HC.out.c
  have bmlt := HC.out.m.lt
  have hE := HC.out.upd ((((Upd.refl w1 (fun _ => False)).alloc (.cells lW.cs 30)).alloc (.cells lW.cs 30))) id id
  have g2 := Vnew2 w1 (.cells lW.cs 30) (.cells lW.cs 30)
  have WO := Want_one _ b bm 0 _ hE (by decide) _ lW lW_ok g2
  have HWO := hide WO
  clear hX hb hbm hE g2 WO
  go_wp2_with fail
  refine Calls.mono HWO.out ?_
  rintro e w2 ⟨a1, c1, a2, c2, rfl, ⟨n2, D2, hn2, hc2⟩, u2⟩
  have u02 : Upd w1 w2 (fun k => k = bm) := (((Upd.refl w1 _).alloc _).alloc _).then u2 (fun _ _ e => e)
  have bL : w2.heap[X]? = some (.cells lW.cs 30 (0, 0)) := by
    rw [← HX.out]
    exact u2.get (block_alloc (Vnew1 w1 (.cells lW.cs 30)) _) (by have := bmlt; simp; omega)
  have hs2 : StW w w2 X b bm 1 (oneM lW) := ⟨⟨n2, D2, hn2, hc2⟩, bL, HU1.out.then u02 (fun i hi e => by have := HBM.out; omega), HB.out, HBM.out, by have := HX.out; omega⟩
  have HS2 := hide hs2
  have T1 : ∀ W, StW w W X b bm 1 (oneM lW) → Calls Try.prog 11 #[.pointer (some ⟨b, 0, none⟩), .agg #[.string ⟨#[66]⟩, .string ⟨#[83]⟩, .int .i64 0, .int .i64 0], .int .i64 2, .agg #[.int .i64 1, .int .i64 5, .string ⟨#[]⟩, .bool false, .int .i64 0], .int .i64 1] W fun e w' => e = .returned (.bool true) ∧ StW w w' X b bm 2 MW1 := fun W h => by
    have q := h.take (by decide) vW5 vW5_ok 2 1
    rw [tk5] at q
    exact q
  have T2 : ∀ W, StW w W X b bm 2 MW1 → Calls Try.prog 11 #[.pointer (some ⟨b, 0, none⟩), .agg #[.string ⟨#[66]⟩, .string ⟨#[83]⟩, .int .i64 0, .int .i64 0], .int .i64 1, .agg #[.int .i64 1, .int .i64 6, .string ⟨#[]⟩, .bool false, .int .i64 0], .int .i64 1] W fun e w' => e = .returned (.bool false) ∧ StW w w' X b bm 3 MW1 := fun W h => by
    have q := h.take (by decide) vW6 vW6_ok 1 1
    rw [tk6, MW2] at q
    exact q
  have N5 : ∀ W, Calls Try.prog 30 #[.int .i64 5] W fun e w' => e = .returned (.agg #[.int .i64 1, .int .i64 5, .string ⟨#[]⟩, .bool false, .int .i64 0]) ∧ Upd W w' (fun _ => False) := fun W => N_any W 5
  have N6 : ∀ W, Calls Try.prog 30 #[.int .i64 6] W fun e w' => e = .returned (.agg #[.int .i64 1, .int .i64 6, .string ⟨#[]⟩, .bool false, .int .i64 0]) ∧ Upd W w' (fun _ => False) := fun W => N_any W 6
  rw [HX.out] at *
  clear hc2 u2 u02 bL HWO HC HU1 hs2
  go_upto_region 4 with fail
  go_cut [5, 6] (fun s5 s6 wx => s5 = .bool true ∧ s6 = .bool false ∧ StW w wx X b bm 3 MW1)
  case first =>
    have hs := HS2.out
    have hd := HS2.out.quiet ((Upd.refl w2 (fun _ => False)).drew)
    obtain ⟨x1, x2, x3, x4, x5⟩ := hd.cells
    obtain ⟨y1, y2, y3, y4, y5⟩ := hs.cells
    go_region_with (first
      | (go_at_call 30; with_reducible refine Calls.mono (N5 _) ?_; rintro e w7 ⟨rfl, u7⟩; have s7 := StW.quiet u7 (by assumption); obtain ⟨a1, a2, a3, a4, a5⟩ := s7.cells)
      | (go_at_call 30; with_reducible refine Calls.mono (N6 _) ?_; rintro e w7 ⟨rfl, u7⟩; have s7 := StW.quiet u7 (by assumption); obtain ⟨a1, a2, a3, a4, a5⟩ := s7.cells)
      | (go_at_call 11; with_reducible refine Calls.mono (T1 _ ?_) ?_; (focus assumption); rintro e w7 ⟨rfl, s7⟩; obtain ⟨a1, a2, a3, a4, a5⟩ := s7.cells)
      | (go_at_call 11; with_reducible refine Calls.mono (T2 _ ?_) ?_; (focus assumption); rintro e w7 ⟨rfl, s7⟩; obtain ⟨a1, a2, a3, a4, a5⟩ := s7.cells))
    all_goals go_wp2_with fail
    all_goals go_meet
    all_goals exact ⟨rfl, rfl, by assumption⟩
  case rest =>
    obtain ⟨rfl, rfl, hs⟩ := hcut
    have SE : ∀ W, StW w W X b bm 3 MW1 → Calls Try.prog 14 #[.pointer (some ⟨b, 0, none⟩), .agg #[.string ⟨#[66]⟩, .string ⟨#[83]⟩, .int .i64 0, .int .i64 0]] W fun e w' => e = .returned (.agg #[.int .i64 1, .int .i64 5, .string ⟨#[]⟩, .bool false, .int .i64 0]) ∧ StW w w' X b bm 3 MW1 ∧ Upd W w' (fun _ => False) := fun W h => h.seen
    have LO : ∀ W, StW w W X b bm 3 MW1 → Calls Try.prog 27 #[.pointer (some ⟨b, 0, none⟩), .string ⟨#[66]⟩] W fun e w' => e = .returned (.tuple #[]) ∧ StW w w' X b bm 3 (MB MW1 loseE [66]) ∧ Upd W w' (fun j => j = bm) := fun W h => h.lose (by decide) [66]
    have SF : ∀ W, StW w W X b bm 3 (MB MW1 loseE [66]) → Calls Try.prog 14 #[.pointer (some ⟨b, 0, none⟩), .agg #[.string ⟨#[66]⟩, .string ⟨#[83]⟩, .int .i64 0, .int .i64 0]] W fun e w' => e = .returned (.agg #[.int .i64 4, .int .i64 0, .string ⟨#[]⟩, .bool false, .int .i64 8]) ∧ StW w w' X b bm 3 (MB MW1 loseE [66]) ∧ Upd W w' (fun _ => False) := fun W h => h.seen
    have E8 : ∀ W, Calls Try.prog 15 #[.int .i64 8] W fun e w' => e = .returned (.agg #[.int .i64 4, .int .i64 0, .string ⟨#[]⟩, .bool false, .int .i64 8]) ∧ Upd W w' (fun _ => False) := fun W => E_any W 8
    have Q1 : ∀ w, (binOp .eql 46 (.agg #[.int .i64 1, .int .i64 5, .string ⟨#[]⟩, .bool false, .int .i64 0]) (.agg #[.int .i64 1, .int .i64 5, .string ⟨#[]⟩, .bool false, .int .i64 0])).run Try.prog w = .ok (.bool true) w := fun w => eq_at vW5 vW5 vW5_ok vW5_ok (q := true) rfl w
    have Q2 : ∀ w, (binOp .eql 46 (.agg #[.int .i64 4, .int .i64 0, .string ⟨#[]⟩, .bool false, .int .i64 8]) (.agg #[.int .i64 4, .int .i64 0, .string ⟨#[]⟩, .bool false, .int .i64 8])).run Try.prog w = .ok (.bool true) w := fun w => eq_at ⟨4, 0, [], false, 8⟩ ⟨4, 0, [], false, 8⟩ vE8_ok vE8_ok (q := true) rfl w
    have HSE := hide SE
    have HLO := hide LO
    clear SE LO T1 T2 N6
    obtain ⟨x1, x2, x3, x4, x5⟩ := hs.cells
    have HS := hide hs
    clear hs
    go_wp2_with fail
    refine Calls.mono (HSE.out _ HS.out) ?_
    rintro e w7 ⟨rfl, s7, u7⟩
    have bY := Vnew1 w7 (.cells vW5.cs 46)
    have s8 := s7.quiet ((Upd.refl w7 (fun _ => False)).alloc (.cells vW5.cs 46))
    obtain ⟨Y, hY⟩ : ∃ Y, w7.heap.size = Y := ⟨_, rfl⟩
    have hYb : Y ≠ bm := by
      obtain ⟨⟨n, D, _, hc⟩, _⟩ := s7
      have := hc.m.lt
      omega
    rw [hY] at bY
    have HL8 := hide (HLO.out _ s8)
    have HY := hide hY
    have HBY := hide bY
    clear x1 x2 x3 x4 x5 HSE HS s7 u7 s8 hY bY
    go_wp2_with fail
    refine Calls.mono HL8.out ?_
    rintro e w9 ⟨rfl, s9, u9⟩
    have b9 := u9.get HBY.out hYb
    obtain ⟨y0, y1, y2, y3, y4⟩ := cells5 b9
    have yl := lt_at b9
    obtain ⟨xl, x0, x1, x2, x3⟩ := s9.cells
    have HS9 := hide s9
    rw [HY.out]
    clear s9 u9 b9 HBY HL8 HLO
    go_wp2_with fail
    go_region_held3 (fun w' => w'.cell? ⟨X, 0, none⟩ = some (.string ⟨#[66]⟩) ∧ w'.cell? ⟨X, 1, none⟩ = some (.string ⟨#[83]⟩) ∧ w'.cell? ⟨X, 2, none⟩ = some (.int .i64 0) ∧ w'.cell? ⟨X, 3, none⟩ = some (.int .i64 0) ∧ w'.cell? ⟨Y, 0, none⟩ = some (.int .i64 1) ∧ w'.cell? ⟨Y, 1, none⟩ = some (.int .i64 5) ∧ w'.cell? ⟨Y, 2, none⟩ = some (.string ⟨#[]⟩) ∧ w'.cell? ⟨Y, 3, none⟩ = some (.bool false) ∧ w'.cell? ⟨Y, 4, none⟩ = some (.int .i64 0) ∧ Upd w9 w' (fun _ => False))
      (first | (go_keep; done) | exact ⟨x0, x1, x2, x3, y0, y1, y2, y3, y4, (Upd.refl w9 _).drew⟩ | (have hz : Upd w9 _ (fun _ => False) := Upd.then (And.right (And.right (And.right (And.right (And.right (And.right (And.right (And.right (And.right (by assumption)))))))))) u10 (fun _ _ => id); exact ⟨(hz.cell X 0 xl id).trans x0, (hz.cell X 1 xl id).trans x1, (hz.cell X 2 xl id).trans x2, (hz.cell X 3 xl id).trans x3, (hz.cell Y 0 yl id).trans y0, (hz.cell Y 1 yl id).trans y1, (hz.cell Y 2 yl id).trans y2, (hz.cell Y 3 yl id).trans y3, (hz.cell Y 4 yl id).trans y4, hz⟩) | (have hz : Upd w9 _ (fun _ => False) := Upd.then (And.right (And.right (And.right (And.right (And.right (And.right (And.right (And.right (And.right (by assumption)))))))))) u11 (fun _ _ => id); exact ⟨(hz.cell X 0 xl id).trans x0, (hz.cell X 1 xl id).trans x1, (hz.cell X 2 xl id).trans x2, (hz.cell X 3 xl id).trans x3, (hz.cell Y 0 yl id).trans y0, (hz.cell Y 1 yl id).trans y1, (hz.cell Y 2 yl id).trans y2, (hz.cell Y 3 yl id).trans y3, (hz.cell Y 4 yl id).trans y4, hz⟩) | (have hz : Upd w9 _ (fun _ => False) := Upd.then (And.right (And.right (And.right (And.right (And.right (And.right (And.right (And.right (And.right (by assumption)))))))))) u12 (fun _ _ => id); exact ⟨(hz.cell X 0 xl id).trans x0, (hz.cell X 1 xl id).trans x1, (hz.cell X 2 xl id).trans x2, (hz.cell X 3 xl id).trans x3, (hz.cell Y 0 yl id).trans y0, (hz.cell Y 1 yl id).trans y1, (hz.cell Y 2 yl id).trans y2, (hz.cell Y 3 yl id).trans y3, (hz.cell Y 4 yl id).trans y4, hz⟩))
      (first
      | (go_at_call 30; with_reducible refine Calls.mono (N5 _) ?_; rintro e w10 ⟨rfl, u10⟩)
      | (go_at_call 14; refine Calls.mono (SF _ (HS9.out.quiet (And.right (And.right (And.right (And.right (And.right (And.right (And.right (And.right (And.right (by assumption)))))))))))) ?_; rintro e w11 ⟨rfl, s11, u11⟩)
      | (go_at_call 15; with_reducible refine Calls.mono (E8 _) ?_; rintro e w12 ⟨rfl, u12⟩))
    all_goals go_wp2_with fail
    all_goals go_ret
    all_goals exact ⟨rfl, HS9.out.2.2.1.then (And.right (And.right (And.right (And.right (And.right (And.right (And.right (And.right (And.right (by assumption)))))))))) (fun _ _ => id)⟩
end Go.Proofs.Ytcclkfkdafmemaa
