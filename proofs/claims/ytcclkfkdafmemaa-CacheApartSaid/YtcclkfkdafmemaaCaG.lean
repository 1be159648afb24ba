/- slices.AppendSeq, slices.Collect at links. -/
import Derived.Test.YtcclkfkdafmemaaCaF
set_option maxRecDepth 100000
namespace Go.Proofs.Ytcclkfkdafmemaa
open Go.RowKit Go.Lat Go.Sort
open Go.Maps (Keyed)

theorem Try.infoL : (Try.prog.info? 30).map (fun i => (i.zero, i.size, i.bytes)) = some (some (.agg #[.string ⟨#[]⟩, .string ⟨#[]⟩, .int .i64 0, .int .i64 0]), 4, 48) := by kernel_rfl
theorem lkCells_snoc (l : List Lk) (x : Lk) : lkCells (l ++ [x]) = lkCells l ++ [enS x.b, enS x.s, .int .i64 x.c, .int .i64 x.r] := by
  rw [lkCells_app]
  simp [lkCells, lkEnc]
def IAp (w : World) (pre : List Lk) (W : World) : Prop := (∃ v, Boxed W w.heap.size 34 v ∧ W.ownsRow w.heap.size 30 4 v pre.length (lkCells pre) ∧ True) ∧ Below w.heap.size w W
theorem IAp.own (w : World) (B : Nat) (h : w.heap.size ≤ B) : OwnFrom B (IAp w) :=
  ((holdsRow_own (β := List Lk) w.heap.size w.heap.size 34 30 4 List.length lkCells (fun _ _ => True)).from B).and (ownFrom_below (Nat.le_refl _) h)
def AAp (w : World) (sv : Value) (x : Lk) (a' : Act) (W : World) : Prop := ∃ g, a' = { tmps := #[.slice none 0 0, sv, .pointer (some ⟨w.heap.size, 0, none⟩), undef, .slice none 0 0, .pointer (some ⟨g, 0, none⟩), sv, x.val, undef, undef, undef, undef, undef], defers := [] } ∧ W.heap[g]? = some (.cells #[enS x.b, enS x.s, .int .i64 x.c, .int .i64 x.r] 30 (0, 0))
theorem AAp.own (w : World) (sv : Value) (B : Nat) (x : Lk) (a' : Act) : OwnFrom B (fun (_ : Unit) W => AAp w sv x a' W) := by
  rintro s A C row ⟨g, e, hg⟩ hgr hrow
  exact ⟨g, e, (grownBy_keeps_cells hgr (fun r e => (hrow r e).2) hg rfl).trans hg⟩

set_option maxHeartbeats 3200000 in
theorem appendSeq_in (n : Nat) (hn : 3 ≤ n) (g : Nat) (lb : Array Value) (eg : ∀ args w, (callFunc g args).run Try.prog w = .ok (.enter g args) w) (S Sp : List Lk → Prop) (N : Nat) (hN : N ≤ 1000000) (w : World) (hseq : SeqStopsK FW (n - 1) Try.prog g lb (fun x : Lk => #[x.val]) KeepsWalks S Sp N w) :
    CallsIn FW n Try.prog 61 #[.slice none 0 0, .func (.func g) #[] lb] w fun e w' => ∃ (v : Value) (ss : List Lk), e = .returned v ∧ S ss ∧ w'.ownsRow w.heap.size 30 4 v ss.length (lkCells ss) ∧ Below w.heap.size w w' := by
  have hro : FW.round = none := rfl
  obtain ⟨iP, hiP, hP0, hP1, hP2⟩ := info_parts Try.infoL
  refine callsIn_of_wp_marks Try.func61 rfl trivial ?_ hro
  simp only [Try.ntmps61, List.size_toArray, List.length_cons, List.length_nil, Nat.reduceAdd, Nat.reduceSub, Array.replicate_succ, Array.replicate_zero, List.push_toArray, List.append_toArray, List.nil_append, List.cons_append]
  gi_wp2
  have b0 : Below w.heap.size w (w.alloc (.cells #[.slice none 0 0] 34)) := (Below.refl _ w).alloc (Nat.le_refl _) _
  refine wpIn_rangeFunc_ownH hro (by omega) (gf := g) (lb := lb) rfl trivial eg hseq walksK_t walksK_b b0 (fun _ => rfl) (IAp w) (fun _ _ _ => False) (IAp.own w _ b0.size) (fun _ _ _ _ _ h _ _ => h)
    ⟨⟨_, Boxed.new _ _ _, ⟨rfl, .inl ⟨rfl, rfl⟩⟩, trivial⟩, b0⟩ (AAp w (.func (.func g) #[] lb)) (fun x a' => AAp.own w _ _ x a') ?assign ?body ?done ?stop
  case assign =>
    intro l pre x W K hi hK
    obtain ⟨xb, xs, xc, xr⟩ := x
    dsimp only [Lk.val, enS] at hK ⊢
    gi_wp2_with (rw [Oper.semAt_eq _ _ _ (fun c h => by cases h)]; go_simp; try go_bits)
    exact hK _ _ ((KeepsOthers.alloc W _).from _) (KeepsWalks.alloc W _) ((IAp.own w _ (Nat.le_refl _)).alloc _ hi) ⟨_, rfl, World.alloc_heap_new W _⟩
  case body =>
    rintro l pre x a' W hl hr ⟨⟨v, hv, hrow, -⟩, hb⟩ ⟨gx, rfl, hgx⟩ hlen
    obtain ⟨xb, xs, xc, xr⟩ := x
    obtain ⟨x0, x1, x2, x3⟩ := cells4 hgx
    have f0 := free_at hgx 0
    have hvc := hv.cell
    have hvf := hv.frozen
    have hs0 := hb.size
    dsimp only [Lk.val, enS] at x0 x1 x2 x3 ⊢
    have o4n := heap_alloc_new W (.cells #[.string ⟨xb.toArray⟩, .string ⟨xs.toArray⟩, .int .i64 xc, .int .i64 xr] 30)
    obtain ⟨y0, y1, y2, y3⟩ := cells4 o4n
    have hsrc : ∀ (j : Nat) (u : Value), [Value.string ⟨xb.toArray⟩, .string ⟨xs.toArray⟩, .int .i64 xc, .int .i64 xr][j]? = some u → (W.alloc (.cells #[.string ⟨xb.toArray⟩, .string ⟨xs.toArray⟩, .int .i64 xc, .int .i64 xr] 30)).cell? ((⟨W.heap.size, 0, none⟩ : Addr).add j) = some u := by
      intro j u hu
      match j, hu with
      | 0, hu => cases hu; exact y0
      | 1, hu => cases hu; exact y1
      | 2, hu => cases hu; exact y2
      | 3, hu => cases hu; exact y3
      | j + 4, hu => simp at hu
    have hrow4 := hrow.alloc (.cells #[.string ⟨xb.toArray⟩, .string ⟨xs.toArray⟩, .int .i64 xc, .int .i64 xr] 30)
    have HS := hide hsrc
    have HR4 := hide hrow4
    clear hsrc hrow4 y0 y1 y2 y3 o4n
    gi_wp2_with (first
      | (gi_at_builtin; refine wpListIn_append_own _ rfl _ _ 34 rfl w.heap.size 30 iP _ 4 48 Try.underlying34 hiP hP0 hP1 hP2 rfl (by decide) _ _ _ rfl HR4.out ⟨W.heap.size, 0, none⟩ 1 1 _ rfl rfl HS.out (by simp [Value.oneCell']) (by simp [maxLen]; omega) (by omega) (by simp; omega) ?_
         intro v' w3 hown' hg3 _
         obtain ⟨q1, q2, q3, q4, q5⟩ := hv.appended (by decide) hrow hs0 (Nat.le_refl _) hown' hg3
         obtain ⟨g', cap', rfl⟩ := ownsRow_succ hown'
         have hc3 := q1.cell
         have hf3 := q1.frozen
         go_frame)
      | (rw [Oper.semAt_eq _ _ _ (fun c h => by cases h)]; go_simp; try go_bits))
    refine ⟨q4.from _, q4.walks, ⟨⟨_, q2, ?_, trivial⟩, hb.trans q5⟩⟩
    rw [lkCells_snoc]
    simpa using q3
  case done =>
    rintro D xs W hD hS ⟨⟨v, hv, hrow, -⟩, hb⟩ hK
    have hc := hv.cell
    gi_wp2
    refine ⟨by simp, .inl ⟨_, _, rfl, run_takeDeferred hK, ?_⟩⟩
    have hD' : w.heap.size ≤ D := Nat.le_trans b0.size hD
    exact ⟨_, results_tmp rfl _ _ _, v, xs, rfl, hS, ownsRow_putObj hrow _ hK rfl, hb.grown (grownBy_putObj' _ _ _) hb.size (fun k e => by cases e; exact hD')⟩
  case stop =>
    rintro D c pre W _ _ h _
    exact h.elim
theorem Collect_any (g : Nat) (lb : Array Value) (eg : ∀ args w, (callFunc g args).run Try.prog w = .ok (.enter g args) w) (S Sp : List Lk → Prop) (N : Nat) (hN : N ≤ 1000000) (w : World) (hseq : SeqStopsK FW 2 Try.prog g lb (fun x : Lk => #[x.val]) KeepsWalks S Sp N w) :
    Calls Try.prog 53 #[.func (.func g) #[] lb] w fun e w' => ∃ (v : Value) (ss : List Lk), e = .returned v ∧ S ss ∧ w'.ownsRow w.heap.size 30 4 v ss.length (lkCells ss) ∧ Below w.heap.size w w' := by
  have A := (appendSeq_in 3 (Nat.le_refl _) g lb eg S Sp N hN w hseq).calls room_wide
  have HA := hide A
  clear A hseq eg
  go_enter Try.func53, Try.ntmps53
  go_wp2_with (go_at_call 61; refine Calls.mono HA.out ?_; rintro e w' ⟨v, ss, rfl, hS, hrow, hb⟩)
  go_ret
  exact ⟨v, ss, rfl, hS, hrow, hb⟩
theorem own_rw {w : World} {base : Nat} {e : TypeId} {size : Nat} {v : Value} {k : Nat} {xs : List Value} (h : w.ownsRow base e size v k xs) : Rw w e size v k xs ∧ ∀ j, v.ownBlock = some j → base ≤ j := by
  rcases h.2 with ⟨rfl, h0⟩ | ⟨g, cap, cur, rfl, hb, hg, h1, h2, h3, h4⟩
  · exact ⟨⟨h.1, .inl ⟨rfl, h0⟩⟩, fun j e => by cases e⟩
  · exact ⟨⟨h.1, .inr ⟨g, 0, cap, cur, rfl, hg, h1, by omega, by simpa using h4⟩⟩, fun j e => by cases e; exact hb⟩
end Go.Proofs.Ytcclkfkdafmemaa
