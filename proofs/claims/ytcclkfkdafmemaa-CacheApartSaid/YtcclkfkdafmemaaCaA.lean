/- The walks of package cache's New, Get, elder. -/
import Derived.Test.YtcclkfkdafmemaaCaK
import Derived.Test.YtcclkfkdafmemaaVlE
set_option maxRecDepth 100000
namespace Go.Lat
open Go.Maps (Keyed)
theorem look_ok_held {P : Program} {k t e : TypeId} {w : World} {b n : Nat} {D : DataW Value} {key : Value} {kl : Lit} (h : w.ownsMap P k heldElem b n D) (K : Keyed P k) (ht : P.underlying t = some (.map k e)) {z v : Value} (hz : (zeroValue e).run P w = .ok z w) (hkey : keyOf P k key = some kl) (hv : D.atKey kl (.held z) = .held v) {q : Bool} (hq : Maps.has D kl = q) :
    (Instr.lookup t (.map (some b)) key true).run P w = .ok (.tuple #[v, .bool q]) w := by
  obtain ⟨v', ps, hrun, hr⟩ := h.look_ok K ht hz (zd := .held z) (zp := []) rfl hkey
  unfold heldElem at hr
  have h1 := congrArg Prod.fst (Option.some.inj hr)
  rw [hv] at h1
  cases h1
  rw [← hq]
  exact hrun
theorem res_cell_tmp {P : Program} {fn : Func} {p q : Tmp} {ty : TypeId} (h : fn.results = #[.cell p ty, .tmp q]) (tmps : Array Value) (w : World) (g : Nat) (t : TypeId) (cs : Array Value) (fr : Nat × Nat) (d : TypeDesc)
    (hp : tmps.getD p undef = .pointer (some ⟨g, 0, none⟩)) (hg : w.heap[g]? = some (.cells cs t fr))
    (hu : P.underlying ty = some d) (hd : (match d with | .struct _ | .array _ _ => true | _ => false) = true) (hi : (P.info? ty).map (·.size) = some cs.size) :
    (results fn tmps).run P w = .ok (.tuple #[.agg cs, tmps.getD q undef]) w := by
  have hp' : tmps[p]?.getD undef = .pointer (some ⟨g, 0, none⟩) := by simpa using hp
  simp [results, h, hp', asAddr, run_loadVar_row w g t ty cs fr d hg hu hd hi, Result.andThen]
theorem own_upd {P : Program} {k : TypeId} {w w' : World} {b n : Nat} {D : DataW Value} {S : Nat → Prop} (h : w.ownsMap P k heldElem b n D) (u : Upd w w' S) (hS : ¬ S b) : w'.ownsMap P k heldElem b n D := by
  obtain ⟨es, clock, hb, F⟩ := h
  exact ⟨es, clock, u.get hb hS, F⟩
end Go.Lat
namespace Go.Proofs.Ytcclkfkdafmemaa
open Go.RowKit Go.Lat

/-- A cache that is laid, and what it knows. -/
structure Cas (w : World) (b bm n : Nat) (D : DataW Value) (M : Lk → Option En) : Prop where
  c : w.heap[b]? = some (.cells #[.map (some bm)] 80 (0, 0))
  m : w.ownsMap Try.prog 30 heldElem bm n D
  has : ∀ x : Lk, x.ok → Maps.has D (lkLit x) = (M x).isSome
  val : ∀ x : Lk, x.ok → D.atKey (lkLit x) (.held enZero.val) = .held ((M x).getD enZero).val
theorem Cas.ne {w : World} {b bm n : Nat} {D : DataW Value} {M : Lk → Option En} (h : Cas w b bm n D M) : b ≠ bm := by
  obtain ⟨es, clock, hb, _⟩ := h.m
  intro e
  subst e
  rw [h.c] at hb
  cases hb
theorem Cas.upd {w w' : World} {b bm n : Nat} {D : DataW Value} {M : Lk → Option En} {S : Nat → Prop} (h : Cas w b bm n D M) (u : Upd w w' S) (h1 : ¬ S b) (h2 : ¬ S bm) : Cas w' b bm n D M :=
  ⟨u.get h.c h1, own_upd h.m u h2, h.has, h.val⟩
theorem atKey_none (kl : Lit) (z : DataW Value) : (DataW.map ([] : List (Lit × DataW Value))).atKey kl z = z := Go.Maps.atKey_of_not_has rfl z
theorem New_any (w : World) : Calls Try.prog 7 #[] w fun e w' => ∃ b bm, e = .returned (.pointer (some ⟨b, 0, none⟩)) ∧ Cas w' b bm 0 (.map []) (fun _ => none) ∧ w.heap.size ≤ b ∧ w.heap.size ≤ bm ∧ Upd w w' (fun _ => False) := by
  have hmm := @run_makeMap Try.prog
  go_enter Try.func7, Try.ntmps7
  go_wp2_with fail
  go_ret
  refine ⟨w.heap.size + 1, w.heap.size, rfl, ⟨Vnew2 w _ _, (World.ownsMap_made w Try.prog 30 heldElem).alloc _, fun x _ => rfl, fun x _ => atKey_none _ _⟩, by omega, by omega, ((Upd.refl w _).alloc _).alloc _⟩

theorem Try.infoE : (Try.prog.info? 67).map (·.size) = some 10 := by kernel_rfl
theorem ret_en {fn : Func} {p q : Tmp} (h : fn.results = #[.cell p 67, .tmp q]) (tmps : Array Value) (W : World) (g : Nat) (x : En) (hp : tmps.getD p undef = .pointer (some ⟨g, 0, none⟩)) (hg : W.heap[g]? = some (.cells x.cs 67 (0, 0))) :
    (results fn tmps).run Try.prog W = .ok (.tuple #[x.val, tmps.getD q undef]) W :=
  res_cell_tmp h tmps W g 67 x.cs (0, 0) _ hp hg Try.underlying67 rfl Try.infoE
abbrev GetPost (w : World) (o : Option En) : Ending → World → Prop := fun e w' => e = .returned (.tuple #[(o.getD enZero).val, .bool o.isSome]) ∧ Upd w w' (fun _ => False)
set_option maxHeartbeats 1600000 in
theorem Get_nil (w : World) (x : Lk) : Calls Try.prog 22 #[.pointer none, x.val] w (GetPost w none) := by
  obtain ⟨xb, xs, xc, xr⟩ := x
  unfold Lk.val
  simp only
  go_enter Try.func22, Try.ntmps22
  go_wp2_with fail
  (try simp only [Exit.inBlock, Exit.then])
  refine bodyPost_ret (ret_en rfl _ _ (w.heap.size + 1) enZero rfl (Vnew2 w _ _)) rfl ?_
  exact ⟨rfl, ((Upd.refl w _).alloc _).alloc _⟩
set_option maxHeartbeats 3200000 in
theorem Get_any (w : World) (b bm n : Nat) (D : DataW Value) (M : Lk → Option En) (h : Cas w b bm n D M) (x : Lk) (hx : x.ok) : Calls Try.prog 22 #[.pointer (some ⟨b, 0, none⟩), x.val] w (GetPost w (M x)) := by
  have c0 := cells1 h.c
  have blt := lt_at h.c
  have blt1 : b < w.heap.size + 1 := by omega
  have blt2 : b < w.heap.size + 1 + 1 := by omega
  have blt3 : b < w.heap.size + 2 := by omega
  have hv := h.val x hx
  have hh := h.has x hx
  have m1 := (h.m.alloc (.cells x.cs 30)).alloc (.cells enZero.cs 67)
  have L1 := look_ok_held m1 lkK Try.underlying77 (zeroEn _) (lk_key hx) hv hh
  have L2 := look_ok_held m1.drew lkK Try.underlying77 (zeroEn _) (lk_key hx) hv hh
  have m2 := m1.alloc (.cells enZero.cs 67)
  have L3 := look_ok_held m2 lkK Try.underlying77 (zeroEn _) (lk_key hx) hv hh
  have L4 := look_ok_held m2.drew lkK Try.underlying77 (zeroEn _) (lk_key hx) hv hh
  obtain ⟨q, hq⟩ : ∃ q, (M x).isSome = q := ⟨_, rfl⟩
  obtain ⟨E, hE⟩ : ∃ E, (M x).getD enZero = E := ⟨_, rfl⟩
  unfold GetPost
  rw [hq, hE]
  rw [hq, hE] at L1 L2 L3 L4
  obtain ⟨xb, xs, xc, xr⟩ := x
  obtain ⟨⟨vk, vn, vt, vb, vf⟩, ver, inc, has, stale, lost⟩ := E
  unfold Lk.val En.val at L1 L2 L3 L4 ⊢
  simp only [Lk.cs, En.cs, enZero] at L1 L2 L3 L4 ⊢
  clear hv hh m1 m2 hq hE hx h
  go_enter Try.func22, Try.ntmps22
  go_wp2_with fail
  go_region
  all_goals go_wp2_with fail
  all_goals (try simp only [Exit.inBlock, Exit.then])
  all_goals refine bodyPost_ret (ret_en rfl _ _ (w.heap.size + 1) ⟨⟨vk, vn, vt, vb, vf⟩, ver, inc, has, stale, lost⟩ rfl (block_alloc (Vnew2 w _ _) _)) rfl ?_
  all_goals exact ⟨rfl, ((((Upd.refl w _).alloc _).alloc _).alloc _).drew⟩

/-- Did a value come ahead of what an entry has? -/
def elderE (x : En) (ver inc : Int) : Bool := x.has && (decide (inc < x.inc) || (inc == x.inc && decide (ver ≤ x.ver)))
set_option maxHeartbeats 3200000 in
theorem elder_any (w : World) (x : En) (ver inc : Int) : Calls Try.prog 29 #[x.val, .int .i64 ver, .int .i64 inc] w fun e w' => e = .returned (.bool (elderE x ver inc)) ∧ Upd w w' (fun _ => False) := by
  obtain ⟨⟨vk, vn, vt, vb, vf⟩, xv, xi, has, stale, lost⟩ := x
  unfold En.val elderE
  simp only
  cases has with
  | false =>
    go_enter Try.func29, Try.ntmps29
    go_wp2_with fail
    go_ret
    exact ⟨rfl, (Upd.refl w _).alloc _⟩
  | true =>
    cases h1 : decide (inc < xi) with
    | true =>
      have h1' : inc < xi := of_decide_eq_true h1
      go_enter Try.func29, Try.ntmps29
      go_wp2_with fail
      go_ret
      exact ⟨by simp, (Upd.refl w _).alloc _⟩
    | false =>
      have h1' : ¬ inc < xi := of_decide_eq_false h1
      cases h2 : (inc == xi) with
      | false =>
        go_enter Try.func29, Try.ntmps29
        go_wp2_with fail
        go_ret
        exact ⟨by simp, (Upd.refl w _).alloc _⟩
      | true =>
        cases h3 : decide (ver ≤ xv) with
        | true =>
          go_enter Try.func29, Try.ntmps29
          go_wp2_with fail
          go_ret
          exact ⟨by simp, (Upd.refl w _).alloc _⟩
        | false =>
          go_enter Try.func29, Try.ntmps29
          go_wp2_with fail
          go_ret
          exact ⟨by simp, (Upd.refl w _).alloc _⟩
end Go.Proofs.Ytcclkfkdafmemaa
