/- The walks of the law's link, values; Take at every cache. -/
import Derived.Test.YtcclkfkdafmemaaCaU
import Derived.Laws.Rows
set_option maxRecDepth 100000
namespace Go.Lat
theorem results_cell2_row {P : Program} {fn : Func} {p q : Tmp} {ty uy : TypeId} (h : fn.results = #[.cell p ty, .cell q uy]) (tmps : Array Value) (w : World) (g g2 : Nat) (t t2 : TypeId) (cs cs2 : Array Value) (fr fr2 : Nat × Nat) (d d2 : TypeDesc)
    (hp : tmps.getD p undef = .pointer (some ⟨g, 0, none⟩)) (hq : tmps.getD q undef = .pointer (some ⟨g2, 0, none⟩)) (hg : w.heap[g]? = some (.cells cs t fr)) (hg2 : w.heap[g2]? = some (.cells cs2 t2 fr2))
    (hu : P.underlying ty = some d) (hd : (match d with | .struct _ | .array _ _ => true | _ => false) = true) (hi : (P.info? ty).map (·.size) = some cs.size)
    (hu2 : P.underlying uy = some d2) (hd2 : (match d2 with | .struct _ | .array _ _ => true | _ => false) = true) (hi2 : (P.info? uy).map (·.size) = some cs2.size) :
    (results fn tmps).run P w = .ok (.tuple #[.agg cs, .agg cs2]) w := by
  have hp' : tmps[p]?.getD undef = .pointer (some ⟨g, 0, none⟩) := by simpa using hp
  have hq' : tmps[q]?.getD undef = .pointer (some ⟨g2, 0, none⟩) := by simpa using hq
  simp [results, h, hp', hq', asAddr, run_loadVar_row w g t ty cs fr d hg hu hd hi, run_loadVar_row w g2 t2 uy cs2 fr2 d2 hg2 hu2 hd2 hi2, Result.andThen]
theorem new1 (w : World) (A : Obj) : (w.alloc A).heap[w.heap.size]? = some A := heap_alloc_new w A
theorem new2 (w : World) (A B : Obj) : ((w.alloc A).alloc B).heap[w.heap.size + 1]? = some B := heap_alloc2_new w A B
theorem new3 (w : World) (A B C : Obj) : (((w.alloc A).alloc B).alloc C).heap[w.heap.size + 1 + 1]? = some C := by
  have := heap_alloc2_new (w.alloc A) B C
  simpa using this
theorem new2dd (w : World) (A B C : Obj) : (((w.alloc A).alloc B).alloc C).drew.drew.heap[w.heap.size + 1]? = some B := by
  have h : (((w.alloc A).alloc B).alloc C).heap[w.heap.size + 1]? = some B := block_alloc (new2 w A B) C
  exact h
theorem new3dd (w : World) (A B C : Obj) : (((w.alloc A).alloc B).alloc C).drew.drew.heap[w.heap.size + 1 + 1]? = some C := by
  have h := new3 w A B C
  exact h
theorem new2d (w : World) (A B C : Obj) : (((w.alloc A).alloc B).alloc C).drew.heap[w.heap.size + 1]? = some B := by
  have h : (((w.alloc A).alloc B).alloc C).heap[w.heap.size + 1]? = some B := block_alloc (new2 w A B) C
  exact h
theorem new3d (w : World) (A B C : Obj) : (((w.alloc A).alloc B).alloc C).drew.heap[w.heap.size + 1 + 1]? = some C := by
  have h := new3 w A B C
  exact h
theorem new3ud (w : World) (A B C : Obj) : Upd w (((w.alloc A).alloc B).alloc C).drew (fun _ => False) := ((((Upd.refl w _).alloc _).alloc _).alloc _).drew
theorem new3u (w : World) (A B C : Obj) : Upd w (((w.alloc A).alloc B).alloc C).drew.drew (fun _ => False) := ((((Upd.refl w _).alloc _).alloc _).alloc _).drew.drew
end Go.Lat
namespace Go.Proofs.Ytcclkfkdafmemaa
open Go.RowKit Go.Lat

def Lk.cut (l : Lk) : Lk := ⟨l.b.take 20, l.s.take 20, l.c, l.r⟩

theorem cut_eq (l : List UInt8) : (⟨l.toArray⟩ : ByteArray).extract 0 (min (l.length : Int) 20).toNat = ⟨(l.take 20).toArray⟩ := by
  apply ByteArray.ext
  apply Array.ext'
  have e : (min (l.length : Int) 20).toNat = min l.length 20 := by omega
  rw [e, ByteArray.data_extract]
  simp only [Array.toList_extract, List.extract_eq_take_drop, Nat.sub_zero, List.drop_zero]
  rw [Nat.min_comm, ← List.take_eq_take_min]

set_option maxHeartbeats 1600000 in
theorem link_at (w : World) (lb ls tb ts : List UInt8) (lc lr : Int) (ht : lb.take 20 = tb) (ht' : ls.take 20 = ts) :
    Calls Try.prog 8 #[.agg #[enS lb, enS ls, .int .i64 lc, .int .i64 lr]] w fun e w' => e = .returned (.tuple #[.agg #[enS tb, enS ts, .int .i64 lc, .int .i64 lr], .agg #[enS tb, enS ts, .int .i64 lc, .int .i64 lr]]) ∧ Upd w w' (fun _ => False) := by
  have HT := hide ht
  have HT' := hide ht'
  clear ht ht'
  go_enter Try.func8, Try.ntmps8
  go_wp2_with fail
  go_region
  simp only [cut_eq, HT.out, HT'.out]
  go_wp2_with fail
  go_region_held3 (fun w' => w'.cell? ⟨w.heap.size, 0, none⟩ = some (enS tb) ∧ w'.cell? ⟨w.heap.size, 1, none⟩ = some (enS ts) ∧ w'.cell? ⟨w.heap.size, 2, none⟩ = some (.int .i64 lc) ∧ w'.cell? ⟨w.heap.size, 3, none⟩ = some (.int .i64 lr)) (go_keep) (fail)
  go_wp2_with fail
  (try simp only [Exit.inBlock, Exit.then])
  refine bodyPost_ret (results_cell2_row rfl _ _ (w.heap.size + 1) (w.heap.size + 1 + 1) _ _ _ _ _ _ _ _ rfl rfl (new2dd _ _ _ _) (new3dd _ _ _ _) Try.underlying30 rfl (by kernel_rfl) Try.underlying31 rfl (by kernel_rfl)) rfl ?_
  exact ⟨rfl, new3u _ _ _ _⟩

theorem cut300 (l : List UInt8) : (⟨l.toArray⟩ : ByteArray).extract 0 (min (l.length : Int) 300).toNat = ⟨(l.take 300).toArray⟩ := by
  apply ByteArray.ext
  apply Array.ext'
  have e : (min (l.length : Int) 300).toNat = min l.length 300 := by omega
  rw [e, ByteArray.data_extract]
  simp only [Array.toList_extract, List.extract_eq_take_drop, Nat.sub_zero, List.drop_zero]
  rw [Nat.min_comm, ← List.take_eq_take_min]
/-- A value with its text cut. -/
def cutV (x : Vl) : Vl := ⟨x.k, x.n, x.t.take 300, x.b, x.f⟩

set_option maxHeartbeats 1600000 in
theorem values_any (w : World) (k n : Int) (t ct : List UInt8) (b : Bool) (f : Int) (hct : t.take 300 = ct) : Calls Try.prog 10 #[.agg #[.int .i64 k, .int .i64 n, enS t, .bool b, .int .i64 f]] w fun e w' =>
    e = .returned (.tuple #[.agg #[.int .i64 k, .int .i64 n, enS ct, .bool b, .int .i64 f], .agg #[.int .i64 k, .int .i64 n, enS ct, .bool b, .int .i64 f]]) ∧ Upd w w' (fun _ => False) := by
  have n2 : ∀ (A B C : Obj), (((w.alloc A).alloc B).alloc C).heap[w.heap.size + 1]? = some B := fun A B C => block_alloc (Vnew2 w A B) C
  have n3 : ∀ (A B C : Obj), (((w.alloc A).alloc B).alloc C).heap[w.heap.size + 1 + 1]? = some C := fun A B C => by
    have := Vnew2 (w.alloc A) B C
    simpa using this
  have N2 := hide n2
  have N3 := hide n3
  have HC := hide hct
  clear n2 n3 hct
  go_enter Try.func10, Try.ntmps10
  go_wp2_with fail
  simp only [cut300, HC.out]
  go_wp2_with fail
  go_region_held3 (fun w' => w'.cell? ⟨w.heap.size, 0, none⟩ = some (.int .i64 k) ∧ w'.cell? ⟨w.heap.size, 1, none⟩ = some (.int .i64 n) ∧ w'.cell? ⟨w.heap.size, 2, none⟩ = some (.string ⟨ct.toArray⟩) ∧ w'.cell? ⟨w.heap.size, 3, none⟩ = some (.bool b) ∧ w'.cell? ⟨w.heap.size, 4, none⟩ = some (.int .i64 f)) (go_keep) (fail)
  go_wp2_with fail
  (try simp only [Exit.inBlock, Exit.then])
  refine bodyPost_ret (results_cell2_row rfl _ _ (w.heap.size + 1) (w.heap.size + 1 + 1) _ _ _ _ _ _ _ _ rfl rfl (N2.out _ _ _) (N3.out _ _ _) Try.underlying46 rfl (by kernel_rfl) Try.underlying47 rfl (by kernel_rfl)) rfl ?_
  exact ⟨rfl, ((((Upd.refl w _).alloc _).alloc _).alloc _).drew⟩
theorem Lk.cut_ok {l : Lk} (h : l.ok) : l.cut.ok := ⟨Nat.le_trans (by simp [Lk.cut]; omega) h.b, Nat.le_trans (by simp [Lk.cut]; omega) h.s, h.c, h.r⟩
theorem cutV_ok {x : Vl} (h : x.ok) : (cutV x).ok := ⟨h.k, h.n, Nat.le_trans (by simp [cutV]; omega) h.t, h.f⟩
theorem link_any (w : World) (l : Lk) : Calls Try.prog 8 #[l.val] w fun e w' => e = .returned (.tuple #[l.cut.val, l.cut.val]) ∧ Upd w w' (fun _ => False) :=
  link_at w l.b l.s _ _ l.c l.r rfl rfl
theorem valuesV_any (w : World) (x : Vl) : Calls Try.prog 10 #[x.val] w fun e w' => e = .returned (.tuple #[(cutV x).val, (cutV x).val]) ∧ Upd w w' (fun _ => False) :=
  values_any w x.k x.n x.t _ x.b x.f rfl
/-- Is a value taken? -/
def takeOk (o : Option En) (v : Vl) (ver inc : Int) : Bool := match o with
  | none => false
  | some E => goodV v && !elderE E ver inc
def takeM (M : Lk → Option En) (x : Lk) (v : Vl) (ver inc : Int) : Lk → Option En := if takeOk (M x) v ver inc = true then setF M x (some ⟨v, ver, inc, true, false, false⟩) else M
theorem Take_any (w : World) (b bm n : Nat) (D : DataW Value) (M : Lk → Option En) (h : Cas w b bm n D M) (hn : n ≤ 1000000) (x : Lk) (v : Vl) (ver inc : Int) (hx : x.ok) (hv : v.ok) :
    Calls Try.prog 11 #[.pointer (some ⟨b, 0, none⟩), x.val, .int .i64 ver, v.val, .int .i64 inc] w fun e w' => e = .returned (.bool (takeOk (M x) v ver inc)) ∧ (∃ n' D', n' ≤ n + 1 ∧ Cas w' b bm n' D' (takeM M x v ver inc)) ∧ Upd w w' (fun k => k = bm) := by
  unfold takeM takeOk
  cases hE : M x with
  | none =>
    refine Calls.mono (Take_no w _ none rfl x v ver inc (fun w' u => ?_)) ?_
    · have := Get_any w' b bm n D M (h.upd u id id) x hx
      rwa [hE] at this
    · rintro e w' ⟨rfl, u⟩
      exact ⟨rfl, ⟨n, D, by omega, h.upd u id id⟩, u.weaken fun _ _ e => e.elim⟩
  | some E =>
    simp only
    cases hg : goodV v with
    | false =>
      refine Calls.mono (Take_bad w b bm n D M h x v ver inc hx hv E hE hg) ?_
      rintro e w' ⟨rfl, u⟩
      exact ⟨rfl, ⟨n, D, by omega, h.upd u id id⟩, u.weaken fun _ _ e => e.elim⟩
    | true =>
      rcases Bool.eq_false_or_eq_true (elderE E ver inc) with hel | hel
      · have e1 : (true && !elderE E ver inc) = false := by simp [hel]
        simp only [e1]
        refine Calls.mono (Take_old w b bm n D M h x v ver inc hx hv E hE hg hel) ?_
        rintro e w' ⟨rfl, u⟩
        exact ⟨rfl, ⟨n, D, by omega, h.upd u id id⟩, u.weaken fun _ _ e => e.elim⟩
      · have e1 : (true && !elderE E ver inc) = true := by simp [hel]
        simp only [e1]
        refine Calls.mono (Take_new w b bm n D M h hn x v ver inc hx hv E hE hg hel) ?_
        rintro e w' ⟨rfl, ⟨D', h'⟩, u⟩
        exact ⟨rfl, ⟨n + 1, D', Nat.le_refl _, h'⟩, u⟩
end Go.Proofs.Ytcclkfkdafmemaa
