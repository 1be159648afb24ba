/- The law's link, place, links, edges. -/
import Derived.Test.YtcdimledeomahaaWebE
import Derived.Laws.Rows
set_option maxRecDepth 100000
namespace Go.Lat
theorem results_cell2_row {P : Program} {fn : Func} {p q : Tmp} {ty uy : TypeId} (h : fn.results = #[.cell p ty, .cell q uy]) (tmps : Array Value) (w : World) (g g2 : Nat) (t t2 : TypeId) (cs cs2 : Array Value) (fr fr2 : Nat × Nat) (d d2 : TypeDesc)
    (hp : tmps.getD p undef = .pointer (some ⟨g, 0, none⟩)) (hq : tmps.getD q undef = .pointer (some ⟨g2, 0, none⟩)) (hg : w.heap[g]? = some (.cells cs t fr)) (hg2 : w.heap[g2]? = some (.cells cs2 t2 fr2))
    (hu : P.underlying ty = some d) (hd : (match d with | .struct _ | .array _ _ => true | _ => false) = true) (hi : (P.info? ty).map (·.size) = some cs.size)
    (hu2 : P.underlying uy = some d2) (hd2 : (match d2 with | .struct _ | .array _ _ => true | _ => false) = true) (hi2 : (P.info? uy).map (·.size) = some cs2.size) :
    (results fn tmps).run P w = .ok (.tuple #[.agg cs, .agg cs2]) w := by
  have hp' : tmps[p]?.getD undef = .pointer (some ⟨g, 0, none⟩) := by simpa using hp
  have hq' : tmps[q]?.getD undef = .pointer (some ⟨g2, 0, none⟩) := by simpa using hq
  simp [results, h, hp', hq', asAddr, run_loadVar_row w g t ty cs fr d hg hu hd hi, run_loadVar_row w g2 t2 uy cs2 fr2 d2 hg2 hu2 hd2 hi2, Result.andThen]
theorem results_cell_tmp_row {P : Program} {fn : Func} {p q : Tmp} {ty : TypeId} (h : fn.results = #[.cell p ty, .tmp q]) (tmps : Array Value) (w : World) (g : Nat) (t : TypeId) (cs : Array Value) (fr : Nat × Nat) (d : TypeDesc)
    (hp : tmps.getD p undef = .pointer (some ⟨g, 0, none⟩)) (hg : w.heap[g]? = some (.cells cs t fr))
    (hu : P.underlying ty = some d) (hd : (match d with | .struct _ | .array _ _ => true | _ => false) = true) (hi : (P.info? ty).map (·.size) = some cs.size) :
    (results fn tmps).run P w = .ok (.tuple #[.agg cs, tmps.getD q undef]) w := by
  have hp' : tmps[p]?.getD undef = .pointer (some ⟨g, 0, none⟩) := by simpa using hp
  simp [results, h, hp', asAddr, run_loadVar_row w g t ty cs fr d hg hu hd hi, Result.andThen]
theorem new1 (w : World) (A : Obj) : (w.alloc A).heap[w.heap.size]? = some A := heap_alloc_new w A
theorem new2 (w : World) (A B : Obj) : ((w.alloc A).alloc B).heap[w.heap.size + 1]? = some B := heap_alloc2_new w A B
theorem new3 (w : World) (A B C : Obj) : (((w.alloc A).alloc B).alloc C).heap[w.heap.size + 1 + 1]? = some C := by
  have := heap_alloc2_new (w.alloc A) B C
  simpa using this
theorem new2dd (w : World) (A B C : Obj) : (((w.alloc A).alloc B).alloc C).drew.drew.heap[w.heap.size + 1]? = some B := by
  have h : (((w.alloc A).alloc B).alloc C).heap[w.heap.size + 1]? = some B := block_alloc (new2 w A B) C
  exact h
theorem new3dd (w : World) (A B C : Obj) : (((w.alloc A).alloc B).alloc C).drew.drew.heap[w.heap.size + 1 + 1]? = some C := by
  have h := new3 w A B C
  exact h
theorem new2d (w : World) (A B C : Obj) : (((w.alloc A).alloc B).alloc C).drew.heap[w.heap.size + 1]? = some B := by
  have h : (((w.alloc A).alloc B).alloc C).heap[w.heap.size + 1]? = some B := block_alloc (new2 w A B) C
  exact h
theorem new3d (w : World) (A B C : Obj) : (((w.alloc A).alloc B).alloc C).drew.heap[w.heap.size + 1 + 1]? = some C := by
  have h := new3 w A B C
  exact h
theorem new3ud (w : World) (A B C : Obj) : Upd w (((w.alloc A).alloc B).alloc C).drew (fun _ => False) := ((((Upd.refl w _).alloc _).alloc _).alloc _).drew
theorem new3u (w : World) (A B C : Obj) : Upd w (((w.alloc A).alloc B).alloc C).drew.drew (fun _ => False) := ((((Upd.refl w _).alloc _).alloc _).alloc _).drew.drew
end Go.Lat
namespace Go.Proofs.Ytcdimledeomahaa
open Go.RowKit Go.Lat

def Lk.cut (l : Lk) : Lk := ⟨l.b.take 20, l.s.take 20, l.c, l.r⟩

theorem cut_eq (l : List UInt8) : (⟨l.toArray⟩ : ByteArray).extract 0 (min (l.length : Int) 20).toNat = ⟨(l.take 20).toArray⟩ := by
  apply ByteArray.ext
  apply Array.ext'
  have e : (min (l.length : Int) 20).toNat = min l.length 20 := by omega
  rw [e, ByteArray.data_extract]
  simp only [Array.toList_extract, List.extract_eq_take_drop, Nat.sub_zero, List.drop_zero]
  rw [Nat.min_comm, ← List.take_eq_take_min]

set_option maxHeartbeats 1600000 in
theorem link_at (w : World) (lb ls tb ts : List UInt8) (lc lr : Int) (ht : lb.take 20 = tb) (ht' : ls.take 20 = ts) :
    Calls Try.prog 23 #[.agg #[encStr lb, encStr ls, .int .i64 lc, .int .i64 lr]] w fun e w' => e = .returned (.tuple #[.agg #[encStr tb, encStr ts, .int .i64 lc, .int .i64 lr], .agg #[encStr tb, encStr ts, .int .i64 lc, .int .i64 lr]]) ∧ Upd w w' (fun _ => False) := by
  have HT := hide ht
  have HT' := hide ht'
  clear ht ht'
  go_enter Try.func23, Try.ntmps23
  go_wp2_with fail
  go_region
  simp only [cut_eq, HT.out, HT'.out]
  go_wp2_with fail
  go_region_held3 (fun w' => w'.cell? ⟨w.heap.size, 0, none⟩ = some (encStr tb) ∧ w'.cell? ⟨w.heap.size, 1, none⟩ = some (encStr ts) ∧ w'.cell? ⟨w.heap.size, 2, none⟩ = some (.int .i64 lc) ∧ w'.cell? ⟨w.heap.size, 3, none⟩ = some (.int .i64 lr)) (go_keep) (fail)
  go_wp2_with fail
  (try simp only [Exit.inBlock, Exit.then])
  refine bodyPost_ret (results_cell2_row rfl _ _ (w.heap.size + 1) (w.heap.size + 1 + 1) _ _ _ _ _ _ _ _ rfl rfl (new2dd _ _ _ _) (new3dd _ _ _ _) Try.underlying40 rfl (by kernel_rfl) Try.underlying73 rfl (by kernel_rfl)) rfl ?_
  exact ⟨rfl, new3u _ _ _ _⟩

set_option maxHeartbeats 1600000 in
theorem place_at (w : World) (lb ls ts : List UInt8) (lc lr : Int) (ht' : ls.take 20 = ts) :
    Calls Try.prog 33 #[.agg #[encStr lb, encStr ls, .int .i64 lc, .int .i64 lr]] w fun e w' => e = .returned (.tuple #[.agg #[encStr ts, .int .i64 lc, .int .i64 lr], .agg #[encStr [], encStr ts, .int .i64 lc, .int .i64 lr]]) ∧ Upd w w' (fun _ => False) := by
  have HT' := hide ht'
  clear ht'
  go_enter Try.func33, Try.ntmps33
  go_wp2_with fail
  simp only [cut_eq, HT'.out]
  go_wp2_with fail
  go_region_held3 (fun w' => w'.cell? ⟨w.heap.size, 1, none⟩ = some (encStr ts) ∧ w'.cell? ⟨w.heap.size, 2, none⟩ = some (.int .i64 lc) ∧ w'.cell? ⟨w.heap.size, 3, none⟩ = some (.int .i64 lr)) (go_keep) (fail)
  go_wp2_with fail
  (try simp only [Exit.inBlock, Exit.then])
  refine bodyPost_ret (results_cell2_row rfl _ _ (w.heap.size + 1) (w.heap.size + 1 + 1) _ _ _ _ _ _ _ _ rfl rfl (new2d _ _ _ _) (new3d _ _ _ _) Try.underlying32 rfl (by kernel_rfl) Try.underlying73 rfl (by kernel_rfl)) rfl ?_
  exact ⟨rfl, new3ud _ _ _ _⟩
end Go.Proofs.Ytcdimledeomahaa
