/- The walks of WebWhole's far and cell. -/
import Derived.Test.YtcdimledeomahaaWholeW
import Derived.Test.YtcdimledeomahaaWebQ
set_option maxRecDepth 100000
namespace Go.Lat
theorem results_tmp_cell_row {P : Program} {fn : Func} {p q : Tmp} {ty : TypeId} (h : fn.results = #[.tmp q, .cell p ty]) (tmps : Array Value) (w : World) (g : Nat) (t : TypeId) (cs : Array Value) (fr : Nat × Nat) (d : TypeDesc)
    (hp : tmps.getD p undef = .pointer (some ⟨g, 0, none⟩)) (hg : w.heap[g]? = some (.cells cs t fr))
    (hu : P.underlying ty = some d) (hd : (match d with | .struct _ | .array _ _ => true | _ => false) = true) (hi : (P.info? ty).map (·.size) = some cs.size) :
    (results fn tmps).run P w = .ok (.tuple #[tmps.getD q undef, .agg cs]) w := by
  have hp' : tmps[p]?.getD undef = .pointer (some ⟨g, 0, none⟩) := by simpa using hp
  simp [results, h, hp', asAddr, run_loadVar_row w g t ty cs fr d hg hu hd hi, Result.andThen]
end Go.Lat
namespace Go.Proofs.Ytcdimledeomahaa
open Go.RowKit Go.Lat

theorem tmod3 (i : Nat) : ((i : Int)).tmod 3 = ((i % 3 : Nat) : Int) := by
  rw [Int.tmod_eq_emod_of_nonneg (by omega)]
  omega

theorem far_any (w : World) (i k q : Nat) :
    Calls Try.prog 29 #[.int .i64 (i : Nat), .int .i64 (k : Nat), .int .i64 (q : Nat)] w fun e w' => e = .returned (.int .i64 (farN i k q : Nat)) ∧ w' = w := by
  have t1 := tmod3 i
  have t2 := tmod3 k
  by_cases h : i % 3 = k % 3
  · have hf : farN i k q = q := farN_same h q
    rw [hf]
    have hd : ((k % 3 : Nat) : Int) = ((i % 3 : Nat) : Int) := by rw [h]
    rw [hd] at t2
    clear hf hd h
    go_enter Try.func29, Try.ntmps29
    go_wp2_with fail
    go_ret
    exact ⟨rfl, rfl⟩
  · have hf : farN i k q = 1 := farN_true h q
    rw [hf]
    have hd : (((i % 3 : Nat) : Int) == ((k % 3 : Nat) : Int)) = false := by simp; omega
    have hd' : ¬ ((i % 3 : Nat) : Int) = ((k % 3 : Nat) : Int) := by omega
    clear hf h
    go_enter Try.func29, Try.ntmps29
    go_wp2_with fail
    go_ret
    exact ⟨rfl, rfl⟩

set_option maxHeartbeats 4000000 in
theorem cell_any (w : World) (n : Nat) (hn : n < 10) :
    Calls Try.prog 7 #[.int .u8 (n : Nat)] w fun e w' => e = .returned (.tuple #[encStr (bk n), .agg #[encStr [83], .int .i64 (n : Nat), .int .i64 0]]) ∧ Upd w w' (fun _ => False) := by
  have hn' : n = 0 ∨ n = 1 ∨ n = 2 ∨ n = 3 ∨ n = 4 ∨ n = 5 ∨ n = 6 ∨ n = 7 ∨ n = 8 ∨ n = 9 := by omega
  rcases hn' with rfl | rfl | rfl | rfl | rfl | rfl | rfl | rfl | rfl | rfl
  all_goals go_enter Try.func7, Try.ntmps7
  all_goals go_wp2_with fail
  all_goals (try simp only [Exit.inBlock, Exit.then])
  all_goals refine bodyPost_ret (results_tmp_cell_row rfl _ _ w.heap.size _ _ _ _ rfl (block_alloc (new1 w _) _) Try.underlying32 rfl (by kernel_rfl)) rfl ?_
  all_goals exact ⟨rfl, ((Upd.refl w _).alloc _).alloc _⟩
end Go.Proofs.Ytcdimledeomahaa
