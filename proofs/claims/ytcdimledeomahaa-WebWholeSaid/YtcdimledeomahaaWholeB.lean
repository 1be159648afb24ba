/- The walk of WebWhole's closure over a book's own cells. -/
import Derived.Test.YtcdimledeomahaaWholeA
import Derived.Deep.MidRow
set_option maxRecDepth 100000
namespace Go.Proofs.Ytcdimledeomahaa
open Go.RowKit Go.Lat

def boolCells (n : Nat) (v : Nat → Bool) : Array Value := ((List.range n).map fun j => Value.bool (v j)).toArray
theorem bool_at (n : Nat) (v : Nat → Bool) {j : Nat} (h : j < n) : (boolCells n v)[j]? = some (.bool (v j)) := by
  simp [boolCells, h]
theorem bool_size (n : Nat) (v : Nat → Bool) : (boolCells n v).size = n := by simp [boolCells]
theorem bool_congr (n : Nat) {u v : Nat → Bool} (h : ∀ j, j < n → u j = v j) : boolCells n u = boolCells n v := by
  apply Array.ext
  · simp [boolCells]
  · intro j h1 h2
    have hj : j < n := by simpa [boolCells] using h1
    simp [boolCells, h j hj]
theorem bool_set (n : Nat) (v : Nat → Bool) (k : Nat) (b : Bool) : (boolCells n v).setIfInBounds k (.bool b) = boolCells n (fun j => if j = k then b else v j) := by
  apply Array.ext
  · simp [boolCells]
  · intro j h1 h2
    have hj : j < n := by simpa [boolCells] using h1
    by_cases e : k = j
    · subst e
      simp [boolCells]
    · have e' : ¬ j = k := fun q => e q.symm
      simp [boolCells, e, e']
theorem bool_one (n : Nat) (h : n < 10) : ([Value.bool false, Value.bool false, Value.bool false, Value.bool false, Value.bool false, Value.bool false, Value.bool false, Value.bool false, Value.bool false, Value.bool false].set n (Value.bool true)).toArray = boolCells 10 (fun j => decide (j = n)) := by
  have hn' : n = 0 ∨ n = 1 ∨ n = 2 ∨ n = 3 ∨ n = 4 ∨ n = 5 ∨ n = 6 ∨ n = 7 ∨ n = 8 ∨ n = 9 := by omega
  rcases hn' with rfl | rfl | rfl | rfl | rfl | rfl | rfl | rfl | rfl | rfl <;> rfl
theorem cellS_set (e : Nat → Nat → Bool) (i k : Nat) (v : Nat → Bool) (b : Bool) (hb : b = (v k || (v i && e i k))) : boolCells 10 (fun j => if j = k then b else v j) = boolCells 10 (cellS (fun _ k => k) e i k v) := by
  apply bool_congr
  intro j _
  unfold cellS
  by_cases h : j = k
  · subst h
    simp [hb]
  · simp [h]

theorem results_cell_mid {P : Program} {fn : Func} {p : Tmp} {ty : TypeId} (h : fn.results = #[.cell p ty]) (tmps : Array Value) (w : World) (g : Nat) (cs : List Value) (d : TypeDesc)
    (hp : tmps.getD p undef = .pointer (some ⟨g, 0, none⟩)) (hc : w.rangeAt g 0 cs)
    (hu : P.underlying ty = some d) (hd : d.isRow = true) (hi : (P.info? ty).map (·.size) = some cs.length) :
    (results fn tmps).run P w = .ok (.agg cs.toArray) w := by
  have hp' : tmps[p]?.getD undef = .pointer (some ⟨g, 0, none⟩) := by simpa using hp
  simp [results, h, hp', asAddr, run_loadVar_mid w g 0 ty cs d hc hu hd hi]
theorem upd_cells {w0 w : World} {S : Nat → Prop} (u : Upd w0 w S) {g : Nat} (hg : w0.heap.size ≤ g) : ∀ (vs : List Value) (o : Nat), Upd w0 (w.setCells g o vs) S := by
  intro vs
  induction vs generalizing w with
  | nil => intro o; exact u
  | cons v vs ih => intro o; exact ih (u.setCell _ _ (.inl hg)) (o + 1)

/-- The matrix in memory. -/
def MatAt (w : World) (g : Nat) (rd : Nat → Nat → Bool) : Prop := w.heap[g]? = some (.cells (boolCells 100 (fun j => rd (j / 10) (j % 10))) 24 (0, 0))
theorem MatAt.cell {w : World} {g : Nat} {rd : Nat → Nat → Bool} (h : MatAt w g rd) {i k : Nat} (hi : i < 10) (hk : k < 10) : w.cell? ⟨g, i * 10 + k, none⟩ = some (.bool (rd i k)) := by
  have := cell_at h (i * 10 + k) _ (bool_at 100 _ (by omega))
  rwa [show (i * 10 + k) / 10 = i by omega, show (i * 10 + k) % 10 = k by omega] at this

set_option maxHeartbeats 3200000 in
theorem local_any (w : World) (rg : Nat) (rd : Nat → Nat → Bool) (hr : MatAt w rg rd) (n : Nat) (hn : n < 10) :
    Calls Try.prog 6 #[.int .i64 (n : Nat), .pointer (some ⟨rg, 0, none⟩)] w fun e w' => e = .returned (.agg (boolCells 10 (locV rd n))) ∧ Upd w w' (fun _ => False) := by
  have hn0 : (0 : Int) ≤ (n : Int) := by omega
  have hn1 : (n : Int) < 10 := by omega
  have hn2 : (n : Int) < ((10 : Nat) : Int) := by omega
  go_enter Try.func6, Try.ntmps6
  have hB1 := new1 w (.cells #[Value.bool false, Value.bool false, Value.bool false, Value.bool false, Value.bool false, Value.bool false, Value.bool false, Value.bool false, Value.bool false, Value.bool false] 23)
  obtain ⟨N, hN⟩ : ∃ N : Nat, 10 = N := ⟨_, rfl⟩
  have HN := hide hN
  clear hN
  go_wp2_with fail
  rw [bool_one n hn]
  have W0 : ∀ v : Nat → Bool, Upd w ((w.alloc (.cells #[Value.bool false, Value.bool false, Value.bool false, Value.bool false, Value.bool false, Value.bool false, Value.bool false, Value.bool false, Value.bool false, Value.bool false] 23)).alloc (.cells (boolCells 10 v) 23)) (fun _ => False) := fun v => ((Upd.refl w _).alloc _).alloc _
  have W1 : ∀ v : Nat → Bool, ((w.alloc (.cells #[Value.bool false, Value.bool false, Value.bool false, Value.bool false, Value.bool false, Value.bool false, Value.bool false, Value.bool false, Value.bool false, Value.bool false] 23)).alloc (.cells (boolCells 10 v) 23)).heap[w.heap.size + 1]? = some (.cells (boolCells 10 v) 23 (0, 0)) := fun v => new2 w _ _
  have W2 : ∀ v : Nat → Bool, ((w.alloc (.cells #[Value.bool false, Value.bool false, Value.bool false, Value.bool false, Value.bool false, Value.bool false, Value.bool false, Value.bool false, Value.bool false, Value.bool false] 23)).alloc (.cells (boolCells 10 v) 23)).heap[w.heap.size]? = some (.cells #[Value.bool false, Value.bool false, Value.bool false, Value.bool false, Value.bool false, Value.bool false, Value.bool false, Value.bool false, Value.bool false, Value.bool false] 23 (0, 0)) := fun v => block_alloc (new1 w _) _
  have HW0 := hide W0
  have HW1 := hide W1
  have HW2 := hide W2
  clear W0 W1 W2 hB1
  go_loopg [10] N (fun q rv wr => ∃ r : Nat, r + q = N ∧ rv = .int .i64 r ∧ wr.heap[w.heap.size + 1]? = some (.cells (boolCells 10 (iter (passS (fun _ k => k) (locE rd) 10 10) r (fun j => decide (j = n)))) 23 (0, 0)) ∧ wr.heap[w.heap.size]? = some (.cells #[Value.bool false, Value.bool false, Value.bool false, Value.bool false, Value.bool false, Value.bool false, Value.bool false, Value.bool false, Value.bool false, Value.bool false] 23 (0, 0)) ∧ Upd w wr (fun _ => False))
  case atStart => exact ⟨0, by omega, rfl, HW1.out _, HW2.out _, HW0.out _⟩
  case round =>
    obtain ⟨r, hrN, rfl, hb, hz, hu⟩ := hrel
    obtain ⟨gr, hgr⟩ : ∃ o, gk = o := ⟨_, rfl⟩
    rw [hgr] at hrN
    have HB := hide hb
    have HZ := hide hz
    have HU := hide hu
    clear hb hz hu
    by_cases hr10 : r < 10
    · have hr1 : (r : Int) < 10 := by omega
      have hr2 : decide ((r : Int) < 10) = true := by simpa using hr1
      obtain ⟨u, hu⟩ : ∃ u, iter (passS (fun _ k => k) (locE rd) 10 10) r (fun j => decide (j = n)) = u := ⟨_, rfl⟩
      have hu1 : iter (passS (fun _ k => k) (locE rd) 10 10) (r + 1) (fun j => decide (j = n)) = passS (fun _ k => k) (locE rd) 10 10 u := by rw [← hu]; rfl
      have HU1 := hide hu1
      have HV := hide hu
      clear hu1 hu
      go_wp2_with fail
      go_loopg [12] N (fun q iv wi => ∃ i : Nat, i + q = N ∧ iv = .int .i64 i ∧ wi.heap[w.heap.size + 1]? = some (.cells (boolCells 10 (passS (fun _ k => k) (locE rd) 10 i u)) 23 (0, 0)) ∧ wi.heap[w.heap.size]? = some (.cells #[Value.bool false, Value.bool false, Value.bool false, Value.bool false, Value.bool false, Value.bool false, Value.bool false, Value.bool false, Value.bool false, Value.bool false] 23 (0, 0)) ∧ Upd w wi (fun _ => False))
      case atStart => exact ⟨0, by omega, rfl, by rw [← HV.out]; exact HB.out, HZ.out, HU.out⟩
      case round =>
        obtain ⟨i, hiN, rfl, hb, hz, hu⟩ := hrel
        obtain ⟨gi, hgi⟩ : ∃ o, gk = o := ⟨_, rfl⟩
        rw [hgi] at hiN
        have IB := hide hb
        have IZ := hide hz
        have IU := hide hu
        clear hb hz hu
        by_cases hi10 : i < 10
        · have hi1 : (i : Int) < 10 := by omega
          have hi2 : decide ((i : Int) < 10) = true := by simpa using hi1
          go_wp2_with fail
          go_loopg [15] N (fun q kv wk => ∃ k : Nat, k + q = N ∧ kv = .int .i64 k ∧ wk.heap[w.heap.size + 1]? = some (.cells (boolCells 10 (rowS (fun _ k => k) (locE rd) i k (passS (fun _ k => k) (locE rd) 10 i u))) 23 (0, 0)) ∧ wk.heap[w.heap.size]? = some (.cells #[Value.bool false, Value.bool false, Value.bool false, Value.bool false, Value.bool false, Value.bool false, Value.bool false, Value.bool false, Value.bool false, Value.bool false] 23 (0, 0)) ∧ Upd w wk (fun _ => False))
          case atStart => exact ⟨0, by omega, rfl, IB.out, IZ.out, IU.out⟩
          case round =>
            obtain ⟨k, hkN, rfl, hb, hz, hu⟩ := hrel
            by_cases hk10 : k < 10
            · have hk1 : (k : Int) < 10 := by omega
              have hk0 : (0 : Int) ≤ (k : Int) := by omega
              have hi0 : (0 : Int) ≤ (i : Int) := by omega
              have hk2 : decide ((k : Int) < 10) = true := by simpa using hk1
              have cm := MatAt.cell (show MatAt wr rg rd from hu.get hr id) hi10 hk10
              obtain ⟨x, hx⟩ : ∃ x, rowS (fun _ k => k) (locE rd) i k (passS (fun _ k => k) (locE rd) 10 i u) = x := ⟨_, rfl⟩
              have hx1 : rowS (fun _ k => k) (locE rd) i (k + 1) (passS (fun _ k => k) (locE rd) 10 i u) = cellS (fun _ k => k) (locE rd) i k x := by rw [← hx]; rfl
              rw [hx] at hb
              have ck := cell_at hb k _ (bool_at 10 x hk10)
              have ci := cell_at hb i _ (bool_at 10 x hi10)
              have fr := free_at hb k
              have tm1 := tmod3 i
              have tm2 := tmod3 k
              have gk1 : 1 ≤ gk := by have := HN.out; omega
              have CL : ∀ b : Bool, b = (x k || (x i && locE rd i k)) → (wr.setCell ⟨w.heap.size + 1, k, none⟩ (.bool b)).heap[w.heap.size + 1]? = some (.cells (boolCells 10 (rowS (fun _ k => k) (locE rd) i (k + 1) (passS (fun _ k => k) (locE rd) 10 i u))) 23 (0, 0)) := by
                intro b hbb
                rw [hx1, ← cellS_set (locE rd) i k x b hbb, ← bool_set]
                exact block_setCell hb k _
              have CZ : ∀ b : Bool, (wr.setCell ⟨w.heap.size + 1, k, none⟩ (.bool b)).heap[w.heap.size]? = some (.cells #[Value.bool false, Value.bool false, Value.bool false, Value.bool false, Value.bool false, Value.bool false, Value.bool false, Value.bool false, Value.bool false, Value.bool false] 23 (0, 0)) := fun b => (Below.heap_setCell _ _ _ _ (by simp)).trans hz
              have CU : ∀ b : Bool, Upd w (wr.setCell ⟨w.heap.size + 1, k, none⟩ (.bool b)) (fun _ => False) := fun b => hu.setCell _ _ (.inl (by simp))
              have HCL := hide CL
              have HCZ := hide CZ
              have HCU := hide CU
              clear hb hz hu hx hx1 CL CZ CU
              cases hxk : x k with
              | true =>
                rw [hxk] at ck
                have HQ := hide hxk
                clear hxk
                go_wp2_with fail
                go_roundg (gk - 1)
                case measure => omega
                case rel => exact ⟨k + 1, by omega, by go_num, HCL.out true (by simp [HQ.out]), HCZ.out _, HCU.out _⟩
              | false =>
                rw [hxk] at ck
                have HQ := hide hxk
                clear hxk
                cases hxi : x i with
                | false =>
                  rw [hxi] at ci
                  have HQ2 := hide hxi
                  clear hxi
                  go_wp2_with fail
                  go_roundg (gk - 1)
                  case measure => omega
                  case rel => exact ⟨k + 1, by omega, by go_num, HCL.out false (by simp [HQ.out, HQ2.out]), HCZ.out _, HCU.out _⟩
                | true =>
                  rw [hxi] at ci
                  have HQ2 := hide hxi
                  clear hxi
                  cases hrd : rd i k with
                  | false =>
                    rw [hrd] at cm
                    have HQ3 := hide hrd
                    clear hrd
                    go_wp2_with fail
                    go_roundg (gk - 1)
                    case measure => omega
                    case rel => exact ⟨k + 1, by omega, by go_num, HCL.out false (by simp [HQ.out, HQ2.out, HQ3.out, locE]), HCZ.out _, HCU.out _⟩
                  | true =>
                    rw [hrd] at cm
                    have HQ3 := hide hrd
                    clear hrd
                    by_cases hs : i % 3 = k % 3
                    · have hd : ((k % 3 : Nat) : Int) = ((i % 3 : Nat) : Int) := by rw [hs]
                      rw [hd] at tm2
                      have HQ4 := hide hs
                      clear hd hs
                      go_wp2_with fail
                      go_roundg (gk - 1)
                      case measure => omega
                      case rel => exact ⟨k + 1, by omega, by go_num, HCL.out true (by simp [HQ.out, HQ2.out, HQ3.out, locE, HQ4.out]), HCZ.out _, HCU.out _⟩
                    · have hd : (((i % 3 : Nat) : Int) == ((k % 3 : Nat) : Int)) = false := by simp; omega
                      have hd' : ¬ ((i % 3 : Nat) : Int) = ((k % 3 : Nat) : Int) := by omega
                      have hd3 : decide (((i % 3 : Nat) : Int) = ((k % 3 : Nat) : Int)) = false := by simpa using hd'
                      have HQ4 := hide hs
                      clear hs
                      go_wp2_with fail
                      go_roundg (gk - 1)
                      case measure => omega
                      case rel =>
                        refine ⟨k + 1, by omega, by go_num, ?_, HCZ.out _, HCU.out _⟩
                        have hd4 : (((i : Int) % 3) == ((k : Int) % 3)) = false := by simp; omega
                        rw [hd4]
                        exact HCL.out false (by simp [HQ.out, HQ2.out, HQ3.out, locE, HQ4.out])
            · have hk1 : ¬ (k : Int) < 10 := by omega
              have hk2 : decide ((k : Int) < 10) = false := by simpa using hk1
              have e0 : k = 10 := by have := HN.out; omega
              have KB := hide hb
              have KZ := hide hz
              have KU := hide hu
              clear hb hz hu
              go_wp2_with fail
              go_roundg (gi - 1)
              case measure => omega
              case rel => exact ⟨i + 1, by omega, by go_num, by have := KB.out; rw [e0] at this; exact this, KZ.out, KU.out⟩
        · have hi1 : ¬ (i : Int) < 10 := by omega
          have hi2 : decide ((i : Int) < 10) = false := by simpa using hi1
          have e0 : i = 10 := by have := HN.out; omega
          go_wp2_with fail
          go_roundg (gr - 1)
          case measure => omega
          case rel => exact ⟨r + 1, by omega, by go_num, by rw [HU1.out]; have := IB.out; rw [e0] at this; exact this, IZ.out, IU.out⟩
    · have hr1 : ¬ (r : Int) < 10 := by omega
      have hr2 : decide ((r : Int) < 10) = false := by simpa using hr1
      have e0 : r = 10 := by have := HN.out; omega
      have hth : wr.there w.heap.size 0 (boolCells 10 (locV rd n)).size := by
        rw [bool_size]
        intro j hj
        refine ⟨?_, free_at HZ.out _⟩
        rw [cell_of_row wr _ _ _ _ _ HZ.out]
        have h10 : j = 0 ∨ j = 1 ∨ j = 2 ∨ j = 3 ∨ j = 4 ∨ j = 5 ∨ j = 6 ∨ j = 7 ∨ j = 8 ∨ j = 9 := by omega
        rcases h10 with rfl | rfl | rfl | rfl | rfl | rfl | rfl | rfl | rfl | rfl <;> rfl
      have hbl : wr.heap[w.heap.size + 1]? = some (.cells (boolCells 10 (locV rd n)) 23 (0, 0)) := by
        have := HB.out
        rw [e0] at this
        exact this
      have hone : (boolCells 10 (locV rd n)).all (·.oneCell') = true := by
        simp [boolCells, Value.oneCell']
      have hinf : (Try.prog.info? 23).map (·.size) = some (boolCells 10 (locV rd n)).size := by rw [bool_size]; kernel_rfl
      have hRA := World.rangeAt_setCells_same wr w.heap.size 0 (boolCells 10 (locV rd n)).toList (by simpa using hth)
      have hUF := upd_cells HU.out (Nat.le_refl w.heap.size) (boolCells 10 (locV rd n)).toList 0
      obtain ⟨bc, hbc⟩ : ∃ bc, boolCells 10 (locV rd n) = bc := ⟨_, rfl⟩
      rw [hbc] at hth hbl hone hinf hRA hUF
      have HBC := hide hbc
      clear hbc
      go_wp2_with (first | (refine wpList_load_row rfl _ _ rfl (w.heap.size + 1) rfl _ _ _ _ hbl Try.underlying23 rfl hinf ?_) | (refine wpList_store_mid rfl _ _ _ rfl w.heap.size 0 bc rfl rfl hth hinf hone ?_))
      (try simp only [Exit.inBlock, Exit.then])
      refine bodyPost_ret (results_cell_mid rfl _ _ w.heap.size bc.toList _ rfl hRA Try.underlying23 rfl (by simpa using hinf)) rfl ?_
      refine ⟨?_, hUF⟩
      rw [HBC.out]
end Go.Proofs.Ytcdimledeomahaa
