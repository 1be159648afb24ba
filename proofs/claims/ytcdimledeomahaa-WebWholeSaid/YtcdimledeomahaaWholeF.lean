/- The walk of WebWhole's right. -/
import Derived.Test.YtcdimledeomahaaWholeE
set_option maxRecDepth 100000
namespace Go.Proofs.Ytcdimledeomahaa
open Go.RowKit Go.Lat

def Z20 : Array Value := #[.bool false, .bool false, .bool false, .bool false, .bool false, .bool false, .bool false, .bool false, .bool false, .bool false, .bool false, .bool false, .bool false, .bool false, .bool false, .bool false, .bool false, .bool false, .bool false, .bool false]
theorem z20_eq : Z20 = boolCells 20 (fun _ => false) := rfl
theorem z20_mem {v : Value} (h : v ∈ Z20.toList) : v = .bool false := by
  rw [z20_eq] at h
  simp only [boolCells, List.mem_map] at h
  obtain ⟨_, _, rfl⟩ := h
  rfl
theorem met_cells : ∀ (vs : List Value) (o : Nat) (w : World) (g : Nat), (∀ v, v ∈ vs → v = .bool false) → MetAt w g (fun _ => false) → MetAt (w.setCells g o vs) g (fun _ => false)
  | [], _, _, _, _, h => h
  | v :: vs, o, w, g, hv, h => by
    rw [World.setCells]
    refine met_cells vs (o + 1) _ g (fun x hx => hv x (by simp [hx])) ?_
    have := block_setCell h o v
    rw [hv v (by simp), bool_set] at this
    rw [hv v (by simp)]
    unfold MetAt
    rw [this, bool_congr 20 (v := fun _ => false)]
    intro j _
    simp
theorem z20_met (w : World) : MetAt (w.alloc (.cells Z20 102)) w.heap.size (fun _ => false) := new1 w _
theorem z20_there (w : World) : (w.alloc (.cells Z20 102)).there w.heap.size 0 Z20.size := by
  have h := z20_met w
  intro j hj
  refine ⟨?_, h.free _⟩
  rw [Nat.zero_add, cell_at h j _ (bool_at 20 _ (by simpa [Z20] using hj))]
  rfl
theorem store_met {ops : Array Oper} {rest : List Oper} {op : Oper} {a : Act} {w0 wr : World} {S : Nat → Prop} {Q : Exit → Act → World → Prop} (hgd : op.guard = none) (ty : TypeId) (x y : Operand) (ho : op.op = .store ty x y)
    (hx : a.eval x = .pointer (some ⟨wr.heap.size, 0, none⟩)) (hy : a.eval y = .agg Z20) (hi : (Try.prog.info? ty).map (·.size) = some 20) (hu : Upd w0 wr S)
    (h : ∀ W, MetAt W wr.heap.size (fun _ => false) → Upd w0 W S → wpList Try.prog ops Q rest (a.put op.dst undef) W) : wpList Try.prog ops Q (op :: rest) a (wr.alloc (.cells Z20 102)) := by
  refine wpList_store_mid hgd ty x y ho wr.heap.size 0 Z20 hx hy (z20_there wr) hi (by simp [Z20, Value.oneCell']) (h _ ?_ ?_)
  · exact met_cells _ _ _ _ (fun v hv => z20_mem hv) (z20_met wr)
  · exact upd_cells (hu.alloc _) (hu.size) _ _

theorem own_upd {P : Program} {k : TypeId} {w w' : World} {b n : Nat} {D : DataW Value} {S : Nat → Prop} (h : w.ownsMap P k heldElem b n D) (u : Upd w w' S) (hS : ¬ S b) : w'.ownsMap P k heldElem b n D := by
  obtain ⟨es, clock, hb, F⟩ := h
  exact ⟨es, clock, u.get hb hS, F⟩

set_option maxHeartbeats 6400000 in
theorem right_any (w : World) (rd : Nat → Nat → Bool) (bm nm : Nat) (D : DataW Value) (hT : w.ownsMap Try.prog 32 heldElem bm nm D) (hD : ∀ n, n < 10 → D.atKey (pcLit (pcN n)) (.held (.bool false)) = .held (.bool (metV rd n (n * 2 + 1)))) :
    Calls Try.prog 13 #[.agg (boolCells 100 (fun j => rd (j / 10) (j % 10))), .map (some bm)] w fun e w' => e = .returned (.bool true) ∧ Upd w w' (fun _ => False) := by
  obtain ⟨N, hN⟩ : ∃ N : Nat, 10 = N := ⟨_, rfl⟩
  have HN := hide hN
  clear hN
  have HT := hide hT
  have HD := hide hD
  clear hT hD
  obtain ⟨bc, hbc⟩ : ∃ bc, boolCells 100 (fun j => rd (j / 10) (j % 10)) = bc := ⟨_, rfl⟩
  have HBC := hide hbc
  rw [hbc]
  clear hbc
  go_enter Try.func13, Try.ntmps13
  go_wp2_with fail
  obtain ⟨W1, hW1⟩ : ∃ W1, w.alloc (.cells bc 24) = W1 := ⟨_, rfl⟩
  have u1 : Upd w W1 (fun _ => False) := hW1 ▸ (Upd.refl w _).alloc _
  have m1 : MatAt W1 w.heap.size rd := by rw [← hW1, MatAt, HBC.out]; exact new1 w _
  have t1 : W1.ownsMap Try.prog 32 heldElem bm nm D := by rw [← hW1]; exact HT.out.alloc _
  rw [hW1]
  have HU1 := hide u1
  have HM1 := hide m1
  have HT1 := hide t1
  obtain ⟨N2, hN2⟩ : ∃ N : Nat, 21 = N := ⟨_, rfl⟩
  obtain ⟨N3, hN3⟩ : ∃ N : Nat, 2 = N := ⟨_, rfl⟩
  have HN2 := hide hN2
  have HN3 := hide hN3
  clear hW1 u1 m1 t1 hN2 hN3
  go_loopg [13] N (fun q nv wr => ∃ n : Nat, n + q = N ∧ nv = .int .i64 n ∧ Upd W1 wr (fun _ => False))
  case atStart => exact ⟨0, by omega, rfl, Upd.refl _ _⟩
  case round =>
    obtain ⟨n, hnN, rfl, hu⟩ := hrel
    obtain ⟨gn, hgn⟩ : ∃ o, gk = o := ⟨_, rfl⟩
    rw [hgn] at hnN
    by_cases hn : n < 10
    · have gn1 : 1 ≤ gn := by have := HN.out; omega
      have hn0 : (0 : Int) ≤ (n : Int) := by omega
      have hn1 : (n : Int) < 10 := by omega
      have hn2 : decide ((n : Int) < 10) = true := by simpa using hn1
      obtain ⟨mb, hmb⟩ : ∃ mb, wr.heap.size = mb := ⟨_, rfl⟩
      have sm : W1.heap.size ≤ mb := by rw [← hmb]; exact hu.size
      have hi20 : (Try.prog.info? 102).map (·.size) = some 20 := by kernel_rfl
      have HI20 := hide hi20
      have HMB := hide hmb
      have HU0 := hide hu
      clear hu hmb hi20
      go_wp2_with ((refine store_met rfl _ _ _ rfl rfl rfl HI20.out HU0.out ?_); intro W2 hZ hUZ)
      rw [HMB.out] at hZ ⊢
      have HZ := hide hZ
      have HUZ := hide hUZ
      clear hZ hUZ
      go_loopg [17] N2 (fun q rv wx => ∃ r : Nat, r + q = N2 ∧ rv = .int .i64 r ∧ MetAt wx mb (iter (metP rd n) r (fun _ => false)) ∧ Upd W1 wx (fun _ => False))
      case atStart => exact ⟨0, by omega, rfl, HZ.out, HUZ.out⟩
      case round =>
        obtain ⟨r, hrN, rfl, hb, hu⟩ := hrel
        obtain ⟨gr, hgr⟩ : ∃ o, gk = o := ⟨_, rfl⟩
        rw [hgr] at hrN
        by_cases hr : r < 21
        · have gr1 : 1 ≤ gr := by have := HN2.out; omega
          have hr1 : (r : Int) < 21 := by omega
          have hr2 : decide ((r : Int) < 21) = true := by simpa using hr1
          obtain ⟨u, hu0⟩ : ∃ u, iter (metP rd n) r (fun _ => false) = u := ⟨_, rfl⟩
          have hu1 : iter (metP rd n) (r + 1) (fun _ => false) = metP rd n u := by rw [← hu0]; rfl
          rw [hu0] at hb
          have HB := hide hb
          have HU := hide hu
          have HUN := hide hu1
          clear hb hu hu0 hu1
          go_wp2_with fail
          go_loopg [19] N (fun q kv wx => ∃ k : Nat, k + q = N ∧ kv = .int .i64 k ∧ MetAt wx mb (baseS (fun k => k * 2 + farN n k 0) (fun k => rd n k) k u) ∧ Upd W1 wx (fun _ => False))
          case atStart => exact ⟨0, by omega, rfl, HB.out, HU.out⟩
          case round =>
            obtain ⟨k, hkN, rfl, hb, hu⟩ := hrel
            by_cases hk : k < 10
            · have gk1 : 1 ≤ gk := by have := HN.out; omega
              have hk0 : (0 : Int) ≤ (k : Int) := by omega
              have hk1 : (k : Int) < 10 := by omega
              have hk2 : decide ((k : Int) < 10) = true := by simpa using hk1
              have cm := MatAt.cell (show MatAt wr w.heap.size rd from hu.get HM1.out id) hn hk
              have HB3 := hide hb
              have HU3 := hide hu
              cases hrd : rd n k with
              | false =>
                rw [hrd] at cm
                have HQ := hide hrd
                clear hb hu hrd
                go_wp2_with fail
                go_roundg (gk - 1)
                case measure => omega
                case rel => exact ⟨k + 1, by omega, by go_num, HB3.out.base_no HQ.out, HU3.out⟩
              | true =>
                rw [hrd] at cm
                have HQ := hide hrd
                have hf := farN_lt n k 0 (by omega)
                obtain ⟨f, hff⟩ : ∃ f, farN n k 0 = f := ⟨_, rfl⟩
                have FA : ∀ w : World, Calls Try.prog 29 #[.int .i64 (n : Nat), .int .i64 (k : Nat), .int .i64 0] w fun e w' => e = .returned (.int .i64 (f : Nat)) ∧ w' = w := fun w => hff ▸ far_any w n k 0
                rw [hff] at hf
                have cc := MetAt.cell hb hk hf
                have fr := MetAt.free hb (k * 2 + f)
                have hf0 : (0 : Int) ≤ (f : Int) := by omega
                have hf1 : (f : Int) < 2 := by omega
                have CB : ∀ w', MetAt w' mb (baseS (fun k => k * 2 + farN n k 0) (fun k => rd n k) k u) → MetAt (w'.setCell ⟨mb, k * 2 + f, none⟩ (.bool true)) mb (baseS (fun k => k * 2 + farN n k 0) (fun k => rd n k) (k + 1) u) := fun w' h => by
                  have := MetAt.base h HQ.out
                  simp only [hff] at this
                  exact this
                have HCB := hide CB
                have HFA := hide FA
                clear hb hu hrd hff CB FA
                go_wp2_with fail
                go_region_held3 (fun _ => True)
                  (trivial)
                  ((go_at_call 29; refine Calls.mono (HFA.out _) ?_; rintro e w4 ⟨rfl, rfl⟩))
                all_goals go_wp2_with fail
                all_goals go_roundg (gk - 1)
                case measure => omega
                case rel => exact ⟨k + 1, by omega, by go_num, HCB.out _ HB3.out, HU3.out.drew.setCell _ _ (.inl sm)⟩
            · have hk1 : ¬ (k : Int) < 10 := by omega
              have hk2 : decide ((k : Int) < 10) = false := by simpa using hk1
              have e0 : k = 10 := by have := HN.out; omega
              rw [e0] at hb
              obtain ⟨v0, hv0⟩ : ∃ v0, baseS (fun k => k * 2 + farN n k 0) (fun k => rd n k) 10 u = v0 := ⟨_, rfl⟩
              have hun : iter (metP rd n) (r + 1) (fun _ => false) = passS (fun a k => k * 2 + farN (a / 2) k (a % 2)) (fun a k => rd (a / 2) k) 10 20 v0 := by rw [HUN.out, ← hv0]; rfl
              rw [hv0] at hb
              have HB4 := hide hb
              have HU4 := hide hu
              have HUN2 := hide hun
              clear hb hu hv0 hun e0
              go_wp2_with fail
              go_loopg [34] N (fun q iv wx => ∃ i : Nat, i + q = N ∧ iv = .int .i64 i ∧ MetAt wx mb (passS (fun a k => k * 2 + farN (a / 2) k (a % 2)) (fun a k => rd (a / 2) k) 10 (i * 2) v0) ∧ Upd W1 wx (fun _ => False))
              case atStart => exact ⟨0, by omega, rfl, HB4.out, HU4.out⟩
              case round =>
                obtain ⟨i, hiN, rfl, hb, hu⟩ := hrel
                obtain ⟨gi, hgi⟩ : ∃ o, gk = o := ⟨_, rfl⟩
                rw [hgi] at hiN
                have HB5 := hide hb
                have HU5 := hide hu
                clear hb hu
                by_cases hi : i < 10
                · have gi1 : 1 ≤ gi := by have := HN.out; omega
                  have hi1 : (i : Int) < 10 := by omega
                  have hi2 : decide ((i : Int) < 10) = true := by simpa using hi1
                  go_wp2_with fail
                  go_loopg [37] N3 (fun q sv wx => ∃ s : Nat, s + q = N3 ∧ sv = .int .i64 s ∧ MetAt wx mb (passS (fun a k => k * 2 + farN (a / 2) k (a % 2)) (fun a k => rd (a / 2) k) 10 (i * 2 + s) v0) ∧ Upd W1 wx (fun _ => False))
                  case atStart => exact ⟨0, by omega, rfl, HB5.out, HU5.out⟩
                  case round =>
                    obtain ⟨s, hsN, rfl, hb, hu⟩ := hrel
                    obtain ⟨gs, hgs⟩ : ∃ o, gk = o := ⟨_, rfl⟩
                    rw [hgs] at hsN
                    by_cases hs : s < 2
                    · have gs1 : 1 ≤ gs := by have := HN3.out; omega
                      have hs0 : (0 : Int) ≤ (s : Int) := by omega
                      have hs1 : (s : Int) < 2 := by omega
                      have hs2 : decide ((s : Int) < 2) = true := by simpa using hs1
                      obtain ⟨v1, hv1⟩ : ∃ v1, passS (fun a k => k * 2 + farN (a / 2) k (a % 2)) (fun a k => rd (a / 2) k) 10 (i * 2 + s) v0 = v1 := ⟨_, rfl⟩
                      have hun : passS (fun a k => k * 2 + farN (a / 2) k (a % 2)) (fun a k => rd (a / 2) k) 10 (i * 2 + (s + 1)) v0 = rowS (fun a k => k * 2 + farN (a / 2) k (a % 2)) (fun a k => rd (a / 2) k) (i * 2 + s) 10 v1 := by rw [← hv1]; rfl
                      rw [hv1] at hb
                      have HB6 := hide hb
                      have HU6 := hide hu
                      have HUN3 := hide hun
                      clear hb hu hv1 hun
                      go_wp2_with fail
                      go_loopg [40] N (fun q kv wx => ∃ k : Nat, k + q = N ∧ kv = .int .i64 k ∧ MetAt wx mb (rowS (fun a k => k * 2 + farN (a / 2) k (a % 2)) (fun a k => rd (a / 2) k) (i * 2 + s) k v1) ∧ Upd W1 wx (fun _ => False))
                      case atStart => exact ⟨0, by omega, rfl, HB6.out, HU6.out⟩
                      case round =>
                        obtain ⟨k, hkN, rfl, hb, hu⟩ := hrel
                        by_cases hk : k < 10
                        · have gk1 : 1 ≤ gk := by have := HN.out; omega
                          have hk0 : (0 : Int) ≤ (k : Int) := by omega
                          have hk1 : (k : Int) < 10 := by omega
                          have hk2 : decide ((k : Int) < 10) = true := by simpa using hk1
                          have hi0 : (0 : Int) ≤ (i : Int) := by omega
                          have cm := MatAt.cell (show MatAt wr w.heap.size rd from hu.get HM1.out id) hi hk
                          have ci := MetAt.cell hb hi hs
                          obtain ⟨x, hx⟩ : ∃ x, rowS (fun a k => k * 2 + farN (a / 2) k (a % 2)) (fun a k => rd (a / 2) k) (i * 2 + s) k v1 = x := ⟨_, rfl⟩
                          have hd : (i * 2 + s) / 2 = i := by omega
                          have hm : (i * 2 + s) % 2 = s := by omega
                          have HB7 := hide hb
                          have HU7 := hide hu
                          have NO : (x (i * 2 + s) && rd i k) = false → MetAt wr mb (rowS (fun a k => k * 2 + farN (a / 2) k (a % 2)) (fun a k => rd (a / 2) k) (i * 2 + s) (k + 1) v1) := fun h => MetAt.step_no HB7.out (by rw [hx]; simpa [hd] using h)
                          rw [hx] at ci
                          have HNO := hide NO
                          clear NO
                          cases hxi : x (i * 2 + s) with
                          | false =>
                            rw [hxi] at ci
                            have HQ := hide hxi
                            clear hb hu hxi hx hd hm
                            go_wp2_with fail
                            go_roundg (gk - 1)
                            case measure => omega
                            case rel => exact ⟨k + 1, by omega, by go_num, HNO.out (by simp [HQ.out]), HU7.out⟩
                          | true =>
                            rw [hxi] at ci
                            have HQ := hide hxi
                            cases hrd : rd i k with
                            | false =>
                              rw [hrd] at cm
                              have HQ2 := hide hrd
                              clear hb hu hxi hx hrd hd hm
                              go_wp2_with fail
                              go_roundg (gk - 1)
                              case measure => omega
                              case rel => exact ⟨k + 1, by omega, by go_num, HNO.out (by simp [HQ2.out]), HU7.out⟩
                            | true =>
                              rw [hrd] at cm
                              have hf := farN_lt i k s hs
                              obtain ⟨f, hff⟩ : ∃ f, farN i k s = f := ⟨_, rfl⟩
                              have FA : ∀ w : World, Calls Try.prog 29 #[.int .i64 (i : Nat), .int .i64 (k : Nat), .int .i64 (s : Nat)] w fun e w' => e = .returned (.int .i64 (f : Nat)) ∧ w' = w := fun w => hff ▸ far_any w i k s
                              rw [hff] at hf
                              have cc := MetAt.cell hb hk hf
                              have fr := MetAt.free hb (k * 2 + f)
                              have hf0 : (0 : Int) ≤ (f : Int) := by omega
                              have hf1 : (f : Int) < 2 := by omega
                              have CB : ∀ w', MetAt w' mb (rowS (fun a k => k * 2 + farN (a / 2) k (a % 2)) (fun a k => rd (a / 2) k) (i * 2 + s) k v1) → MetAt (w'.setCell ⟨mb, k * 2 + f, none⟩ (.bool true)) mb (rowS (fun a k => k * 2 + farN (a / 2) k (a % 2)) (fun a k => rd (a / 2) k) (i * 2 + s) (k + 1) v1) := fun w' h => by
                                have := MetAt.step h (by rw [hx]; exact hxi) (by simpa [hd] using hrd)
                                simp only [hd, hm, hff] at this
                                exact this
                              rw [hx] at cc
                              have HCB := hide CB
                              have HFA := hide FA
                              clear hb hu hrd hff CB FA hx hxi hd hm
                              go_wp2_with fail
                              go_region_held3 (fun _ => True)
                                (trivial)
                                ((go_at_call 29; refine Calls.mono (HFA.out _) ?_; rintro e w4 ⟨rfl, rfl⟩))
                              all_goals go_wp2_with fail
                              all_goals go_roundg (gk - 1)
                              case measure => omega
                              case rel => exact ⟨k + 1, by omega, by go_num, HCB.out _ HB7.out, HU7.out.drew.setCell _ _ (.inl sm)⟩
                        · have hk1 : ¬ (k : Int) < 10 := by omega
                          have hk2 : decide ((k : Int) < 10) = false := by simpa using hk1
                          have e0 : k = 10 := by have := HN.out; omega
                          rw [e0] at hb
                          have HB7 := hide hb
                          have HU7 := hide hu
                          clear hb hu e0
                          go_wp2_with fail
                          go_roundg (gs - 1)
                          case measure => omega
                          case rel => exact ⟨s + 1, by omega, by go_num, by rw [HUN3.out]; exact HB7.out, HU7.out⟩
                    · have hs1 : ¬ (s : Int) < 2 := by omega
                      have hs2 : decide ((s : Int) < 2) = false := by simpa using hs1
                      have e0 : s = 2 := by have := HN3.out; omega
                      rw [e0, show i * 2 + 2 = (i + 1) * 2 by omega] at hb
                      have HB6 := hide hb
                      have HU6 := hide hu
                      clear hb hu e0
                      go_wp2_with fail
                      go_roundg (gi - 1)
                      case measure => omega
                      case rel => exact ⟨i + 1, by omega, by go_num, HB6.out, HU6.out⟩
                · have hi1 : ¬ (i : Int) < 10 := by omega
                  have hi2 : decide ((i : Int) < 10) = false := by simpa using hi1
                  have e0 : i = 10 := by have := HN.out; omega
                  go_wp2_with fail
                  go_roundg (gr - 1)
                  case measure => omega
                  case rel => exact ⟨r + 1, by omega, by go_num, by have := HB5.out; rw [e0] at this; rw [HUN2.out]; exact this, HU5.out⟩
        · have hr1 : ¬ (r : Int) < 21 := by omega
          have hr2 : decide ((r : Int) < 21) = false := by simpa using hr1
          have e0 : r = 21 := by have := HN2.out; omega
          rw [e0] at hb
          have cm := MetAt.cell hb hn (show 1 < 2 by omega)
          have hmv : iter (metP rd n) 21 (fun _ => false) (n * 2 + 1) = metV rd n (n * 2 + 1) := rfl
          rw [hmv] at cm
          have hwrap : IntKind.u8.wrap (n : Int) = (n : Int) := IntWalk.u8_in _ (by omega)
          have CE := cell_any wr n hn
          have hDn := HD.out n hn
          have hTr := HU1.out
          have HB4 := hide hb
          have HU4 := hide hu
          have HCM := hide cm
          have HDN := hide hDn
          have HCE := hide CE
          clear hb hu cm hDn CE hmv hTr
          go_wp2_with (go_at_call 7; refine Calls.mono HCE.out ?_; rintro e w5 ⟨rfl, u5⟩)
          obtain ⟨W6, hW6⟩ : ∃ W6, w5.alloc (.cells #[.string ⟨#[83]⟩, .int .i64 n, .int .i64 0] 32) = W6 := ⟨_, rfl⟩
          have u6 : Upd wr W6 (fun _ => False) := hW6 ▸ u5.alloc _
          have b6 : W6.heap[w5.heap.size]? = some (.cells #[.string ⟨#[83]⟩, .int .i64 n, .int .i64 0] 32 (0, 0)) := hW6 ▸ new1 w5 _
          have lW := lt_at b6
          obtain ⟨d0, d1, d2⟩ := cells3 b6
          have M6 := own_upd (own_upd (own_upd HT1.out HU4.out id) u6 id) ((Upd.refl W6 (fun _ => False)).drew) id
          have hl2 := look_held M6 placeK Try.underlying42 (zeroBool _) (pc_key (pcN_ok hn)) HDN.out
          simp only [pcN, Pc.val] at hl2
          have cm := (u6.cell mb (n * 2 + 1) (lt_at HB4.out) id).trans HCM.out
          have HU6 := hide u6
          rw [hW6]
          clear hW6 u6 b6 M6 u5
          cases hmv : metV rd n (n * 2 + 1) with
          | false =>
            rw [hmv] at hl2 cm
            clear hmv
            go_region
            go_wp2_with fail
            go_roundg (gn - 1)
            case measure => omega
            case rel => exact ⟨n + 1, by omega, by go_num, (HU4.out.then HU6.out (fun _ _ => id)).drew⟩
          | true =>
            rw [hmv] at hl2 cm
            clear hmv
            go_region
            go_wp2_with fail
            go_roundg (gn - 1)
            case measure => omega
            case rel => exact ⟨n + 1, by omega, by go_num, (HU4.out.then HU6.out (fun _ _ => id)).drew⟩
    · have hn1 : ¬ (n : Int) < 10 := by omega
      have hn2 : decide ((n : Int) < 10) = false := by simpa using hn1
      have HU4 := hide hu
      clear hu
      go_wp2_with fail
      go_ret
      exact ⟨rfl, HU1.out.then HU4.out (fun _ _ => id)⟩
end Go.Proofs.Ytcdimledeomahaa
