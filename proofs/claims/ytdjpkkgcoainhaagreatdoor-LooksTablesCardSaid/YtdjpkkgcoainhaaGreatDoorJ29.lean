/- The arguments that the law makes: as data, in memory (plain). -/
import Derived.Test.YtdjpkkgcoainhaaGreatDoorJ25
import Derived.Test.YtdjpkkgcoainhaaGreatDoorJ26
/- The arguments that the law makes: as data, in memory (plain). -/
set_option maxRecDepth 100000
namespace Go.Proofs.YtdjpkkgcoainhaaGreatDoor
open Go.RowKit Go.Lat Go.Lib

/-- Arguments with where their values lie. -/
abbrev ArP := Ar × Option Addr × Nat
def arC (l : List ArP) : List Value := l.flatMap fun x => [.slice x.2.1 x.1.v.length x.2.2, .int .i64 x.1.c, .bool x.1.w]
theorem arC_app (a b : List ArP) : arC (a ++ b) = arC a ++ arC b := by simp [arC]
theorem arC_len (a : List ArP) : (arC a).length = a.length * 3 := by
  induction a with
  | nil => rfl
  | cons x a ih =>
    have : arC (x :: a) = [.slice x.2.1 x.1.v.length x.2.2, .int .i64 x.1.c, .bool x.1.w] ++ arC a := rfl
    rw [this, List.length_append, ih]
    simp
    omega
theorem arC_get : ∀ (l : List ArP) (i : Nat) (x : ArP), l[i]? = some x → ∀ t, t < 3 → (arC l)[i * 3 + t]? = [Value.slice x.2.1 x.1.v.length x.2.2, .int .i64 x.1.c, .bool x.1.w][t]?
  | [], i, x, h, t, ht => by simp at h
  | y :: l, 0, x, h, t, ht => by
    simp at h
    subst h
    have : arC (y :: l) = [.slice y.2.1 y.1.v.length y.2.2, .int .i64 y.1.c, .bool y.1.w] ++ arC l := rfl
    rw [this, Nat.zero_mul, Nat.zero_add, List.getElem?_append_left (by simpa using ht)]
  | y :: l, i + 1, x, h, t, ht => by
    have ih := arC_get l i x (by simpa using h) t ht
    have : arC (y :: l) = [.slice y.2.1 y.1.v.length y.2.2, .int .i64 y.1.c, .bool y.1.w] ++ arC l := rfl
    rw [this, List.getElem?_append_right (by simp; omega), ← ih]
    congr 1
    simp
    omega
/-- Values that lie in rows of their own. -/
def ElA (w : World) (V : TypeId) (l : List ArP) : Prop := ∀ x ∈ l, Rw w V 5 (.slice x.2.1 x.1.v.length x.2.2) x.1.v.length (vlCells x.1.v)
theorem rdA_of_rw {w : World} {T V : TypeId} {a : Option Addr} {c : Nat} {l : List ArP} (h : Rw w T 3 (.slice a l.length c) l.length (arC l)) (hv : ElA w V l) : RdA w a (l.map (·.1)) := fun i y hy => by
  rw [List.getElem?_map] at hy
  cases hl : l[i]? with
  | none => rw [hl] at hy; simp at hy
  | some x =>
    rw [hl] at hy
    simp at hy
    subst hy
    have hi := (List.getElem?_eq_some_iff.1 hl).1
    obtain ⟨g, off, cap, hv', hg, hc⟩ := Rw.pos h (by omega)
    simp at hv'
    have k := fun t ht => arC_get l i x hl t ht
    exact ⟨g, off, x.2.1, x.2.2, hv'.1, hg, by simpa using hc _ _ (k 0 (by omega)), hc _ _ (k 1 (by omega)), hc _ _ (k 2 (by omega)), rdV_of_rw (hv x (List.mem_of_getElem? hl))⟩
theorem ElA.upd {w w' : World} {V : TypeId} {l : List ArP} {S : Nat → Prop} (h : ElA w V l) (u : Upd w w' S) (hS : ∀ x ∈ l, ∀ k, (Value.slice x.2.1 x.1.v.length x.2.2).ownBlock = some k → ¬ S k) : ElA w' V l := fun x hx => u.rw (h x hx) (hS x hx)
theorem ElA.updF {w w' : World} {V : TypeId} {l : List ArP} (h : ElA w V l) (u : Upd w w' (fun _ => False)) : ElA w' V l := fun x hx => u.rw (h x hx) (fun _ _ => id)
/-- What a law's argument is cut to. -/
def colW (c : Int) : Nat := 1 + (max 0 c % 4).toNat
def stA (wh : Bool) (a : Ar) : Ar := if wh && !a.w then ⟨(a.v ++ [vZero]).take 1, 0, a.w⟩ else a
def stB (wh : Bool) (a : Ar) : Ar := if wh && a.w then ⟨a.v.take (a.v.length / colW a.c * colW a.c), (colW a.c : Nat), a.w⟩ else a
def cutA (wh : Bool) (a : Ar) : Ar := ⟨cutL (stB wh (stA wh a)).v, (stB wh (stA wh a)).c, (stB wh (stA wh a)).w⟩
def cutAs (wh : Bool) (l : List Ar) : List Ar := (l.take 34).map (cutA wh)
/-- A row of the law's arguments that is read. -/
def RdC (w : World) (p : Option Addr) (l : List Ar) : Prop :=
  ∀ i a, l[i]? = some a → ∃ g off va vc, p = some ⟨g, off, none⟩ ∧ g < w.heap.size ∧ w.cell? ⟨g, off + i * 3, none⟩ = some (.slice va a.v.length vc) ∧ w.cell? ⟨g, off + i * 3 + 1, none⟩ = some (.int .i64 a.c) ∧ w.cell? ⟨g, off + i * 3 + 2, none⟩ = some (.bool a.w) ∧ RdV w va a.v ∧ a.v.length ≤ vc
theorem RdC.upd {w w' : World} {p : Option Addr} {l : List Ar} (h : RdC w p l) (u : Upd w w' (fun _ => False)) : RdC w' p l := fun i a ha => by
  obtain ⟨g, off, va, vc, e, hg, h0, h1, h2, h3, h4⟩ := h i a ha
  exact ⟨g, off, va, vc, e, Nat.lt_of_lt_of_le hg u.size, (u.cell g _ hg id).trans h0, (u.cell g _ hg id).trans h1, (u.cell g _ hg id).trans h2, h3.upd u, h4⟩
theorem RdV.src {w : World} {a : Option Addr} {l : List Vl} {c : Nat} (h : RdV w a l) : Src Tryz.prog w 5 (.slice a l.length c) l.length (vlCells l) := by
  cases a with
  | none =>
    cases l with
    | nil => exact ⟨fun w' => by simp [Builtin.lenOf], by simp [run_firstCells_none, vlCells], by simp [run_firstCells_none, vlCells]⟩
    | cons x l =>
      obtain ⟨g, off, e, _⟩ := rdV_at h (j := 0) (x := x) rfl
      cases e
  | some a =>
    have hc : ∀ j u, (vlCells l)[j]? = some u → w.cell? (a.add j) = some u := by
      intro j u hj
      have hj5 : j < l.length * 5 := by rw [← vlCells_len]; exact (List.getElem?_eq_some_iff.1 hj).1
      obtain ⟨x, hx⟩ : ∃ x, l[j / 5]? = some x := ⟨_, List.getElem?_eq_getElem (by omega)⟩
      obtain ⟨g, off, e, hg, c0, c1, c2, c3, c4⟩ := rdV_at h hx
      cases e
      have k := vlCells_get l (j / 5) x hx (j % 5) (by omega)
      have ej : j / 5 * 5 + j % 5 = j := by omega
      rw [ej, hj] at k
      rw [add_off]
      have h5 : j % 5 = 0 ∨ j % 5 = 1 ∨ j % 5 = 2 ∨ j % 5 = 3 ∨ j % 5 = 4 := by omega
      rcases h5 with q | q | q | q | q
      all_goals rw [q] at k ej
      all_goals simp [Vl.cells] at k
      all_goals subst k
      · rw [← ej]; exact c0
      · rw [← ej]; exact c1
      · rw [← ej]; exact c2
      · rw [← ej]; exact c3
      · rw [← ej]; exact c4
    exact ⟨fun w' => by simp [Builtin.lenOf], run_firstCells_some (P := Tryz.prog) w 5 l.length _ l.length c _ (vlCells_len l) hc, run_firstCells_some (P := Tryz.prog) w.drew 5 l.length _ l.length c _ (vlCells_len l) (by simpa using hc)⟩
theorem Tryz.infoPA : (Tryz.prog.info? 67).map (fun i => (i.zero, i.size, i.bytes)) = some (some (.agg #[.slice none 0 0, .int .i64 0, .bool false]), 3, 40) := by kernel_rfl
theorem Tryz.infoRA : (Tryz.prog.info? 81).map (fun i => (i.zero, i.size, i.bytes)) = some (some (.agg #[.slice none 0 0, .int .i64 0, .bool false]), 3, 40) := by kernel_rfl
theorem Tryz.infoLV : (Tryz.prog.info? 23).map (fun i => (i.zero, i.size, i.bytes)) = some (some (.agg #[.int .i64 0, .int .i64 0, .string ⟨#[]⟩, .bool false, .int .i64 0]), 5, 48) := by kernel_rfl
theorem Rw.lecap {w : World} {e size n c : Nat} {a : Option Addr} {xs : List Value} (h : Rw w e size (.slice a n c) n xs) : n ≤ c := by
  rcases h.2 with ⟨e1, h0⟩ | ⟨g, off, cap, cur, e1, hg, hnc, _⟩
  · simp at e1; omega
  · simp at e1; omega
theorem slice_lv (va : Option Addr) (n vc M : Nat) (hM : M ≤ vc) (w : World) : (Instr.slice 24 (.slice va n vc) none (some (.int .i64 (M : Int))) none).run Tryz.prog w = .ok (.slice va M vc) w := by
  obtain ⟨i, hi, -, hz1, -⟩ := info_p Tryz.infoLV
  have ht := Tryz.underlying24
  have hel : Tryz.prog.elem 24 = 23 := by simp [Program.elem, ht]
  rw [run_slice_h w 24 va n vc (by rw [hel]; exact ht) .i64 (M : Int) (by omega) (by omega), hel]
  simp [sizeOf, typeInfo, hi, hz1, sliced]
  intro _
  cases va with
  | none => rfl
  | some a => obtain ⟨b, o, s⟩ := a; cases s <;> simp [Addr.add]
/-- The argument that the law cuts, in its cell. -/
def ArgAt (w : World) (G : Nat) (b : Ar) : Prop := ∃ va vc, w.heap[G]? = some (.cells #[.slice va b.v.length vc, .int .i64 b.c, .bool b.w] 58 (0, 0)) ∧ RdV w va b.v ∧ b.v.length ≤ vc ∧ (b.v ≠ [] → ∀ g o, va = some ⟨g, o, none⟩ → g ≠ G)
theorem RdV.setG {w : World} {va : Option Addr} {l : List Vl} {G : Nat} (h : RdV w va l) (hne : l ≠ [] → ∀ g o, va = some ⟨g, o, none⟩ → g ≠ G) (j : Nat) (v : Value) : RdV (w.setCell ⟨G, j, none⟩ v) va l := fun i x hx => by
  obtain ⟨g, off, e, hg, c0, c1, c2, c3, c4⟩ := rdV_at h hx
  have hn := hne (fun e0 => by rw [e0] at hx; simp at hx) g off e
  have u := (Upd.refl w (fun k => k = G)).setCell ⟨G, j, none⟩ v (.inr rfl)
  exact ⟨g, off, e, Nat.lt_of_lt_of_le hg u.size, (u.cell g _ hg hn).trans c0, (u.cell g _ hg hn).trans c1, (u.cell g _ hg hn).trans c2, (u.cell g _ hg hn).trans c3, (u.cell g _ hg hn).trans c4⟩
theorem RdV.below {w : World} {va : Option Addr} {l : List Vl} (h : RdV w va l) : l ≠ [] → ∀ g o, va = some ⟨g, o, none⟩ → g ≠ w.heap.size := fun hl g o e => by
  cases l with
  | nil => exact absurd rfl hl
  | cons x l =>
    obtain ⟨g', off, e', hg, _⟩ := rdV_at h (j := 0) (x := x) rfl
    rw [e] at e'
    simp at e'
    omega
theorem RdV.take {w : World} {va : Option Addr} {l : List Vl} (h : RdV w va l) (k : Nat) : RdV w va (l.take k) := fun i x hx => h i x (by
  rw [List.getElem?_take] at hx
  split at hx
  · exact hx
  · cases hx)
theorem apart2 {w : World} {V A B : TypeId} {x va vb : Value} {n m k : Nat} {xs ya yb : List Value} (h : Rw w V 5 x n xs) (ha : Rw w A 3 va m ya) (hb : Rw w B 3 vb k yb) (h1 : V ≠ A) (h2 : V ≠ B) : ∀ j, x.ownBlock = some j → ¬ (va.ownBlock = some j ∨ vb.ownBlock = some j) := fun j e hh => by
  rcases hh with hh | hh
  · rcases h.apart ha h1 with q | q
    · rw [e] at q; cases q
    · exact q (e.trans hh.symm)
  · rcases h.apart hb h2 with q | q
    · rw [e] at q; cases q
    · exact q (e.trans hh.symm)
theorem Rw.takeS {w : World} {e size n c : Nat} {a : Option Addr} {xs : List Value} (h : Rw w e size (.slice a n c) n xs) (k : Nat) (hk : k ≤ n) : Rw w e size (.slice a k c) k (xs.take (k * size)) := by
  have hkn : k * size ≤ n * size := Nat.mul_le_mul_right _ hk
  have hl : (xs.take (k * size)).length = k * size := by rw [List.length_take, h.1]; omega
  rcases h.2 with ⟨e1, h0⟩ | ⟨g, off, cap, cur, e1, hg, hnc, hcs, htake⟩
  · have hk0 : k = 0 := by omega
    subst hk0
    simp at e1
    obtain ⟨rfl, -, rfl⟩ := e1
    exact ⟨hl, .inl ⟨rfl, rfl⟩⟩
  · simp at e1
    obtain ⟨rfl, rfl⟩ := e1
    exact ⟨hl, .inr ⟨g, off, c, cur, rfl, hg, by omega, hcs, by rw [← htake, List.take_take, Nat.min_eq_left hkn]⟩⟩
theorem vlc_one (l : List Vl) : ∀ u ∈ vlCells l, u.oneCell' = true := fun u hu => by
  unfold vlCells at hu
  rw [List.mem_flatMap] at hu
  obtain ⟨x, _, h⟩ := hu
  exact vl_one x u h
theorem no_own {v v' : Value} {m N : Nat} (h : v'.ownBlock = v.ownBlock ∨ v'.ownBlock = some N) (ho : ∀ k, v.ownBlock = some k → m ≤ k) (hn : m ≤ N) : ∀ k, v'.ownBlock = some k → m ≤ k := fun k e => by
  rcases h with h | h
  · exact ho k (h.symm.trans e)
  · have := Option.some.inj (h.symm.trans e)
    omega
theorem stA_w (wh : Bool) (a : Ar) : (stA wh a).w = a.w := by unfold stA; split <;> rfl
theorem cut_len (wh : Bool) (l : List Ar) : (cutAs wh l).length = min l.length 34 := by unfold cutAs; rw [List.length_map, List.length_take]; omega
end Go.Proofs.YtdjpkkgcoainhaaGreatDoor
/- The walk of the law's args. -/
set_option maxRecDepth 100000
namespace Go.Proofs.YtdjpkkgcoainhaaGreatDoor
open Go.RowKit Go.Lat Go.Lib

set_option maxHeartbeats 12800000 in
theorem args12_any (w : World) (wh : Bool) (p : Option Addr) (cap : Nat) (l : List Ar) (hlc : l.length ≤ cap) (hr : RdC w p l) (hsz : wh = true → ∀ a ∈ l, (a.v.length + 1) * 48 ≤ 140737488355328) :
    Calls Tryz.prog 13 #[.slice p l.length cap, .bool wh] w fun e w' => ∃ p1 c1 p2 c2, e = .returned (.tuple #[.slice p1 (cutAs wh l).length c1, .slice p2 (cutAs wh l).length c2]) ∧ RdA w' p1 (cutAs wh l) ∧ RdA w' p2 (cutAs wh l) ∧ (cutAs wh l).length ≤ c1 ∧ (cutAs wh l).length ≤ c2 ∧ Upd w w' (fun _ => False) := by
  obtain ⟨i0, hi0, hz0a, hz0b, hz0c⟩ := info_p Tryz.infoLV
  obtain ⟨i1, hi1, hz1a, hz1b, hz1c⟩ := info_p Tryz.infoPA
  obtain ⟨i2, hi2, hz2a, hz2b, hz2c⟩ := info_p Tryz.infoRA
  rw [cut_len]
  obtain ⟨L, hL⟩ : ∃ L, l.length = L := ⟨_, rfl⟩
  rw [hL] at hlc ⊢
  obtain ⟨N, hN⟩ : ∃ N, min L 34 = N := ⟨_, rfl⟩
  have hN2 : (min (L : Int) 34) = (N : Int) := by omega
  have n0 : (0 : Int) ≤ (N : Int) := by omega
  have n40 : N ≤ 34 := by omega
  have n1 : (N : Int) ≤ (cap : Int) := by omega
  have HL := hide hL
  have HN := hide hN
  have HR := hide hr
  have HSZ := hide hsz
  rw [hN]
  clear hL hN hr hsz
  go_enter Tryz.func13, Tryz.ntmps13
  go_wp2_with fail
  go_loopg [6, 7, 18] N (fun q va vb iv wr => ∃ (k : Nat) (la lb : List ArP), k + q = N ∧ iv = .int .i64 k ∧ la.map (·.1) = (l.take k).map (cutA wh) ∧ lb.map (·.1) = (l.take k).map (cutA wh) ∧ Rw wr 67 3 va k (arC la) ∧ Rw wr 81 3 vb k (arC lb) ∧ ElA wr 29 la ∧ ElA wr 30 lb ∧ (∀ j, va.ownBlock = some j → w.heap.size ≤ j) ∧ (∀ j, vb.ownBlock = some j → w.heap.size ≤ j) ∧ Upd w wr (fun _ => False))
  case atStart => exact ⟨0, [], [], by omega, rfl, by simp, by simp, Rw.nil _ _ _, Rw.nil _ _ _, fun x hx => by simp at hx, fun x hx => by simp at hx, by simp [Value.ownBlock], by simp [Value.ownBlock], Upd.refl _ _⟩
  case round =>
    obtain ⟨k, la, lb, hk, rfl, ma, mb, ra, rb, ea, eb, oa, ob, hu⟩ := hrel
    have HMA := hide ma
    have HMB := hide mb
    have HEA := hide ea
    have HEB := hide eb
    have HA := hide ra
    have HB := hide rb
    have HU := hide hu
    clear ma mb ea eb ra rb
    by_cases hkN : k < N
    · obtain ⟨a, ha⟩ : ∃ a, l[k]? = some a := ⟨_, List.getElem?_eq_getElem (by rw [HL.out]; have := HN.out; omega)⟩
      obtain ⟨g, off, va, vc, rfl, hg, c0, c1, c2, hv, hvc⟩ := (HR.out.upd hu) k a ha
      have hE : (l.take (k + 1)).map (cutA wh) = (l.take k).map (cutA wh) ++ [cutA wh a] := by rw [List.take_add_one, ha]; simp
      have hszA : wh = true → (a.v.length + 1) * 48 ≤ 140737488355328 := fun h => HSZ.out h a (List.mem_of_getElem? ha)
      have HE := hide hE
      have HSA := hide hszA
      have hk0 : (0 : Int) ≤ (k : Int) := by omega
      have hk1 : (k : Int) < (N : Int) := by omega
      have HVV := hide hv
      obtain ⟨X, hX⟩ : ∃ X, X = a := ⟨_, rfl⟩
      rw [← hX] at HE
      have HX := hide hX
      clear hE hszA ha hu hv hX
      obtain ⟨v, c, wd⟩ := a
      simp only at c0 c1 c2 hvc
      have hHSA := HSA.out
      simp only at hHSA
      obtain ⟨n, hn⟩ : ∃ n, v.length = n := ⟨_, rfl⟩
      rw [hn] at c0 hvc hHSA
      have HNV := hide hn
      have HSB := hide hHSA
      clear hHSA HSA hn
      go_upto_region 6 with fail
      have bG := Vnew1 wr (.cells #[.slice va n vc, .int .i64 c, .bool wd] 58)
      have HU1 : Hid (Upd wr (wr.alloc (.cells #[.slice va n vc, .int .i64 c, .bool wd] 58)) (fun _ => False)) := hide ((Upd.refl wr _).alloc _)
      obtain ⟨W1, hW1⟩ : ∃ W, wr.alloc (.cells #[.slice va n vc, .int .i64 c, .bool wd] 58) = W := ⟨_, rfl⟩
      obtain ⟨G, hG⟩ : ∃ g, wr.heap.size = g := ⟨_, rfl⟩
      rw [hW1, hG] at bG
      rw [hW1] at HU1
      rw [hW1, hG]
      have HG := hide hG
      have HBG := hide bG
      have hGl := lt_at bG
      obtain ⟨q0, q1, q2⟩ := cells3 bG
      have HV1 := hide (HVV.out.upd HU1.out)
      clear bG hW1 hG c0 c1 c2
      go_cut [27] (fun s wx => s = .bool (wh && !wd) ∧ wx = W1)
      case first =>
        cases wh
        all_goals go_wp2_with fail
        all_goals go_meet
        all_goals exact ⟨by simp, rfl⟩
      case rest =>
        obtain ⟨rfl, rfl⟩ := hcut
        clear q0 q1 q2
        go_upto_if 27 with fail
        go_cut [] (fun wx => ArgAt wx G (stA wh ⟨v, c, wd⟩) ∧ Upd wc wx (fun j => j = G))
        case first =>
          cases hq : (wh && !wd) with
          | false =>
            have e1 : stA wh ⟨v, c, wd⟩ = ⟨v, c, wd⟩ := by unfold stA; rw [if_neg (by simp only [hq]; decide)]
            have HE1 := hide e1
            clear e1
            go_wp2_with fail
            go_meet
            rw [HE1.out]
            refine ⟨⟨va, vc, ?_, HV1.out, ?_, ?_⟩, Upd.refl _ _⟩
            · simp only; rw [HNV.out]; exact HBG.out
            · simp only; rw [HNV.out]; exact hvc
            · rw [← HG.out]; exact HVV.out.below
          | true =>
            obtain ⟨rfl, h2⟩ : wh = true ∧ wd = false := by revert hq; cases wh <;> cases wd <;> simp
            subst h2
            have e1 : stA true ⟨v, c, false⟩ = ⟨(v ++ [vZero]).take 1, 0, false⟩ := by unfold stA; simp
            have HE1 := hide e1
            have hn2 := HSB.out rfl
            have hsrc : Src Tryz.prog wc 5 (.slice va n vc) n (vlCells v) := by have := RdV.src (c := vc) HV1.out; rw [HNV.out] at this; exact this
            have HSRC := hide hsrc
            have hvl : (vlCells v).length = n * 5 := by rw [vlCells_len, HNV.out]
            have HVL := hide hvl
            have bG := HBG.out
            obtain ⟨q0, q1, q2⟩ := cells3 bG
            have ql := lt_at bG
            clear e1 hq hsrc hvl bG
            have HGl := hide hGl
            go_wp2_with (first
              | (at_builtin; (refine wpList_append_rw _ rfl _ _ 24 24 rfl 23 _ i0 _ 5 48 Tryz.underlying24 Tryz.underlying24 (by simp) hi0 hz0a hz0b hz0c rfl (.slice none 0 0) 0 [] rfl (Rw.nil _ _ _) _ n (vlCells v) rfl HSRC.out HVL.out (vlc_one v) (by omega) (by omega) ?_); intro ga gac w3 hv3 hg3 ho3; simp only [Nat.zero_add, List.nil_append] at hv3 ho3; have b3 := block_grown hg3 HBG.out (by simp [Value.ownBlock]); have u3 := Upd.grown (Upd.refl wc (fun j => j = G)) hg3 (fun k e => by simp [Value.ownBlock] at e); have o3 := no_own ho3 (by simp [Value.ownBlock]) (Nat.le_refl wc.heap.size))
              | (at_builtin; (refine wpList_append_rw _ rfl _ _ 24 24 rfl 23 _ i0 _ 5 48 Tryz.underlying24 Tryz.underlying24 (by simp) hi0 hz0a hz0b hz0c rfl _ _ _ rfl (hv3.alloc _) _ 1 [.int .i64 0, .int .i64 0, .string ⟨#[]⟩, .bool false, .int .i64 0] rfl (Rw.src (Rw.made w3 #[.int .i64 0, .int .i64 0, .string ⟨#[]⟩, .bool false, .int .i64 0] 23 5 1 rfl)) rfl (by simp [Value.oneCell']) (by omega) (by omega) ?_); intro gb gbc w4 hv4 hg4 ho4; have b4 := block_grown hg4 (block_alloc b3 _) (fun e => by have := o3 _ e; have := HGl.out; omega); have u4 := Upd.grown (u3.alloc (.cells #[.int .i64 0, .int .i64 0, .string ⟨#[]⟩, .bool false, .int .i64 0] 23)) hg4 (fun k e => .inl (o3 k e)); have o4 := no_own ho4 o3 (by have := u3.size; simp; omega); have SL4 : ∀ w, (Instr.slice 24 (.slice gb (n + 1) gbc) none (some (.int .i64 1)) none).run Tryz.prog w = .ok (.slice gb 1 gbc) w := fun w => slice_lv gb (n + 1) gbc 1 (by have := Rw.lecap hv4; omega) w; have hrs := Rw.takeS hv4 1 (by omega); obtain ⟨r0, r1, r2⟩ := cells3 b4; have rl := lt_at b4; have rf := fun j => free_at b4 j))
            go_meet
            rw [HE1.out]
            have hl1 : ((v ++ [vZero]).take 1).length = 1 := by rw [List.length_take]; simp
            have hcs : vlCells ((v ++ [vZero]).take 1) = (vlCells v ++ vZero.cells).take (1 * 5) := by rw [← vlCells_take, vlCells_app, vlCells_one]
            have hne : (Value.slice gb 1 gbc).ownBlock ≠ some G := fun e => by have := o4 G ((by cases gb <;> rfl : (Value.slice gb (n + 1) gbc).ownBlock = (Value.slice gb 1 gbc).ownBlock).trans e); have := HGl.out; omega
            refine ⟨⟨gb, gbc, ?_, ?_, ?_, ?_⟩, (u4.setCell _ _ (.inr rfl)).setCell _ _ (.inr rfl)⟩
            · simp only; rw [hl1]; exact block_setCell (block_setCell b4 0 _) 1 _
            · refine rdV_of_rw (T := 23) (c := gbc) ?_
              simp only
              rw [hl1, hcs]
              exact (hrs.setCell _ _ hne).setCell _ _ hne
            · simp only; rw [hl1]; exact Rw.lecap hrs
            · intro _ g o e e2
              subst e2
              exact hne (by rw [e]; rfl)
        case rest =>
          obtain ⟨hat, hu1⟩ := hcut
          obtain ⟨⟨v1, c1, w1⟩, hb⟩ : ∃ b, stA wh ⟨v, c, wd⟩ = b := ⟨_, rfl⟩
          have hsame : (wh && w1) = true → wh = true ∧ v1.length = n := fun h => by
            have e := hb
            simp only [Bool.and_eq_true] at h
            have e2 := congrArg Ar.w e
            rw [stA_w] at e2
            simp only at e2
            unfold stA at e
            rw [if_neg (by rw [e2, h.2]; simp)] at e
            refine ⟨h.1, ?_⟩
            rw [← HNV.out]
            exact congrArg (fun z => List.length (Ar.v z)) e.symm
          rw [hb] at hat
          have HB1 := hide hb
          have HSM := hide hsame
          clear hb hsame
          obtain ⟨va1, vc1, bG1, hv1, hvc1, hng1⟩ := hat
          obtain ⟨n1', hn1⟩ : ∃ n, v1.length = n := ⟨_, rfl⟩
          simp only at bG1 hvc1 hv1 hng1
          have HNG := hide hng1
          rw [hn1] at bG1 hvc1
          have HN1 := hide hn1
          have HUA := hide hu1
          have HBG1 := hide bG1
          have HV2 := hide hv1
          obtain ⟨q0, q1, q2⟩ := cells3 bG1
          have hGl1 := lt_at bG1
          obtain ⟨W2, hW2⟩ : ∃ W, W = wc := ⟨_, rfl⟩
          subst hW2
          clear hn1 hu1 hv1 bG1 hng1 HBG HV1
          go_upto_region 8 with fail
          go_cut [41] (fun s wx => s = .bool (wh && w1) ∧ wx = W2)
          case first =>
            cases wh
            all_goals go_wp2_with fail
            all_goals go_meet
            all_goals exact ⟨by simp, rfl⟩
          case rest =>
            obtain ⟨rfl, rfl⟩ := hcut
            clear q0 q1 q2
            go_upto_if 41 with fail
            go_cut [] (fun wx => ArgAt wx G (stB wh ⟨v1, c1, w1⟩) ∧ Upd wc wx (fun j => j = G))
            case first =>
              cases hq : (wh && w1) with
              | false =>
                have e1 : stB wh ⟨v1, c1, w1⟩ = ⟨v1, c1, w1⟩ := by unfold stB; rw [if_neg (by simp only [hq]; decide)]
                have HE1 := hide e1
                clear e1
                go_wp2_with fail
                go_meet
                rw [HE1.out]
                refine ⟨⟨va1, vc1, ?_, HV2.out, ?_, HNG.out⟩, Upd.refl _ _⟩
                · simp only; rw [HN1.out]; exact HBG1.out
                · simp only; rw [HN1.out]; exact hvc1
              | true =>
                have hs2 := HSM.out hq
                have hn2 : (n1' + 1) * 48 ≤ 140737488355328 := by rw [← HN1.out, hs2.2]; exact HSB.out hs2.1
                obtain ⟨C, hC⟩ : ∃ C, colW c1 = C := ⟨_, rfl⟩
                obtain ⟨M, hM⟩ : ∃ M, n1' / C * C = M := ⟨_, rfl⟩
                have e1 : stB wh ⟨v1, c1, w1⟩ = ⟨v1.take M, (C : Nat), w1⟩ := by unfold stB; rw [if_pos hq]; simp only; rw [hC, HN1.out, hM]
                have HE1 := hide e1
                obtain ⟨X, hX⟩ : ∃ X, max 0 c1 = X := ⟨_, rfl⟩
                have hX0 : 0 ≤ X := by omega
                have hC2 : C = 1 + (X % 4).toNat := by rw [← hC, ← hX]; rfl
                obtain ⟨Y, hY⟩ : ∃ Y, X % 4 = Y := ⟨_, rfl⟩
                have hY2 : X.tmod 4 = Y := by rw [Int.tmod_eq_emod_of_nonneg hX0]; exact hY
                have hY0 : 0 ≤ Y := by omega
                have hY4 : Y < 4 := by omega
                have hCY : 1 + Y = (C : Int) := by rw [hC2, hY]; omega
                have HXY : Hid ((1 : Int) + max 0 c1 % 4 = (C : Int)) := hide (by rw [hX, hY]; exact hCY)
                have hC1 : 1 ≤ C := by omega
                have hc0 : (C : Int) ≠ 0 := by omega
                have hc1 : ((C : Int) == 0) = false := by simpa using hc0
                have hCn : ¬ C = 0 := by omega
                obtain ⟨Q, hQ⟩ : ∃ Q, n1' / C = Q := ⟨_, rfl⟩
                have hQi : (n1' : Int).tdiv (C : Int) = (Q : Int) := by rw [Int.tdiv_eq_ediv_of_nonneg (by omega), ← hQ]; rfl
                have hQd : (n1' : Int) / (C : Int) = (Q : Int) := by rw [← hQ]; rfl
                rw [hQ] at hM
                have hML : M ≤ n1' := by rw [← hM, ← hQ]; exact Nat.div_mul_le_self _ _
                have hQn : Q ≤ n1' := by rw [← hQ]; exact Nat.div_le_self _ _
                have hwQ : IntKind.i64.wrap (Q : Int) = (Q : Int) := IntWalk.i64_in _ (by omega)
                have hMz : (Q : Int) * (C : Int) = (M : Int) := by rw [← hM]; simp
                have hMi : IntKind.i64.wrap ((Q : Int) * (C : Int)) = (M : Int) := by rw [hMz]; exact IntWalk.i64_in _ (by omega)
                have hwC : IntKind.i64.wrap (C : Int) = (C : Int) := IntWalk.i64_in _ (by omega)
                have hM0 : (0 : Int) ≤ (M : Int) := by omega
                have hM1 : (M : Int) ≤ (vc1 : Int) := by omega
                have SL := slice_lv va1 n1' vc1 M (by omega)
                have bG := HBG1.out
                obtain ⟨q0, q1, q2⟩ := cells3 bG
                have ql := lt_at bG
                have qf := fun j => free_at bG j
                clear e1 hq hs2 hC hX hC2 hQ hM hMz bG
                go_upto_region 10 with fail
                have bG2 : (wc.setCell ⟨G, 1, none⟩ (.int .i64 (C : Int))).heap[G]? = some (.cells #[.slice va1 n1' vc1, .int .i64 (C : Int), .bool w1] 58 (0, 0)) := block_setCell HBG1.out 1 (.int .i64 (C : Int))
                have HU2 : Hid (Upd wc (wc.setCell ⟨G, 1, none⟩ (.int .i64 (C : Int))) (fun j => j = G)) := hide ((Upd.refl wc _).setCell _ _ (.inr rfl))
                have HV3 := hide (HV2.out.setG HNG.out 1 (.int .i64 (C : Int)))
                obtain ⟨W3, hW3⟩ : ∃ W, wc.setCell ⟨G, 1, none⟩ (.int .i64 (C : Int)) = W := ⟨_, rfl⟩
                rw [HXY.out]
                rw [hW3] at bG2 HU2 HV3 ⊢
                have HBG2 := hide bG2
                clear q0 q1 q2 ql qf
                obtain ⟨q0, q1, q2⟩ := cells3 bG2
                have ql := lt_at bG2
                have qf := fun j => free_at bG2 j
                have hMl : (v1.take M).length = M := by rw [List.length_take, HN1.out]; omega
                have HML := hide hMl
                clear bG2 hW3 hMl
                go_region
                all_goals go_wp2_with fail
                all_goals go_meet
                all_goals rw [HE1.out]
                all_goals refine ⟨⟨va1, vc1, ?_, (HV3.out.take M).setG (fun h => HNG.out (fun e => h (by rw [e]; simp))) 0 _, ?_, fun h => HNG.out (fun e => h (by simp only [e]; simp))⟩, (HU2.out.setCell _ _ (.inr rfl)).drew⟩
                all_goals first
                  | (simp only; rw [HML.out]; exact block_setCell HBG2.out 0 _)
                  | (simp only; rw [HML.out]; omega)
            case rest =>
              obtain ⟨hat, hu2⟩ := hcut
              obtain ⟨⟨v2, bc, bw⟩, hb2⟩ : ∃ b, stB wh ⟨v1, c1, w1⟩ = b := ⟨_, rfl⟩
              rw [hb2] at hat
              have eC : cutA wh ⟨v, c, wd⟩ = ⟨cutL v2, bc, bw⟩ := by unfold cutA; rw [HB1.out, hb2]
              have HEC := hide eC
              obtain ⟨va2, vc2, bG2, hv2, hvc2, -⟩ := hat
              simp only at bG2 hvc2 hv2
              have LI := list12_any wc va2 vc2 v2 hvc2 hv2
              obtain ⟨NN, hNN⟩ : ∃ n, (cutL v2).length = n := ⟨_, rfl⟩
              rw [hNN] at LI
              have HNN := hide hNN
              obtain ⟨n2, hn2⟩ : ∃ n, v2.length = n := ⟨_, rfl⟩
              rw [hn2] at bG2 LI
              have UC : Hid (Upd wr wc (fun _ => False)) := hide (((HU1.out.then HUA.out (fun i hi e => by have := HG.out; omega)).then hu2 (fun i hi e => by have := HG.out; omega)))
              have HBG2 := hide bG2
              obtain ⟨q0, q1, q2⟩ := cells3 bG2
              have ql := lt_at bG2
              clear hb2 eC hv2 hu2 hNN hn2 bG2 HSM HNG HBG1 HV2 HUA HSB HVV
              go_wp2_with fail
              refine Calls.mono LI ?_
              rintro e W ⟨x1, x2, rfl, r1, r2, o1, o2, u5⟩
              obtain ⟨za, zc, rfl, -⟩ := Rw.form r1
              obtain ⟨ya, yc, rfl, -⟩ := Rw.form r2
              have UWR := UC.out.then u5 (fun _ _ => id)
              have UWD := HU.out.then UWR (fun _ _ => id)
              have bG := u5.get HBG2.out id
              have HA0 : Rw W.drew 67 3 u6 k (arC la) := UWR.rw HA.out (fun _ _ => id)
              have HB0 : Rw W.drew 81 3 u7 k (arC lb) := UWR.rw HB.out (fun _ _ => id)
              have hSx : ∀ i, i < w.heap.size → (u6.ownBlock = some i ∨ u7.ownBlock = some i) → False := fun i hi h => by
                rcases h with h | h
                · have := oa i h; omega
                · have := ob i h; omega
              have UD : Upd W W.drew (fun i => u6.ownBlock = some i ∨ u7.ownBlock = some i) := (Upd.refl W _).drew
              have naA : u6.ownBlock ≠ some G := fun e => by have := HA.out.lt _ e; have := HG.out; omega
              have nbA : u7.ownBlock ≠ some G := fun e => by have := HB.out.lt _ e; have := HG.out; omega
              have hne : 67 ≠ 81 := by decide
              have RX1 : Rw (W.drew.alloc (.cells #[.slice za NN zc, .int .i64 bc, .bool bw] 67)) 67 3 (.slice (some ⟨W.heap.size, 0, none⟩) 1 1) 1 [.slice za NN zc, .int .i64 bc, .bool bw] := Rw.made W.drew _ _ _ 1 rfl
              have RY1 : Rw (W.drew.alloc (.cells #[.slice ya NN yc, .int .i64 bc, .bool bw] 81)) 81 3 (.slice (some ⟨W.heap.size, 0, none⟩) 1 1) 1 [.slice ya NN yc, .int .i64 bc, .bool bw] := Rw.made W.drew _ _ _ 1 rfl
              have RX2 : Rw ((W.drew.alloc (.cells #[.slice ya NN yc, .int .i64 bc, .bool bw] 81)).alloc (.cells #[.slice za NN zc, .int .i64 bc, .bool bw] 67)) 67 3 (.slice (some ⟨W.heap.size + 1, 0, none⟩) 1 1) 1 [.slice za NN zc, .int .i64 bc, .bool bw] := made2 W _ _ _ _ 1 rfl
              have RY2 : Rw ((W.drew.alloc (.cells #[.slice za NN zc, .int .i64 bc, .bool bw] 67)).alloc (.cells #[.slice ya NN yc, .int .i64 bc, .bool bw] 81)) 81 3 (.slice (some ⟨W.heap.size + 1, 0, none⟩) 1 1) 1 [.slice ya NN yc, .int .i64 bc, .bool bw] := made2 W _ _ _ _ 1 rfl
              have E1 : ElA W 29 (la ++ [(⟨cutL v2, bc, bw⟩, za, zc)]) := fun x hx => by
                rw [List.mem_append] at hx
                rcases hx with hx | hx
                · exact UWR.rw (HEA.out x hx) (fun _ _ => id)
                · simp at hx
                  subst hx
                  simp only
                  rw [HNN.out]
                  exact r1
              have E2 : ElA W 30 (lb ++ [(⟨cutL v2, bc, bw⟩, ya, yc)]) := fun x hx => by
                rw [List.mem_append] at hx
                rcases hx with hx | hx
                · exact UWR.rw (HEB.out x hx) (fun _ _ => id)
                · simp at hx
                  subst hx
                  simp only
                  rw [HNN.out]
                  exact r2
              have HE1 := hide E1
              have HE2 := hide E2
              have HS1 := hide (fun x hx => apart2 (E1 x hx) HA0 HB0 (by decide) (by decide))
              have HS2 := hide (fun x hx => apart2 (E2 x hx) HA0 HB0 (by decide) (by decide))
              have hcA : arC (la ++ [(⟨cutL v2, bc, bw⟩, za, zc)]) = arC la ++ [.slice za NN zc, .int .i64 bc, .bool bw] := by rw [arC_app]; simp [arC, HNN.out]
              have hcB : arC (lb ++ [(⟨cutL v2, bc, bw⟩, ya, yc)]) = arC lb ++ [.slice ya NN yc, .int .i64 bc, .bool bw] := by rw [arC_app]; simp [arC, HNN.out]
              have HCA := hide hcA
              have HCB := hide hcB
              have hmA : (la ++ [((⟨cutL v2, bc, bw⟩ : Ar), za, zc)]).map (·.1) = (l.take (k + 1)).map (cutA wh) := by rw [HE.out, HX.out, HEC.out, List.map_append, HMA.out]; rfl
              have hmB : (lb ++ [((⟨cutL v2, bc, bw⟩ : Ar), ya, yc)]).map (·.1) = (l.take (k + 1)).map (cutA wh) := by rw [HE.out, HX.out, HEC.out, List.map_append, HMB.out]; rfl
              have HHA := hide hmA
              have HHB := hide hmB
              clear q0 q1 q2 ql
              obtain ⟨q0, q1, q2⟩ := cells3 bG
              have ql := lt_at bG
              clear E1 E2 hcA hcB hmA hmB r1 r2 o1 o2 u5 LI HR bG
              go_wp2_with fail
              go_region_held3 (fun w' => w'.cell? ⟨G, 1, none⟩ = some (.int .i64 bc) ∧ w'.cell? ⟨G, 2, none⟩ = some (.bool bw))
                (first | go_keep | (go_split_ands; first | exact ⟨hga.cell (by assumption) (Ne.symm naA), hga.cell (by assumption) (Ne.symm naA)⟩ | exact ⟨hgb.cell (by assumption) (Ne.symm nbA), hgb.cell (by assumption) (Ne.symm nbA)⟩))
                (first
                  | (refine step_append_rw _ (by rfl) _ _ 44 44 (by rfl) 67 _ i1 _ 3 40 Tryz.underlying44 Tryz.underlying44 (by simp) hi1 hz1a hz1b hz1c rfl _ k (arC la) (by rfl) (HA0.alloc _) _ 1 [.slice za NN zc, .int .i64 bc, .bool bw] (by rfl) (Rw.src RX1) rfl (by simp [Value.oneCell']) (by omega) (by omega) ?_; intro ga gca wa hva hga hoa; have oga := own_ge oa hoa (UWD.then (UD.alloc _) hSx); have ua := Upd.grown (UD.alloc _) hga (fun j hj => .inr (.inl hj)); have pa := Rw.past (HB0.alloc _) (HA0.alloc _) (Ne.symm hne) hga)
                  | (refine step_append_rw _ (by rfl) _ _ 44 44 (by rfl) 67 _ i1 _ 3 40 Tryz.underlying44 Tryz.underlying44 (by simp) hi1 hz1a hz1b hz1c rfl _ k (arC la) (by rfl) ((HA0.alloc _).alloc _) _ 1 [.slice za NN zc, .int .i64 bc, .bool bw] (by rfl) (Rw.src (RX1.alloc _)) rfl (by simp [Value.oneCell']) (by omega) (by omega) ?_; intro ga gca wa hva hga hoa; have oga := own_ge oa hoa (UWD.then ((UD.alloc _).alloc _) hSx); have ua := Upd.grown ((UD.alloc _).alloc _) hga (fun j hj => .inr (.inl hj)); have pa := Rw.past ((HB0.alloc _).alloc _) ((HA0.alloc _).alloc _) (Ne.symm hne) hga; have qa := Rw.past RY2 ((HA0.alloc _).alloc _) (Ne.symm hne) hga)
                  | (refine step_append_rw _ (by rfl) _ _ 44 44 (by rfl) 67 _ i1 _ 3 40 Tryz.underlying44 Tryz.underlying44 (by simp) hi1 hz1a hz1b hz1c rfl _ k (arC la) (by rfl) ((HA0.alloc _).alloc _) _ 1 [.slice za NN zc, .int .i64 bc, .bool bw] (by rfl) (Rw.src RX2) rfl (by simp [Value.oneCell']) (by omega) (by omega) ?_; intro ga gca wa hva hga hoa; have oga := own_ge oa hoa (UWD.then ((UD.alloc _).alloc _) hSx); have ua := Upd.grown ((UD.alloc _).alloc _) hga (fun j hj => .inr (.inl hj)); have pa := Rw.past ((HB0.alloc _).alloc _) ((HA0.alloc _).alloc _) (Ne.symm hne) hga; have qa := Rw.past (RY1.alloc _) ((HA0.alloc _).alloc _) (Ne.symm hne) hga)
                  | (refine step_append_rw _ (by rfl) _ _ 44 44 (by rfl) 67 _ i1 _ 3 40 Tryz.underlying44 Tryz.underlying44 (by simp) hi1 hz1a hz1b hz1c rfl _ k (arC la) (by rfl) pb _ 1 [.slice za NN zc, .int .i64 bc, .bool bw] (by rfl) (Rw.src qb) rfl (by simp [Value.oneCell']) (by omega) (by omega) ?_; intro ga gca wa hva hga hoa; have oga := own_ge oa hoa (UWD.then ub hSx); have ua := Upd.grown ub hga (fun j hj => .inr (.inl hj)); have pa := Rw.past hvb pb (Ne.symm hne) hga)
                  | (refine step_append_rw _ (by rfl) _ _ 44 44 (by rfl) 67 _ i1 _ 3 40 Tryz.underlying44 Tryz.underlying44 (by simp) hi1 hz1a hz1b hz1c rfl _ k (arC la) (by rfl) (pb.alloc _) _ 1 [.slice za NN zc, .int .i64 bc, .bool bw] (by rfl) (Rw.src (Rw.made wb _ _ _ 1 rfl)) rfl (by simp [Value.oneCell']) (by omega) (by omega) ?_; intro ga gca wa hva hga hoa; have oga := own_ge oa hoa (UWD.then (ub.alloc _) hSx); have ua := Upd.grown (ub.alloc _) hga (fun j hj => .inr (.inl hj)); have pa := Rw.past (hvb.alloc _) (pb.alloc _) (Ne.symm hne) hga)
                  | (refine step_append_rw _ (by rfl) _ _ 45 45 (by rfl) 81 _ i2 _ 3 40 Tryz.underlying45 Tryz.underlying45 (by simp) hi2 hz2a hz2b hz2c rfl _ k (arC lb) (by rfl) (HB0.alloc _) _ 1 [.slice ya NN yc, .int .i64 bc, .bool bw] (by rfl) (Rw.src RY1) rfl (by simp [Value.oneCell']) (by omega) (by omega) ?_; intro gb gcb wb hvb hgb hob; have ogb := own_ge ob hob (UWD.then (UD.alloc _) hSx); have ub := Upd.grown (UD.alloc _) hgb (fun j hj => .inr (.inr hj)); have pb := Rw.past (HA0.alloc _) (HB0.alloc _) hne hgb)
                  | (refine step_append_rw _ (by rfl) _ _ 45 45 (by rfl) 81 _ i2 _ 3 40 Tryz.underlying45 Tryz.underlying45 (by simp) hi2 hz2a hz2b hz2c rfl _ k (arC lb) (by rfl) ((HB0.alloc _).alloc _) _ 1 [.slice ya NN yc, .int .i64 bc, .bool bw] (by rfl) (Rw.src (RY1.alloc _)) rfl (by simp [Value.oneCell']) (by omega) (by omega) ?_; intro gb gcb wb hvb hgb hob; have ogb := own_ge ob hob (UWD.then ((UD.alloc _).alloc _) hSx); have ub := Upd.grown ((UD.alloc _).alloc _) hgb (fun j hj => .inr (.inr hj)); have pb := Rw.past ((HA0.alloc _).alloc _) ((HB0.alloc _).alloc _) hne hgb; have qb := Rw.past RX2 ((HB0.alloc _).alloc _) hne hgb)
                  | (refine step_append_rw _ (by rfl) _ _ 45 45 (by rfl) 81 _ i2 _ 3 40 Tryz.underlying45 Tryz.underlying45 (by simp) hi2 hz2a hz2b hz2c rfl _ k (arC lb) (by rfl) ((HB0.alloc _).alloc _) _ 1 [.slice ya NN yc, .int .i64 bc, .bool bw] (by rfl) (Rw.src RY2) rfl (by simp [Value.oneCell']) (by omega) (by omega) ?_; intro gb gcb wb hvb hgb hob; have ogb := own_ge ob hob (UWD.then ((UD.alloc _).alloc _) hSx); have ub := Upd.grown ((UD.alloc _).alloc _) hgb (fun j hj => .inr (.inr hj)); have pb := Rw.past ((HA0.alloc _).alloc _) ((HB0.alloc _).alloc _) hne hgb; have qb := Rw.past (RX1.alloc _) ((HB0.alloc _).alloc _) hne hgb)
                  | (refine step_append_rw _ (by rfl) _ _ 45 45 (by rfl) 81 _ i2 _ 3 40 Tryz.underlying45 Tryz.underlying45 (by simp) hi2 hz2a hz2b hz2c rfl _ k (arC lb) (by rfl) pa _ 1 [.slice ya NN yc, .int .i64 bc, .bool bw] (by rfl) (Rw.src qa) rfl (by simp [Value.oneCell']) (by omega) (by omega) ?_; intro gb gcb wb hvb hgb hob; have ogb := own_ge ob hob (UWD.then ua hSx); have ub := Upd.grown ua hgb (fun j hj => .inr (.inr hj)); have pb := Rw.past hva pa hne hgb)
                  | (refine step_append_rw _ (by rfl) _ _ 45 45 (by rfl) 81 _ i2 _ 3 40 Tryz.underlying45 Tryz.underlying45 (by simp) hi2 hz2a hz2b hz2c rfl _ k (arC lb) (by rfl) (pa.alloc _) _ 1 [.slice ya NN yc, .int .i64 bc, .bool bw] (by rfl) (Rw.src (Rw.made wa _ _ _ 1 rfl)) rfl (by simp [Value.oneCell']) (by omega) (by omega) ?_; intro gb gcb wb hvb hgb hob; have ogb := own_ge ob hob (UWD.then (ua.alloc _) hSx); have ub := Upd.grown (ua.alloc _) hgb (fun j hj => .inr (.inr hj)); have pb := Rw.past (hva.alloc _) (pa.alloc _) hne hgb))
              all_goals go_wp2_with fail
              all_goals go_roundg (gk - 1)
              case' measure => omega
              all_goals (first
                | exact ⟨k + 1, _, _, by omega, by go_num, HHA.out, HHB.out, by rw [HCA.out]; exact hva, by rw [HCB.out]; exact pa, HE1.out.upd ua HS1.out, HE2.out.upd ua HS2.out, oga, ogb, UWD.then ua hSx⟩
                | exact ⟨k + 1, _, _, by omega, by go_num, HHA.out, HHB.out, by rw [HCA.out]; exact pb, by rw [HCB.out]; exact hvb, HE1.out.upd ub HS1.out, HE2.out.upd ub HS2.out, oga, ogb, UWD.then ub hSx⟩
                | omega)
    · have e0 : k = N := by omega
      subst e0
      obtain ⟨za, zc, rfl, -⟩ := Rw.form HA.out
      obtain ⟨ya, yc, rfl, -⟩ := Rw.form HB.out
      have e1 : cutAs wh l = (l.take k).map (cutA wh) := by
        unfold cutAs
        congr 1
        rw [← HN.out, ← HL.out, List.take_eq_take_iff]
        omega
      have la1 : la.length = k := by
        have := congrArg List.length HMA.out
        rw [List.length_map, List.length_map, List.length_take, HL.out] at this
        have := HN.out
        omega
      have lb1 : lb.length = k := by
        have := congrArg List.length HMB.out
        rw [List.length_map, List.length_map, List.length_take, HL.out] at this
        have := HN.out
        omega
      have HE1 := hide e1
      clear e1
      go_wp2_with fail
      go_ret2
      refine ⟨za, zc, ya, yc, rfl, ?_, ?_, Rw.lecap HA.out, Rw.lecap HB.out, hu⟩
      · rw [HE1.out, ← HMA.out]
        have h := HA.out
        rw [← la1] at h
        exact rdA_of_rw h HEA.out
      · rw [HE1.out, ← HMB.out]
        have h := HB.out
        rw [← lb1] at h
        exact rdA_of_rw h HEB.out
end Go.Proofs.YtdjpkkgcoainhaaGreatDoor
