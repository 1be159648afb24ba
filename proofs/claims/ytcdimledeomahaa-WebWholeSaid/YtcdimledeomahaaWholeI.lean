/- The walk of WebWhole. -/
import Derived.Test.YtcdimledeomahaaWholeH
set_option maxRecDepth 100000
namespace Go.Proofs.Ytcdimledeomahaa
open Go.RowKit Go.Lat

/-- An argument of edges. -/
def EgArg (w : World) (v : Value) : Prop :=
  ∃ (a : Option Addr) (len cap : Nat), v = .slice a len cap ∧ len ≤ cap ∧ cap ≤ maxLen ∧ (a = none → cap = 0) ∧
    ∀ i, i < len → ∃ (g off x y : Nat), a = some ⟨g, off, none⟩ ∧ g < w.heap.size ∧ x < 256 ∧ y < 256 ∧ w.cell? ⟨g, off + i * 2, none⟩ = some (.int .u8 x) ∧ w.cell? ⟨g, off + i * 2 + 1, none⟩ = some (.int .u8 y)

theorem MatAt.drew {w : World} {g : Nat} {rd : Nat → Nat → Bool} (h : MatAt w g rd) : MatAt w.drew g rd := h
theorem index_bool (w : World) (v : Nat → Bool) {i : Nat} (hi : i < 10) : (Instr.index 23 (.agg (boolCells 10 v)) (.int .i64 (i : Nat))).run Try.prog w = .ok (.bool (v i)) w := by
  have hn' : i = 0 ∨ i = 1 ∨ i = 2 ∨ i = 3 ∨ i = 4 ∨ i = 5 ∨ i = 6 ∨ i = 7 ∨ i = 8 ∨ i = 9 := by omega
  rcases hn' with rfl | rfl | rfl | rfl | rfl | rfl | rfl | rfl | rfl | rfl <;> (unfold boolCells; rfl)
/-- A place's cells in memory. -/
abbrev plObj (i : Nat) : Obj := .cells #[.string ⟨#[83]⟩, .int .i64 i, .int .i64 0] 32
abbrev lkObj (k : Nat) : Obj := .cells #[encStr (bk k), .string ⟨#[83]⟩, .int .i64 k, .int .i64 0] 40
theorem mat_ne {w : World} {G bo nn : Nat} {rd : Nat → Nat → Bool} {D : DataW Value} (hm : MatAt w G rd) (h : w.ownsMap Try.prog 9 heldElem bo nn D) : G ≠ bo := by
  intro e
  subst e
  obtain ⟨es, clock, hb, _⟩ := h
  unfold MatAt at hm
  rw [hb] at hm
  cases hm
theorem OwnM.under {w w1 : World} {m0 bo : Nat} {rd : Nat → Nat → Bool} {n nn : Nat} {D : DataW Value} {vs : Nat → Value} (h : OwnM w m0 bo rd n nn D vs) {xs : List Value} {v : Value} {q : Nat} (hx : Rw w 38 5 v q xs) (g1 : w.grownBy w1 v.ownBlock) : w1.ownsMap Try.prog 9 heldElem bo nn D := by
  obtain ⟨es, clock, hb, F⟩ := h.m
  refine ⟨es, clock, ((Upd.refl w (fun k => v.ownBlock = some k)).grown g1 (fun k e => .inr e)).get hb (fun e => ?_), F⟩
  rcases hx.2 with ⟨e1, _⟩ | ⟨gg, off, cap, cur, e1, hg, _⟩
  · rw [e1] at e; cases e
  · rw [e1] at e
    have e2 : gg = bo := Option.some.inj e
    subst e2
    rw [hg] at hb
    cases hb
theorem OwnM.round {w0 w w1 w2 : World} {bo G m ob : Nat} {rd : Nat → Nat → Bool} {n nn : Nat} {D : DataW Value} {vs : Nat → Value} (h : OwnM w w0.heap.size bo rd n nn D vs) (hM : MatAt w G rd) (hU : Upd w0 w (fun _ => False)) {xs : List Value} {va rv lv : Value} {q : Nat} (hA : OAt w m ob n (readsN rd n) (linksN rd n) rv lv) (hq : q = (ownsP rd (n % 3) n).length + 1)
    (hx : Rw w 38 5 (vs (n % 3)) (ownsP rd (n % 3) n).length xs) (hrow : ∀ i o, (ownsP rd (n % 3) n)[i]? = some o → ∃ rv lv, OnRow xs i o rv lv ∧ PcsAt w rv o.reads ∧ LksAt w lv o.links ∧ ∀ k, lv.ownBlock = some k → True)
    (g1 : w.grownBy w1 (vs (n % 3)).ownBlock) (ha : Rw w1 38 5 va q (xs ++ [encStr [83], .int .i64 n, .int .i64 0, rv, lv])) (ho : va.ownBlock = (vs (n % 3)).ownBlock ∨ va.ownBlock = some w.heap.size)
    (hm : w2.ownsMap Try.prog 9 heldElem bo (nn + 1) (D.put (.string (bk n)) (.held va))) (g2 : w1.grownBy w2 (some bo)) :
    OwnM w2 w0.heap.size bo rd (n + 1) (nn + 1) (D.put (.string (bk n)) (.held va)) (fun b => if b = n % 3 then va else vs b) ∧ MatAt w2 G rd ∧ Upd w0 w2 (fun _ => False) := by
  have hn3 : n % 3 < 3 := by omega
  refine ⟨OwnM.put h hq hU.size hx hrow g1 ha ho hA.r hA.l hm g2, ?_, (hU.grown g1 (fun k e => .inl (h.vlo _ hn3 k e))).grown g2 (fun k e => .inl (by have := Option.some.inj e; have := h.lo; omega))⟩
  have m1 : MatAt w1 G rd := block_grown g1 hM (Rw.ne_block hx hM (by decide))
  exact block_grown g2 m1 (fun e => mat_ne hM h.m (Option.some.inj e).symm)
theorem made1 (W : World) (Y : Obj) (cur : Array Value) (e size n : Nat) (hs : cur.size = n * size) : Rw ((W.alloc Y).alloc (.cells cur e)) e size (.slice (some ⟨W.heap.size + 1, 0, none⟩) n n) n cur.toList := by
  have := Rw.made (W.alloc Y) cur e size n hs
  have e1 : (W.alloc Y).heap.size = W.heap.size + 1 := by simp
  rwa [e1] at this
abbrev onObj (n : Nat) (rv lv : Value) : Obj := .cells #[.string ⟨#[83]⟩, .int .i64 n, .int .i64 0, rv, lv] 38
abbrev abcObj : Obj := .cells #[.string ⟨#[65]⟩, .string ⟨#[66]⟩, .string ⟨#[67]⟩] 9 (0, 0)
theorem abc_at {w : World} {sb x : Nat} (h : w.heap[sb]? = some abcObj) (hx : x < 3) : w.cell? ⟨sb, x, none⟩ = some (encStr (bk x)) := by
  have hx' : x = 0 ∨ x = 1 ∨ x = 2 := by omega
  rcases hx' with rfl | rfl | rfl
  · exact cell_at h 0 _ rfl
  · exact cell_at h 1 _ rfl
  · exact cell_at h 2 _ rfl
theorem mapP_free {w : World} {bm n : Nat} {D : DataW Value} (h : w.ownsMap Try.prog 32 heldElem bm n D) (e : TypeId) : Free w (fun k => k = bm) e := by
  intro k cs t hk hb
  subst hk
  obtain ⟨es, clock, hm, _⟩ := h
  rw [hm] at hb
  cases hb
/-- All that stands when the three webs are asked. -/
structure Here (w0 w : World) (G bo nn sb : Nat) (rd : Nat → Nat → Bool) (D : DataW Value) (vs : Nat → Value) : Prop where
  own : OwnM w w0.heap.size bo rd 10 nn D vs
  mat : MatAt w G rd
  abc : w.heap[sb]? = some abcObj
  up : Upd w0 w (fun _ => False)
theorem Here.upd {w0 w w' : World} {G bo nn sb : Nat} {rd : Nat → Nat → Bool} {D : DataW Value} {vs : Nat → Value} (h : Here w0 w G bo nn sb rd D vs) (u : Upd w w' (fun _ => False)) : Here w0 w' G bo nn sb rd D vs :=
  ⟨h.own.upd u, u.get h.mat id, u.get h.abc id, h.up.then u (fun _ _ => id)⟩
theorem Here.told {w0 w w' : World} {G bo nn sb tb nt : Nat} {rd : Nat → Nat → Bool} {D Dt : DataW Value} {vs : Nat → Value} (h : Here w0 w G bo nn sb rd D vs) (ht : w.ownsMap Try.prog 32 heldElem tb nt Dt) (hlo : w0.heap.size ≤ tb) (hne : bo ≠ tb) (u : Upd w w' (fun k => k = tb)) : Here w0 w' G bo nn sb rd D vs := by
  have f := mapP_free ht
  refine ⟨⟨own_upd h.own.m u hne, h.own.le, h.own.lo, h.own.key, fun b hb => ?_, h.own.ap, h.own.vlo⟩, u.get h.mat (fun e => ?_), u.get h.abc (fun e => ?_), h.up.then u (fun i hi e => by omega)⟩
  · obtain ⟨ys, hy, hr⟩ := h.own.os b hb
    exact OnsAt.past ⟨ys, hy, hr⟩ u (fun k hk => Rw.free hy (f _) k hk) (f _) (f _)
  · exact f _ G _ _ e h.mat rfl
  · exact f _ sb _ _ e h.abc rfl
theorem zeroMat (w : World) : (zeroValue 24).run Try.prog w = .ok (.agg (boolCells 100 (fun _ => false))) w := by kernel_rfl

set_option maxHeartbeats 6400000 in
theorem WebWhole_walk (w : World) (v : Value) (h : EgArg w v) :
    Calls Try.prog 3 #[v] w fun e w' => e = .returned (.bool true) ∧ Upd w w' (fun _ => False) := by
  obtain ⟨a, L, cap, rfl, hlc, hcm, hnil, hrow⟩ := h
  obtain ⟨N, hN⟩ : ∃ N, min L 30 = N := ⟨_, rfl⟩
  have hN2 : (min (L : Int) 30) = (N : Int) := by omega
  have n0 : (0 : Int) ≤ (N : Int) := by omega
  have n20 : N ≤ 30 := by omega
  have n1 : (N : Int) ≤ (cap : Int) := by omega
  have HN := hide hN
  have HR := hide hrow
  clear hN hrow
  obtain ⟨iP, hiP, hP0, hP1, hP2⟩ := info_parts Try.info32
  obtain ⟨iL, hiL, hL0, hL1, hL2⟩ := info_parts Try.info40
  obtain ⟨iO, hiO, hO0, hO1, hO2⟩ := info_parts Try.info38
  have hz := zeroMat
  have hmm := @run_makeMap Try.prog
  go_enter Try.func3, Try.ntmps3
  go_wp2_with fail
  obtain ⟨W1, hW1⟩ : ∃ W1, w.alloc (.cells (boolCells 100 (fun _ => false)) 24) = W1 := ⟨_, rfl⟩
  have u1 : Upd w W1 (fun _ => False) := hW1 ▸ (Upd.refl w _).alloc _
  have m1 : MatAt W1 w.heap.size (fun _ _ => false) := by rw [← hW1]; exact new1 w _
  obtain ⟨G, hG⟩ : ∃ G, w.heap.size = G := ⟨_, rfl⟩
  rw [hW1]
  rw [hG] at m1 ⊢
  have hG1 : w.heap.size ≤ G := by omega
  have HU1 := hide u1
  have HM1 := hide m1
  clear hW1 u1 m1 hG
  go_loopg [37] N (fun q iv wr => ∃ (k : Nat) (rd : Nat → Nat → Bool), k + q = N ∧ iv = .int .i64 k ∧ MatAt wr G rd ∧ Upd w wr (fun _ => False))
  case atStart => exact ⟨0, _, by omega, rfl, HM1.out, HU1.out⟩
  case round =>
    obtain ⟨k, rd, hk, rfl, hm, hu⟩ := hrel
    by_cases hkN : k < N
    · obtain ⟨g, off, x, y, rfl, hg, hx, hy, c0, c1⟩ := HR.out k (by have := HN.out; omega)
      have d0 := (hu.cell g _ hg id).trans c0
      have d1 := (hu.cell g _ hg id).trans c1
      obtain ⟨i, hi⟩ : ∃ i, x % 10 = i := ⟨_, rfl⟩
      obtain ⟨j, hj⟩ : ∃ j, y % 10 = j := ⟨_, rfl⟩
      have tx : ((x : Int)).tmod 10 = (i : Int) := by rw [Int.tmod_eq_emod_of_nonneg (by omega)]; omega
      have ty : ((y : Int)).tmod 10 = (j : Int) := by rw [Int.tmod_eq_emod_of_nonneg (by omega)]; omega
      have i10 : i < 10 := by omega
      have j10 : j < 10 := by omega
      have i0 : (0 : Int) ≤ (i : Int) := by omega
      have i1 : (i : Int) < 10 := by omega
      have j0 : (0 : Int) ≤ (j : Int) := by omega
      have j1 : (j : Int) < 10 := by omega
      have wi : IntKind.u8.wrap (i : Int) = (i : Int) := IntWalk.u8_in _ (by omega)
      have wj : IntKind.u8.wrap (j : Int) = (j : Int) := IntWalk.u8_in _ (by omega)
      have hk0 : (0 : Int) ≤ (k : Int) := by omega
      have hk1 : (k : Int) < (N : Int) := by omega
      obtain ⟨W2, hW2⟩ : ∃ W2, wr.alloc (.cells #[.int .u8 x, .int .u8 y] 26) = W2 := ⟨_, rfl⟩
      have hX := new1 wr (.cells #[.int .u8 x, .int .u8 y] 26)
      have hm2 : MatAt W2 G rd := by rw [← hW2]; exact block_alloc hm _
      rw [hW2] at hX
      obtain ⟨x0, x1⟩ := cells2 hX
      have fr := MatAt.free hm2 (i * 10 + j)
      have cc := MatAt.cell hm2 i10 j10
      have u2 : Upd w W2 (fun _ => False) := hW2 ▸ hu.alloc _
      have HM := hide hm2
      have HU := hide u2
      have HW2 := hide hW2
      clear hm hu c0 c1 hi hj hX hm2 u2 hW2
      go_wp2_with fail
      rw [HW2.out]
      go_region
      go_wp2_with fail
      go_roundg (gk - 1)
      case measure => omega
      case rel => exact ⟨k + 1, _, by omega, by go_num, (HM.out.set j10).drew, (HU.out.setCell _ _ (.inl hG1)).drew⟩
    · obtain ⟨bo, hbo⟩ : ∃ bo, wr.heap.size = bo := ⟨_, rfl⟩
      obtain ⟨W2, hW2⟩ : ∃ W2, wr.alloc (.map #[] 0) = W2 := ⟨_, rfl⟩
      have hG2 : w.heap.size ≤ bo := by rw [← hbo]; exact hu.size
      have ow2 : OwnM W2 w.heap.size bo rd 0 0 (.map []) (fun _ => .slice none 0 0) := by
        refine OwnM.start W2 _ _ rd ?_ hG2
        have m0 := World.ownsMap_made wr Try.prog 9 heldElem
        rw [hW2, hbo] at m0
        exact m0
      have hm2 : MatAt W2 G rd := by rw [← hW2]; exact block_alloc hm _
      have u2 : Upd w W2 (fun _ => False) := hW2 ▸ hu.alloc _
      have HO2 := hide ow2
      have HM2 := hide hm2
      have HU2 := hide u2
      have HW2 := hide hW2
      clear hm hu ow2 hm2 u2 hW2
      obtain ⟨T, hT⟩ : ∃ N : Nat, 10 = N := ⟨_, rfl⟩
      have HT := hide hT
      clear hT
      go_wp2_with fail
      rw [HW2.out]
      go_loopg [52] T (fun q nv wr => ∃ (n nn : Nat) (D : DataW Value) (vs : Nat → Value), n + q = T ∧ nv = .int .i64 n ∧ OwnM wr w.heap.size bo rd n nn D vs ∧ MatAt wr G rd ∧ Upd w wr (fun _ => False))
      case atStart => exact ⟨0, 0, _, _, by omega, rfl, HO2.out, HM2.out, HU2.out⟩
      case round =>
        obtain ⟨n, nn, D, vs, hn, rfl, ho, hm, hu⟩ := hrel
        obtain ⟨gn, hgn⟩ : ∃ o, gk = o := ⟨_, rfl⟩
        rw [hgn] at hn
        obtain ⟨wn, rfl⟩ : ∃ wn, wn = wr := ⟨_, rfl⟩
        by_cases hn10 : n < 10
        · have gn1 : 1 ≤ gn := by have := HT.out; omega
          have hn0 : (0 : Int) ≤ (n : Int) := by omega
          have hn1 : (n : Int) < 10 := by omega
          have hn2 : decide ((n : Int) < 10) = true := by simpa using hn1
          have hwrap : IntKind.u8.wrap (n : Int) = (n : Int) := IntWalk.u8_in _ (by omega)
          have CE := cell_any wn n hn10
          have HO := hide ho
          have HM := hide hm
          have HU := hide hu
          have HCE := hide CE
          clear ho hm hu CE
          go_wp2_with (go_at_call 7; refine Calls.mono HCE.out ?_; rintro e w5 ⟨rfl, u5⟩)
          obtain ⟨W7, hW7⟩ : ∃ W7, ((w5.alloc (.cells #[.string ⟨#[83]⟩, .int .i64 n, .int .i64 0] 32)).alloc (.cells #[.string ⟨#[83]⟩, .int .i64 n, .int .i64 0, .slice none 0 0, .slice none 0 0] 38)) = W7 := ⟨_, rfl⟩
          have u7 : Upd wn W7 (fun _ => False) := hW7 ▸ (u5.alloc _).alloc _
          have b7 : W7.heap[w5.heap.size + 1]? = some (.cells #[.string ⟨#[83]⟩, .int .i64 n, .int .i64 0, .slice none 0 0, .slice none 0 0] 38 (0, 0)) := hW7 ▸ new2 w5 _ _
          rw [hW7]
          refine Calls.mono (local_any W7 G rd (u7.get HM.out id) n hn10) ?_
          rintro e w8 ⟨rfl, u8⟩
          obtain ⟨ob, hob⟩ : ∃ ob, w5.heap.size + 1 = ob := ⟨_, rfl⟩
          obtain ⟨pb, hpb⟩ : ∃ pb, w5.heap.size = pb := ⟨_, rfl⟩
          have u9 : Upd wn w8 (fun _ => False) := u7.then u8 (fun _ _ => id)
          have oa : OAt w8 wn.heap.size ob n (readsP rd n 0) (linksP rd n 0) (.slice none 0 0) (.slice none 0 0) := ⟨by rw [← hob]; exact u8.get b7 id, by have := u5.size; omega, Rw.nil _ _ _, Rw.nil _ _ _, fun k hk => (by cases hk), fun k hk => (by cases hk)⟩
          have HA := hide oa
          have HU9 := hide u9
          rw [hpb] at hob ⊢
          rw [hob]
          clear hW7 u7 b7 u5 u8 oa u9 hob hpb
          go_wp2_with fail
          go_loopg [66] T (fun q iv wi => ∃ (i : Nat) (rv lv : Value), i + q = T ∧ iv = .int .i64 i ∧ OAt wi wn.heap.size ob n (readsP rd n i) (linksP rd n i) rv lv ∧ Upd wn wi (fun _ => False))
          case atStart => exact ⟨0, _, _, by omega, rfl, HA.out, HU9.out⟩
          case round =>
            obtain ⟨i, rv, lv, hi, rfl, ha, hu⟩ := hrel
            obtain ⟨gi, hgi⟩ : ∃ o, gk = o := ⟨_, rfl⟩
            rw [hgi] at hi
            obtain ⟨wi, rfl⟩ : ∃ wi, wi = wr := ⟨_, rfl⟩
            by_cases hi10 : i < 10
            · have gi1 : 1 ≤ gi := by have := HT.out; omega
              have hi0 : (0 : Int) ≤ (i : Int) := by omega
              have hi1 : (i : Int) < 10 := by omega
              have hi2 : decide ((i : Int) < 10) = true := by simpa using hi1
              have hwi : IntKind.u8.wrap (i : Int) = (i : Int) := IntWalk.u8_in _ (by omega)
              have CE := cell_any wi i hi10
              have hix := index_bool wi (locV rd n) hi10
              have HA2 := hide ha
              have HU3 := hide hu
              have HCE2 := hide CE
              clear ha hu CE
              cases hl : locV rd n i with
              | false =>
                rw [hl] at hix
                have HL := hide hl
                clear hl
                go_wp2_with fail
                go_roundg (gi - 1)
                case measure => omega
                case rel => exact ⟨i + 1, rv, lv, by omega, by go_num, by rw [readsP_no HL.out, linksP_no HL.out]; exact HA2.out, HU3.out⟩
              | true =>
                rw [hl] at hix
                have HL := hide hl
                clear hl
                have hrl := readsP_len rd n i
                obtain ⟨ra, rc, rfl, -⟩ := Rw.form HA2.out.r
                go_wp2_with (first
                  | (go_at_call 7; refine Calls.mono HCE2.out ?_; rintro e w10 ⟨rfl, u10⟩
                     have hoa : OAt ((w10.alloc (plObj i)).alloc (plObj i)) wn.heap.size ob n (readsP rd n i) (linksP rd n i) (.slice ra (readsP rd n i).length rc) lv := HA2.out.upd ((u10.alloc _).alloc _)
                     have hua : Upd wn ((w10.alloc (plObj i)).alloc (plObj i)) (fun _ => False) := HU3.out.then ((u10.alloc _).alloc _) (fun _ _ => id)
                     have c10 := u10.get HA2.out.c id
                     have ol := lt_at c10
                     have o3 := cell_at c10 3 _ rfl
                     have HOA := hide hoa
                     have HUA := hide hua
                     clear hoa hua c10)
                  | (at_builtin; go_loud (refine wpList_append_rw _ rfl _ _ 35 35 rfl 32 _ iP _ 3 32 Try.underlying35 Try.underlying35 (by simp) hiP hP0 hP1 hP2 rfl _ _ _ rfl HOA.out.r _ 1 [.string ⟨#[83]⟩, .int .i64 i, .int .i64 0] rfl (Rw.src (made1 w10 (plObj i) #[.string ⟨#[83]⟩, .int .i64 i, .int .i64 0] _ 3 1 rfl)) rfl (by simp [Value.oneCell']) (by omega) (by omega) ?_)
                     intro ga gc w11 hv' hg hob'
                     obtain ⟨hoa2, hu2⟩ := OAt.read (p := pcN i) HOA.out rfl HUA.out rfl hg hv' hob'
                     have c11 := block_grown hg HOA.out.c (Rw.ne_block HOA.out.r HOA.out.c (by decide))
                     have g3 := cell_at c11 3 _ rfl
                     have gf := free_at c11 3
                     have HOB := hide hoa2
                     have HUB := hide hu2
                     clear hoa2 hu2 c11 hv' hg hob'))
                go_loopg [84] T (fun q kv wk => ∃ (k : Nat) (rv lv : Value), k + q = T ∧ kv = .int .i64 k ∧ OAt wk wn.heap.size ob n (readsP rd n (i + 1)) (linksP rd n i ++ rowP rd i k) rv lv ∧ Upd wn wk (fun _ => False))
                case atStart => exact ⟨0, _, _, by omega, rfl, by rw [readsP_yes HL.out]; simpa [rowP] using HOB.out, HUB.out⟩
                case round =>
                  obtain ⟨k, rv, lv, hk, rfl, ha, hu⟩ := hrel
                  obtain ⟨wk, rfl⟩ : ∃ wk, wk = wr := ⟨_, rfl⟩
                  by_cases hk10 : k < 10
                  · have gk1 : 1 ≤ gk := by have := HT.out; omega
                    have hk0 : (0 : Int) ≤ (k : Int) := by omega
                    have hk1 : (k : Int) < 10 := by omega
                    have hk2 : decide ((k : Int) < 10) = true := by simpa using hk1
                    have hwk : IntKind.u8.wrap (k : Int) = (k : Int) := IntWalk.u8_in _ (by omega)
                    have cm := MatAt.cell (show MatAt wk G rd from hu.get HM.out id) hi10 hk10
                    have HA4 := hide ha
                    have HU4 := hide hu
                    clear ha hu
                    cases hrd : rd i k with
                    | false =>
                      rw [hrd] at cm
                      have HR4 := hide hrd
                      clear hrd
                      go_wp2_with fail
                      go_roundg (gk - 1)
                      case measure => omega
                      case rel => exact ⟨k + 1, rv, lv, by omega, by go_num, by rw [rowP_no (.inl HR4.out)]; exact HA4.out, HU4.out⟩
                    | true =>
                      rw [hrd] at cm
                      have HR4 := hide hrd
                      clear hrd
                      obtain ⟨ri, hri⟩ : ∃ ri, i % 3 = ri := ⟨_, rfl⟩
                      obtain ⟨rk, hrk⟩ : ∃ rk, k % 3 = rk := ⟨_, rfl⟩
                      have tm1 := tmod3 i
                      have tm2 := tmod3 k
                      rw [hri] at tm1
                      rw [hrk] at tm2
                      by_cases hs : ri = rk
                      · subst hs
                        have HS := hide (hri.trans hrk.symm)
                        clear hri hrk
                        go_wp2_with fail
                        go_roundg (gk - 1)
                        case measure => omega
                        case rel => exact ⟨k + 1, rv, lv, by omega, by go_num, by rw [rowP_no (.inr HS.out)]; exact HA4.out, HU4.out⟩
                      · have hd : ((ri : Int) == (rk : Int)) = false := by simp; omega
                        have hd' : ¬ (ri : Int) = (rk : Int) := by omega
                        have hd3 : decide ((ri : Int) = (rk : Int)) = false := by simpa using hd'
                        have HS : Hid (i % 3 ≠ k % 3) := hide (by rw [hri, hrk]; exact hs)
                        have CE := cell_any wk k hk10
                        have HCE4 := hide CE
                        obtain ⟨ls, hls⟩ : ∃ ls, linksP rd n i ++ rowP rd i k = ls := ⟨_, rfl⟩
                        have hll : ls.length ≤ 100 := by
                          have q1 := linksP_len rd n i
                          have q2 := rowP_len rd i k
                          rw [← hls, List.length_append]
                          omega
                        have hnx : linksP rd n i ++ rowP rd i (k + 1) = ls ++ [lkN k] := by rw [rowP_yes HR4.out HS.out, ← List.append_assoc, hls]
                        have ha := HA4.out
                        rw [hls] at ha
                        have HA5 := hide ha
                        have HNX := hide hnx
                        obtain ⟨la, lc, rfl, -⟩ := Rw.form ha.l
                        clear hri hrk hs CE hls ha hnx HA4
                        go_wp2_with (first
                          | (go_at_call 7; refine Calls.mono HCE4.out ?_; rintro e w12 ⟨rfl, u12⟩
                             have hoa : OAt ((w12.alloc (plObj k)).alloc (lkObj k)) wn.heap.size ob n (readsP rd n (i + 1)) ls rv (.slice la ls.length lc) := HA5.out.upd ((u12.alloc _).alloc _)
                             have hua : Upd wn ((w12.alloc (plObj k)).alloc (lkObj k)) (fun _ => False) := HU4.out.then ((u12.alloc _).alloc _) (fun _ _ => id)
                             have c12 := u12.get HA5.out.c id
                             have ol := lt_at c12
                             have o4 := cell_at c12 4 _ rfl
                             have HOA4 := hide hoa
                             have HUA4 := hide hua
                             clear hoa hua c12)
                          | (at_builtin; go_loud (refine wpList_append_rw _ rfl _ _ 36 36 rfl 40 _ iL _ 4 48 Try.underlying36 Try.underlying36 (by simp) hiL hL0 hL1 hL2 rfl _ _ _ rfl HOA4.out.l _ 1 [encStr (bk k), .string ⟨#[83]⟩, .int .i64 k, .int .i64 0] rfl (Rw.src (made1 w12 (plObj k) #[encStr (bk k), .string ⟨#[83]⟩, .int .i64 k, .int .i64 0] _ 4 1 rfl)) rfl (by simp [Value.oneCell']) (by omega) (by omega) ?_)
                             intro ga gc w13 hv' hg hob'
                             obtain ⟨hoa2, hu2⟩ := OAt.link (p := lkN k) HOA4.out rfl HUA4.out rfl hg hv' hob'
                             have c13 := block_grown hg HOA4.out.c (Rw.ne_block HOA4.out.l HOA4.out.c (by decide))
                             have g4 := cell_at c13 4 _ rfl
                             have gf := free_at c13 4
                             have HOB4 := hide hoa2
                             have HUB4 := hide hu2
                             clear hoa2 hu2 c13 hv' hg hob'))
                        go_roundg (gk - 1)
                        case measure => omega
                        case rel => exact ⟨k + 1, _, _, by omega, by go_num, by rw [HNX.out]; exact HOB4.out, HUB4.out⟩
                  · have hk1 : ¬ (k : Int) < 10 := by omega
                    have hk2 : decide ((k : Int) < 10) = false := by simpa using hk1
                    have e0 : k = 10 := by have := HT.out; omega
                    have HA4 := hide ha
                    have HU4 := hide hu
                    clear ha hu
                    go_wp2_with fail
                    go_roundg (gi - 1)
                    case measure => omega
                    case rel => exact ⟨i + 1, rv, lv, by omega, by go_num, by rw [linksP_yes HL.out]; rw [← e0]; exact HA4.out, HU4.out⟩
            · have hi1 : ¬ (i : Int) < 10 := by omega
              have hi2 : decide ((i : Int) < 10) = false := by simpa using hi1
              have ei : i = 10 := by have := HT.out; omega
              rw [ei] at ha
              replace ha : OAt wi wn.heap.size ob n (readsN rd n) (linksN rd n) rv lv := ha
              have how := HO.out.upd hu
              have hn3 : n % 3 < 3 := by omega
              obtain ⟨xs, hx, hrow⟩ := how.os (n % 3) hn3
              have hkey := how.key (n % 3) hn3
              have hos := ownsP_len rd (n % 3) n
              have hle := how.le
              rw [bk_mod] at hkey
              obtain ⟨v0, hv0⟩ : ∃ v0, vs (n % 3) = v0 := ⟨_, rfl⟩
              rw [hv0] at hx hkey
              obtain ⟨os, hose⟩ : ∃ os, ownsP rd (n % 3) n = os := ⟨_, rfl⟩
              rw [hose] at hx hos hrow
              obtain ⟨sa, sc, rfl, -⟩ := Rw.form hx
              obtain ⟨ra, rc, rfl, -⟩ := Rw.form ha.r
              obtain ⟨la, lc, rfl, -⟩ := Rw.form ha.l
              have hlk := look_held how.m strK Try.underlying27 (zeroOwns _) (bk_key n) hkey
              obtain ⟨z0, z1, z2, z3, z4⟩ := cells5 ha.c
              have ol := lt_at ha.c
              have uo : Upd wi (wi.alloc (onObj n (.slice ra (readsN rd n).length rc) (.slice la (linksN rd n).length lc))) (fun _ => False) := (Upd.refl wi _).alloc _
              have HOW := hide (how.upd uo)
              have HAW := hide (ha.upd uo)
              have HXW := hide (uo.rw hx (fun _ _ => id))
              have HRW := hide hrow
              have HUW := hide ((HU.out.then hu (fun _ _ => id)).then uo (fun _ _ => id))
              have HMW := hide (uo.get (hu.get HM.out id) id)
              have HV0 := hide hv0
              have HOS := hide hose
              have HUO := hide uo
              clear ha how hx hrow hu uo hv0 hose hkey
              go_wp2_with (first
                | (at_builtin; go_loud (refine wpList_append_rw _ rfl _ _ 41 41 rfl 38 _ iO _ 5 80 Try.underlying41 Try.underlying41 (by simp) hiO hO0 hO1 hO2 rfl _ _ _ rfl HXW.out _ 1 [.string ⟨#[83]⟩, .int .i64 n, .int .i64 0, .slice ra (readsN rd n).length rc, .slice la (linksN rd n).length lc] rfl (Rw.src (Rw.made wi #[.string ⟨#[83]⟩, .int .i64 n, .int .i64 0, .slice ra (readsN rd n).length rc, .slice la (linksN rd n).length lc] _ 5 1 rfl)) rfl (by simp [Value.oneCell']) (by omega) (by omega) ?_)
                   intro ga gc w1 hv' hg hob'
                   have hm1 := OwnM.under HOW.out HXW.out hg
                   have HV1 := hide hv'
                   have HG1 := hide hg
                   have HB1 := hide hob'
                   clear hv' hg hob')
                | (at_mapUpdate; go_loud (refine wpList_mapUpdate_own _ rfl _ _ _ 27 rfl 9 41 strK Try.underlying27 heldElem bo nn D rfl hm1 (by unfold maxLen; omega) _ _ _ rfl rfl (bk_key n) (.held _) [] rfl ?_)
                   intro w2 hown2 hg2))
              go_roundg (gn - 1)
              case measure => omega
              case rel =>
                obtain ⟨r1, r2, r3⟩ := OwnM.round (va := .slice ga (os.length + 1) gc) (q := os.length + 1) HOW.out HMW.out HUW.out HAW.out (by rw [HOS.out]) (by rw [HV0.out, HOS.out]; exact HXW.out) (by
                  rw [HOS.out]
                  intro i o ho
                  obtain ⟨rv, lv, q1, q2, q3, q4⟩ := HRW.out i o ho
                  exact ⟨rv, lv, q1, HUO.out.rw q2 (fun _ _ => id), HUO.out.rw q3 (fun _ _ => id), q4⟩) (by rw [HV0.out]; exact HG1.out) HV1.out (by rw [HV0.out]; exact HB1.out) hown2 hg2
                exact ⟨n + 1, nn + 1, _, _, by omega, by go_num, r1, r2, r3⟩
        · have hn1 : ¬ (n : Int) < 10 := by omega
          have hn2 : decide ((n : Int) < 10) = false := by simpa using hn1
          have en : n = 10 := by have := HT.out; omega
          rw [en] at ho
          have HO := hide ho
          have HM := hide hm
          have HU := hide hu
          clear ho hm hu
          go_wp2_with fail
          obtain ⟨tb, htb⟩ : ∃ tb, wn.heap.size = tb := ⟨_, rfl⟩
          obtain ⟨W3, hW3⟩ : ∃ W3, (wn.alloc (.map #[] 0)).alloc abcObj = W3 := ⟨_, rfl⟩
          have u3 : Upd wn W3 (fun _ => False) := hW3 ▸ ((Upd.refl wn _).alloc _).alloc _
          have hlt : bo < tb := by rw [← htb]; exact HO.out.m.lt
          have hlo : w.heap.size ≤ tb := by rw [← htb]; exact HU.out.size
          have h3 : Here w W3 G bo nn (tb + 1) rd D vs := ⟨HO.out.upd u3, u3.get HM.out id, by rw [← hW3, ← htb]; exact new2 wn _ _, HU.out.then u3 (fun _ _ => id)⟩
          have ht3 : W3.ownsMap Try.prog 32 heldElem tb 0 (.map []) := by rw [← hW3, ← htb]; exact (World.ownsMap_made wn Try.prog 32 heldElem).alloc _
          obtain ⟨T3, hT3⟩ : ∃ N : Nat, 3 = N := ⟨_, rfl⟩
          obtain ⟨sb, hsb⟩ : ∃ sb, tb + 1 = sb := ⟨_, rfl⟩
          rw [hW3, htb, hsb]
          rw [hsb] at h3
          have HH3 := hide h3
          have HT3 := hide ht3
          have HN3 := hide hT3
          clear hW3 htb hsb u3 h3 ht3 hT3
          go_loopg [130] T3 (fun q xv wx => ∃ (x nt : Nat) (Dt : DataW Value), x + q = T3 ∧ xv = .int .i64 x ∧ nt ≤ 10 * x ∧ wx.ownsMap Try.prog 32 heldElem tb nt Dt ∧ TelV rd x [] Dt ∧ Here w wx G bo nn sb rd D vs)
          case atStart => exact ⟨0, 0, _, by omega, rfl, by omega, HT3.out, TelV.start rd, HH3.out⟩
          case round =>
            obtain ⟨x, nt, Dt, hx, rfl, hnt, ht, htv, hh⟩ := hrel
            obtain ⟨gx, hgx⟩ : ∃ o, gk = o := ⟨_, rfl⟩
            rw [hgx] at hx
            obtain ⟨wx, rfl⟩ : ∃ wx, wx = wr := ⟨_, rfl⟩
            by_cases hx3 : x < 3
            · have gx1 : 1 ≤ gx := by have := HN3.out; omega
              have hx0 : (0 : Int) ≤ (x : Int) := by omega
              have hx1 : (x : Int) < 3 := by omega
              have hx2 : decide ((x : Int) < 3) = true := by simpa using hx1
              have cx := abc_at hh.abc hx3
              have sl := lt_at hh.abc
              have HNW := hide (New_any wx)
              have HH := hide hh
              have HTM := hide ht
              have HTV := hide htv
              clear hh ht htv
              go_wp2_with (go_at_call 8; refine Calls.mono HNW.out ?_; rintro e w20 ⟨rfl, hw20, u20⟩; have HW20 := hide hw20; have HU20 := hide u20; clear hw20 u20)
              obtain ⟨W21, hW21⟩ : ∃ W21, w20.alloc abcObj = W21 := ⟨_, rfl⟩
              obtain ⟨sb2, hsb2⟩ : ∃ sb2, w20.heap.size = sb2 := ⟨_, rfl⟩
              obtain ⟨wb, hwb⟩ : ∃ wb, wx.heap.size + 1 = wb := ⟨_, rfl⟩
              obtain ⟨bm, hbm⟩ : ∃ bm, wx.heap.size = bm := ⟨_, rfl⟩
              have ub : Upd w20 W21 (fun _ => False) := hW21 ▸ (Upd.refl w20 _).alloc _
              have u21 : Upd wx W21 (fun _ => False) := HU20.out.then ub (fun _ _ => id)
              have w21 : WebAt W21 wb bm 0 (.map []) := by rw [← hwb, ← hbm]; exact HW20.out.upd ub id id
              have a21 : W21.heap[sb2]? = some abcObj := by rw [← hW21, ← hsb2]; exact new1 w20 _
              rw [hW21, hsb2, hwb]
              have HU21 := hide u21
              have HW21 := hide w21
              have HA21 := hide a21
              have HBM := hide hbm
              clear hW21 hsb2 hwb hbm ub u21 w21 a21
              go_loopg [137] T3 (fun q yv wy => ∃ (y nw : Nat) (Dw : DataW Value), y + q = T3 ∧ yv = .int .i64 y ∧ nw ≤ y ∧ WebAt wy wb bm nw Dw ∧ KnV wy (fun _ => True) Dw (FNp rd x y) ∧ wy.heap[sb2]? = some abcObj ∧ Upd wx wy (fun _ => False))
              case atStart => exact ⟨0, 0, _, by omega, rfl, by omega, HW21.out, by rw [FNp_zero]; exact KnV.empty _ _, HA21.out, HU21.out⟩
              case round =>
                obtain ⟨y, nw, Dw, hy, rfl, hnw, hweb, hkn, habc, hu⟩ := hrel
                obtain ⟨gy, hgy⟩ : ∃ o, gk = o := ⟨_, rfl⟩
                rw [hgy] at hy
                obtain ⟨wy, rfl⟩ : ∃ wy, wy = wr := ⟨_, rfl⟩
                by_cases hy3 : y < 3
                · have gy1 : 1 ≤ gy := by have := HN3.out; omega
                  have hy0 : (0 : Int) ≤ (y : Int) := by omega
                  have hy1 : (y : Int) < 3 := by omega
                  have hy2 : decide ((y : Int) < 3) = true := by simpa using hy1
                  have cy := abc_at habc hy3
                  have sl2 := lt_at habc
                  have hh := HH.out.upd hu
                  have hkey := hh.own.key y hy3
                  obtain ⟨v0, hv0⟩ : ∃ v0, vs y = v0 := ⟨_, rfl⟩
                  obtain ⟨os, hos⟩ : ∃ os, ownsN rd y = os := ⟨_, rfl⟩
                  have hons : OnsAt wy (fun _ => True) (vs y) (ownsN rd y) := hh.own.os y hy3
                  rw [hv0] at hkey hons
                  rw [hos] at hons
                  have hol : os.length ≤ 10 := by rw [← hos]; exact ownsN_len rd y
                  obtain ⟨xs, hxs, hrows⟩ := hons
                  obtain ⟨sa, sc, rfl, -⟩ := Rw.form hxs
                  have hlk := look_held hh.own.m strK Try.underlying27 (zeroOwns _) (bk_key y) hkey
                  obtain ⟨M, hM⟩ : ∃ M, os.length = M := ⟨_, rfl⟩
                  rw [hM] at hol hxs hlk hkey
                  have HHY := hide hh
                  have HKY := hide hkey
                  have HV0 := hide hv0
                  have HOS := hide hos
                  have HXS := hide hxs
                  have HRS := hide hrows
                  have HLM := hide hM
                  have HWB := hide hweb
                  have HKN := hide hkn
                  have HAB := hide habc
                  have HUY := hide hu
                  clear hh hkey hv0 hos hxs hrows hM hweb hkn habc hu
                  go_wp2_with fail
                  go_loopg [25, 145] M (fun q va jv wj => ∃ j : Nat, j + q = M ∧ jv = .int .i64 j ∧ Rw wj 32 3 va j (pcCells ((os.take j).map On.p)) ∧ (∀ k, va.ownBlock = some k → wy.heap.size ≤ k) ∧ Upd wy wj (fun _ => False))
                  case atStart => exact ⟨0, by omega, rfl, Rw.nil _ _ _, fun k hk => (by cases hk), Upd.refl _ _⟩
                  case round =>
                    obtain ⟨j, hj, rfl, hra, hva, hu⟩ := hrel
                    obtain ⟨wj, rfl⟩ : ∃ wj, wj = wr := ⟨_, rfl⟩
                    obtain ⟨va, vc, rfl, -⟩ := Rw.form hra
                    by_cases hjM : j < M
                    · obtain ⟨o, hoj⟩ : ∃ o, os[j]? = some o := ⟨_, List.getElem?_eq_getElem (by rw [HLM.out]; exact hjM)⟩
                      obtain ⟨rv, lv, q1, q2, q3, q4⟩ := HRS.out j o hoj
                      obtain ⟨ra, rc, rfl, -⟩ := Rw.form q2
                      obtain ⟨la, lc, rfl, -⟩ := Rw.form q3
                      obtain ⟨g, off, rfl, hg, d0, d1, d2, d3, d4⟩ := on_at (hu.rw HXS.out (fun _ _ => id)) j o _ _ q1 hjM
                      have hsn : (os.take (j + 1)).map On.p = (os.take j).map On.p ++ [o.p] := by simp [List.take_add_one, hoj]
                      obtain ⟨⟨ps, pc, pr⟩, ords, ols⟩ := o
                      simp only at d0 d1 d2 d3 d4
                      have hj0 : (0 : Int) ≤ (j : Int) := by omega
                      have hj1 : (j : Int) < (M : Int) := by omega
                      have uo : Upd wj ((wj.alloc (.cells #[encStr ps, .int .i64 pc, .int .i64 pr, .slice ra ords.length rc, .slice la ols.length lc] 38)).alloc (.cells #[encStr ps, .int .i64 pc, .int .i64 pr] 32)) (fun _ => False) := ((Upd.refl wj _).alloc _).alloc _
                      have HRA := hide (uo.rw hra (fun _ _ => id))
                      have HVA := hide hva
                      have HUJ := hide (hu.then uo (fun _ _ => id))
                      have HSN := hide hsn
                      clear hra hva hu uo hsn q1 q2 q3 q4 hoj
                      go_wp2_with (at_builtin; go_loud (refine wpList_append_rw _ rfl _ _ 35 35 rfl 32 _ iP _ 3 32 Try.underlying35 Try.underlying35 (by simp) hiP hP0 hP1 hP2 rfl _ _ _ rfl HRA.out _ 1 [encStr ps, .int .i64 pc, .int .i64 pr] rfl (Rw.src (made1 wj (.cells #[encStr ps, .int .i64 pc, .int .i64 pr, .slice ra ords.length rc, .slice la ols.length lc] 38) #[encStr ps, .int .i64 pc, .int .i64 pr] _ 3 1 rfl)) rfl (by simp [Value.oneCell']) (by omega) (by omega) ?_)
                                   intro ga gc w23 hv' hg' hob'
                                   have HV1 := hide hv'
                                   have HG1 := hide hg'
                                   have HB1 := hide hob'
                                   clear hv' hg' hob')
                      go_roundg (gk - 1)
                      case measure => omega
                      case rel =>
                        refine ⟨j + 1, by omega, by go_num, ?_, own_at HUJ.out.size HVA.out HB1.out, HUJ.out.grown HG1.out (fun k e => .inl (HVA.out k e))⟩
                        rw [HSN.out, pcCells_app]
                        simpa [pcCells, Pc.cells] using HV1.out
                    · have ej : j = M := by omega
                      have hsm : (os.take j).map On.p = somes rd y M := by rw [ej, somes, HOS.out]
                      rw [hsm, ej] at hra
                      have hsl : (somes rd y M).length = M := by simp [somes, HOS.out, HLM.out]
                      have hh := HHY.out.upd hu
                      have hkey := HKY.out
                      have hlk := look_held hh.own.m strK Try.underlying27 (zeroOwns _) (bk_key y) hkey
                      have hj2 : ¬ (j : Int) < (M : Int) := by omega
                      have HRA := hide hra
                      have HUJ := hide hu
                      have HSL := hide hsl
                      rw [ej] at hj2 ⊢
                      clear hra hva hu hsm hsl hh hkey
                      by_cases hxy : y = x
                      · subst hxy
                        go_wp2_with fail
                        go_roundg (gy - 1)
                        case measure => omega
                        case rel => exact ⟨y + 1, nw, Dw, by omega, by go_num, by omega, HWB.out.upd HUJ.out id id, by rw [FNp_self rd y hx3]; exact HKN.out.upd HUJ.out (fun _ _ => id), HUJ.out.get HAB.out id, HUY.out.then HUJ.out (fun _ _ => id)⟩
                      · have hne : ¬ bk y = bk x := fun e => by have := bk_inj.1 e; omega
                        have HXY := hide hxy
                        have hons : OnsAt wj (fun _ => True) (.slice sa M sc) (ownsN rd y) := by
                          have := (HHY.out.upd HUJ.out).own.os y hy3
                          rw [HV0.out] at this
                          have e1 : (Value.slice sa os.length sc) = .slice sa M sc := by rw [HLM.out]
                          rw [← e1]
                          exact this
                        have hps : PcsAt wj (.slice va M vc) (somes rd y M) := by
                          unfold PcsAt
                          rw [HSL.out]
                          exact HRA.out
                        have SM := Summary_any wj (fun _ => True) (.slice sa M sc) (.slice va M vc) (ownsN rd y) (somes rd y M) hons hps (by rw [HOS.out]; have := HLM.out; omega) (by rw [HSL.out]; omega) sums_small
                        rw [HSL.out, sums_N rd y M (by rw [HOS.out, HLM.out]; omega)] at SM
                        have HSM := hide SM
                        have hsb : sb2 ≠ bm := fun e => map_free HWB.out.m _ sb2 _ _ e HAB.out rfl
                        have HSB := hide hsb
                        clear SM hons hps hxy hsb
                        go_wp2_with (first
                          | (go_at_call 10; refine Calls.mono HSM.out ?_; rintro e w30 ⟨ea, ec, rfl, hes, u30⟩
                             have LB := Learn_both w30 wb bm nw Dw (FNp rd x y) ((HWB.out.upd HUJ.out id id).upd u30 id id) ((HKN.out.upd HUJ.out (fun _ _ => id)).upd u30 (fun _ _ => id)) (by omega) (bk y) (bk_len y) 1 ea M ec ((ownsN rd y).map edN) (hes.weaken (fun _ _ _ => trivial)) ⟨(edN_ok rd y).1, fun e he => ((edN_ok rd y).2 e he).1⟩
                             rw [counts_not hy3] at LB
                             have HLB := hide LB
                             have HU30 := hide u30
                             clear LB u30 hes)
                          | (go_at_call 9; refine Calls.mono HLB.out ?_; rintro e w31 ⟨rfl, n', D', hn', hw', hk', u31⟩))
                        go_roundg (gy - 1)
                        case measure => omega
                        case rel => exact ⟨y + 1, n', D', by omega, by go_num, by omega, hw', by rw [← FNp_next rd x y hy3 (fun e => HXY.out e.symm)]; exact hk', u31.get (HU30.out.get (HUJ.out.get HAB.out id) id) HSB.out, ((HUY.out.then HUJ.out (fun _ _ => id)).then HU30.out (fun _ _ => id)).then u31 (fun i hi e => by have := HBM.out; omega)⟩
                · have hy1 : ¬ (y : Int) < 3 := by omega
                  have hy2 : decide ((y : Int) < 3) = false := by simpa using hy1
                  have ey : y = 3 := by have := HN3.out; omega
                  rw [ey, FNp_all] at hkn
                  have hh := HH.out.upd hu
                  have hkey := hh.own.key x hx3
                  have hons : OnsAt wy (fun _ => True) (vs x) (ownsN rd x) := hh.own.os x hx3
                  obtain ⟨v0, hv0⟩ : ∃ v0, vs x = v0 := ⟨_, rfl⟩
                  rw [hv0] at hkey hons
                  have hlk := look_held hh.own.m strK Try.underlying27 (zeroOwns _) (bk_key x) hkey
                  have CY := Cycles_any wy (FN rd x) (ownsN rd x) (bk x) (wayN_ok rd x) wb bm nw Dw (fun _ => True) (fun k => k < wy.heap.size) (fun _ h => h) v0 hweb hkn hons.now 10 (by omega) (rfN rd) (rfN_goes rd x)
                  obtain ⟨L0, hL0⟩ : ∃ L0, cycN rd x = L0 := ⟨_, rfl⟩
                  have hL1 : cyc (rfN rd) [] (ownsN rd x) = L0 := hL0
                  have hCl : L0.length ≤ 10 := by rw [← hL0]; exact cycN_len rd x
                  rw [hL1] at CY
                  obtain ⟨C, hC⟩ : ∃ C, L0.length = C := ⟨_, rfl⟩
                  rw [hC] at CY hCl
                  obtain ⟨va, vc, rfl, -⟩ : ∃ (va : Option Addr) (vc : Nat), v0 = .slice va (ownsN rd x).length vc ∧ True := by
                    obtain ⟨ys, hys, _⟩ := hons
                    obtain ⟨a1, c1, e1, _⟩ := Rw.form hys
                    exact ⟨a1, c1, e1, trivial⟩
                  have HHC := hide hh
                  have HCY := hide CY
                  have HL0 := hide hL0
                  have HC := hide hC
                  have HTC := hide (own_upd HTM.out hu id)
                  clear hh CY hL0 hL1 hC hons hkn hweb habc hu hv0 hkey
                  go_wp2_with (go_at_call 11; refine Calls.mono HCY.out ?_; rintro e w40 ⟨ca, cc, rfl, hps, u40⟩; have HPS := hide hps; have HU40 := hide u40; clear hps u40)
                  go_loopg [177] C (fun q jv wj => ∃ (j nt' : Nat) (Dt' : DataW Value), j + q = C ∧ jv = .int .i64 j ∧ nt' ≤ nt + j ∧ wj.ownsMap Try.prog 32 heldElem tb nt' Dt' ∧ TelV rd x (L0.take j) Dt' ∧ Upd w40 wj (fun k => k = tb))
                  case atStart => exact ⟨0, nt, Dt, by omega, rfl, by omega, own_upd HTC.out HU40.out id, HTV.out, Upd.refl _ _⟩
                  case round =>
                    obtain ⟨j, nt', Dt', hj, rfl, hnt', htm, htv, hu⟩ := hrel
                    obtain ⟨wj, rfl⟩ : ∃ wj, wj = wr := ⟨_, rfl⟩
                    by_cases hjC : j < C
                    · obtain ⟨p, hpj⟩ : ∃ p, L0[j]? = some p := ⟨_, List.getElem?_eq_getElem (by rw [HC.out]; exact hjC)⟩
                      obtain ⟨m, hm10, -, rfl, -⟩ := mem_cycN.1 (show p ∈ cycN rd x by rw [HL0.out]; exact List.mem_of_getElem? hpj)
                      have hps : Rw w40 32 3 (.slice ca C cc) C (pcCells L0) := by
                        have := HPS.out
                        unfold PcsAt at this
                        rwa [HC.out] at this
                      obtain ⟨g, off, rfl, hg, d0, d1, d2⟩ := pc_at (hu.rw hps (fun k hk => Rw.free hps (mapP_free (own_upd HTC.out HU40.out id) _) k hk)) j _ hpj hjC
                      have hsn : L0.take (j + 1) = L0.take j ++ [pcN m] := by simp [List.take_add_one, hpj]
                      simp only [pcN] at d0 d1 d2
                      have hj0 : (0 : Int) ≤ (j : Int) := by omega
                      have hj1 : (j : Int) < (C : Int) := by omega
                      have HTJ := hide (htm.alloc (plObj m))
                      have htp := TelV.put (World.ownsMap.isMap htm) htv hm10
                      rw [← hsn] at htp
                      have HTP := hide htp
                      have HUJ := hide (hu.alloc (plObj m))
                      clear htm htv hu hsn htp hps hpj
                      go_wp2_with (at_mapUpdate; go_loud (refine wpList_mapUpdate_own _ rfl _ _ _ 42 rfl 32 4 placeK Try.underlying42 heldElem tb nt' Dt' rfl HTJ.out (by unfold maxLen; omega) _ _ _ rfl rfl (pc_key (pcN_ok hm10)) (.held _) [] rfl ?_)
                                   intro w42 hown2 hg2)
                      go_roundg (gk - 1)
                      case measure => omega
                      case rel => exact ⟨j + 1, nt' + 1, _, by omega, by go_num, by omega, hown2, HTP.out, HUJ.out.grown hg2 (fun k e => .inr (Option.some.inj e).symm)⟩
                    · have ej : j = C := by omega
                      have hj2 : ¬ (j : Int) < (C : Int) := by omega
                      have htk : L0.take j = cycN rd x := by rw [HL0.out, ej]; exact List.take_of_length_le (by rw [HC.out]; omega)
                      rw [htk] at htv
                      have h5 := Here.told (HHC.out.upd HU40.out) (own_upd HTC.out HU40.out id) hlo (by omega) hu
                      have HTV2 := hide htv.next
                      have HTM2 := hide htm
                      have HH5 := hide h5
                      clear htv htm hu h5 htk
                      go_wp2_with fail
                      go_roundg (gx - 1)
                      case measure => omega
                      case rel => exact ⟨x + 1, nt', Dt', by omega, by go_num, by omega, HTM2.out, HTV2.out, HH5.out⟩
            · have hx1 : ¬ (x : Int) < 3 := by omega
              have hx2 : decide ((x : Int) < 3) = false := by simpa using hx1
              have ex : x = 3 := by have := HN3.out; omega
              rw [ex] at htv
              have HH := hide hh
              have HTM := hide ht
              have HTV := hide htv
              have HWK := hide (wakes_any wx)
              clear hh ht htv
              obtain ⟨bc, hbc⟩ : ∃ bc, boolCells 100 (fun j => rd (j / 10) (j % 10)) = bc := ⟨_, rfl⟩
              have HBC := hide hbc
              clear hbc
              go_wp2_with (go_at_call 12; refine Calls.mono HWK.out ?_; rintro e w50 ⟨rfl, u50⟩
                           have hm5 := (HH.out.upd u50).mat
                           have RA := right_any w50 rd tb nt Dt (own_upd HTM.out u50 id) (TelV.all HTV.out)
                           rw [HBC.out] at RA
                           have HRG : Hid (w50.rangeAt G 0 bc.toList) := hide (by rw [← HBC.out]; exact hm5.range)
                           have HSZ : Hid ((Try.prog.info? 24).map (·.size) = some bc.toList.length) := hide (by rw [← HBC.out]; simp only [Array.length_toList, bool_size]; kernel_rfl)
                           have HRA := hide RA
                           have HU50 := hide u50
                           clear RA u50 hm5)
              refine wp_load_mid 24 _ rfl G 0 rfl bc.toList _ HRG.out Try.underlying24 rfl HSZ.out ?_
              rw [Array.toArray_toList]
              go_wp2_with (go_at_call 13; refine Calls.mono HRA.out ?_; rintro e w51 ⟨rfl, u51⟩)
              go_ret
              exact ⟨rfl, (HH.out.up.then HU50.out (fun _ _ => id)).then u51 (fun _ _ => id)⟩
end Go.Proofs.Ytcdimledeomahaa
