/- The walks of at, slices.IndexFunc, slices.Contains. -/
import Derived.Test.YtcdimledeomahaaWebJ
set_option maxRecDepth 100000
namespace Go.Proofs.Ytcdimledeomahaa
open Go.RowKit Go.Lat

structure Pc where
  s : List UInt8
  c : Int
  r : Int
deriving DecidableEq
def Pc.cells (p : Pc) : List Value := [encStr p.s, .int .i64 p.c, .int .i64 p.r]
def Pc.val (p : Pc) : Value := .agg #[encStr p.s, .int .i64 p.c, .int .i64 p.r]
def pcCells (l : List Pc) : List Value := l.flatMap Pc.cells
theorem pcCells_app (a b : List Pc) : pcCells (a ++ b) = pcCells a ++ pcCells b := by simp [pcCells]
theorem pcCells_len (a : List Pc) : (pcCells a).length = a.length * 3 := by
  induction a with
  | nil => rfl
  | cons x l ih => simp [pcCells, Pc.cells] at *; omega
theorem pcCells_get (l : List Pc) (j : Nat) (x : Pc) (h : l[j]? = some x) : (pcCells l)[j * 3]? = some (encStr x.s) ∧ (pcCells l)[j * 3 + 1]? = some (.int .i64 x.c) ∧ (pcCells l)[j * 3 + 2]? = some (.int .i64 x.r) := by
  induction l generalizing j with
  | nil => simp at h
  | cons y l ih =>
    cases j with
    | zero => simp at h; subst h; simp [pcCells, Pc.cells]
    | succ j =>
      have := ih j (by simpa using h)
      have e : ∀ t, (pcCells (y :: l))[(j + 1) * 3 + t]? = (pcCells l)[j * 3 + t]? := by
        intro t
        have e1 : pcCells (y :: l) = y.cells ++ pcCells l := by simp [pcCells]
        rw [e1, List.getElem?_append_right (by simp [Pc.cells]; omega)]
        congr 1
        simp [Pc.cells]
        omega
      have e0 := e 0
      simp only [Nat.add_zero] at e0
      rw [e0, e 1, e 2]
      exact this
def PcsAt (w : World) (v : Value) (l : List Pc) : Prop := Rw w 32 3 v l.length (pcCells l)

/-- A cell of the own book. -/
structure On where
  p : Pc
  reads : List Pc
  links : List Lk
def OnRow (xs : List Value) (i : Nat) (o : On) (rv lv : Value) : Prop :=
  xs[i * 5]? = some (encStr o.p.s) ∧ xs[i * 5 + 1]? = some (.int .i64 o.p.c) ∧ xs[i * 5 + 2]? = some (.int .i64 o.p.r) ∧ xs[i * 5 + 3]? = some rv ∧ xs[i * 5 + 4]? = some lv
def OnsAt (w : World) (B : Nat → Prop) (v : Value) (os : List On) : Prop :=
  ∃ xs, Rw w 38 5 v os.length xs ∧ ∀ i o, os[i]? = some o → ∃ rv lv, OnRow xs i o rv lv ∧ PcsAt w rv o.reads ∧ LksAt w lv o.links ∧ ∀ k, lv.ownBlock = some k → B k


theorem on_at {w : World} {sa : Option Addr} {n c : Nat} {xs : List Value} (h : Rw w 38 5 (.slice sa n c) n xs) (j : Nat) (o : On) (rv lv : Value) (hr : OnRow xs j o rv lv) (hj : j < n) :
    ∃ g off, sa = some ⟨g, off, none⟩ ∧ g < w.heap.size ∧ w.cell? ⟨g, off + j * 5, none⟩ = some (encStr o.p.s) ∧ w.cell? ⟨g, off + j * 5 + 1, none⟩ = some (.int .i64 o.p.c) ∧ w.cell? ⟨g, off + j * 5 + 2, none⟩ = some (.int .i64 o.p.r) ∧ w.cell? ⟨g, off + j * 5 + 3, none⟩ = some rv ∧ w.cell? ⟨g, off + j * 5 + 4, none⟩ = some lv := by
  obtain ⟨g, off, cap, hv, hg, hc⟩ := Rw.pos h (by omega)
  simp at hv
  obtain ⟨c0, c1, c2, c3, c4⟩ := hr
  exact ⟨g, off, hv.1, hg, hc _ _ c0, hc _ _ c1, hc _ _ c2, hc _ _ c3, hc _ _ c4⟩

theorem closure_any (w : World) (p q : Pc) (ra : Option Addr) (rn rc : Nat) (la : Option Addr) (ln lc pb : Nat) (hp : w.heap[pb]? = some (.cells #[encStr p.s, .int .i64 p.c, .int .i64 p.r] 32 (0, 0))) :
    Calls Try.prog 36 #[.agg #[encStr q.s, .int .i64 q.c, .int .i64 q.r, .slice ra rn rc, .slice la ln lc], .pointer (some ⟨pb, 0, none⟩)] w fun e w' => e = .returned (.bool (decide (q = p))) ∧ Upd w w' (fun _ => False) := by
  obtain ⟨p0, p1, p2⟩ := cells3 hp
  have pl := lt_at hp
  obtain ⟨ps, pc, pr⟩ := p
  obtain ⟨qs, qc, qr⟩ := q
  simp only at p0 p1 p2
  go_enter Try.func36, Try.ntmps36
  go_wp2_with fail
  all_goals go_ret
  all_goals exact ⟨rfl, (Upd.refl w _).alloc _⟩

theorem IndexFunc_any (w : World) (sa : Option Addr) (N sc pb : Nat) (os : List On) (p : Pc) (xs : List Value) (hN : os.length = N) (h : Rw w 38 5 (.slice sa N sc) N xs) (hrow : ∀ i o, os[i]? = some o → ∃ la ln lc ra rn rc, OnRow xs i o (.slice ra rn rc) (.slice la ln lc)) (hp : w.heap[pb]? = some (.cells #[encStr p.s, .int .i64 p.c, .int .i64 p.r] 32 (0, 0))) (hl : N ≤ 1000000) :
    Calls Try.prog 35 #[.slice sa N sc, .func (Fn.func 36) #[] #[.pointer (some ⟨pb, 0, none⟩)]] w fun e w' => ∃ r : Int, e = .returned (.int .i64 r) ∧ Upd w w' (fun _ => False) ∧
      ((r = -1 ∧ ∀ (i : Nat) (o : On), os[i]? = some o → o.p ≠ p) ∨ ∃ (i : Nat) (o : On), r = i ∧ i < N ∧ os[i]? = some o ∧ o.p = p ∧ ∀ (j : Nat) (o : On), j < i → os[j]? = some o → o.p ≠ p) := by
  have HN := hide hN
  have HR := hide h
  have HW := hide hrow
  have HP := hide hp
  clear hN h hrow hp
  go_enter Try.func35, Try.ntmps35
  go_wp2_with fail
  go_loopg [8] N (fun q iv wr => ∃ k : Nat, k + q = N ∧ iv = .int .i64 k ∧ (∀ (j : Nat) (o : On), j < k → os[j]? = some o → o.p ≠ p) ∧ Upd w wr (fun _ => False))
  case atStart => exact ⟨0, by omega, rfl, fun j o hj => absurd hj (by omega), Upd.refl _ _⟩
  case round =>
    obtain ⟨k, hk, rfl, hno, hu⟩ := hrel
    by_cases hkN : k < N
    · obtain ⟨o, ho⟩ : ∃ o, os[k]? = some o := ⟨_, List.getElem?_eq_getElem (by rw [HN.out]; exact hkN)⟩
      obtain ⟨la, ln, lc, ra, rn, rc, hor⟩ := HW.out k o ho
      obtain ⟨g, off, rfl, hg, d0, d1, d2, d3, d4⟩ := on_at (hu.rw HR.out (fun _ _ => id)) k o _ _ hor hkN
      have hp' := hu.get HP.out id
      obtain ⟨p0, p1, p2⟩ := cells3 hp'
      have pl := lt_at hp'
      have HNO := hide hno
      have HU := hide hu
      have HO := hide ho
      have hk0 : (0 : Int) ≤ (k : Int) := by omega
      have hk1 : (k : Int) < (N : Int) := by omega
      clear hno hu ho hp' hor
      obtain ⟨⟨os', oc, or⟩, ord, ol⟩ := o
      simp only at d0 d1 d2
      have CL := closure_any wr p ⟨os', oc, or⟩ ra rn rc la ln lc pb (HU.out.get HP.out id)
      by_cases hq : (⟨os', oc, or⟩ : Pc) = p
      · have dq : decide ((⟨os', oc, or⟩ : Pc) = p) = true := by simpa using hq
        rw [dq] at CL
        have HQ := hide hq
        clear hq dq
        go_wp2_with fail
        refine Calls.mono CL ?_
        rintro e w2 ⟨rfl, u2⟩
        go_wp2_with fail
        go_ret
        exact ⟨k, rfl, HU.out.then u2 (fun _ _ => id), .inr ⟨k, _, rfl, hkN, HO.out, HQ.out, HNO.out⟩⟩
      · have dq : decide ((⟨os', oc, or⟩ : Pc) = p) = false := by simpa using hq
        rw [dq] at CL
        have HQ := hide hq
        clear hq dq
        go_wp2_with fail
        refine Calls.mono CL ?_
        rintro e w2 ⟨rfl, u2⟩
        go_wp2_with fail
        go_roundg (gk - 1)
        case measure => omega
        case rel =>
          refine ⟨k + 1, by omega, by go_num, fun j o hj ho => ?_, HU.out.then u2 (fun _ _ => id)⟩
          by_cases hjk : j = k
          · subst hjk
            rw [HO.out] at ho
            cases ho
            exact HQ.out
          · exact HNO.out j o (by omega) ho
    · go_wp2_with fail
      go_ret
      exact ⟨-1, rfl, hu, .inl ⟨rfl, fun i o hi => hno i o (by have := (List.getElem?_eq_some_iff.1 hi).1; rw [HN.out] at this; omega) hi⟩⟩

def zeroOn : Value := .agg #[.string ⟨#[]⟩, .int .i64 0, .int .i64 0, .slice none 0 0, .slice none 0 0]
def On.val (o : On) (rv lv : Value) : Value := .agg #[encStr o.p.s, .int .i64 o.p.c, .int .i64 o.p.r, rv, lv]
theorem set5 {w : World} {g : Nat} {a0 a1 a2 a3 a4 : Value} {t : TypeId} (h : w.heap[g]? = some (.cells #[a0, a1, a2, a3, a4] t (0, 0))) (v0 v1 v2 v3 v4 : Value) :
    (((((w.setCell ⟨g, 0, none⟩ v0).setCell ⟨g, 1, none⟩ v1).setCell ⟨g, 2, none⟩ v2).setCell ⟨g, 3, none⟩ v3).setCell ⟨g, 4, none⟩ v4).heap[g]? = some (.cells #[v0, v1, v2, v3, v4] t (0, 0)) :=
  block_setCell (block_setCell (block_setCell (block_setCell (block_setCell h 0 v0) 1 v1) 2 v2) 3 v3) 4 v4
theorem upd5 {w0 w : World} {S : Nat → Prop} (u : Upd w0 w S) {g : Nat} (hg : w0.heap.size ≤ g) (v0 v1 v2 v3 v4 : Value) :
    Upd w0 (((((w.setCell ⟨g, 0, none⟩ v0).setCell ⟨g, 1, none⟩ v1).setCell ⟨g, 2, none⟩ v2).setCell ⟨g, 3, none⟩ v3).setCell ⟨g, 4, none⟩ v4) S :=
  ((((u.setCell _ _ (.inl hg)).setCell _ _ (.inl hg)).setCell _ _ (.inl hg)).setCell _ _ (.inl hg)).setCell _ _ (.inl hg)
theorem new2n (w : World) (A B : Obj) : ((w.alloc A).alloc B).heap[w.heap.size + 1]? = some B := new2 w A B

set_option maxHeartbeats 800000 in
theorem at_any (w : World) (B : Nat → Prop) (v : Value) (os : List On) (p : Pc) (h : OnsAt w B v os) (hl : os.length ≤ 1000000) :
    Calls Try.prog 25 #[v, p.val] w fun e w' => Upd w w' (fun _ => False) ∧ ((e = .returned (.tuple #[zeroOn, .bool false]) ∧ ∀ o ∈ os, o.p ≠ p) ∨
      ∃ (i : Nat) (o : On) (rv lv : Value), e = .returned (.tuple #[o.val rv lv, .bool true]) ∧ os[i]? = some o ∧ o.p = p ∧ (∀ (j : Nat) (o : On), j < i → os[j]? = some o → o.p ≠ p) ∧ PcsAt w rv o.reads ∧ LksAt w lv o.links ∧ ∀ k, lv.ownBlock = some k → B k) := by
  obtain ⟨xs, hx, hrow⟩ := h
  obtain ⟨sa, sc, rfl, -⟩ := Rw.form hx
  obtain ⟨N, hN⟩ : ∃ N, os.length = N := ⟨_, rfl⟩
  have hrow' : ∀ i o, os[i]? = some o → ∃ la ln lc ra rn rc, OnRow xs i o (.slice ra rn rc) (.slice la ln lc) := by
    intro i o ho
    obtain ⟨rv, lv, q1, q2, q3, -⟩ := hrow i o ho
    obtain ⟨ra, rc, rfl, -⟩ := Rw.form q2
    obtain ⟨la, lc, rfl, -⟩ := Rw.form q3
    exact ⟨_, _, _, _, _, _, q1⟩
  rw [hN] at hx hl ⊢
  obtain ⟨W1, hW1⟩ : ∃ W1, (w.alloc (.cells #[encStr p.s, .int .i64 p.c, .int .i64 p.r] 32)).alloc (.cells #[.string ⟨#[]⟩, .int .i64 0, .int .i64 0, .slice none 0 0, .slice none 0 0] 38) = W1 := ⟨_, rfl⟩
  have u0 : Upd w W1 (fun _ => False) := hW1 ▸ ((Upd.refl w _).alloc _).alloc _
  have hb1 : W1.heap[w.heap.size]? = some (.cells #[encStr p.s, .int .i64 p.c, .int .i64 p.r] 32 (0, 0)) := hW1 ▸ block_alloc (new1 w _) _
  have hb2 : W1.heap[w.heap.size + 1]? = some (.cells #[.string ⟨#[]⟩, .int .i64 0, .int .i64 0, .slice none 0 0, .slice none 0 0] 38 (0, 0)) := hW1 ▸ new2 w _ _
  have IX := IndexFunc_any W1 sa N sc w.heap.size os p xs hN (u0.rw hx (fun _ _ => id)) hrow' hb1 hl
  have HB2 := hide hb2
  have HW1 := hide hW1
  clear hb1 hb2 hW1
  have HX := hide hx
  have HR := hide hrow
  have HN := hide hN
  have HU := hide u0
  clear hx hrow hrow' hN u0
  unfold Pc.val
  go_enter Try.func25, Try.ntmps25
  go_wp2_with fail
  rw [HW1.out]
  refine Calls.mono IX ?_
  rintro e w2 ⟨r, rfl, u2, hr⟩
  have hb2 := u2.get HB2.out id
  rcases hr with ⟨rfl, hno⟩ | ⟨i, o, rfl, hi, ho, hp, hno⟩
  · have HNO := hide hno
    have hb2' := hb2
    have fr0 := free_at hb2
    obtain ⟨z0, z1, z2, z3, z4⟩ := cells5 hb2
    clear hno
    go_wp2_with fail
    (try simp only [Exit.inBlock, Exit.then])
    refine bodyPost_ret (results_cell_tmp_row rfl _ _ (w.heap.size + 1) _ _ _ _ rfl (set5 hb2' _ _ _ _ _) Try.underlying38 rfl (by kernel_rfl)) rfl ?_
    exact ⟨upd5 (HU.out.then u2 (fun _ _ => id)) (by omega) _ _ _ _ _, .inl ⟨rfl, fun o ho => by obtain ⟨j, hj⟩ := List.getElem?_of_mem ho; exact HNO.out j o hj⟩⟩
  · have HNO := hide hno
    have HO := hide ho
    have HP := hide hp
    clear hno ho hp
    obtain ⟨rv, lv, q1, q2, q3, q4⟩ := HR.out i o HO.out
    obtain ⟨g, off, rfl, hg, d0, d1, d2, d3, d4⟩ := on_at ((HU.out.then u2 (fun _ _ => id)).rw HX.out (fun _ _ => id)) i o _ _ q1 hi
    obtain ⟨ra, rc, rfl, -⟩ := Rw.form q2
    obtain ⟨la, lc, rfl, -⟩ := Rw.form q3
    have hb2' := hb2
    have fr0 := free_at hb2
    obtain ⟨z0, z1, z2, z3, z4⟩ := cells5 hb2
    have hi0 : decide ((i : Int) < 0) = false := by simp
    have hi1 : (0 : Int) ≤ (i : Int) := by omega
    have hi2 : (i : Int) < (N : Int) := by omega
    go_wp2_with fail
    (try simp only [Exit.inBlock, Exit.then])
    refine bodyPost_ret (results_cell_tmp_row rfl _ _ (w.heap.size + 1) _ _ _ _ rfl (set5 hb2' _ _ _ _ _) Try.underlying38 rfl (by kernel_rfl)) rfl ?_
    exact ⟨upd5 (HU.out.then u2 (fun _ _ => id)) (by omega) _ _ _ _ _, .inr ⟨i, o, _, _, rfl, HO.out, HP.out, HNO.out, q2, q3, q4⟩⟩
end Go.Proofs.Ytcdimledeomahaa
