/- The law's edges. -/
import Derived.Test.YtcdimledeomahaaWebG
set_option maxRecDepth 100000
namespace Go.Lat
theorem own_ge2 {m : Nat} {W : World} {v v' : Value} (h : ∀ j, v.ownBlock = some j → m ≤ j) (h2 : v'.ownBlock = v.ownBlock ∨ v'.ownBlock = some W.heap.size) (hm : m ≤ W.heap.size) : ∀ j, v'.ownBlock = some j → m ≤ j := by
  intro j hj
  rcases h2 with e | e
  · exact h j (e.symm.trans hj)
  · have := Option.some.inj (e.symm.trans hj)
    omega
theorem Rw.away {w : World} {e e2 size size2 : Nat} {v v2 : Value} {n n2 : Nat} {xs ys : List Value} (h : Rw w e size v n xs) (h2 : Rw w e2 size2 v2 n2 ys) (hne : e ≠ e2) {k : Nat} (hk : v.ownBlock = some k) : v2.ownBlock ≠ some k := by
  rcases h.apart h2 hne with e | e
  · rw [hk] at e; cases e
  · exact fun e' => e (hk.trans e'.symm)
end Go.Lat
namespace Go.Proofs.Ytcdimledeomahaa
open Go.RowKit Go.Lat

/-- A cell as plain data: its place, the links that it reads. -/
structure Cl where
  p : Lk
  links : List Lk
/-- An argument of cells. -/
def ClArg (w : World) (v : Value) (l : List Cl) : Prop :=
  ∃ (a : Option Addr) (cap : Nat), v = .slice a l.length cap ∧ l.length ≤ cap ∧ cap ≤ maxLen ∧ (a = none → cap = 0) ∧
    ∀ i x, l[i]? = some x → ∃ g off lv sa sl sc, a = some ⟨g, off, none⟩ ∧ g < w.heap.size ∧ w.cell? ⟨g, off + i * 6, none⟩ = some (encStr x.p.b) ∧ w.cell? ⟨g, off + i * 6 + 1, none⟩ = some (encStr x.p.s) ∧ w.cell? ⟨g, off + i * 6 + 2, none⟩ = some (.int .i64 x.p.c) ∧ w.cell? ⟨g, off + i * 6 + 3, none⟩ = some (.int .i64 x.p.r) ∧
      w.cell? ⟨g, off + i * 6 + 4, none⟩ = some lv ∧ w.cell? ⟨g, off + i * 6 + 5, none⟩ = some (.slice sa sl sc) ∧ PlArg w lv x.links
def Cl.ed (x : Cl) : Ed := ⟨x.p.s.take 20, x.p.c, x.p.r, cuts x.links⟩
def eds (l : List Cl) : List Ed := (l.take 10).map Cl.ed

/-- The reference's edges. -/
def ReRow (xs : List Value) (i : Nat) (e : Ed) (rv : Value) : Prop :=
  xs[i * 5]? = some (encStr []) ∧ xs[i * 5 + 1]? = some (encStr e.s) ∧ xs[i * 5 + 2]? = some (.int .i64 e.c) ∧ xs[i * 5 + 3]? = some (.int .i64 e.r) ∧ xs[i * 5 + 4]? = some rv
def ResAt (w : World) (A : Nat → Prop) (v : Value) (es : List Ed) : Prop :=
  (∀ k, v.ownBlock = some k → A k) ∧ ∃ xs, Rw w 110 5 v es.length xs ∧ (∀ u ∈ xs, u.oneCell' = true) ∧
    ∀ i e, es[i]? = some e → ∃ rv, ReRow xs i e rv ∧ PlsAt w rv e.reads ∧ ∀ k, rv.ownBlock = some k → A k
theorem ResAt.upd {w w' : World} {A S : Nat → Prop} {v : Value} {es : List Ed} (h : ResAt w A v es) (u : Upd w w' S) (hS : ∀ k, A k → ¬ S k) : ResAt w' A v es := by
  obtain ⟨h1, xs, h2, h3, h4⟩ := h
  refine ⟨h1, xs, u.rw h2 (fun k hk => hS k (h1 k hk)), h3, fun i e he => ?_⟩
  obtain ⟨rv, r1, r2, r3⟩ := h4 i e he
  exact ⟨rv, r1, u.rw r2 (fun k hk => hS k (r3 k hk)), r3⟩
theorem ResAt.weaken {w : World} {A B : Nat → Prop} {v : Value} {es : List Ed} (h : ResAt w A v es) (hAB : ∀ k, k < w.heap.size → A k → B k) : ResAt w B v es := by
  obtain ⟨h1, xs, h2, h3, h4⟩ := h
  refine ⟨fun k hk => hAB k (h2.lt k hk) (h1 k hk), xs, h2, h3, fun i e he => ?_⟩
  obtain ⟨rv, r1, r2, r3⟩ := h4 i e he
  exact ⟨rv, r1, r2, fun k hk => hAB k (r2.lt k hk) (r3 k hk)⟩
theorem ResAt.nil (w : World) (A : Nat → Prop) : ResAt w A (.slice none 0 0) [] :=
  ⟨by simp [Value.ownBlock], [], Rw.nil _ _ _, by simp, fun i e he => by simp at he⟩

/-- One more edge. -/
theorem EdsAt.snoc {w w' : World} {A : Nat → Prop} {v va : Value} {S : Nat → Prop} {es : List Ed} {e : Ed} {xs : List Value} {rv : Value} {n : Nat} (hn : n = es.length + 1) (hA : ∀ k, va.ownBlock = some k → A k) (hr : Rw w 83 4 v es.length xs) (h1 : ∀ u ∈ xs, u.oneCell' = true)
    (hrow : ∀ i e, es[i]? = some e → ∃ rv, EdRow xs i e rv ∧ LksAt w rv e.reads ∧ ∀ k, rv.ownBlock = some k → A k) (u : Upd w w' S) (hS : ∀ {x : Value} {m : Nat} {ys : List Value} {k : Nat}, Rw w 40 4 x m ys → x.ownBlock = some k → ¬ S k)
    (ha : Rw w' 83 4 va n (xs ++ [encStr e.s, .int .i64 e.c, .int .i64 e.r, rv])) (hrv : LksAt w' rv e.reads) (hrA : ∀ k, rv.ownBlock = some k → A k) (hro : rv.oneCell' = true) : EdsAt w' A va (es ++ [e]) := by
  subst hn
  have hl : xs.length = es.length * 4 := hr.1
  refine ⟨hA, _, by simpa using ha, fun u hu => ?_, fun i e' he => ?_⟩
  · rw [List.mem_append] at hu
    rcases hu with hu | hu
    · exact h1 u hu
    · simp at hu
      rcases hu with rfl | rfl | rfl | rfl
      · rfl
      · rfl
      · rfl
      · exact hro
  · by_cases hi : i < es.length
    · rw [List.getElem?_append_left hi] at he
      obtain ⟨rv', ⟨r0, r1, r2, r3⟩, q2, q3⟩ := hrow i e' he
      refine ⟨rv', ⟨?_, ?_, ?_, ?_⟩, u.rw q2 (fun k hk => hS q2 hk), q3⟩ <;> rw [List.getElem?_append_left (by omega)] <;> assumption
    · have hie : i = es.length := by
        have := (List.getElem?_eq_some_iff.1 he).1
        simp at this
        omega
      subst hie
      simp at he
      subst he
      refine ⟨rv, ⟨?_, ?_, ?_, ?_⟩, hrv, hrA⟩ <;> rw [List.getElem?_append_right (by omega), hl] <;> simp
theorem ResAt.snoc {w w' : World} {A : Nat → Prop} {v va : Value} {S : Nat → Prop} {es : List Ed} {e : Ed} {xs : List Value} {rv : Value} {n : Nat} (hn : n = es.length + 1) (hA : ∀ k, va.ownBlock = some k → A k) (hr : Rw w 110 5 v es.length xs) (h1 : ∀ u ∈ xs, u.oneCell' = true)
    (hrow : ∀ i e, es[i]? = some e → ∃ rv, ReRow xs i e rv ∧ PlsAt w rv e.reads ∧ ∀ k, rv.ownBlock = some k → A k) (u : Upd w w' S) (hS : ∀ {x : Value} {m : Nat} {ys : List Value} {k : Nat}, Rw w 73 4 x m ys → x.ownBlock = some k → ¬ S k)
    (ha : Rw w' 110 5 va n (xs ++ [encStr [], encStr e.s, .int .i64 e.c, .int .i64 e.r, rv])) (hrv : PlsAt w' rv e.reads) (hrA : ∀ k, rv.ownBlock = some k → A k) (hro : rv.oneCell' = true) : ResAt w' A va (es ++ [e]) := by
  subst hn
  have hl : xs.length = es.length * 5 := hr.1
  refine ⟨hA, _, by simpa using ha, fun u hu => ?_, fun i e' he => ?_⟩
  · rw [List.mem_append] at hu
    rcases hu with hu | hu
    · exact h1 u hu
    · simp at hu
      rcases hu with rfl | rfl | rfl | rfl | rfl
      · rfl
      · rfl
      · rfl
      · rfl
      · exact hro
  · by_cases hi : i < es.length
    · rw [List.getElem?_append_left hi] at he
      obtain ⟨rv', ⟨r0, r1, r2, r3, r4⟩, q2, q3⟩ := hrow i e' he
      refine ⟨rv', ⟨?_, ?_, ?_, ?_, ?_⟩, u.rw q2 (fun k hk => hS q2 hk), q3⟩ <;> rw [List.getElem?_append_left (by omega)] <;> assumption
    · have hie : i = es.length := by
        have := (List.getElem?_eq_some_iff.1 he).1
        simp at this
        omega
      subst hie
      simp at he
      subst he
      refine ⟨rv, ⟨?_, ?_, ?_, ?_, ?_⟩, hrv, hrA⟩ <;> rw [List.getElem?_append_right (by omega), hl] <;> simp

theorem Try.info110 : (Try.prog.info? 110).map (fun i => (i.zero, i.size, i.bytes)) = some (some (.agg #[.string ⟨#[]⟩, .string ⟨#[]⟩, .int .i64 0, .int .i64 0, .slice none 0 0]), 5, 72) := by kernel_rfl

set_option maxHeartbeats 3200000 in
theorem edges_any (w : World) (v : Value) (l : List Cl) (h : ClArg w v l) :
    Calls Try.prog 22 #[v] w fun e w' => ∃ v1 v2, e = .returned (.tuple #[v1, v2]) ∧ EdsAt w' (fun k => w.heap.size ≤ k) v1 (eds l) ∧ ResAt w' (fun k => w.heap.size ≤ k) v2 (eds l) ∧ Upd w w' (fun _ => False) := by
  obtain ⟨a, cap, rfl, hlc, hcm, hnil, hrow⟩ := h
  obtain ⟨i1, hi1, hz1a, hz1b, hz1c⟩ := info_parts Try.info83
  obtain ⟨i2, hi2, hz2a, hz2b, hz2c⟩ := info_parts Try.info110
  obtain ⟨L, hL⟩ : ∃ L, l.length = L := ⟨_, rfl⟩
  rw [hL] at hlc ⊢
  obtain ⟨N, hN⟩ : ∃ N, min L 10 = N := ⟨_, rfl⟩
  have hN2 : (min (L : Int) 10) = (N : Int) := by omega
  have n0 : (0 : Int) ≤ (N : Int) := by omega
  have n20 : N ≤ 10 := by omega
  have n1 : (N : Int) ≤ (cap : Int) := by omega
  have HL := hide hL
  have HN := hide hN
  have HR := hide hrow
  clear hL hN hrow
  go_enter Try.func22, Try.ntmps22
  go_wp2_with fail
  go_loopg [4, 5, 18] N (fun q va vb iv wr => ∃ k : Nat, k + q = N ∧ iv = .int .i64 k ∧ EdsAt wr (fun k => w.heap.size ≤ k) va ((l.take k).map Cl.ed) ∧ ResAt wr (fun k => w.heap.size ≤ k) vb ((l.take k).map Cl.ed) ∧ Upd w wr (fun _ => False))
  case atStart => exact ⟨0, by omega, rfl, EdsAt.nil _ _, ResAt.nil _ _, Upd.refl _ _⟩
  case round =>
    obtain ⟨k, hk, rfl, ra, rb, hu⟩ := hrel
    by_cases hkN : k < N
    · obtain ⟨x, hx⟩ : ∃ x, l[k]? = some x := ⟨_, List.getElem?_eq_getElem (by rw [HL.out]; have := HN.out; omega)⟩
      obtain ⟨g, off, lv, sa, sl, sc, rfl, hg, c0, c1, c2, c3, c4, c5, hpl⟩ := HR.out k x hx
      have hE : (l.take (k + 1)).map Cl.ed = (l.take k).map Cl.ed ++ [x.ed] := by rw [List.take_add_one, hx]; simp
      obtain ⟨⟨xb, xs, xc, xr⟩, xl⟩ := x
      simp only at c0 c1 c2 c3 c4 c5 hpl
      obtain ⟨ts, hts⟩ : ∃ t, xs.take 20 = t := ⟨_, rfl⟩
      have hE3 : Cl.ed ⟨⟨xb, xs, xc, xr⟩, xl⟩ = ⟨ts, xc, xr, cuts xl⟩ := by simp [Cl.ed, hts]
      rw [hE3] at hE
      have d0 := (hu.cell g _ hg id).trans c0
      have d1 := (hu.cell g _ hg id).trans c1
      have d2 := (hu.cell g _ hg id).trans c2
      have d3 := (hu.cell g _ hg id).trans c3
      have d4 := (hu.cell g _ hg id).trans c4
      have d5 := (hu.cell g _ hg id).trans c5
      obtain ⟨pa0, pc0, rfl, -⟩ := id hpl
      obtain ⟨XL, hXL⟩ : ∃ n, xl.length = n := ⟨_, rfl⟩
      have PL := place_at (wr.alloc (.cells #[encStr xb, encStr xs, .int .i64 xc, .int .i64 xr, .slice pa0 xl.length pc0, .slice sa sl sc] 112)) xb xs ts xc xr hts
      have uP : Upd w (wr.alloc (.cells #[encStr xb, encStr xs, .int .i64 xc, .int .i64 xr, .slice pa0 xl.length pc0, .slice sa sl sc] 112)) (fun _ => False) := hu.alloc _
      have hX : (wr.alloc (.cells #[encStr xb, encStr xs, .int .i64 xc, .int .i64 xr, .slice pa0 xl.length pc0, .slice sa sl sc] 112)).heap[wr.heap.size]? = some (.cells #[encStr xb, encStr xs, .int .i64 xc, .int .i64 xr, .slice pa0 xl.length pc0, .slice sa sl sc] 112 (0, 0)) := heap_alloc_new wr _
      rw [hXL] at c4 d4 PL uP hX
      have HXL := hide hXL
      have HE := hide hE
      have HU := hide hu
      have HA := hide ra
      have HB := hide rb
      have HP := hide hpl
      have UP := hide uP
      have HX := hide hX
      have hk0 : (0 : Int) ≤ (k : Int) := by omega
      have hk1 : (k : Int) < (N : Int) := by omega
      clear hE hE3 hts hu ra rb hx c0 c1 c2 c3 c4 c5 hpl hXL uP hX
      go_wp2_with fail
      refine Calls.mono PL ?_
      rintro e w2 ⟨rfl, u2⟩
      have hx2 : w2.cell? ⟨wr.heap.size, 4, none⟩ = some (.slice pa0 XL pc0) := cell_at (u2.get HX.out id) 4 _ rfl
      have xlt2 := lt_at (u2.get HX.out id)
      have LN := links_any (((w2.alloc (.cells #[encStr ts, .int .i64 xc, .int .i64 xr] 32)).alloc (.cells #[encStr [], encStr ts, .int .i64 xc, .int .i64 xr] 73))) (.slice pa0 XL pc0) xl (by
        have q := ((HP.out.upd (UP.out.then u2 (fun _ _ => id)) (fun _ _ => id)))
        rw [HXL.out] at q
        exact (q.upd ((Upd.refl w2 (fun _ => False)).alloc _) (fun _ _ => id)).upd ((Upd.refl _ (fun _ => False)).alloc _) (fun _ _ => id))
      go_wp2_with fail
      refine Calls.mono LN ?_
      rintro e W ⟨l1, l2, rfl, hl1, hl2, ol1, ol2, u3⟩
      obtain ⟨la, lc, rfl, -⟩ := Rw.form hl1
      obtain ⟨lb, ld, rfl, -⟩ := Rw.form hl2
      go_wp2_with fail
      obtain ⟨pA, hpA⟩ : ∃ p, w2.heap.size = p := ⟨_, rfl⟩
      have UW0 : Upd wr W (fun _ => False) := ((((((Upd.refl wr _).alloc _).then u2 (fun _ _ => id)).alloc _).alloc _).then u3 (fun _ _ => id))
      have hbA : W.heap[pA]? = some (.cells #[encStr ts, .int .i64 xc, .int .i64 xr] 32 (0, 0)) := by rw [← hpA]; exact u3.get (block_alloc (new1 _ _) _) id
      have hbB : W.heap[pA + 1]? = some (.cells #[encStr [], encStr ts, .int .i64 xc, .int .i64 xr] 73 (0, 0)) := by rw [← hpA]; exact u3.get (new2 _ _ _) id
      have hpw : wr.heap.size ≤ pA := by have := u2.size; simp at this; omega
      have hpW : pA < W.heap.size := lt_at hbA
      have naA : u4.ownBlock ≠ some pA := fun e => by have := HA.out.2.choose_spec.1.lt _ e; omega
      have naB : u4.ownBlock ≠ some (pA + 1) := fun e => by have := HA.out.2.choose_spec.1.lt _ e; omega
      have nbA : u5.ownBlock ≠ some pA := fun e => by have := HB.out.2.choose_spec.1.lt _ e; omega
      have nbB : u5.ownBlock ≠ some (pA + 1) := fun e => by have := HB.out.2.choose_spec.1.lt _ e; omega
      have hek : ((l.take k).map Cl.ed).length = k := by simp; rw [HL.out]; have := HN.out; omega
      obtain ⟨es, hes⟩ : ∃ es, (l.take k).map Cl.ed = es := ⟨_, rfl⟩
      have HWA := HA.out.upd UW0 (fun _ _ => id)
      have HWB := HB.out.upd UW0 (fun _ _ => id)
      rw [hes] at hek HWA HWB
      subst hek
      obtain ⟨oa, xs1, rA, oneA, rowA⟩ := HWA
      obtain ⟨ob, xs2, rB, oneB, rowB⟩ := HWB
      have hms : w.heap.size ≤ W.heap.size := (HU.out.then UW0 (fun _ _ => id)).size
      have hws : w.heap.size ≤ wr.heap.size := HU.out.size
      have hne : 83 ≠ 110 := by decide
      have hne1 : 40 ≠ 83 := by decide
      have hne2 : 40 ≠ 110 := by decide
      have hne3 : 73 ≠ 83 := by decide
      have hne4 : 73 ≠ 110 := by decide
      obtain ⟨S, hS⟩ : ∃ S : Nat → Prop, S = fun j => u4.ownBlock = some j ∨ u5.ownBlock = some j := ⟨_, rfl⟩
      have hSa : ∀ j, u4.ownBlock = some j → S j := fun j e => by rw [hS]; exact .inl e
      have hSb : ∀ j, u5.ownBlock = some j → S j := fun j e => by rw [hS]; exact .inr e
      have hSo : ∀ j, S j → w.heap.size ≤ j := fun j e => by rw [hS] at e; exact e.elim (oa j) (ob j)
      have hSL : ∀ {x : Value} {m : Nat} {ys : List Value} {k : Nat}, Rw W 40 4 x m ys → x.ownBlock = some k → ¬ S k := fun hx hk e => by rw [hS] at e; exact e.elim (hx.away rA hne1 hk) (hx.away rB hne2 hk)
      have hSP : ∀ {x : Value} {m : Nat} {ys : List Value} {k : Nat}, Rw W 73 4 x m ys → x.ownBlock = some k → ¬ S k := fun hx hk e => by rw [hS] at e; exact e.elim (hx.away rA hne3 hk) (hx.away rB hne4 hk)
      have UD : Upd W W.drew S := (Upd.refl W S).drew
      have HA0 : Rw W.drew 83 4 u4 es.length xs1 := rA
      have HB0 : Rw W.drew 110 5 u5 es.length xs2 := rB
      obtain ⟨M, hM⟩ : ∃ M, (cuts xl).length = M := ⟨_, rfl⟩
      rw [hM] at hl1 hl2 ol1 ol2
      have RX1 : Rw (W.drew.alloc (.cells #[encStr ts, .int .i64 xc, .int .i64 xr, .slice la M lc] 83)) 83 4 (.slice (some ⟨W.heap.size, 0, none⟩) 1 1) 1 [encStr ts, .int .i64 xc, .int .i64 xr, .slice la M lc] := Rw.made W.drew _ _ _ 1 rfl
      have RY1 : Rw (W.drew.alloc (.cells #[encStr [], encStr ts, .int .i64 xc, .int .i64 xr, .slice lb M ld] 110)) 110 5 (.slice (some ⟨W.heap.size, 0, none⟩) 1 1) 1 [encStr [], encStr ts, .int .i64 xc, .int .i64 xr, .slice lb M ld] := Rw.made W.drew _ _ _ 1 rfl
      have RX2 : Rw ((W.drew.alloc (.cells #[encStr [], encStr ts, .int .i64 xc, .int .i64 xr, .slice lb M ld] 110)).alloc (.cells #[encStr ts, .int .i64 xc, .int .i64 xr, .slice la M lc] 83)) 83 4 (.slice (some ⟨W.heap.size + 1, 0, none⟩) 1 1) 1 [encStr ts, .int .i64 xc, .int .i64 xr, .slice la M lc] := made2 W _ _ _ _ 1 rfl
      have RY2 : Rw ((W.drew.alloc (.cells #[encStr ts, .int .i64 xc, .int .i64 xr, .slice la M lc] 83)).alloc (.cells #[encStr [], encStr ts, .int .i64 xc, .int .i64 xr, .slice lb M ld] 110)) 110 5 (.slice (some ⟨W.heap.size + 1, 0, none⟩) 1 1) 1 [encStr [], encStr ts, .int .i64 xc, .int .i64 xr, .slice lb M ld] := made2 W _ _ _ _ 1 rfl
      rw [hpA]
      simp only [hM]
      obtain ⟨x0, x1, x2⟩ := cells3 hbA
      obtain ⟨y0, y1, y2, y3⟩ := cells4 hbB
      have HM := hide hM
      have HES := hide hes
      have HUW := hide UW0
      clear hM hes hpA d0 d1 d2 d3 d4 d5 HR PL LN hx2 hS UW0
      have hw2 : w.heap.size ≤ w2.heap.size := (UP.out.then u2 (fun _ _ => id)).size
      have FIN : ∀ (wf : World) (va' vb' : Value), Upd W wf S → Rw wf 83 4 va' (es.length + 1) (xs1 ++ [encStr ts, .int .i64 xc, .int .i64 xr, .slice la M lc]) → Rw wf 110 5 vb' (es.length + 1) (xs2 ++ [encStr [], encStr ts, .int .i64 xc, .int .i64 xr, .slice lb M ld]) → (∀ j, va'.ownBlock = some j → w.heap.size ≤ j) → (∀ j, vb'.ownBlock = some j → w.heap.size ≤ j) →
          EdsAt wf (fun k => w.heap.size ≤ k) va' ((l.take (es.length + 1)).map Cl.ed) ∧ ResAt wf (fun k => w.heap.size ≤ k) vb' ((l.take (es.length + 1)).map Cl.ed) ∧ Upd w wf (fun _ => False) := by
        intro wf va' vb' u ra rb ga gb
        rw [HE.out, HES.out]
        exact ⟨EdsAt.snoc rfl ga rA oneA rowA u (fun a b => hSL a b) ra (u.rw hl1 (fun k hk => hSL hl1 hk)) (fun k hk => by have := ol1 k hk; simp at this; omega) rfl,
          ResAt.snoc rfl gb rB oneB rowB u (fun a b => hSP a b) rb (u.rw hl2 (fun k hk => hSP hl2 hk)) (fun k hk => by have := ol2 k hk; simp at this; omega) rfl,
          (HU.out.then HUW.out (fun _ _ => id)).then u (fun i hi e => by have := hSo i e; omega)⟩
      go_region_held3 (fun w' => w'.cell? ⟨pA, 0, none⟩ = some (encStr ts) ∧ w'.cell? ⟨pA, 1, none⟩ = some (.int .i64 xc) ∧ w'.cell? ⟨pA, 2, none⟩ = some (.int .i64 xr) ∧ w'.cell? ⟨pA + 1, 0, none⟩ = some (encStr []) ∧ w'.cell? ⟨pA + 1, 1, none⟩ = some (encStr ts) ∧ w'.cell? ⟨pA + 1, 2, none⟩ = some (.int .i64 xc) ∧ w'.cell? ⟨pA + 1, 3, none⟩ = some (.int .i64 xr))
        (first | go_keep | (go_split_ands; first | exact ⟨hga.cell (by assumption) (Ne.symm naA), hga.cell (by assumption) (Ne.symm naA), hga.cell (by assumption) (Ne.symm naA), hga.cell (by assumption) (Ne.symm naB), hga.cell (by assumption) (Ne.symm naB), hga.cell (by assumption) (Ne.symm naB), hga.cell (by assumption) (Ne.symm naB)⟩ | exact ⟨hgb.cell (by assumption) (Ne.symm nbA), hgb.cell (by assumption) (Ne.symm nbA), hgb.cell (by assumption) (Ne.symm nbA), hgb.cell (by assumption) (Ne.symm nbB), hgb.cell (by assumption) (Ne.symm nbB), hgb.cell (by assumption) (Ne.symm nbB), hgb.cell (by assumption) (Ne.symm nbB)⟩))
        (first
          | (refine step_append_rw _ (by rfl) _ _ 47 47 (by rfl) 83 _ i1 _ 4 56 Try.underlying47 Try.underlying47 (by simp) hi1 hz1a hz1b hz1c rfl _ es.length xs1 (by rfl) (HA0.alloc _) _ 1 [encStr ts, .int .i64 xc, .int .i64 xr, .slice la M lc] (by rfl) (Rw.src RX1) rfl (by simp [Value.oneCell']) (by omega) (by omega) ?_; intro ga gca wa hva hga hoa; have oga := own_ge2 oa hoa (Nat.le_trans hms (Upd.size (UD.alloc _))); have ua := Upd.grown (UD.alloc _) hga (fun j hj => .inr (hSa j hj)); have pa := Rw.past (HB0.alloc _) (HA0.alloc _) (Ne.symm hne) hga)
          | (refine step_append_rw _ (by rfl) _ _ 47 47 (by rfl) 83 _ i1 _ 4 56 Try.underlying47 Try.underlying47 (by simp) hi1 hz1a hz1b hz1c rfl _ es.length xs1 (by rfl) ((HA0.alloc _).alloc _) _ 1 [encStr ts, .int .i64 xc, .int .i64 xr, .slice la M lc] (by rfl) (Rw.src (RX1.alloc _)) rfl (by simp [Value.oneCell']) (by omega) (by omega) ?_; intro ga gca wa hva hga hoa; have oga := own_ge2 oa hoa (Nat.le_trans hms (Upd.size ((UD.alloc _).alloc _))); have ua := Upd.grown ((UD.alloc _).alloc _) hga (fun j hj => .inr (hSa j hj)); have pa := Rw.past ((HB0.alloc _).alloc _) ((HA0.alloc _).alloc _) (Ne.symm hne) hga; have qa := Rw.past RY2 ((HA0.alloc _).alloc _) (Ne.symm hne) hga)
          | (refine step_append_rw _ (by rfl) _ _ 47 47 (by rfl) 83 _ i1 _ 4 56 Try.underlying47 Try.underlying47 (by simp) hi1 hz1a hz1b hz1c rfl _ es.length xs1 (by rfl) ((HA0.alloc _).alloc _) _ 1 [encStr ts, .int .i64 xc, .int .i64 xr, .slice la M lc] (by rfl) (Rw.src RX2) rfl (by simp [Value.oneCell']) (by omega) (by omega) ?_; intro ga gca wa hva hga hoa; have oga := own_ge2 oa hoa (Nat.le_trans hms (Upd.size ((UD.alloc _).alloc _))); have ua := Upd.grown ((UD.alloc _).alloc _) hga (fun j hj => .inr (hSa j hj)); have pa := Rw.past ((HB0.alloc _).alloc _) ((HA0.alloc _).alloc _) (Ne.symm hne) hga; have qa := Rw.past (RY1.alloc _) ((HA0.alloc _).alloc _) (Ne.symm hne) hga)
          | (refine step_append_rw _ (by rfl) _ _ 47 47 (by rfl) 83 _ i1 _ 4 56 Try.underlying47 Try.underlying47 (by simp) hi1 hz1a hz1b hz1c rfl _ es.length xs1 (by rfl) pb _ 1 [encStr ts, .int .i64 xc, .int .i64 xr, .slice la M lc] (by rfl) (Rw.src qb) rfl (by simp [Value.oneCell']) (by omega) (by omega) ?_; intro ga gca wa hva hga hoa; have oga := own_ge2 oa hoa (Nat.le_trans hms (Upd.size ub)); have ua := Upd.grown ub hga (fun j hj => .inr (hSa j hj)); have pa := Rw.past hvb pb (Ne.symm hne) hga)
          | (refine step_append_rw _ (by rfl) _ _ 47 47 (by rfl) 83 _ i1 _ 4 56 Try.underlying47 Try.underlying47 (by simp) hi1 hz1a hz1b hz1c rfl _ es.length xs1 (by rfl) (pb.alloc _) _ 1 [encStr ts, .int .i64 xc, .int .i64 xr, .slice la M lc] (by rfl) (Rw.src (Rw.made wb _ _ _ 1 rfl)) rfl (by simp [Value.oneCell']) (by omega) (by omega) ?_; intro ga gca wa hva hga hoa; have oga := own_ge2 oa hoa (Nat.le_trans hms (Upd.size (ub.alloc _))); have ua := Upd.grown (ub.alloc _) hga (fun j hj => .inr (hSa j hj)); have pa := Rw.past (hvb.alloc _) (pb.alloc _) (Ne.symm hne) hga)
          | (refine step_append_rw _ (by rfl) _ _ 77 77 (by rfl) 110 _ i2 _ 5 72 Try.underlying77 Try.underlying77 (by simp) hi2 hz2a hz2b hz2c rfl _ es.length xs2 (by rfl) (HB0.alloc _) _ 1 [encStr [], encStr ts, .int .i64 xc, .int .i64 xr, .slice lb M ld] (by rfl) (Rw.src RY1) rfl (by simp [Value.oneCell']) (by omega) (by omega) ?_; intro gb gcb wb hvb hgb hob; have ogb := own_ge2 ob hob (Nat.le_trans hms (Upd.size (UD.alloc _))); have ub := Upd.grown (UD.alloc _) hgb (fun j hj => .inr (hSb j hj)); have pb := Rw.past (HA0.alloc _) (HB0.alloc _) hne hgb)
          | (refine step_append_rw _ (by rfl) _ _ 77 77 (by rfl) 110 _ i2 _ 5 72 Try.underlying77 Try.underlying77 (by simp) hi2 hz2a hz2b hz2c rfl _ es.length xs2 (by rfl) ((HB0.alloc _).alloc _) _ 1 [encStr [], encStr ts, .int .i64 xc, .int .i64 xr, .slice lb M ld] (by rfl) (Rw.src (RY1.alloc _)) rfl (by simp [Value.oneCell']) (by omega) (by omega) ?_; intro gb gcb wb hvb hgb hob; have ogb := own_ge2 ob hob (Nat.le_trans hms (Upd.size ((UD.alloc _).alloc _))); have ub := Upd.grown ((UD.alloc _).alloc _) hgb (fun j hj => .inr (hSb j hj)); have pb := Rw.past ((HA0.alloc _).alloc _) ((HB0.alloc _).alloc _) hne hgb; have qb := Rw.past RX2 ((HB0.alloc _).alloc _) hne hgb)
          | (refine step_append_rw _ (by rfl) _ _ 77 77 (by rfl) 110 _ i2 _ 5 72 Try.underlying77 Try.underlying77 (by simp) hi2 hz2a hz2b hz2c rfl _ es.length xs2 (by rfl) ((HB0.alloc _).alloc _) _ 1 [encStr [], encStr ts, .int .i64 xc, .int .i64 xr, .slice lb M ld] (by rfl) (Rw.src RY2) rfl (by simp [Value.oneCell']) (by omega) (by omega) ?_; intro gb gcb wb hvb hgb hob; have ogb := own_ge2 ob hob (Nat.le_trans hms (Upd.size ((UD.alloc _).alloc _))); have ub := Upd.grown ((UD.alloc _).alloc _) hgb (fun j hj => .inr (hSb j hj)); have pb := Rw.past ((HA0.alloc _).alloc _) ((HB0.alloc _).alloc _) hne hgb; have qb := Rw.past (RX1.alloc _) ((HB0.alloc _).alloc _) hne hgb)
          | (refine step_append_rw _ (by rfl) _ _ 77 77 (by rfl) 110 _ i2 _ 5 72 Try.underlying77 Try.underlying77 (by simp) hi2 hz2a hz2b hz2c rfl _ es.length xs2 (by rfl) pa _ 1 [encStr [], encStr ts, .int .i64 xc, .int .i64 xr, .slice lb M ld] (by rfl) (Rw.src qa) rfl (by simp [Value.oneCell']) (by omega) (by omega) ?_; intro gb gcb wb hvb hgb hob; have ogb := own_ge2 ob hob (Nat.le_trans hms (Upd.size ua)); have ub := Upd.grown ua hgb (fun j hj => .inr (hSb j hj)); have pb := Rw.past hva pa hne hgb)
          | (refine step_append_rw _ (by rfl) _ _ 77 77 (by rfl) 110 _ i2 _ 5 72 Try.underlying77 Try.underlying77 (by simp) hi2 hz2a hz2b hz2c rfl _ es.length xs2 (by rfl) (pa.alloc _) _ 1 [encStr [], encStr ts, .int .i64 xc, .int .i64 xr, .slice lb M ld] (by rfl) (Rw.src (Rw.made wa _ _ _ 1 rfl)) rfl (by simp [Value.oneCell']) (by omega) (by omega) ?_; intro gb gcb wb hvb hgb hob; have ogb := own_ge2 ob hob (Nat.le_trans hms (Upd.size (ua.alloc _))); have ub := Upd.grown (ua.alloc _) hgb (fun j hj => .inr (hSb j hj)); have pb := Rw.past (hva.alloc _) (pa.alloc _) hne hgb))
      all_goals go_wp2_with fail
      all_goals go_roundg (gk - 1)
      case' measure => omega
      all_goals (first
        | exact ⟨es.length + 1, by omega, by go_num, FIN _ _ _ ua hva pa oga ogb⟩
        | exact ⟨es.length + 1, by omega, by go_num, FIN _ _ _ ub pb hvb oga ogb⟩
        | omega)
    · go_wp2_with fail
      go_ret2
      have e0 : k = N := by omega
      subst e0
      have e1 : eds l = (l.take k).map Cl.ed := by
        unfold eds
        congr 1
        rw [← HN.out, ← HL.out]
        rw [List.take_eq_take_iff]
        omega
      exact ⟨_, _, rfl, by rw [e1]; exact ra, by rw [e1]; exact rb, hu⟩
end Go.Proofs.Ytcdimledeomahaa
