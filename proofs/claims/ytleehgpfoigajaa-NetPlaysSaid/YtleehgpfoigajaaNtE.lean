/- The walk of package net's Clear. -/
import Derived.Test.YtleehgpfoigajaaNtD
set_option maxRecDepth 100000
namespace Go.Proofs.Ytleehgpfoigajaa
open Go.RowKit Go.Lat Go.Sort

theorem own_upd {P : Program} {k : TypeId} {w w' : World} {b n : Nat} {D : DataW Value} {S : Nat → Prop} (h : w.ownsMap P k heldElem b n D) (u : Upd w w' S) (hS : ¬ S b) : w'.ownsMap P k heldElem b n D := by
  obtain ⟨es, clock, hb, F⟩ := h
  exact ⟨es, clock, u.get hb hS, F⟩
/-- Has a pair to do with a name? -/
def inv (name : List UInt8) (p : Pr) : Bool := decide (p.1 = name) || decide (p.2 = name)
theorem closureC_any (w : World) (p : Pr) (v : Value) (nb : Nat) (name : List UInt8) (h : w.heap[nb]? = some (.cells #[encStr name] 9 (0, 0))) :
    Calls Try.prog 34 #[.agg #[encStr p.1, encStr p.2], v, .pointer (some ⟨nb, 0, none⟩)] w fun e w' => e = .returned (.bool (inv name p)) ∧ Upd w w' (fun _ => False) := by
  obtain ⟨f, t⟩ := p
  have c0 := cells1 h
  have nl := lt_at h
  by_cases h1 : f = name
  · subst h1
    have hi : inv f (f, t) = true := by simp [inv]
    rw [hi]
    go_enter Try.func34, Try.ntmps34
    go_wp2_with fail
    go_ret
    exact ⟨by simp, (Upd.refl w _).alloc _⟩
  · by_cases h2 : t = name
    · subst h2
      have hi : inv t (f, t) = true := by simp [inv]
      rw [hi]
      go_enter Try.func34, Try.ntmps34
      go_wp2_with fail
      go_ret
      exact ⟨by simp, (Upd.refl w _).alloc _⟩
    · have hi : inv name (f, t) = false := by simp [inv, h1, h2]
      rw [hi]
      go_enter Try.func34, Try.ntmps34
      go_wp2_with fail
      go_ret
      exact ⟨by simp [h1, h2], (Upd.refl w _).alloc _⟩

set_option maxHeartbeats 1600000 in
theorem DeleteFunc_any (w : World) (bm n : Nat) (D : DataW Value) (hm : w.ownsMap Try.prog 56 heldElem bm n D) (name : List UInt8) (nb : Nat) (hnb : w.heap[nb]? = some (.cells #[encStr name] 9 (0, 0))) :
    Calls Try.prog 33 #[.map (some bm), .func (Fn.func 34) #[] #[.pointer (some ⟨nb, 0, none⟩)]] w fun e w' => e = .returned (.tuple #[]) ∧
      ∃ D', w'.ownsMap Try.prog 56 heldElem bm n D' ∧ (∀ p, prOk p → inv name p = true → Maps.has D' (prLit p) = false) ∧ (∀ p, prOk p → inv name p = false → Maps.has D' (prLit p) = Maps.has D (prLit p) ∧ ∀ z, D'.atKey (prLit p) z = D.atKey (prLit p) z) ∧ Upd w w' (fun k => k = bm) := by
  have bmlt := hm.lt
  have nblt := lt_at hnb
  have nbm : nb ≠ bm := fun e => by
    obtain ⟨es, clock, hb, _⟩ := hm
    subst e
    rw [hnb] at hb
    cases hb
  have HNB := hide hnb
  go_enter Try.func33, Try.ntmps33
  go_wp2_with (at_range; refine wpList_range_own _ rfl _ 52 rfl 56 57 pairK Try.underlying52 heldElem bm n D rfl hm ?_; intro w0 hrg0 hg0 hs0)
  go_frame
  obtain ⟨r, hr⟩ : ∃ r, w.heap.size = r := ⟨_, rfl⟩
  have u0 : Upd w w0 (fun k => k = bm) := (Upd.refl w _).grown hg0 (fun k e => by cases e)
  rw [hr] at hrg0 ⊢
  have HR0 := hide hrg0
  have HU0 := hide u0
  have HR := hide hr
  clear hrg0 u0 hg0 hs0 hr hnb
  go_loopw [] (fun wr => ∃ (left : Lit → Bool) (cnt : Nat) (D' : DataW Value), wr.ranges Try.prog 56 heldElem bm r n D' left cnt ∧ (∀ p, prOk p → (inv name p = false ∨ left (prLit p) = true) → Maps.has D' (prLit p) = Maps.has D (prLit p) ∧ ∀ z, D'.atKey (prLit p) z = D.atKey (prLit p) z) ∧ (∀ p, prOk p → inv name p = true → left (prLit p) = false → Maps.has D' (prLit p) = false) ∧ Upd w wr (fun k => k = bm))
    (fun wr => wr.rangeLeft bm r)
  case atStart => exact ⟨_, _, D, HR0.out, fun _ _ _ => ⟨rfl, fun _ => rfl⟩, fun p _ _ hl => hl, HU0.out⟩
  case round =>
    obtain ⟨left, cnt, D1, hrg, hsame, hgone, hu⟩ := hrel
    go_wp2_with (at_next; refine wpList_next_ranges _ rfl _ rfl 56 pairK heldElem (fun p : Pr => .agg #[encStr p.1, encStr p.2]) (fun v : Value => v) (fun key kl hk => by obtain ⟨p, _, e, _⟩ := pair_inv hk; exact ⟨p, e⟩) (fun v y _ => ⟨v, rfl⟩) bm r n D1 left cnt rfl hrg ?_ ?_)
    · intro hc0 hl0
      have HS := hide hsame
      have HG := hide hgone
      have HU := hide hu
      have HL := hide hl0
      have HRG := hide hrg
      clear hsame hgone hu hl0 hrg
      go_wp2_with fail
      go_end0
      exact ⟨rfl, D1, HRG.out.owns, fun p hp hi => HG.out p hp hi (HL.out _), fun p hp hi => HS.out p hp (.inl hi), HU.out⟩
    · intro x1 x2 c kl y1 y2 w1 cnt1 hkx hlx hcx hat hrg1 hlt hg1 hs1 hen
      obtain ⟨x, pok, e1, e2⟩ := pair_inv hkx
      obtain ⟨ex1, ex2⟩ : x1 = x.1 ∧ x2 = x.2 := by simpa using e1
      subst ex1
      subst ex2
      subst e2
      have u1 : Upd w w1 (fun k => k = bm) := hu.grown hg1 (fun k e => .inl (by have := Option.some.inj e; have := HR.out; omega))
      have rlt : r < w1.heap.size := by
        obtain ⟨_, _, _, _, _, _, _, _, _, q, _⟩ := hrg1
        exact lt_at q
      have uo : Upd w1 (w1.alloc (.cells #[encStr x.1, encStr x.2] 56)) (fun _ => False) := (Upd.refl w1 _).alloc _
      have nb1 := uo.get (u1.get HNB.out nbm) id
      have CC := closureC_any _ x c nb name nb1
      have bx := new1 w1 (.cells #[encStr x.1, encStr x.2] 56)
      have HCC := hide CC
      have HBX := hide bx
      have HUO := hide (u1.then uo (fun _ _ => False.elim))
      have HRG1 := hide (ranges_upd hrg1 uo id id)
      have HRR := hide hrg
      have HPK := hide pok
      have HS := hide hsame
      have HG := hide hgone
      have HLX := hide hlx
      clear u1 uo nb1 CC bx hrg hrg1 hsame hgone hu hkx hlx hat hcx e1 hg1 hs1
      have step : ∀ (p : Pr), prOk p → p ≠ x → (left (prLit p) && !(prLit p).sameKey (prLit x)) = left (prLit p) := fun p hp e => by
        have : (prLit p).sameKey (prLit x) = false := Go.Maps.sameKey_ne (fun q => e (prLit_inj hp HPK.out q))
        simp [this]
      have self : (left (prLit x) && !(prLit x).sameKey (prLit x)) = false := by
        have := WideAt.sameKey_self (isKey_pr x)
        simp [this]
      cases hiv : inv name x with
      | true =>
        have HCC' := HCC.out
        rw [hiv] at HCC'
        have HC2 := hide HCC'
        have HIV := hide hiv
        clear HCC' HCC hiv
        go_wp2_with (first
          | (go_at_call 34; refine Calls.mono HC2.out ?_; rintro e w3 ⟨rfl, u3⟩
             obtain ⟨b0, b1⟩ := cells2 (u3.get HBX.out id)
             have hrg3 := ranges_upd HRG1.out u3 id id
             have HRG3 := hide hrg3
             have HU3 := hide u3
             clear hrg3 u3)
          | (at_delete; refine wpList_delete_ranges _ rfl _ _ 52 56 rfl 57 pairK Try.underlying52 heldElem bm r n _ _ _ rfl HRG3.out _ _ rfl (prLit_key HPK.out) ?_; intro w4 cnt2 hrg4 hle hturn; go_frame))
        rw [Go.Maps.strike_twice] at hrg4
        go_roundw
        case rel =>
          refine ⟨_, cnt2, _, hrg4, fun p hp hor => ?_, fun p hp hi hl => ?_, (HUO.out.then HU3.out (fun _ _ => False.elim)).grown hturn.grown (fun k e => .inr (Option.some.inj e).symm)⟩
          · by_cases e : p = x
            · subst e
              rcases hor with q | q
              · rw [HIV.out] at q; cases q
              · rw [self] at q; cases q
            · rw [step p hp e] at hor
              have hne : prLit p ≠ prLit x := fun q => e (prLit_inj hp HPK.out q)
              obtain ⟨s1, s2⟩ := HS.out p hp hor
              exact ⟨(Go.Maps.has_del_other hne).trans s1, fun z => (Go.Maps.atKey_del_other hne z).trans (s2 z)⟩
          · by_cases e : p = x
            · subst e
              exact Go.Maps.has_del_same
            · rw [step p hp e] at hl
              have hne : prLit p ≠ prLit x := fun q => e (prLit_inj hp HPK.out q)
              rw [Go.Maps.has_del_other hne]
              exact HG.out p hp hi hl
        case measure => rw [hrg4.left_eq, HRR.out.left_eq]; omega
      | false =>
        have HCC' := HCC.out
        rw [hiv] at HCC'
        have HC2 := hide HCC'
        have HIV := hide hiv
        clear HCC' HCC hiv
        go_wp2_with (go_at_call 34; refine Calls.mono HC2.out ?_; rintro e w3 ⟨rfl, u3⟩)
        have hrg3 := ranges_upd HRG1.out u3 id id
        go_roundw
        case rel =>
          refine ⟨_, cnt1, D1, hrg3, fun p hp hor => ?_, fun p hp hi hl => ?_, HUO.out.then u3 (fun _ _ => False.elim)⟩
          · by_cases e : p = x
            · subst e
              exact HS.out p hp (.inr HLX.out)
            · rw [step p hp e] at hor
              exact HS.out p hp hor
          · by_cases e : p = x
            · subst e
              rw [HIV.out] at hi
              cases hi
            · rw [step p hp e] at hl
              exact HG.out p hp hi hl
        case measure => rw [hrg3.left_eq, HRR.out.left_eq]; omega

/-- What Clear leaves. -/
def clearM (name : List UInt8) (M : Pr → List (List UInt8)) : Pr → List (List UInt8) := fun p => if inv name p = true then [] else M p
theorem Clear_S (base : Nat) (w : World) (b bm n : Nat) (D : DataW Value) (lost : Nat) (M : Pr → List (List UInt8)) (V : Pr → Value) (h : Nets base w b bm n D lost M V) (name : List UInt8) :
    Calls Try.prog 21 #[.pointer (some ⟨b, 0, none⟩), encStr name] w fun e w' => e = .returned (.tuple #[]) ∧ ∃ D' V', Nets base w' b bm n D' lost (clearM name M) V' ∧ Upd w w' (fun k => k = bm) := by
  have uo : Upd w (w.alloc (.cells #[encStr name] 9)) (fun _ => False) := (Upd.refl w _).alloc _
  have c0 := (cells2 h.net.c).1
  have blt := lt_at h.net.c
  have DF := DeleteFunc_any _ bm n D (own_upd h.net.m uo id) name w.heap.size (new1 w _)
  have HDF := hide DF
  have HN := hide (h.upd uo)
  have HUO := hide uo
  clear DF uo h
  go_enter Try.func21, Try.ntmps21
  go_wp2_with (go_at_call 33; refine Calls.mono HDF.out ?_; rintro e w2 ⟨rfl, D', hm2, hgone, hsame, u2⟩)
  go_end0
  have hN := HN.out
  refine ⟨rfl, D', fun p => if inv name p = true then noRow else V p, ⟨⟨u2.get hN.net.c hN.net.ne, hm2⟩, hN.bb, hN.bbm, fun p hp => ?_, fun p hp => ?_, fun p q hp hq hpq => ?_⟩, (HUO.out.weaken (T := fun k => k = bm) (fun _ _ => False.elim)).then u2 (fun _ _ => id)⟩
  · unfold clearM
    cases hi : inv name p with
    | true =>
      simp only [if_true]
      exact LineV.empty base w2 b bm D' _ _ (Go.Maps.atKey_of_not_has (hgone p hp hi) _)
    | false =>
      simp only [Bool.false_eq_true, if_false]
      obtain ⟨l1, l2, l3, l4, l5, l6⟩ := hN.line p hp
      exact ⟨((hsame p hp hi).2 _).trans l1, u2.rw l2 (fun k hk e => l5 (e ▸ hk)), l3, l4, l5, l6⟩
  · unfold clearM
    cases hi : inv name p with
    | true => simp [hgone p hp hi]
    | false =>
      rw [(hsame p hp hi).1, hN.has p hp]
      simp
  · cases hi : inv name p with
    | true => exact .inl rfl
    | false =>
      cases hj : inv name q with
      | true =>
        simp only [Bool.false_eq_true, if_false, if_true]
        cases hv : (V p).ownBlock with
        | none => exact .inl rfl
        | some k => exact .inr (by simp [Value.ownBlock])
      | false =>
        simp only [Bool.false_eq_true, if_false]
        exact hN.ap p q hp hq hpq
theorem Clear_nil (w : World) (s : List UInt8) : Calls Try.prog 21 #[.pointer none, encStr s] w fun e w' => e = .returned (.tuple #[]) ∧ Upd w w' (fun _ => False) := by
  go_enter Try.func21, Try.ntmps21
  go_wp2_with fail
  go_end0
  exact ⟨rfl, (Upd.refl w _).alloc _⟩
theorem Look_nil (w : World) (f t : List UInt8) (i : Int) : Calls Try.prog 14 #[.pointer none, encStr f, encStr t, .int .i64 i] w fun e w' => e = .returned (.tuple #[encStr [], .int .i64 1]) ∧ w' = w := by
  go_enter Try.func14, Try.ntmps14
  go_wp2_with fail
  go_ret2
  exact ⟨rfl, rfl⟩
theorem Take_nil (w : World) (f t : List UInt8) (i : Int) : Calls Try.prog 15 #[.pointer none, encStr f, encStr t, .int .i64 i] w fun e w' => e = .returned (.tuple #[encStr [], .int .i64 1]) ∧ w' = w := by
  have LK := Look_nil w f t i
  go_enter Try.func15, Try.ntmps15
  go_wp2_with fail
  refine Calls.mono LK ?_
  rintro e w' ⟨rfl, hw⟩
  replace hw := hw.symm
  subst hw
  go_wp2_with fail
  go_ret2
  exact ⟨rfl, rfl⟩
theorem Drop_nil (w : World) (f t : List UInt8) (i : Int) : Calls Try.prog 12 #[.pointer none, encStr f, encStr t, .int .i64 i] w fun e w' => e = .returned (.int .i64 1) ∧ w' = w := by
  have LK := Take_nil w f t i
  go_enter Try.func12, Try.ntmps12
  go_wp2_with fail
  refine Calls.mono LK ?_
  rintro e w' ⟨rfl, hw⟩
  replace hw := hw.symm
  subst hw
  go_wp2_with fail
  go_ret
  exact ⟨rfl, rfl⟩
theorem Twice_nil (w : World) (f t : List UInt8) (i : Int) : Calls Try.prog 11 #[.pointer none, encStr f, encStr t, .int .i64 i] w fun e w' => e = .returned (.int .i64 1) ∧ w' = w := by
  have LK := Look_nil w f t i
  go_enter Try.func11, Try.ntmps11
  go_wp2_with fail
  refine Calls.mono LK ?_
  rintro e w' ⟨rfl, hw⟩
  replace hw := hw.symm
  subst hw
  go_wp2_with fail
  go_ret
  exact ⟨rfl, rfl⟩
theorem Send_nil (w : World) (f t s : List UInt8) : Calls Try.prog 8 #[.pointer none, encStr f, encStr t, encStr s] w fun e w' => e = .returned (.bool false) ∧ w' = w := by
  go_enter Try.func8, Try.ntmps8
  go_wp2_with fail
  go_ret
  exact ⟨rfl, rfl⟩
theorem Len_nil (w : World) (f t : List UInt8) : Calls Try.prog 13 #[.pointer none, encStr f, encStr t] w fun e w' => e = .returned (.int .i64 0) ∧ w' = w := by
  go_enter Try.func13, Try.ntmps13
  go_wp2_with fail
  go_ret
  exact ⟨rfl, rfl⟩
theorem Pairs_nil (w : World) : Calls Try.prog 16 #[.pointer none] w fun e w' => e = .returned (.slice none 0 0) ∧ w' = w := by
  go_enter Try.func16, Try.ntmps16
  go_wp2_with fail
  go_ret
  exact ⟨rfl, rfl⟩
theorem Lost_nil (w : World) : Calls Try.prog 10 #[.pointer none] w fun e w' => e = .returned (.int .i64 0) ∧ w' = w := by
  go_enter Try.func10, Try.ntmps10
  go_wp2_with fail
  go_ret
  exact ⟨rfl, rfl⟩
end Go.Proofs.Ytleehgpfoigajaa
