/- Both webs side by side: Learn and Forget. -/
import Derived.Test.YtcdimledeomahaaWebX
set_option maxRecDepth 100000
namespace Go.Proofs.Ytcdimledeomahaa
open Go.RowKit Go.Lat

/-- What is known after a telling that counts (q). -/
def learnt (F : List UInt8 → Option (Int × List Ed)) (q : Bool) (s : List UInt8) (ver : Int) (es : List Ed) : List UInt8 → Option (Int × List Ed) := fun t => if q = true ∧ t = s then some (ver, es) else F t
def counts (F : List UInt8 → Option (Int × List Ed)) (s : List UInt8) (ver : Int) : Bool := match F s with
  | none => true
  | some (v0, _) => decide (v0 < ver)

theorem told_snoc {KL : List Kn} {s : List UInt8} (h : told KL s = none) (ver : Int) (es : List Ed) (t : List UInt8) : told (KL ++ [⟨s, ver, es⟩]) t = if t = s then some (ver, es) else told KL t := by
  unfold told at *
  rw [List.find?_append]
  by_cases e : t = s
  · subst e
    have h' : KL.find? (fun k => decide (k.n = t)) = none := by simpa using h
    simp [h']
  · have e' : ¬ s = t := fun q => e q.symm
    cases hf : KL.find? (fun k => decide (k.n = t)) with
    | none => simp [e, e']
    | some k => simp [e]
theorem told_filter (KL : List Kn) (s t : List UInt8) : told (KL.filter (fun k => decide (k.n ≠ s))) t = if t = s then none else told KL t := by
  unfold told
  rw [List.find?_filter]
  by_cases e : t = s
  · subst e
    simp
  · have : (fun k : Kn => !decide (k.n = s) && decide (k.n = t)) = fun k => decide (k.n = t) := by
      funext k
      by_cases h : k.n = t
      · simp [h, e]
      · simp [h]
    simp [this, e]
theorem told_set {KL : List Kn} {s : List UInt8} {i : Nat} {k0 : Kn} (hi : KL[i]? = some k0) (hn : k0.n = s) (hno : ∀ (j : Nat) (k : Kn), j < i → KL[j]? = some k → k.n ≠ s) (ver : Int) (es : List Ed) (t : List UInt8) : told (KL.set i ⟨s, ver, es⟩) t = if t = s then some (ver, es) else told KL t := by
  have hil : i < KL.length := (List.getElem?_eq_some_iff.1 hi).1
  by_cases e : t = s
  · subst e
    rw [if_pos rfl]
    exact told_some (i := i) (k := ⟨t, ver, es⟩) (List.getElem?_set_self hil) rfl (fun j k hj hk => by
      rw [List.getElem?_set_ne (by omega)] at hk
      exact hno j k hj hk)
  · rw [if_neg e]
    unfold told
    congr 1
    induction KL generalizing i with
    | nil => rfl
    | cons y l ih =>
      cases i with
      | zero =>
        simp at hi
        subst hi
        have e' : ¬ s = t := fun q => e q.symm
        have e2 : ¬ y.n = t := by rw [hn]; exact e'
        simp [e', e2]
      | succ i =>
        simp only [List.set_cons_succ, List.find?_cons]
        split
        · rfl
        · exact ih (by simpa using hi) (fun j k hj hk => hno (j + 1) k (by omega) (by simpa using hk)) (by simpa using hil)

theorem KnV.free {w w' : World} {A S : Nat → Prop} {D : DataW Value} {F : List UInt8 → Option (Int × List Ed)} (h : KnV w A D F) (u : Upd w w' S) (h1 : Free w S 83) (h2 : Free w S 40) : KnV w' A D F :=
  ⟨h.no, fun s ver es hs => by
    obtain ⟨k1, a, c, k2, k3⟩ := h.yes s ver es hs
    exact ⟨k1, a, c, k2, k3.free u h1 h2⟩⟩
theorem map_free {w : World} {bm n : Nat} {D : DataW Value} (h : w.ownsMap Try.prog 9 heldElem bm n D) (e : TypeId) : Free w (fun k => k = bm) e := by
  intro k cs t hk hb
  subst hk
  obtain ⟨es, clock, hm, _⟩ := h
  rw [hm] at hb
  cases hb

def Small (F : List UInt8 → Option (Int × List Ed)) : Prop := ∀ t ver es, F t = some (ver, es) → es.length ≤ 1000 ∧ ∀ e ∈ es, e.reads.length ≤ 1000
theorem Small.learnt {F : List UInt8 → Option (Int × List Ed)} (h : Small F) {q : Bool} {s : List UInt8} {ver : Int} {es : List Ed} (he : es.length ≤ 1000 ∧ ∀ e ∈ es, e.reads.length ≤ 1000) : Small (learnt F q s ver es) := by
  intro t v e ht
  unfold Go.Proofs.Ytcdimledeomahaa.learnt at ht
  split at ht
  · cases ht; exact he
  · exact h t v e ht

theorem Learn_both (w : World) (b bm n : Nat) (D : DataW Value) (F : List UInt8 → Option (Int × List Ed)) (hw : WebAt w b bm n D) (hk : KnV w (fun _ => True) D F) (hn : n < 1000000) (s : List UInt8) (hs : s.length ≤ maxLen) (ver : Int) (xa : Option Addr) (xl xc : Nat) (es : List Ed) (hx : EdsAt w (fun _ => True) (.slice xa xl xc) es) (he : es.length ≤ 1000 ∧ ∀ e ∈ es, e.reads.length ≤ 1000) :
    Calls Try.prog 9 #[.pointer (some ⟨b, 0, none⟩), encStr s, .int .i64 ver, .slice xa xl xc] w fun e w' => e = .returned (.bool (counts F s ver)) ∧ ∃ n' D', n' ≤ n + 1 ∧ WebAt w' b bm n' D' ∧ KnV w' (fun _ => True) D' (learnt F (counts F s ver) s ver es) ∧ Upd w w' (fun k => k = bm) := by
  have acc : ∀ (ver0 : Int) (sa : Option Addr) (sl sc : Nat) (ok : Bool), D.atKey (.string s) (.held noKnown) = .held (.agg #[.int .i64 ver0, .slice sa sl sc]) → Go.Maps.has D (.string s) = ok → (ok = true → ver0 < ver) → counts F s ver = true →
      Calls Try.prog 9 #[.pointer (some ⟨b, 0, none⟩), encStr s, .int .i64 ver, .slice xa xl xc] w fun e w' => e = .returned (.bool (counts F s ver)) ∧ ∃ n' D', n' ≤ n + 1 ∧ WebAt w' b bm n' D' ∧ KnV w' (fun _ => True) D' (learnt F (counts F s ver) s ver es) ∧ Upd w w' (fun k => k = bm) := by
    intro ver0 sa sl sc ok h1 h2 h3 hq
    refine Calls.mono (Learn_accept w b bm n D hw hn s hs ver ver0 _ _ es hx he.1 he.2 sa sl sc h1 ok h2 h3) ?_
    rintro e w' ⟨rfl, a, c, a1, a2, a3⟩
    rw [hq]
    have kf := hk.free a3 (map_free hw.m _) (map_free hw.m _)
    have kp := KnV.put (World.ownsMap.isMap hw.m) kf s ver es a c (a2.weaken (fun _ _ _ => trivial))
    have e1 : learnt F true s ver es = fun t => if t = s then some (ver, es) else F t := by
      funext t
      simp [learnt]
    rw [e1]
    exact ⟨rfl, _, _, Nat.le_refl _, a1, kp, a3⟩
  cases hF : F s with
  | none =>
    exact acc 0 none 0 0 false (Go.Maps.atKey_of_not_has (hk.no s hF) _) (hk.no s hF) (by simp) (by simp [counts, hF])
  | some p =>
    obtain ⟨v0, e0⟩ := p
    obtain ⟨k1, a, c, k2, -⟩ := hk.yes s v0 e0 hF
    by_cases hlt : v0 < ver
    · exact acc v0 a _ c true k2 k1 (fun _ => hlt) (by simp [counts, hF, hlt])
    · have hq : counts F s ver = false := by simp [counts, hF, hlt]
      refine Calls.mono (Learn_refuse w b bm n D hw s hs ver v0 _ a _ c k2 k1 (by omega)) ?_
      rintro e w' ⟨rfl, u⟩
      rw [hq]
      have e1 : learnt F false s ver es = F := by
        funext t
        simp [learnt]
      rw [e1]
      exact ⟨rfl, n, D, by omega, hw.upd u id id, hk.upd u (fun _ _ => id), u.weaken (fun _ _ => False.elim)⟩

theorem RLearn_both (w : World) (rb : Nat) (lv : Value) (xs : List Value) (KL : List Kn) (h : RfAt w rb lv xs KL) (hl : KL.length ≤ 1000000) (s : List UInt8) (ver : Int) (ya : Option Addr) (yl yc : Nat) (es : List Ed) (hyl : yl = es.length) (hy : ResAt w (fun _ => True) (.slice ya yl yc) es) :
    Calls Try.prog 31 #[.pointer (some ⟨rb, 0, none⟩), encStr s, .int .i64 ver, .slice ya yl yc] w fun e w' => e = .returned (.bool (counts (told KL) s ver)) ∧ ∃ lv' xs' KL', KL'.length ≤ KL.length + 1 ∧ RfAt w' rb lv' xs' KL' ∧ (∀ t, told KL' t = learnt (told KL) (counts (told KL) s ver) s ver es t) ∧ Upd w w' (fun k => k = rb ∨ lv.ownBlock = some k) ∧ (∀ k, lv'.ownBlock = some k → lv.ownBlock = some k ∨ w.heap.size ≤ k) := by
  subst hyl
  cases ht : told KL s with
  | none =>
    have hq : counts (told KL) s ver = true := by simp [counts, ht]
    refine Calls.mono (RLearn_new w rb lv xs KL h hl s ver ya yc es hy ht) ?_
    rintro e w' ⟨rfl, lv', xs', r1, r2, r3⟩
    rw [hq]
    exact ⟨rfl, lv', xs', _, by simp, r1, fun t => by rw [told_snoc ht]; simp [learnt], r2, r3⟩
  | some p =>
    obtain ⟨v0, e0⟩ := p
    by_cases hlt : v0 < ver
    · have hq : counts (told KL) s ver = true := by simp [counts, ht, hlt]
      have hf : ∃ (i : Nat) (k0 : Kn), KL[i]? = some k0 ∧ k0.n = s ∧ (∀ (j : Nat) (k : Kn), j < i → KL[j]? = some k → k.n ≠ s) ∧ k0.ver = v0 := by
        unfold told at ht
        cases hf : KL.find? (fun k => decide (k.n = s)) with
        | none => rw [hf] at ht; cases ht
        | some k0 =>
          rw [hf] at ht
          simp at ht
          rw [List.find?_eq_some_iff_getElem] at hf
          obtain ⟨hp, i, hil, hik, hno⟩ := hf
          refine ⟨i, k0, by rw [List.getElem?_eq_getElem hil, hik], by simpa using hp, fun j k hj hk => ?_, ht.1⟩
          obtain ⟨hjl, e⟩ := List.getElem?_eq_some_iff.1 hk
          have := hno j hj
          rw [e] at this
          simpa using this
      obtain ⟨i, k0, hi, hn, hno, hv⟩ := hf
      refine Calls.mono (RLearn_put w rb lv xs KL h hl s ver ya yc es hy i k0 hi hn hno (by omega)) ?_
      rintro e w' ⟨rfl, xs', r1, r2⟩
      rw [hq]
      exact ⟨rfl, lv, xs', _, by simp, r1, fun t => by rw [told_set hi hn hno]; simp [learnt], r2, fun k hk => .inl hk⟩
    · have hq : counts (told KL) s ver = false := by simp [counts, ht, hlt]
      refine Calls.mono (RLearn_refuse w rb lv xs KL h hl s ver v0 _ e0 ht (by omega)) ?_
      rintro e w' ⟨rfl, hw⟩
      subst hw
      rw [hq]
      exact ⟨rfl, lv, xs, KL, by omega, h, fun t => by simp [learnt], Upd.refl _ _, fun k hk => .inl hk⟩
end Go.Proofs.Ytcdimledeomahaa
