/- The reference's Learn and Forget. -/
import Derived.Test.YtcdimledeomahaaWebV
set_option maxRecDepth 100000
namespace Go.Proofs.Ytcdimledeomahaa
open Go.RowKit Go.Lat

/-- None of the blocks that may be written are cells of the type e. -/
def Free (w : World) (S : Nat → Prop) (e : TypeId) : Prop := ∀ k cs t, S k → w.heap[k]? = some (.cells cs t (0, 0)) → t ≠ e
theorem Rw.free {w : World} {e size : Nat} {v : Value} {n : Nat} {xs : List Value} (h : Rw w e size v n xs) {S : Nat → Prop} (hS : Free w S e) : ∀ k, v.ownBlock = some k → ¬ S k := by
  intro k hk hs
  rcases h.2 with ⟨rfl, _⟩ | ⟨g, off, cap, cur, rfl, hg, _⟩
  · cases hk
  · have e1 : g = k := Option.some.inj hk
    subst e1
    exact hS _ _ _ hs hg rfl
theorem ResAt.free {w w' : World} {A S : Nat → Prop} {v : Value} {es : List Ed} (h : ResAt w A v es) (u : Upd w w' S) (h1 : Free w S 110) (h2 : Free w S 73) : ResAt w' A v es := by
  obtain ⟨k1, xs, k2, k3, k4⟩ := h
  refine ⟨k1, xs, u.rw k2 (Rw.free k2 h1), k3, fun i e he => ?_⟩
  obtain ⟨rv, r1, r2, r3⟩ := k4 i e he
  exact ⟨rv, r1, u.rw r2 (Rw.free r2 h2), r3⟩
theorem EdsAt.free {w w' : World} {A S : Nat → Prop} {v : Value} {es : List Ed} (h : EdsAt w A v es) (u : Upd w w' S) (h1 : Free w S 83) (h2 : Free w S 40) : EdsAt w' A v es := by
  obtain ⟨k1, xs, k2, k3, k4⟩ := h
  refine ⟨k1, xs, u.rw k2 (Rw.free k2 h1), k3, fun i e he => ?_⟩
  obtain ⟨rv, r1, r2, r3⟩ := k4 i e he
  exact ⟨rv, r1, u.rw r2 (Rw.free r2 h2), r3⟩

/-- A list of what books told. -/
structure KnsAt (w : World) (lv : Value) (xs : List Value) (KL : List Kn) : Prop where
  r : Rw w 108 3 lv KL.length xs
  one : ∀ u ∈ xs, u.oneCell' = true
  rows : ∀ i k, KL[i]? = some k → ∃ ea ec, KnRow xs i k (.slice ea k.es.length ec) ∧ ResAt w (fun _ => True) (.slice ea k.es.length ec) k.es
theorem RfAt.kns {w : World} {rb : Nat} {lv : Value} {xs : List Value} {KL : List Kn} (h : RfAt w rb lv xs KL) : KnsAt w lv xs KL := ⟨h.r, h.one, h.rows⟩
theorem KnsAt.rf {w : World} {rb : Nat} {lv : Value} {xs : List Value} {KL : List Kn} (h : KnsAt w lv xs KL) (c : w.heap[rb]? = some (.cells #[lv] 58 (0, 0))) : RfAt w rb lv xs KL := ⟨c, h.r, h.one, h.rows⟩

theorem KnsAt.snoc {w w' : World} {S : Nat → Prop} {lv lv' : Value} {xs : List Value} {KL : List Kn} {k : Kn} {ea : Option Addr} {ec n : Nat} (hn : n = KL.length + 1) (h : KnsAt w lv xs KL) (u : Upd w w' S) (h1 : Free w S 110) (h2 : Free w S 73)
    (hr : Rw w' 108 3 lv' n (xs ++ [encStr k.n, .int .i64 k.ver, .slice ea k.es.length ec])) (hy : ResAt w (fun _ => True) (.slice ea k.es.length ec) k.es) : KnsAt w' lv' (xs ++ [encStr k.n, .int .i64 k.ver, .slice ea k.es.length ec]) (KL ++ [k]) := by
  subst hn
  have hl : xs.length = KL.length * 3 := h.r.1
  refine ⟨by simpa using hr, fun u hu => ?_, fun i k' hk => ?_⟩
  · rw [List.mem_append] at hu
    rcases hu with hu | hu
    · exact h.one u hu
    · simp at hu
      rcases hu with rfl | rfl | rfl <;> rfl
  · by_cases hi : i < KL.length
    · rw [List.getElem?_append_left hi] at hk
      obtain ⟨ea', ec', ⟨r0, r1, r2⟩, q⟩ := h.rows i k' hk
      refine ⟨ea', ec', ⟨?_, ?_, ?_⟩, q.free u h1 h2⟩ <;> rw [List.getElem?_append_left (by omega)] <;> assumption
    · have hie : i = KL.length := by
        have := (List.getElem?_eq_some_iff.1 hk).1
        simp at this
        omega
      subst hie
      simp at hk
      subst hk
      refine ⟨ea, ec, ⟨?_, ?_, ?_⟩, hy.free u h1 h2⟩ <;> rw [List.getElem?_append_right (by omega), hl] <;> simp

theorem Try.info108 : (Try.prog.info? 108).map (fun i => (i.zero, i.size, i.bytes)) = some (some (.agg #[.string ⟨#[]⟩, .int .i64 0, .slice none 0 0]), 3, 48) := by kernel_rfl

theorem row_free {w : World} {e T size : Nat} {v : Value} {n : Nat} {xs : List Value} (h : Rw w T size v n xs) (hT : T ≠ e) : Free w (fun k => v.ownBlock = some k) e := by
  intro k cs t hk hb
  rcases h.2 with ⟨rfl, _⟩ | ⟨g, off, cap, cur, rfl, hg, _⟩
  · cases hk
  · have e1 : g = k := Option.some.inj hk
    subst e1
    rw [hg] at hb
    cases hb
    exact hT
theorem one_free {w : World} {e T g : Nat} {cs : Array Value} (h : w.heap[g]? = some (.cells cs T (0, 0))) (hT : T ≠ e) : Free w (fun k => k = g) e := by
  intro k cs' t hk hb
  subst hk
  rw [h] at hb
  cases hb
  exact hT
theorem KnsAt.free {w w' : World} {S : Nat → Prop} {lv : Value} {xs : List Value} {KL : List Kn} (h : KnsAt w lv xs KL) (u : Upd w w' S) (h0 : Free w S 108) (h1 : Free w S 110) (h2 : Free w S 73) : KnsAt w' lv xs KL := by
  refine ⟨u.rw h.r (Rw.free h.r h0), h.one, fun i k hk => ?_⟩
  obtain ⟨ea, ec, q1, q2⟩ := h.rows i k hk
  exact ⟨ea, ec, q1, q2.free u h1 h2⟩

/-- The blocks that the reference may write. -/
theorem rf_free {w : World} {rb : Nat} {lv : Value} {xs : List Value} {KL : List Kn} (h : RfAt w rb lv xs KL) {e : TypeId} (h1 : 58 ≠ e) (h2 : 108 ≠ e) : Free w (fun k => k = rb ∨ lv.ownBlock = some k) e := by
  intro k cs t hk hb
  rcases hk with rfl | hk
  · rw [h.c] at hb
    cases hb
    exact h1
  · rcases h.r.2 with ⟨rfl, _⟩ | ⟨g, off, cap, cur, rfl, hg, _⟩
    · cases hk
    · have e1 : g = k := Option.some.inj hk
      subst e1
      rw [hg] at hb
      cases hb
      exact h2

set_option maxHeartbeats 1600000 in
theorem RLearn_new (w : World) (rb : Nat) (lv : Value) (xs : List Value) (KL : List Kn) (h : RfAt w rb lv xs KL) (hl : KL.length ≤ 1000000) (s : List UInt8) (ver : Int) (ya : Option Addr) (yc : Nat) (es : List Ed) (hy : ResAt w (fun _ => True) (.slice ya es.length yc) es) (ht : told KL s = none) :
    Calls Try.prog 31 #[.pointer (some ⟨rb, 0, none⟩), encStr s, .int .i64 ver, .slice ya es.length yc] w fun e w' => e = .returned (.bool true) ∧ ∃ lv' xs', RfAt w' rb lv' xs' (KL ++ [⟨s, ver, es⟩]) ∧ Upd w w' (fun k => k = rb ∨ lv.ownBlock = some k) ∧ (∀ k, lv'.ownBlock = some k → lv.ownBlock = some k ∨ w.heap.size ≤ k) := by
  obtain ⟨i0, hi0, hz0, hz1, hz2⟩ := info_parts Try.info108
  have FI := find_any w rb lv xs KL h hl s
  have nb : lv.ownBlock ≠ some rb := Rw.ne_block h.r h.c (by decide)
  obtain ⟨sa, sc, rfl, -⟩ := Rw.form h.r
  have c0 := cells1 h.c
  have bl := lt_at h.c
  obtain ⟨L, hL⟩ : ∃ L, KL.length = L := ⟨_, rfl⟩
  obtain ⟨m, hm⟩ : ∃ m, es.length = m := ⟨_, rfl⟩
  have hr := h.r
  have hc := h.c
  rw [hL] at hr c0 nb hl hc
  have HH := hide h
  have HC := hide hc
  have HR := hide hr
  have HL := hide hL
  have HM := hide hm
  have HY := hide hy
  rw [hm]
  clear hr hc hL hm hy h
  go_enter Try.func31, Try.ntmps31
  go_wp2_with fail
  refine Calls.mono FI ?_
  rintro e w' ⟨hw, r, rfl, hs⟩
  replace hw := hw.symm
  subst hw
  rcases hs with ⟨rfl, hno⟩ | ⟨i, k, rfl, hi, hn, hno⟩
  · clear hno FI ht
    go_wp2_with (at_builtin; go_loud (refine wpList_append_rw _ rfl _ _ 56 56 rfl 108 _ i0 _ 3 48 Try.underlying56 Try.underlying56 (by simp) hi0 hz0 hz1 hz2 rfl _ L xs rfl (HR.out.alloc _) _ 1 _ rfl (Rw.made w #[encStr s, .int .i64 ver, .slice ya m yc] _ 3 1 rfl).src rfl (by simp [Value.oneCell']) (by omega) (by omega) ?_); intro ga gc w5 hv' hg hob'; have hb5 := block_grown hg (block_alloc HC.out _) nb; have g5 := cells1 hb5; have gf := free_at hb5 0; have HB5 := hide hb5; clear hb5)
    go_ret
    have hob := own_or hob' (show w.heap.size < _ by simp)
    have F18 := rf_free HH.out (e := 110) (by decide) (by decide)
    have F16 := rf_free HH.out (e := 73) (by decide) (by decide)
    have hrow : ∀ k, (Value.slice sa L sc).ownBlock = some k → (Value.slice sa KL.length sc).ownBlock = some k := fun k e => by rw [HL.out]; exact e
    have U : Upd w (w5.setCell ⟨rb, 0, none⟩ (.slice ga (L + 1) gc)) (fun k => k = rb ∨ (Value.slice sa KL.length sc).ownBlock = some k) := (((Upd.refl w _).alloc _).grown hg (fun k e => .inr (.inr (hrow k e)))).setCell _ _ (.inr (.inl rfl))
    have ne5 : (Value.slice ga (L + 1) gc).ownBlock ≠ some rb := fun e => (hob rb e).elim nb (fun e => by omega)
    rw [← HM.out] at hv'
    have K := KnsAt.snoc (k := ⟨s, ver, es⟩) (by rw [HL.out]) HH.out.kns U F18 F16 (Rw.setCell hv' _ _ ne5) HY.out
    have R := K.rf (block_setCell HB5.out 0 (.slice ga (L + 1) gc))
    refine ⟨rfl, .slice ga (L + 1) gc, ⟨_, R⟩, U, ?_⟩
    intro k hk
    rcases hob k hk with e | e
    · exact .inl (hrow k e)
    · exact .inr (Nat.le_of_lt e)
  · rw [told_some hi hn hno] at ht
    cases ht

theorem RLearn_refuse (w : World) (rb : Nat) (lv : Value) (xs : List Value) (KL : List Kn) (h : RfAt w rb lv xs KL) (hl : KL.length ≤ 1000000) (s : List UInt8) (ver ver0 : Int) (y : Value) (es0 : List Ed) (ht : told KL s = some (ver0, es0)) (hle : ver ≤ ver0) :
    Calls Try.prog 31 #[.pointer (some ⟨rb, 0, none⟩), encStr s, .int .i64 ver, y] w fun e w' => e = .returned (.bool false) ∧ w' = w := by
  have FI := find_any w rb lv xs KL h hl s
  obtain ⟨sa, sc, rfl, -⟩ := Rw.form h.r
  have c0 := cells1 h.c
  have HH := hide h
  clear h
  go_enter Try.func31, Try.ntmps31
  go_wp2_with fail
  refine Calls.mono FI ?_
  rintro e w' ⟨hw, r, rfl, hs⟩
  replace hw := hw.symm
  subst hw
  rcases hs with ⟨rfl, hno⟩ | ⟨i, k, rfl, hi, hn, hno⟩
  · rw [told_none hno] at ht
    cases ht
  · rw [told_some hi hn hno] at ht
    cases ht
    obtain ⟨ea, ec, hrow, -⟩ := HH.out.rows i k hi
    have hil : i < KL.length := (List.getElem?_eq_some_iff.1 hi).1
    obtain ⟨g, off, rfl, hg, d0, d1, d2⟩ := kn_at HH.out.r hrow hil
    have hi0 : decide ((i : Int) < 0) = false := by simp
    have hi1 : (0 : Int) ≤ (i : Int) := by omega
    have hi2 : (i : Int) < (KL.length : Int) := by omega
    have hd : decide (ver ≤ k.ver) = true := by simpa using hle
    clear hno hi hn hrow
    go_wp2_with fail
    go_ret
    exact ⟨rfl, rfl⟩

set_option maxHeartbeats 1600000 in
theorem RLearn_put (w : World) (rb : Nat) (lv : Value) (xs : List Value) (KL : List Kn) (h : RfAt w rb lv xs KL) (hl : KL.length ≤ 1000000) (s : List UInt8) (ver : Int) (ya : Option Addr) (yc : Nat) (es : List Ed) (hy : ResAt w (fun _ => True) (.slice ya es.length yc) es) (i : Nat) (k0 : Kn) (hi : KL[i]? = some k0) (hn : k0.n = s) (hno : ∀ (j : Nat) (k : Kn), j < i → KL[j]? = some k → k.n ≠ s) (hlt : k0.ver < ver) :
    Calls Try.prog 31 #[.pointer (some ⟨rb, 0, none⟩), encStr s, .int .i64 ver, .slice ya es.length yc] w fun e w' => e = .returned (.bool true) ∧ ∃ xs', RfAt w' rb lv xs' (KL.set i ⟨s, ver, es⟩) ∧ Upd w w' (fun k => k = rb ∨ lv.ownBlock = some k) := by
  have FI := find_any w rb lv xs KL h hl s
  have nb : lv.ownBlock ≠ some rb := Rw.ne_block h.r h.c (by decide)
  have F18 := rf_free h (e := 110) (by decide) (by decide)
  have F16 := rf_free h (e := 73) (by decide) (by decide)
  obtain ⟨sa, sc, rfl, -⟩ := Rw.form h.r
  obtain ⟨ea, ec, hrow, -⟩ := h.rows i k0 hi
  have hil : i < KL.length := (List.getElem?_eq_some_iff.1 hi).1
  have c0 := cells1 h.c
  obtain ⟨g, off, rfl, hg, d0, d1, d2⟩ := kn_at h.r hrow hil
  obtain ⟨cur, hb, _⟩ := Rw.block h.r
  have fr := free_at hb
  have gne : g ≠ rb := fun e => nb (by rw [← e]; rfl)
  have hi0 : decide ((i : Int) < 0) = false := by simp
  have hi1 : (0 : Int) ≤ (i : Int) := by omega
  have hi2 : (i : Int) < (KL.length : Int) := by omega
  have hd : decide (ver ≤ k0.ver) = false := by simp; omega
  have HH := hide h
  have HI := hide hi
  have HN := hide hn
  have HNO := hide hno
  have HY := hide hy
  have HROW := hide hrow
  clear h hi hn hno hy hb hrow
  go_enter Try.func31, Try.ntmps31
  go_wp2_with fail
  refine Calls.mono FI ?_
  rintro e w' ⟨hw, r, rfl, hs⟩
  replace hw := hw.symm
  subst hw
  have hri : r = (i : Int) := by
    rcases hs with ⟨_, hno'⟩ | ⟨i', k', rfl, h1, h2, h3⟩
    · exact absurd HN.out (hno' k0 (List.mem_of_getElem? HI.out))
    · rcases Nat.lt_trichotomy i i' with e | e | e
      · exact absurd HN.out (h3 i k0 e HI.out)
      · rw [e]
      · exact absurd h2 (HNO.out i' k' e h1)
  subst hri
  clear hs FI
  go_wp2_with fail
  go_ret
  have hr1 := Rw.set HH.out.r (i * 3 + 1) (.int .i64 ver) (by omega)
  have hr2 := Rw.set hr1 (i * 3 + 2) (.slice ya es.length yc) (by omega)
  simp only [← Nat.add_assoc] at hr2
  have U : Upd w ((w.setCell ⟨g, off + i * 3 + 1, none⟩ (.int .i64 ver)).setCell ⟨g, off + i * 3 + 2, none⟩ (.slice ya es.length yc)) (fun k => k = rb ∨ (Value.slice (some ⟨g, off, none⟩) KL.length sc).ownBlock = some k) := ((Upd.refl w _).setCell _ _ (.inr (.inr rfl))).setCell _ _ (.inr (.inr rfl))
  refine ⟨rfl, _, ⟨?_, by rw [List.length_set]; exact hr2, fun u hu => ?_, fun j k hj => ?_⟩, U⟩
  · exact (Below.heap_setCell _ _ _ _ gne.symm).trans ((Below.heap_setCell _ _ _ _ gne.symm).trans HH.out.c)
  · rcases List.mem_or_eq_of_mem_set hu with hu | rfl
    · rcases List.mem_or_eq_of_mem_set hu with hu | rfl
      · exact HH.out.one u hu
      · rfl
    · rfl
  · obtain ⟨a0, a1, a2⟩ := HROW.out
    have hxl : xs.length = KL.length * 3 := HH.out.r.1
    by_cases hij : j = i
    · subst hij
      rw [List.getElem?_set_self hil] at hj
      cases hj
      refine ⟨ya, yc, ⟨?_, ?_, ?_⟩, HY.out.free U F18 F16⟩
      · rw [List.getElem?_set_ne (by omega), List.getElem?_set_ne (by omega), a0, HN.out]
      · rw [List.getElem?_set_ne (by omega), List.getElem?_set_self (by omega)]
      · rw [List.getElem?_set_self (by simp; omega)]
    · rw [List.getElem?_set_ne (fun e => hij e.symm)] at hj
      obtain ⟨ea', ec', ⟨r0, r1, r2⟩, q⟩ := HH.out.rows j k hj
      refine ⟨ea', ec', ⟨?_, ?_, ?_⟩, q.free U F18 F16⟩ <;> rw [List.getElem?_set_ne (by omega), List.getElem?_set_ne (by omega)] <;> assumption

set_option maxHeartbeats 1600000 in
theorem RForget_any (w : World) (rb : Nat) (lv : Value) (xs : List Value) (KL : List Kn) (h : RfAt w rb lv xs KL) (hl : KL.length ≤ 1000000) (s : List UInt8) :
    Calls Try.prog 30 #[.pointer (some ⟨rb, 0, none⟩), encStr s] w fun e w' => e = .returned (.tuple #[]) ∧ ∃ lv' xs', RfAt w' rb lv' xs' (KL.filter (fun k => decide (k.n ≠ s))) ∧ Upd w w' (fun k => k = rb) ∧ (∀ k, lv'.ownBlock = some k → w.heap.size ≤ k) := by
  obtain ⟨i0, hi0, hz0, hz1, hz2⟩ := info_parts Try.info108
  obtain ⟨sa, sc, rfl, -⟩ := Rw.form h.r
  obtain ⟨N, hN⟩ : ∃ N, KL.length = N := ⟨_, rfl⟩
  have hr := h.r
  have hc := h.c
  rw [hN] at hr hc hl
  have HH := hide h
  have HN := hide hN
  have HR := hide hr
  have HC := hide hc
  have bl := lt_at h.c
  have c0 := cells1 hc
  clear h hN hr hc
  go_enter Try.func30, Try.ntmps30
  go_wp2_with fail
  go_loopg [4, 5] N (fun q va iv wr => ∃ (k m : Nat) (xo : List Value) (O : List Kn), k + q = N ∧ iv = .int .i64 k ∧ O.length = m ∧ m ≤ k ∧ O = (KL.take k).filter (fun k => decide (k.n ≠ s)) ∧ KnsAt wr va xo O ∧ (∀ j, va.ownBlock = some j → w.heap.size ≤ j) ∧ Upd w wr (fun _ => False))
  case atStart => exact ⟨0, 0, [], [], by omega, rfl, rfl, by omega, rfl, ⟨Rw.nil _ _ _, by simp, fun i k hk => by simp at hk⟩, by simp [Value.ownBlock], Upd.refl _ _⟩
  case round =>
    obtain ⟨k, m, xo, O, hk, rfl, hm, hmk, hO, ko, oo, hu⟩ := hrel
    have hcr := hu.get HC.out id
    have cr0 := cells1 hcr
    have crl := lt_at hcr
    have crf := free_at hcr 0
    obtain ⟨va, vc, rfl, -⟩ := Rw.form ko.r
    subst hm
    have hkr := ko.r
    by_cases hkN : k < N
    · obtain ⟨o, ho⟩ : ∃ o, KL[k]? = some o := ⟨_, List.getElem?_eq_getElem (by rw [HN.out]; exact hkN)⟩
      have hT : KL.take (k + 1) = KL.take k ++ [o] := by rw [List.take_add_one, ho]; rfl
      obtain ⟨ea, ec, hrow, hre⟩ := HH.out.rows k o ho
      obtain ⟨M, hM⟩ : ∃ M, o.es.length = M := ⟨_, rfl⟩
      rw [hM] at hrow
      obtain ⟨g, off, rfl, hg, d0, d1, d2⟩ := kn_at (hu.rw HR.out (fun _ _ => id)) hrow hkN
      have hk0 : (0 : Int) ≤ (k : Int) := by omega
      have hk1 : (k : Int) < (N : Int) := by omega
      have w1 : IntKind.i64.wrap ((k : Int) + 1) = (k : Int) + 1 := IntWalk.i64_in _ (by omega)
      have HKO := hide ko
      have HKR := hide hkr
      have HU := hide hu
      have HO := hide hO
      have HT := hide hT
      have HM := hide hM
      have HRE := hide hre
      have HOO := hide oo
      clear ko hkr hu hO hT hM hre ho hrow hcr
      obtain ⟨on, over, oes⟩ := o
      simp only at d0 d1 d2
      by_cases h1 : on = s
      · have hb : (on == s) = true := by simpa using h1
        have hF : (KL.take (k + 1)).filter (fun k => decide (k.n ≠ s)) = O := by rw [HT.out, List.filter_append, ← HO.out]; simp [h1]
        have HF := hide hF
        clear hF h1
        go_wp2_with fail
        go_roundg (gk - 1)
        case measure => omega
        case rel => exact ⟨k + 1, _, xo, O, by omega, by go_num, rfl, by omega, HF.out.symm, HKO.out, HOO.out, HU.out⟩
      · have hb : (on == s) = false := by simpa using h1
        have hF : (KL.take (k + 1)).filter (fun k => decide (k.n ≠ s)) = O ++ [⟨on, over, oes⟩] := by rw [HT.out, List.filter_append, ← HO.out]; simp [h1]
        have HF := hide hF
        clear hF h1
        go_wp2_with (at_builtin; go_loud (refine wpList_append_rw _ rfl _ _ 56 56 rfl 108 _ i0 _ 3 48 Try.underlying56 Try.underlying56 (by simp) hi0 hz0 hz1 hz2 rfl _ O.length xo rfl (HKR.out.alloc _) _ 1 _ rfl (Rw.made wr #[encStr on, .int .i64 over, .slice ea M ec] _ 3 1 rfl).src rfl (by simp [Value.oneCell']) (by omega) (by omega) ?_); intro ga gc w5 hv' hg5 hob')
        have hr5 : ∀ j, (Value.slice ga (O.length + 1) gc).ownBlock = some j → (Value.slice va O.length vc).ownBlock = some j ∨ wr.heap.size ≤ j := fun j hj => (own_or hob' (show wr.heap.size < _ by simp) j hj).imp id (fun e => Nat.le_of_lt e)
        have U5 : Upd wr w5 (fun k => (Value.slice va O.length vc).ownBlock = some k) := ((Upd.refl wr _).alloc _).grown hg5 (fun k e => .inr e)
        rw [← HM.out] at hv'
        have K5 := KnsAt.snoc (k := ⟨on, over, oes⟩) rfl HKO.out U5 (row_free HKR.out (by decide)) (row_free HKR.out (by decide)) hv' (HRE.out.upd HU.out (fun _ _ => id))
        go_roundg (gk - 1)
        case measure => omega
        case rel =>
          refine ⟨k + 1, O.length + 1, _, O ++ [⟨on, over, oes⟩], by omega, by go_num, by simp, by omega, HF.out.symm, K5, fun j hj => ?_, (HU.out.alloc _).grown hg5 (fun j e => .inl (HOO.out j e))⟩
          rcases hr5 j hj with e | e
          · exact HOO.out j e
          · have := HU.out.size; omega
    · have e0 : k = N := by omega
      subst e0
      have hT : KL.take k = KL := by rw [← HN.out]; simp
      rw [hT] at hO
      have KO := hide ko
      have HO := hide hO
      have HU := hide hu
      have HOO := hide oo
      have HCR := hide hcr
      clear ko hO hu oo hcr hkr
      go_wp2_with fail
      go_end0
      have ne := Rw.ne_block KO.out.r HCR.out (by decide)
      have U := (Upd.refl wr (fun k => k = rb)).setCell ⟨rb, 0, none⟩ (.slice va O.length vc) (.inr rfl)
      have K := KO.out.free U (one_free HCR.out (by decide)) (one_free HCR.out (by decide)) (one_free HCR.out (by decide))
      rw [← HO.out]
      refine ⟨rfl, .slice va O.length vc, xo, K.rf (block_setCell HCR.out 0 _), (HU.out.weaken (T := fun k => k = rb) (fun _ _ => False.elim)).then U (fun _ _ => id), HOO.out⟩
end Go.Proofs.Ytcdimledeomahaa
