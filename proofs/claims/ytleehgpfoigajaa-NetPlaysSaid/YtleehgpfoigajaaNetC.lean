/- A pair's texts, and the walks of package net's calls on them. -/
import Derived.Test.YtleehgpfoigajaaNetB
set_option maxRecDepth 100000
namespace Go.Proofs.Ytleehgpfoigajaa
open Go.RowKit Go.Lat

abbrev noRow : Value := .slice none 0 0

/-- The texts of a pair: what the map holds at it reads as them. -/
def LineV (base : Nat) (w : World) (b bm : Nat) (D : DataW Value) (f t : ByteArray) (zs : List (List UInt8)) (v : Value) : Prop :=
  D.atKey (pairLit f t) (.held noRow) = .held v ∧ Rw w 9 1 v zs.length (zs.map encStr) ∧ capOk v ∧ v.ownBlock ≠ some b ∧ v.ownBlock ≠ some bm ∧ ∀ k, v.ownBlock = some k → base ≤ k

theorem LineV.empty (base : Nat) (w : World) (b bm : Nat) (D : DataW Value) (f t : ByteArray) (h : D.atKey (pairLit f t) (.held noRow) = .held noRow) : LineV base w b bm D f t [] noRow :=
  ⟨h, Rw.nil _ _ _, by simp [capOk], by simp [Value.ownBlock], by simp [Value.ownBlock], by simp [Value.ownBlock]⟩

theorem Len_ln (w : World) (b bm n : Nat) (D : DataW Value) (lost : Nat) (h : NetAt w b bm n D lost) (f t : ByteArray) (hf : f.size ≤ maxLen) (ht : t.size ≤ maxLen) (base : Nat) (zs : List (List UInt8)) (v : Value) (l : LineV base w b bm D f t zs v) :
    Calls Try.prog 13 #[.pointer (some ⟨b, 0, none⟩), .string f, .string t] w fun e w' => e = .returned (.int .i64 (zs.length : Nat)) ∧ w' = w := by
  obtain ⟨l1, l2, -⟩ := l
  obtain ⟨a, c, rfl, -⟩ := Rw.form l2
  exact Len_any w b bm n D lost h f t hf ht a _ c l1

theorem Look_ln (w : World) (b bm n : Nat) (D : DataW Value) (lost : Nat) (h : NetAt w b bm n D lost) (f t : ByteArray) (hf : f.size ≤ maxLen) (ht : t.size ≤ maxLen) (base : Nat) (zs : List (List UInt8)) (v : Value) (l : LineV base w b bm D f t zs v) (i : Nat) (x : List UInt8) (hx : zs[i]? = some x) :
    Calls Try.prog 14 #[.pointer (some ⟨b, 0, none⟩), .string f, .string t, .int .i64 i] w fun e w' => e = .returned (.tuple #[encStr x, .int .i64 0]) ∧ w' = w := by
  obtain ⟨l1, l2, -⟩ := l
  have hi : i < zs.length := (List.getElem?_eq_some_iff.1 hx).1
  obtain ⟨g, off, c, rfl⟩ : ∃ g off c, v = .slice (some ⟨g, off, none⟩) zs.length c := by
    rcases l2.2 with ⟨_, h0⟩ | ⟨g, off, cap, cur, rfl, _⟩
    · omega
    · exact ⟨g, off, cap, rfl⟩
  exact Look_in w b bm n D lost h f t hf ht g off _ c i hi ⟨x.toArray⟩ l1 (l2.cells i (encStr x) (by rw [List.getElem?_map, hx]; rfl))

theorem Send_ln (w : World) (b bm n : Nat) (D : DataW Value) (lost : Nat) (h : NetAt w b bm n D lost) (hn : n < 1000000) (f t : ByteArray) (hf : f.size ≤ maxLen) (ht : t.size ≤ maxLen) (base : Nat) (zs : List (List UInt8)) (v : Value) (l : LineV base w b bm D f t zs v) (hb : base ≤ w.heap.size) (h256 : zs.length < 256) (s : List UInt8) :
    Calls Try.prog 8 #[.pointer (some ⟨b, 0, none⟩), .string f, .string t, encStr s] w fun e w' => e = .returned (.bool true) ∧
      ∃ v', NetAt w' b bm (n + 1) (D.put (pairLit f t) (.held v')) lost ∧ LineV base w' b bm (D.put (pairLit f t) (.held v')) f t (zs ++ [s]) v' ∧ Upd w w' (fun k => k = bm ∨ some k = v.ownBlock) := by
  obtain ⟨l1, l2, l3, l4, l5, l6⟩ := l
  have k := Send_room w b bm n D lost h hn f t ⟨s.toArray⟩ hf ht v (zs.map encStr) (by simpa using h256) (by simpa using l2) l3 l1 l4 l5
  refine Calls.mono k ?_
  rintro e w' ⟨rfl, a, c, k1, k2, k3, k4, k5⟩
  have blt := lt_at h.c
  have bmlt := h.m.lt
  refine ⟨rfl, _, k2, ⟨Go.Maps.atKey_put_same (World.ownsMap.isMap h.m) (isKey_pair f t) _ _, ?_, k1, ?_, ?_, ?_⟩, k5⟩
  · simpa using k3
  · rcases k4 with e | ⟨m, e, hm⟩
    · rw [e]; exact l4
    · rw [e]; intro e2; have := Option.some.inj e2; omega
  · rcases k4 with e | ⟨m, e, hm⟩
    · rw [e]; exact l5
    · rw [e]; intro e2; have := Option.some.inj e2; omega
  · intro i hi
    rcases k4 with e | ⟨m, e, hm⟩
    · exact l6 i (e.symm.trans hi)
    · have := Option.some.inj (e.symm.trans hi); omega

theorem Twice_full (w : World) (b bm n : Nat) (D : DataW Value) (lost : Nat) (h : NetAt w b bm n D lost) (f t : ByteArray) (hf : f.size ≤ maxLen) (ht : t.size ≤ maxLen) (base : Nat) (zs : List (List UInt8)) (v : Value) (l : LineV base w b bm D f t zs v) (h256 : 256 ≤ zs.length) (i : Nat) (x : List UInt8) (hx : zs[i]? = some x) :
    Calls Try.prog 11 #[.pointer (some ⟨b, 0, none⟩), .string f, .string t, .int .i64 i] w fun e w' => e = .returned (.int .i64 10) ∧ w' = w := by
  have LK := Look_ln w b bm n D lost h f t hf ht base zs v l i x hx
  have LN := Len_ln w b bm n D lost h f t hf ht base zs v l
  obtain ⟨L, hL⟩ : ∃ L, zs.length = L := ⟨_, rfl⟩
  rw [hL] at LN h256
  have d1 : decide (256 ≤ L) = true := by simpa using h256
  have d2 : decide ((256 : Int) ≤ (L : Int)) = true := by simp; omega
  go_enter Try.func11, Try.ntmps11
  go_wp2_with fail
  refine Calls.mono LK ?_
  rintro e w' ⟨rfl, hw⟩
  replace hw := hw.symm
  subst hw
  go_wp2_with fail
  refine Calls.mono LN ?_
  rintro e w' ⟨rfl, hw⟩
  replace hw := hw.symm
  subst hw
  go_wp2_with fail
  go_ret
  exact ⟨rfl, rfl⟩

theorem Twice_room (w : World) (b bm n : Nat) (D : DataW Value) (lost : Nat) (h : NetAt w b bm n D lost) (hn : n < 1000000) (f t : ByteArray) (hf : f.size ≤ maxLen) (ht : t.size ≤ maxLen) (base : Nat) (zs : List (List UInt8)) (v : Value) (l : LineV base w b bm D f t zs v) (hb : base ≤ w.heap.size) (h256 : zs.length < 256) (i : Nat) (x : List UInt8) (hx : zs[i]? = some x) :
    Calls Try.prog 11 #[.pointer (some ⟨b, 0, none⟩), .string f, .string t, .int .i64 i] w fun e w' => e = .returned (.int .i64 0) ∧
      ∃ v', NetAt w' b bm (n + 1) (D.put (pairLit f t) (.held v')) lost ∧ LineV base w' b bm (D.put (pairLit f t) (.held v')) f t (zs ++ [x]) v' ∧ Upd w w' (fun k => k = bm ∨ some k = v.ownBlock) := by
  have LK := Look_ln w b bm n D lost h f t hf ht base zs v l i x hx
  have LN := Len_ln w b bm n D lost h f t hf ht base zs v l
  have SD := Send_ln w b bm n D lost h hn f t hf ht base zs v l hb h256 x
  obtain ⟨L, hL⟩ : ∃ L, zs.length = L := ⟨_, rfl⟩
  rw [hL] at LN h256
  have d1 : decide (256 ≤ L) = false := by simp; omega
  have d2 : decide ((256 : Int) ≤ (L : Int)) = false := by simp; omega
  go_enter Try.func11, Try.ntmps11
  go_wp2_with fail
  refine Calls.mono LK ?_
  rintro e w' ⟨rfl, hw⟩
  replace hw := hw.symm
  subst hw
  go_wp2_with fail
  refine Calls.mono LN ?_
  rintro e w' ⟨rfl, hw⟩
  replace hw := hw.symm
  subst hw
  go_wp2_with fail
  refine Calls.mono SD ?_
  rintro e w' ⟨rfl, hp⟩
  go_wp2_with fail
  go_ret
  exact ⟨rfl, hp⟩

theorem Take_ln (w : World) (b bm n : Nat) (D : DataW Value) (lost : Nat) (h : NetAt w b bm n D lost) (hn : n < 1000000) (f t : ByteArray) (hf : f.size ≤ maxLen) (ht : t.size ≤ maxLen) (base : Nat) (zs : List (List UInt8)) (v : Value) (l : LineV base w b bm D f t zs v) (h2 : 2 ≤ zs.length) (h3 : zs.length ≤ 1000) (i : Nat) (x : List UInt8) (hx : zs[i]? = some x) :
    Calls Try.prog 15 #[.pointer (some ⟨b, 0, none⟩), .string f, .string t, .int .i64 i] w fun e w' => e = .returned (.tuple #[encStr x, .int .i64 0]) ∧
      ∃ v', v'.ownBlock = v.ownBlock ∧ NetAt w' b bm (n + 1) (D.put (pairLit f t) (.held v')) lost ∧ LineV base w' b bm (D.put (pairLit f t) (.held v')) f t (zs.take i ++ zs.drop (i + 1)) v' ∧ Upd w w' (fun k => k = bm ∨ some k = v.ownBlock) := by
  obtain ⟨l1, l2, l3, l4, l5, l6⟩ := l
  have hi : i < zs.length := (List.getElem?_eq_some_iff.1 hx).1
  obtain ⟨g, off, c, rfl⟩ : ∃ g off c, v = .slice (some ⟨g, off, none⟩) zs.length c := by
    rcases l2.2 with ⟨_, h0⟩ | ⟨g, off, cap, cur, rfl, _⟩
    · omega
    · exact ⟨g, off, cap, rfl⟩
  have k := Take_in w b bm n D lost h hn f t hf ht g off zs.length c i zs rfl hi h2 h3 l3 l2 l1 (fun e => l4 (by rw [e]; rfl)) (fun e => l5 (by rw [e]; rfl)) x hx
  refine Calls.mono k ?_
  rintro e w' ⟨rfl, k2, k3, k4⟩
  have e1 : (zs.take i ++ zs.drop (i + 1)).length = zs.length - 1 := by simp; omega
  refine ⟨rfl, .slice (some ⟨g, off, none⟩) (zs.length - 1) c, rfl, k2, ⟨Go.Maps.atKey_put_same (World.ownsMap.isMap h.m) (isKey_pair f t) _ _, ?_, l3, l4, l5, l6⟩, k4.weaken (fun i _ hk => ?_)⟩
  · rw [e1]; exact k3
  · rcases hk with e | e
    · exact .inl e
    · exact .inr (by rw [e]; rfl)

theorem Drop_ln (w : World) (b bm n : Nat) (D : DataW Value) (lost : Nat) (h : NetAt w b bm n D lost) (hn : n < 1000000) (f t : ByteArray) (hf : f.size ≤ maxLen) (ht : t.size ≤ maxLen) (base : Nat) (zs : List (List UInt8)) (v : Value) (l : LineV base w b bm D f t zs v) (h2 : 2 ≤ zs.length) (h3 : zs.length ≤ 1000) (i : Nat) (x : List UInt8) (hx : zs[i]? = some x) :
    Calls Try.prog 12 #[.pointer (some ⟨b, 0, none⟩), .string f, .string t, .int .i64 i] w fun e w' => e = .returned (.int .i64 0) ∧
      ∃ v', v'.ownBlock = v.ownBlock ∧ NetAt w' b bm (n + 1) (D.put (pairLit f t) (.held v')) lost ∧ LineV base w' b bm (D.put (pairLit f t) (.held v')) f t (zs.take i ++ zs.drop (i + 1)) v' ∧ Upd w w' (fun k => k = bm ∨ some k = v.ownBlock) := by
  have TK := Take_ln w b bm n D lost h hn f t hf ht base zs v l h2 h3 i x hx
  go_enter Try.func12, Try.ntmps12
  go_wp2_with fail
  refine Calls.mono TK ?_
  rintro e w' ⟨rfl, hp⟩
  go_wp2_with fail
  go_ret
  exact ⟨rfl, hp⟩

theorem LineV.upd {base : Nat} {w w' : World} {b bm : Nat} {D : DataW Value} {f t : ByteArray} {zs : List (List UInt8)} {v : Value} {S : Nat → Prop} (l : LineV base w b bm D f t zs v) (u : Upd w w' S) (hS : ∀ k, v.ownBlock = some k → ¬ S k) : LineV base w' b bm D f t zs v := by
  obtain ⟨l1, l2, l3⟩ := l
  exact ⟨l1, u.rw l2 hS, l3⟩
/-- What is written of a pair's texts lies in new blocks. -/
theorem LineV.new {base : Nat} {w : World} {b bm : Nat} {D : DataW Value} {f t : ByteArray} {zs : List (List UInt8)} {v : Value} (l : LineV base w b bm D f t zs v) (hm : base ≤ bm) : ∀ i, i < base → (i = bm ∨ some i = v.ownBlock) → False := by
  intro i hi hk
  rcases hk with e | e
  · omega
  · have := l.2.2.2.2.2 i e.symm
    omega
theorem atKey_none (kl : Lit) (z : DataW Value) : (DataW.map ([] : List (Lit × DataW Value))).atKey kl z = z := Go.Maps.atKey_of_not_has rfl z

/-- Another pair's texts stay, at another write. -/
theorem LineV.other {base : Nat} {w w' : World} {b bm : Nat} {D : DataW Value} {f t f' t' : ByteArray} {zs : List (List UInt8)} {v v' : Value} {S : Nat → Prop} (l : LineV base w b bm D f t zs v) (hne : pairLit f t ≠ pairLit f' t') (u : Upd w w' S) (hS : ∀ k, v.ownBlock = some k → ¬ S k) :
    LineV base w' b bm (D.put (pairLit f' t') (.held v')) f t zs v := by
  obtain ⟨l1, l2, l3⟩ := l
  exact ⟨by rw [Go.Maps.atKey_put_other hne]; exact l1, u.rw l2 hS, l3⟩
end Go.Proofs.Ytleehgpfoigajaa
