/- A network as a whole: what is on its way between every two names; Send and Len on it. -/
import Derived.Test.YtleehgpfoigajaaNtA
set_option maxRecDepth 100000
namespace Go.Proofs.Ytleehgpfoigajaa
open Go.RowKit Go.Lat Go.Sort

def prOk (p : Pr) : Prop := p.1.length ≤ maxLen ∧ p.2.length ≤ maxLen
def prLit (p : Pr) : Lit := pairLit ⟨p.1.toArray⟩ ⟨p.2.toArray⟩
theorem prLit_inj {p q : Pr} (hp : prOk p) (hq : prOk q) (h : prLit p = prLit q) : p = q := by
  obtain ⟨h1, h2⟩ := pairLit_inj (f := ⟨p.1.toArray⟩) (t := ⟨p.2.toArray⟩) (f' := ⟨q.1.toArray⟩) (t' := ⟨q.2.toArray⟩) hp.1 hp.2 hq.1 hq.2 h
  have e1 : p.1 = q.1 := by simpa using h1
  have e2 : p.2 = q.2 := by simpa using h2
  exact Prod.ext e1 e2
theorem prLit_key {p : Pr} (hp : prOk p) : keyOf Try.prog 56 (.agg #[encStr p.1, encStr p.2]) = some (prLit p) := pair_key ⟨p.1.toArray⟩ ⟨p.2.toArray⟩ hp.1 hp.2
theorem isKey_pr (p : Pr) : WideAt.IsKeyLit (prLit p) := trivial
def setF {α : Type} (M : Pr → α) (p : Pr) (x : α) : Pr → α := fun q => if q = p then x else M q
theorem setF_same {α : Type} (M : Pr → α) (p : Pr) (x : α) : setF M p x p = x := by simp [setF]
theorem setF_other {α : Type} (M : Pr → α) (p : Pr) (x : α) {q : Pr} (h : q ≠ p) : setF M p x q = M q := by simp [setF, h]

/-- A network: M is on its way. -/
structure Nets (base : Nat) (w : World) (b bm n : Nat) (D : DataW Value) (lost : Nat) (M : Pr → List (List UInt8)) (V : Pr → Value) : Prop where
  net : NetAt w b bm n D lost
  bb : base ≤ b
  bbm : base ≤ bm
  line : ∀ p, prOk p → LineV base w b bm D ⟨p.1.toArray⟩ ⟨p.2.toArray⟩ (M p) (V p)
  has : ∀ p, prOk p → Maps.has D (prLit p) = decide (M p ≠ [])
  ap : ∀ p q, prOk p → prOk q → p ≠ q → (V p).ownBlock = none ∨ (V p).ownBlock ≠ (V q).ownBlock

theorem Nets.upd {base : Nat} {w w' : World} {b bm n : Nat} {D : DataW Value} {lost : Nat} {M : Pr → List (List UInt8)} {V : Pr → Value} (h : Nets base w b bm n D lost M V) (u : Upd w w' (fun _ => False)) : Nets base w' b bm n D lost M V :=
  ⟨h.net.upd u id id, h.bb, h.bbm, fun p hp => (h.line p hp).upd u (fun _ _ => id), h.has, h.ap⟩
theorem Nets.new {w : World} {b bm : Nat} {base : Nat} (h : NetAt w b bm 0 (.map []) 0) (h1 : base ≤ b) (h2 : base ≤ bm) : Nets base w b bm 0 (.map []) 0 (fun _ => []) (fun _ => noRow) :=
  ⟨h, h1, h2, fun _ _ => LineV.empty base w b bm _ _ _ (atKey_none _ _), fun _ _ => rfl, fun _ _ _ _ _ => .inl rfl⟩
/-- One pair's texts are others. -/
theorem Nets.set {base : Nat} {w w' : World} {b bm n n' : Nat} {D D' : DataW Value} {lost : Nat} {M : Pr → List (List UInt8)} {V : Pr → Value} (h : Nets base w b bm n D lost M V) {p : Pr} (hp : prOk p) {zs : List (List UInt8)} {v : Value} (u : Upd w w' (fun k => k = bm ∨ some k = (V p).ownBlock)) (hnet : NetAt w' b bm n' D' lost)
    (hline : LineV base w' b bm D' ⟨p.1.toArray⟩ ⟨p.2.toArray⟩ zs v) (hov : v.ownBlock = none ∨ v.ownBlock = (V p).ownBlock ∨ ∃ m, v.ownBlock = some m ∧ w.heap.size ≤ m) (hhas : Maps.has D' (prLit p) = decide (zs ≠ []))
    (hoth : ∀ kl, kl ≠ prLit p → (∀ z, D'.atKey kl z = D.atKey kl z) ∧ Maps.has D' kl = Maps.has D kl) : Nets base w' b bm n' D' lost (setF M p zs) (setF V p v) := by
  have apart : ∀ q, prOk q → q ≠ p → ∀ k, (V q).ownBlock = some k → ¬ (k = bm ∨ some k = (V p).ownBlock) := by
    intro q hq hqp k hk e
    rcases e with e | e
    · exact (h.line q hq).2.2.2.2.1 (e ▸ hk)
    · rcases h.ap q p hq hp hqp with z | z
      · rw [z] at hk; cases hk
      · exact z (hk.trans e)
  have lt : ∀ q, prOk q → ∀ k, (V q).ownBlock = some k → k < w.heap.size := fun q hq k hk => (h.line q hq).2.1.lt k hk
  refine ⟨hnet, h.bb, h.bbm, fun q hq => ?_, fun q hq => ?_, fun q r hq hr hqr => ?_⟩
  · by_cases e : q = p
    · subst e
      rw [setF_same, setF_same]
      exact hline
    · rw [setF_other _ _ _ e, setF_other _ _ _ e]
      obtain ⟨l1, l2, l3⟩ := h.line q hq
      exact ⟨((hoth (prLit q) (fun z => e (prLit_inj hq hp z))).1 _).trans l1, u.rw l2 (apart q hq e), l3⟩
  · by_cases e : q = p
    · subst e
      rw [setF_same]
      exact hhas
    · rw [setF_other _ _ _ e, (hoth (prLit q) (fun z => e (prLit_inj hq hp z))).2]
      exact h.has q hq
  · by_cases e : q = p
    · subst e
      have er : r ≠ q := fun z => hqr z.symm
      rw [setF_same, setF_other _ _ _ er]
      rcases hov with z | z | ⟨m, z, hm⟩
      · exact .inl z
      · rw [z]
        exact h.ap q r hq hr hqr
      · exact .inr (fun x => by have := lt r hr m (x ▸ z); omega)
    · rw [setF_other _ _ _ e]
      by_cases e' : r = p
      · subst e'
        rw [setF_same]
        rcases hov with z | z | ⟨m, z, hm⟩
        · cases hv : (V q).ownBlock with
          | none => exact .inl rfl
          | some k => exact .inr (by rw [z]; simp)
        · rw [z]
          exact h.ap q r hq hr hqr
        · exact .inr (fun x => by have := lt q hq m (x.trans z); omega)
      · rw [setF_other _ _ _ e']
        exact h.ap q r hq hr hqr

/-- What a call may write. -/
def Nfr (b bm : Nat) (V : Pr → Value) (p : Pr) : Nat → Prop := fun k => k = b ∨ k = bm ∨ some k = (V p).ownBlock
theorem Nets.fr {base : Nat} {w : World} {b bm n : Nat} {D : DataW Value} {lost : Nat} {M : Pr → List (List UInt8)} {V : Pr → Value} (h : Nets base w b bm n D lost M V) {p : Pr} (hp : prOk p) : ∀ k, Nfr b bm V p k → base ≤ k ∧ k < w.heap.size := by
  rintro k (e | e | e)
  · exact ⟨e ▸ h.bb, e ▸ lt_at h.net.c⟩
  · exact ⟨e ▸ h.bbm, e ▸ h.net.m.lt⟩
  · exact ⟨(h.line p hp).2.2.2.2.2 k e.symm, (h.line p hp).2.1.lt k e.symm⟩
/-- Another map is none of it. -/
theorem Nets.map {base : Nat} {w : World} {b bm n : Nat} {D : DataW Value} {lost : Nat} {M : Pr → List (List UInt8)} {V : Pr → Value} (h : Nets base w b bm n D lost M V) {p : Pr} (hp : prOk p) {T : TypeId} {lm nl : Nat} {Dl : DataW Value} (hl : w.ownsMap Try.prog T heldElem lm nl Dl) (hne : lm ≠ bm) : ¬ Nfr b bm V p lm := by
  obtain ⟨es, clock, hb, _⟩ := hl
  rintro (e | e | e)
  · have := h.net.c
    rw [← e, hb] at this
    cases this
  · exact hne e
  · rcases (h.line p hp).2.1.2 with ⟨q, _⟩ | ⟨g, off, cap, cur, q, hg, _⟩
    · rw [q] at e; cases e
    · rw [q] at e
      have e2 : lm = g := Option.some.inj e
      rw [← e2, hb] at hg
      cases hg

/-- What Send makes of what is on its way. -/
def sendM (M : Pr → List (List UInt8)) (p : Pr) (s : List UInt8) : Pr → List (List UInt8) := if (M p).length < 256 then setF M p (M p ++ [s]) else M
theorem Send_S (base : Nat) (w : World) (b bm n : Nat) (D : DataW Value) (lost : Nat) (M : Pr → List (List UInt8)) (V : Pr → Value) (h : Nets base w b bm n D lost M V) (hn : n < 1000000) (hl : lost ≤ 1000000) (p : Pr) (hp : prOk p) (s : List UInt8) :
    Calls Try.prog 8 #[.pointer (some ⟨b, 0, none⟩), encStr p.1, encStr p.2, encStr s] w fun e w' => e = .returned (.bool (decide ((M p).length < 256))) ∧
      ∃ n' D' V', n' ≤ n + 1 ∧ Nets base w' b bm n' D' (if (M p).length < 256 then lost else lost + 1) (sendM M p s) V' ∧ Upd w w' (Nfr b bm V p) := by
  obtain ⟨l1, l2, l3, l4, l5, l6⟩ := h.line p hp
  have hb : base ≤ w.heap.size := by have := h.bb; have := lt_at h.net.c; omega
  unfold sendM
  by_cases h256 : (M p).length < 256
  · rw [if_pos h256, if_pos h256, decide_eq_true h256]
    have k := Send_room w b bm n D lost h.net hn ⟨p.1.toArray⟩ ⟨p.2.toArray⟩ ⟨s.toArray⟩ hp.1 hp.2 (V p) ((M p).map encStr) (by simpa using h256) (by simpa using l2) l3 l1 l4 l5
    refine Calls.mono k ?_
    rintro e w' ⟨rfl, a, c, k1, k2, k3, k4, k5⟩
    have blt := lt_at h.net.c
    have bmlt := h.net.m.lt
    refine ⟨rfl, n + 1, _, _, Nat.le_refl _, Nets.set h hp k5 k2 ⟨Go.Maps.atKey_put_same (World.ownsMap.isMap h.net.m) (isKey_pr p) _ _, ?_, k1, ?_, ?_, ?_⟩ (.inr k4) ?_ ?_, k5.weaken fun _ _ e => ?_⟩
    · simpa using k3
    · rcases k4 with e | ⟨m, e, hm⟩
      · rw [e]; exact l4
      · rw [e]; intro e2; have := Option.some.inj e2; omega
    · rcases k4 with e | ⟨m, e, hm⟩
      · rw [e]; exact l5
      · rw [e]; intro e2; have := Option.some.inj e2; omega
    · intro i hi
      rcases k4 with e | ⟨m, e, hm⟩
      · exact l6 i (e.symm.trans hi)
      · have := Option.some.inj (e.symm.trans hi); omega
    · rw [show pairLit ⟨p.1.toArray⟩ ⟨p.2.toArray⟩ = prLit p from rfl, Go.Maps.has_put_same (World.ownsMap.isMap h.net.m) (isKey_pr p)]
      simp
    · intro kl hkl
      exact ⟨fun z => Go.Maps.atKey_put_other hkl _ _, Go.Maps.has_put_other hkl _⟩
    · exact .inr e
  · rw [if_neg h256, if_neg h256, decide_eq_false h256]
    obtain ⟨a, c, hv, -⟩ := Rw.form l2
    have k := Send_full w b bm n D lost h.net hl ⟨p.1.toArray⟩ ⟨p.2.toArray⟩ ⟨s.toArray⟩ hp.1 hp.2 a (M p).length c (by omega) (by rw [← hv]; exact l1)
    refine Calls.mono k ?_
    rintro e w' ⟨rfl, k2, k5⟩
    refine ⟨rfl, n, D, V, by omega, ⟨k2, h.bb, h.bbm, fun q hq => (h.line q hq).upd k5 (fun k hk e => (h.line q hq).2.2.2.1 (e ▸ hk)), h.has, h.ap⟩, k5.weaken fun _ _ e => .inl e⟩
theorem Len_S (base : Nat) (w : World) (b bm n : Nat) (D : DataW Value) (lost : Nat) (M : Pr → List (List UInt8)) (V : Pr → Value) (h : Nets base w b bm n D lost M V) (p : Pr) (hp : prOk p) :
    Calls Try.prog 13 #[.pointer (some ⟨b, 0, none⟩), encStr p.1, encStr p.2] w fun e w' => e = .returned (.int .i64 ((M p).length : Nat)) ∧ w' = w :=
  Len_ln w b bm n D lost h.net ⟨p.1.toArray⟩ ⟨p.2.toArray⟩ hp.1 hp.2 base (M p) (V p) (h.line p hp)

/-- Whatever is a key of the map is a pair. -/
theorem pair_inv {key : Value} {kl : Lit} (h : keyOf Try.prog 56 key = some kl) : ∃ p : Pr, prOk p ∧ key = .agg #[encStr p.1, encStr p.2] ∧ kl = prLit p := by
  have h1 : Try.prog.keyType 56 = true := by kernel_rfl
  have h2 : Try.prog.cellsOf 56 = 2 := by kernel_rfl
  have h3 : Try.prog.cellsOf 9 = 1 := by kernel_rfl
  have h0 := h
  unfold keyOf at h
  rw [Try.underlying56] at h
  simp only [h1, Bool.true_and] at h
  by_cases hf : key.formed Try.prog 56 = true
  · rw [if_pos hf] at h
    have hag : ∃ cs : Array Value, key = .agg cs ∧ cs.size = 2 := by
      cases key <;> simp [Value.formed, Try.underlying56, h2] at hf
      exact ⟨_, rfl, hf⟩
    obtain ⟨⟨cs⟩, rfl, hcs⟩ := hag
    obtain ⟨a, b, rfl⟩ : ∃ a b, cs = [a, b] := by
      match cs, hcs with
      | [a, b], _ => exact ⟨a, b, rfl⟩
      | [], h => simp at h
      | [_], h => simp at h
      | _ :: _ :: _ :: _, h => simp at h
    have h7 : 0 < Try.prog.types.size := of_decide_eq_true (by kernel_rfl)
    obtain ⟨d, hd⟩ : ∃ d, Try.prog.types.size = d + 1 := ⟨Try.prog.types.size - 1, by omega⟩
    rw [hd] at h
    unfold Program.keyLits at h
    rw [Try.underlying56] at h
    have hs : ∀ (d : Nat) (v : Value), (∀ s, v ≠ .string s ∨ ¬ s.size ≤ maxLen) → Try.prog.keyLits (d + 1) 9 [v] = none := by
      intro d v hv
      cases v <;> simp [Program.keyLits, Try.underlying9]
      rename_i s
      rcases hv s with q | q
      · exact absurd rfl q
      · omega
    have str : ∀ v, (∃ s, v = Value.string s ∧ s.size ≤ maxLen) ∨ (∀ s, v ≠ .string s ∨ ¬ s.size ≤ maxLen) := by
      intro v
      by_cases q : ∃ s, v = Value.string s ∧ s.size ≤ maxLen
      · exact .inl q
      · refine .inr fun s => ?_
        by_cases z : v = .string s
        · exact .inr fun y => q ⟨s, z, y⟩
        · exact .inl z
    rcases str a with ⟨s, rfl, sl⟩ | na
    · rcases str b with ⟨t, rfl, tl⟩ | nb
      · refine ⟨(s.data.toList, t.data.toList), ⟨sl, tl⟩, ?_, ?_⟩
        · show Value.agg #[.string s, .string t] = .agg #[.string ⟨s.data.toList.toArray⟩, .string ⟨t.data.toList.toArray⟩]
          simp
        · have := pair_key s t sl tl
          have e := h0.symm.trans this
          have e2 := Option.some.inj e
          rw [e2]
          show pairLit s t = pairLit ⟨s.data.toList.toArray⟩ ⟨t.data.toList.toArray⟩
          simp
      · simp [h2, h3, hs d b nb, Value.cells] at h
    · simp [h2, h3, hs d a na, Value.cells] at h
  · rw [if_neg hf] at h
    cases h
end Go.Proofs.Ytleehgpfoigajaa
