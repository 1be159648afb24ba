/- Maps whose elements are held as they are: look-ups, stores and deletions at the operation. -/
import Derived.Test.YtnhggncpebifhaaLib
import Derived.Maps.OwnSet
import Derived.Maps.OwnOps
import Derived.DeepKeys4
import Derived.WideKeyEntry
set_option maxRecDepth 100000
namespace Go.Lat
open Go.Maps (Keyed)

/-- An element of a map, as it is. -/
def heldElem (v : Value) : Option (DataW Value × List MemPlace) := some (.held v, [])

variable {P : Program} {k t e : TypeId} {w : World} {b n : Nat} {D : DataW Value} {key : Value} {kl : Lit}

theorem look_held (h : w.ownsMap P k heldElem b n D) (K : Keyed P k) (ht : P.underlying t = some (.map k e)) {z v : Value} (hz : (zeroValue e).run P w = .ok z w) (hkey : keyOf P k key = some kl) (hv : D.atKey kl (.held z) = .held v) :
    (Instr.lookup t (.map (some b)) key false).run P w = .ok v w := by
  obtain ⟨v', ps, hrun, hr⟩ := h.lookup K ht hz (zd := .held z) (zp := []) rfl hkey
  unfold heldElem at hr
  have h1 := congrArg Prod.fst (Option.some.inj hr)
  rw [hv] at h1
  cases h1
  exact hrun

theorem wpList_lookup_held (w : World) {ops : Array Oper} {rest : List Oper} {o : Oper} {a : Act} {Q : Exit → Act → World → Prop}
    (hg : o.guard = none) (m x : Operand) (t : TypeId) (hop : o.op = Op.lookup t m x false)
    (k e : TypeId) (K : Keyed P k) (ht : P.underlying t = some (.map k e)) (z v : Value) (hz : (zeroValue e).run P w = .ok z w) (b n : Nat) (D : DataW Value)
    (hm : a.eval m = .map (some b)) (hown : w.ownsMap P k heldElem b n D) (key : Value) (kl : Lit) (hx : a.eval x = key) (hkey : keyOf P k key = some kl) (hv : D.atKey kl (.held z) = .held v)
    (hK : wpList P ops Q rest (a.put o.dst v) w) : wpList P ops Q (o :: rest) a w := by
  refine wpList_plain hg fun K' hK' => ?_
  have hrun := look_held hown K ht hz hkey hv
  unfold Oper.wp
  simp [execOp, hop, hm, hx, hrun, Result.andThen]
  exact hK' _ _ hK
theorem same_entry {es : Array MapEntry} {clock : Nat} {R : Value → Option (DataW Value × List MemPlace)} (F : WideElems.Fit P k R es clock) {x y : MapEntry} (hx : x ∈ es.toList) (hy : y ∈ es.toList) (h : x.key = y.key) : x = y := by
  obtain ⟨_, _, s3⟩ := F.stamped
  have hp := List.pairwise_iff_getElem.1 s3
  obtain ⟨i, hi, rfl⟩ := List.mem_iff_getElem.1 hx
  obtain ⟨j, hj, rfl⟩ := List.mem_iff_getElem.1 hy
  rcases Nat.lt_trichotomy i j with e | e | e
  · have := hp i j (by simpa using hi) (by simpa using hj) e
    simp only [List.getElem_map] at this
    exact absurd h this
  · subst e; rfl
  · have := hp j i (by simpa using hj) (by simpa using hi) e
    simp only [List.getElem_map] at this
    exact absurd h.symm this
open Go.ChangeMaps (setBlock heap_setBlock_same heap_setBlock_other)

/-- An entry is asked for, something is done, and the entry is stored into. -/
theorem entry_held (KL : WideMaps.KeyLaw P k) (ht : P.underlying t = some (.map k e)) {z v : Value} (hz : ∀ u : World, (zeroValue e).run P u = .ok z u) (h : w.ownsMap P k heldElem b n D) (hn : n < maxLen) (hkey : keyOf P k key = some kl) (hv : D.atKey kl (.held z) = .held v) :
    ∃ (st : Nat) (M1 : Obj), (Instr.mapEntry t (.map (some b)) key).run P w = .ok (.tuple #[v, goInt st]) (setBlock w b M1) ∧ (setBlock w b M1).heap[b]? = some M1 ∧ Upd w (setBlock w b M1) (fun k => k = b) ∧
      ∀ (w2 : World) (val : Value), w2.heap[b]? = some M1 → ∃ w3, (Instr.entryStore t (.map (some b)) (goInt st) val).run P w2 = .ok () w3 ∧ w3.ownsMap P k heldElem b (n + 1) (D.put kl (.held val)) ∧ w2.grownBy w3 (some b) := by
  have K := Keyed.of_law KL
  have hlook := look_held h K ht (hz w) hkey hv
  obtain ⟨es, clock, hb, F, hs, hD⟩ := h
  obtain ⟨v0, st, es1, clock1, hrun, hcase, hstore⟩ := Go.WideElems.entry_then_store (R := heldElem) KL ht hz hb F hkey
  have hv0 : v0 = v := by
    have fl := Maps.fit_look (R := heldElem) false K ht (hz w) hb F hkey
    rcases fl with ⟨r1, r2, _⟩ | ⟨e0, y, m0, k0, r1, _, _, _⟩
    · rcases hcase with ⟨e1, m1, k1, _⟩ | ⟨_, rfl⟩
      · exact absurd k1 (r2 e1 m1)
      · rw [hlook] at r1
        simpa using r1.symm
    · rcases hcase with ⟨e1, m1, k1, rfl⟩ | ⟨r2, _⟩
      · rw [hlook] at r1
        have e2 : v = e0.val := by simpa using r1
        have e3 : e0 = e1 := same_entry F m0 m1 (k0.trans k1.symm)
        rw [e2, e3]
      · exact absurd k0 (r2 e0 m0)
  subst hv0
  refine ⟨st, .map es1 clock1, hrun, heap_setBlock_same hb _, ⟨rfl, rfl, rfl, by simp [setBlock], fun i _ hi => heap_setBlock_other hb _ hi⟩, fun w2 val hw2 => ?_⟩
  obtain ⟨es', clock', r1, r2⟩ := hstore w2 val hw2
  obtain ⟨w', s1, s2, s3⟩ := (show w.ownsMap P k heldElem b n D from ⟨es, clock, hb, F, hs, hD⟩).update K ht hn hkey (val := val) (d := .held val) (ps := []) rfl
  rw [r2] at s1
  have e4 : setBlock w b (.map es' clock') = w' := by simpa using s1
  obtain ⟨es2, clock2, hb2, F2, hs2, hD2⟩ := s2
  rw [← e4, heap_setBlock_same hb] at hb2
  cases hb2
  refine ⟨_, r1, ⟨_, _, heap_setBlock_same hw2 _, F2, hs2, hD2⟩, ⟨rfl, rfl, rfl, by simp [setBlock], fun i _ hi => heap_setBlock_other hw2 _ (fun e => hi (by rw [e]))⟩⟩
end Go.Lat
