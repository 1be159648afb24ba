/- An entry of a map of counts is asked for, and stored into. -/
import Derived.Test.YtleehgpfoigajaaNtK
set_option maxRecDepth 100000
namespace Go.Lat
open Go.Maps (Keyed)
open Go.ChangeMaps (setBlock heap_setBlock_same heap_setBlock_other)
open Go.WideElems

/-- mapEntry, and what the map reads as behind it. -/
theorem entry_reads {P : Program} {k t e : TypeId} {w : World} {b n : Nat} {D : DataW Value} {key : Value} {kl : Lit} (KL : WideMaps.KeyLaw P k) (ht : P.underlying t = some (.map k e)) {z v : Value} (hz : ∀ u : World, (zeroValue e).run P u = .ok z u) (h : w.ownsMap P k heldElem b n D) (hn : n < maxLen) (hkey : keyOf P k key = some kl) (hkl : WideAt.IsKeyLit kl) (hv : D.atKey kl (.held z) = .held v) :
    ∃ (st : Nat) (M1 : Obj), (Instr.mapEntry t (.map (some b)) key).run P w = .ok (.tuple #[v, goInt st]) (setBlock w b M1) ∧ (setBlock w b M1).heap[b]? = some M1 ∧ Upd w (setBlock w b M1) (fun k => k = b) ∧ (∃ n' D', (setBlock w b M1).ownsMap P k heldElem b n' D' ∧ D'.atKey kl (.held z) = .held v) ∧
      ∀ (w2 : World) (val : Value), w2.heap[b]? = some M1 → ∃ w3, (Instr.entryStore t (.map (some b)) (goInt st) val).run P w2 = .ok () w3 ∧ w3.ownsMap P k heldElem b (n + 1) (D.put kl (.held val)) ∧ w2.grownBy w3 (some b) := by
  obtain ⟨st, M1, r1, r2, r3, r4⟩ := entry_held KL ht hz h hn hkey hv
  refine ⟨st, M1, r1, r2, r3, ?_, r4⟩
  obtain ⟨w', s1, s2, s3⟩ := h.update (Keyed.of_law KL) ht hn hkey (val := z) (d := .held z) (ps := []) rfl
  have isM := World.ownsMap.isMap h
  have hlook := look_held h (Keyed.of_law KL) ht (hz w) hkey hv
  obtain ⟨es, clock, hb, F, hs, hD⟩ := h
  rcases KL.find w hkey es.toList F.keys with ⟨h1, h2⟩ | ⟨j, e0, h1, h2, h3⟩
  · have run : (Instr.mapEntry t (.map (some b)) key).run P w = .ok (.tuple #[z, goInt clock]) (setBlock w b (.map (es.push ⟨key, z, clock⟩) (clock + 1))) := by
      simp [Instr.mapEntry, run_underlying ht, MapKept.run_getObj_map hb, KL.check w false hkey, h1, hz, MapKept.run_setObj_map _ hb, Result.andThen, setBlock]
    have upd : (Instr.mapUpdate t (.map (some b)) key z).run P w = .ok () (setBlock w b (.map (es.push ⟨key, z, clock⟩) (clock + 1))) := by
      simp [Instr.mapUpdate, run_underlying ht, MapKept.run_getObj_map hb, KL.check w false hkey, h1, MapKept.run_setObj_map _ hb, Result.andThen, setBlock]
    rw [run] at r1
    rw [upd] at s1
    have e1 : setBlock w b (.map (es.push ⟨key, z, clock⟩) (clock + 1)) = setBlock w b M1 := by
      simpa using (congrArg (fun r => match r with | .ok _ w => w | _ => w) r1)
    have e2 : setBlock w b (.map (es.push ⟨key, z, clock⟩) (clock + 1)) = w' := by simpa using s1
    have e3 : z = v := by
      have : Value.tuple #[z, goInt clock] = .tuple #[v, goInt st] := by
        simp at r1
        exact congrArg Value.tuple (by rw [r1.1.1, r1.1.2])
      simpa using (show z = v by simp at this; exact this.1)
    rw [← e1, e2]
    exact ⟨_, _, s2, by rw [Go.Maps.atKey_put_same isM hkl, e3]⟩
  · have hj : es[j]? = some e0 := by simpa using h2
    have hsame : es.modify j (fun e => { e with key := key }) = es := by
      apply Array.ext'
      rw [Array.toList_modify, Go.ChangeMaps.modify_eq_set _ _ _ _ h2]
      have : ({ e0 with key := key } : MapEntry) = e0 := by rw [← h3]
      rw [this]
      exact set_self _ _ _ h2
    have run : (Instr.mapEntry t (.map (some b)) key).run P w = .ok (.tuple #[e0.val, goInt e0.born]) (setBlock w b (.map es clock)) := by
      simp [Instr.mapEntry, run_underlying ht, MapKept.run_getObj_map hb, KL.check w false hkey, h1, hj, h3, KL.stays w hkey, hsame, MapKept.run_setObj_map _ hb, Result.andThen, setBlock]
    rw [run] at r1
    have e1 : setBlock w b (.map es clock) = setBlock w b M1 := by
      simpa using (congrArg (fun r => match r with | .ok _ w => w | _ => w) r1)
    rw [← e1]
    exact ⟨n, D, ⟨es, clock, heap_setBlock_same hb _, F, hs, hD⟩, hv⟩
end Go.Lat
namespace Go.Proofs.Ytleehgpfoigajaa
open Go.RowKit Go.Lat Go.Sort

theorem zeroInt (w : World) : (zeroValue 3).run Try.prog w = .ok (.int .i64 0) w := by kernel_rfl
theorem bump (w : World) (lm n : Nat) (D : DataW Value) (h : w.ownsMap Try.prog 35 heldElem lm n D) (hn : n < 1000000) {x : Tr} (hx : trOk x) {c : Int} (hv : D.atKey (trLit x) (.held (.int .i64 0)) = .held (.int .i64 c)) (c' : Int) :
    ∃ (st : Nat) (W2 W3 : World), (Instr.mapEntry 32 (.map (some lm)) (trVal x)).run Try.prog w = .ok (.tuple #[.int .i64 c, .int .i64 (st : Int)]) W2 ∧ (Instr.lookup 32 (.map (some lm)) (trVal x) false).run Try.prog w = .ok (.int .i64 c) w ∧ (Instr.lookup 32 (.map (some lm)) (trVal x) false).run Try.prog W2 = .ok (.int .i64 c) W2 ∧
      (Instr.entryStore 32 (.map (some lm)) (.int .i64 (st : Int)) (.int .i64 c')).run Try.prog W2 = .ok () W3 ∧ W3.ownsMap Try.prog 35 heldElem lm (n + 1) (D.put (trLit x) (.held (.int .i64 c'))) ∧ Upd w W2 (fun k => k = lm) ∧ Upd w W3 (fun k => k = lm) := by
  obtain ⟨st, M1, r1, r2, r3, ⟨n', D', r4, r5⟩, r6⟩ := entry_reads triLaw Try.underlying32 zeroInt h (by unfold maxLen; omega) (tr_key hx) (isKey_tr x) hv
  obtain ⟨W3, s1, s2, s3⟩ := r6 _ (.int .i64 c') r2
  exact ⟨st, _, W3, r1, look_held h triK Try.underlying32 (zeroInt _) (tr_key hx) hv, look_held r4 triK Try.underlying32 (zeroInt _) (tr_key hx) r5, s1, s2, r3, r3.grown s3 (fun k e => .inr (Option.some.inj e).symm)⟩
theorem not_pair {M : Pr → List (List UInt8)} {ks : List Pr} (h3 : ∀ p, prOk p → (p ∈ ks ↔ M p ≠ [])) {x : Tr} (hx : trOk x) (hp : ¬ (x.1, x.2.1) ∈ ks) : cntM M x = 0 := by
  have : M (x.1, x.2.1) = [] := Classical.byContradiction fun q => hp ((h3 _ ⟨hx.1, hx.2.1⟩).2 q)
  unfold cntM
  rw [this]
  rfl
/-- The counts add up to what is on its way. -/
theorem own_sum {M : Pr → List (List UInt8)} {ks : List Pr} {Dl : DataW Value} {vs : List Tr} (h1 : ks.Pairwise ltP) (h2 : ∀ p ∈ ks, prOk p) (h3 : ∀ p, prOk p → (p ∈ ks ↔ M p ≠ [])) (h4 : ∀ p, ∀ s ∈ M p, s.length ≤ maxLen) (h5 : LeftV M Dl)
    (v1 : vs.Nodup) (v2 : ∀ x ∈ vs, trOk x) (v3 : ∀ x, trOk x → Maps.has Dl (trLit x) = true → x ∈ vs) : (vs.map fun x => cntM M x).sum = lenS M ks := by
  have hn : ks.Nodup := List.Pairwise.imp (fun {a b} (q : ltP a b) (e : a = b) => ltP_irrefl b (by rw [e] at q; exact q)) h1
  rw [← allT_len, ← count_sum (allT M ks) vs v1]
  · congr 1
    refine List.map_congr_left fun x hx => ?_
    rw [allT_count hn]
    split
    · rfl
    · rename_i hp
      exact not_pair h3 (v2 x hx) hp
  · intro t ht
    simp only [allT, List.mem_flatMap, List.mem_map] at ht
    obtain ⟨p, hp, s, hs, rfl⟩ := ht
    have tok : trOk (p.1, p.2, s) := ⟨(h2 p hp).1, (h2 p hp).2, h4 p s hs⟩
    refine v3 _ tok ?_
    cases hh : Maps.has Dl (trLit (p.1, p.2, s)) with
    | true => rfl
    | false =>
      have e := h5 _ tok
      rw [Go.Maps.atKey_of_not_has hh] at e
      have : cntM M (p.1, p.2, s) ≠ 0 := fun z => by
        unfold cntM at z
        exact (List.count_eq_zero.1 z) hs
      simp at e
      omega
theorem cnt_sum_le {M : Pr → List (List UInt8)} {k : Nat} (h : ∀ p, (M p).length ≤ k) : ∀ vs : List Tr, (vs.map fun x => cntM M x).sum ≤ vs.length * k
  | [] => by simp
  | x :: vs => by
    have h1 := cnt_sum_le h vs
    have h2 : cntM M x ≤ k := Nat.le_trans List.count_le_length (h _)
    simp only [List.map_cons, List.sum_cons, List.length_cons, Nat.add_mul, Nat.one_mul]
    omega
end Go.Proofs.Ytleehgpfoigajaa
