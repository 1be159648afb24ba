/- A region that draws its order and holds but loads, copies and literals of structs and slices: whatever the order, each slot holds what its operation says. -/
import Derived.Test.YtdjpkkgcoainhaaGreatDoorJ01
import Derived.Orders
import Derived.Deep.MidRow
import Derived.Great.BuildSlice
import Derived.Laws.Tables
set_option maxRecDepth 100000
namespace Go.Lat
open Go.RowKit

section
variable {P : Program} {ops : Array Oper} {Q : Exit → Act → World → Prop}

theorem ready_mem {md : Region.Mode} {listed : Array Bool} {i : Nat} (h : i ∈ Region.ready md ops listed) : i < ops.size ∧ listed.getD i true = false ∧ ∀ o, ops[i]? = some o → ∀ e ∈ o.after, Region.binds md e = true → listed.getD e.on false = true := by
  unfold Region.ready at h
  rw [List.mem_filter, List.mem_range] at h
  obtain ⟨h1, h2⟩ := h
  rw [Bool.and_eq_true] at h2
  obtain ⟨h2, h3⟩ := h2
  refine ⟨h1, by simpa using h2, fun o ho e he hb => ?_⟩
  rw [ho] at h3
  simp only [Option.map_some, Option.getD_some] at h3
  have k := Array.all_eq_true_iff_forall_mem.1 h3 e he
  simpa [hb] using k
theorem ready_nil {md : Region.Mode} {listed : Array Bool} (hsz : listed.size = ops.size) (hdep : ∀ i o, ops[i]? = some o → ∀ e ∈ o.after, Region.binds md e = true → e.on < i) (h : Region.ready md ops listed = []) : ∀ i, i < ops.size → listed.getD i true = true := by
  intro i
  induction i using Nat.strongRecOn with
  | _ i ih =>
    intro hi
    cases hl : listed.getD i true with
    | true => rfl
    | false =>
      exfalso
      have ho : ops[i]? = some ops[i] := Array.getElem?_eq_getElem hi
      have : i ∈ Region.ready md ops listed := by
        unfold Region.ready
        rw [List.mem_filter, List.mem_range]
        refine ⟨hi, ?_⟩
        rw [hl, ho]
        simp only [Bool.not_false, Bool.true_and, Option.map_some, Option.getD_some]
        rw [Array.all_eq_true_iff_forall_mem]
        intro e he
        cases hb : Region.binds md e with
        | false => rfl
        | true =>
          have hlt := hdep i _ ho e he hb
          have k := ih e.on hlt (by omega)
          have hb2 : e.on < listed.size := by omega
          rw [Array.getD_eq_getD_getElem?, Array.getElem?_eq_getElem hb2] at k ⊢
          simpa using k
      rw [h] at this
      cases this
def openN (listed : Array Bool) : Nat := (listed.toList.filter (! ·)).length
theorem openN_set {listed : Array Bool} {i : Nat} (hi : i < listed.size) (h : listed.getD i true = false) : openN (listed.setIfInBounds i true) + 1 = openN listed := by
  obtain ⟨l⟩ := listed
  have hi' : i < l.length := hi
  have hl : l[i] = false := by
    rw [Array.getD_eq_getD_getElem?, Array.getElem?_eq_getElem hi] at h
    simpa using h
  unfold openN
  simp only [List.setIfInBounds_toArray]
  clear h
  induction l generalizing i with
  | nil => simp at hi'
  | cons x l ih =>
    cases i with
    | zero =>
      simp at hl
      subst hl
      simp
    | succ i =>
      have k := ih (i := i) (by simpa using hi') (by simpa using hi') (by simpa using hl)
      simp only [List.set_cons_succ, List.filter_cons]
      cases x <;> simp at k ⊢ <;> omega
theorem wpAny_inv {md : Region.Mode} (Inv : Array Bool → Act → World → Prop) (hsz : ∀ listed a w, Inv listed a w → listed.size = ops.size)
    (step : ∀ listed a w i, Inv listed a w → i ∈ Region.ready md ops listed → wpOp P ops Q i (fun a' w' => Inv (listed.setIfInBounds i true) a' w') a w)
    (fin : ∀ listed a w, Inv listed a w → Region.ready md ops listed = [] → Q .normal a w) :
    ∀ fuel listed a w, Inv listed a w → openN listed ≤ fuel → wpAny P md ops Q fuel listed a w
  | 0, listed, a, w, hI, hf => by
    have hr : Region.ready md ops listed = [] := by
      cases hq : Region.ready md ops listed with
      | nil => rfl
      | cons i r =>
        exfalso
        obtain ⟨h1, h2, -⟩ := ready_mem (ops := ops) (md := md) (listed := listed) (i := i) (by rw [hq]; exact List.mem_cons_self)
        have := openN_set (by rw [hsz _ _ _ hI]; exact h1) h2
        omega
    exact ⟨hr, fin _ _ _ hI hr⟩
  | fuel + 1, listed, a, w, hI, hf => by
    refine ⟨fun hr => fin _ _ _ hI hr, fun i hi => ?_⟩
    have hs := step _ _ _ _ hI hi
    obtain ⟨h1, h2, -⟩ := ready_mem hi
    have ho := openN_set (by rw [hsz _ _ _ hI]; exact h1) h2
    unfold wpOp at hs ⊢
    cases hq : ops[i]? with
    | none =>
      rw [hq] at hs
      exact wpAny_inv Inv hsz step fin fuel _ _ _ hs (by omega)
    | some o =>
      rw [hq] at hs
      simp only at hs ⊢
      split at hs
      · rename_i hw
        rw [if_pos hw]
        rcases hs with hs | hs
        · exact .inl (Oper.wp_mono (fun a w h => wpAny_inv Inv hsz step fin fuel _ _ _ h (by omega)) hs)
        · exact .inr hs
      · rename_i hw
        rw [if_neg hw]
        exact wpAny_inv Inv hsz step fin fuel _ _ _ hs (by omega)
theorem mid_put {pre mid post : List Value} {ds : List Deferred} {i : Nat} (hi : i < mid.length) (v : Value) : (Act.mk (pre ++ mid ++ post).toArray ds).put (some (pre.length + i)) v = ⟨(pre ++ mid.set i v ++ post).toArray, ds⟩ := by
  unfold Act.put
  simp only [List.setIfInBounds_toArray]
  congr 2
  rw [List.append_assoc, List.set_append_right _ _ (by omega), List.append_assoc, List.set_append_left _ _ (by omega)]
  congr 3
  omega
theorem mid_eval {pre mid post : List Value} {ds : List Deferred} {i : Nat} (hi : i < mid.length) : (Act.mk (pre ++ mid ++ post).toArray ds).eval (.tmp (pre.length + i)) = mid.getD i undef := by
  unfold Act.eval
  simp only [Array.getD_eq_getD_getElem?, List.getElem?_toArray]
  rw [List.append_assoc, List.getElem?_append_right (by omega), List.getElem?_append_left (by omega), List.getD_eq_getElem?_getD]
  congr 2
  omega
theorem pre_eval {pre mid post : List Value} {ds : List Deferred} {i : Nat} (hi : i < pre.length) : (Act.mk (pre ++ mid ++ post).toArray ds).eval (.tmp i) = pre.getD i undef := by
  unfold Act.eval
  simp only [Array.getD_eq_getD_getElem?, List.getElem?_toArray]
  rw [List.append_assoc, List.getElem?_append_left hi, List.getD_eq_getElem?_getD]
/-- A region whose operations only read, copy and make new memory. -/
theorem region_flow {rid : Nat} {W : World} (pre mid0 post : List Value) (ds : List Deferred) (hm : P.follows .mixedOrders = true) (Good : Nat → Value → World → Prop)
    (hn : mid0.length = ops.size) (hdst : ∀ i o, ops[i]? = some o → o.dst = some (pre.length + i) ∧ o.guard = none)
    (hdep : ∀ i o, ops[i]? = some o → ∀ e ∈ o.after, Region.binds .any e = true → e.on < i)
    (hgood : ∀ i v w w', Good i v w → Upd w w' (fun _ => False) → Good i v w')
    (hstep : ∀ i o, ops[i]? = some o → ∀ (ρ : Operand → Value) (w : World), (∀ s, s < pre.length → ρ (.tmp s) = pre.getD s undef) → (∀ c, ρ (.const c) = c) → (∀ e ∈ o.after, Region.binds .any e = true → Good e.on (ρ (.tmp (pre.length + e.on))) w) → Upd W w (fun _ => False) → ∃ v w', (execOp ρ o).run P w = .ok (.value v) w' ∧ Upd w w' (fun _ => False) ∧ Good i v w')
    (hend : ∀ (mid : List Value) (w : World), mid.length = ops.size → Upd W w (fun _ => False) → (∀ i, i < ops.size → Good i (mid.getD i undef) w) → Q .normal ⟨(pre ++ mid ++ post).toArray, ds⟩ w) :
    (Code.region rid ops true).wp P Q ⟨(pre ++ mid0 ++ post).toArray, ds⟩ W := by
  refine wp_region_any hm (wpAny_inv (fun listed a w => listed.size = ops.size ∧ ∃ mid : List Value, mid.length = ops.size ∧ a = ⟨(pre ++ mid ++ post).toArray, ds⟩ ∧ Upd W w (fun _ => False) ∧ ∀ i, i < ops.size → listed.getD i true = true → Good i (mid.getD i undef) w) (fun _ _ _ h => h.1) ?_ ?_ _ _ _ _ ?_ ?_)
  · rintro listed a w i ⟨hsz, mid, hml, rfl, hu, hg⟩ hi
    obtain ⟨h1, h2, h3⟩ := ready_mem hi
    have ho : ops[i]? = some ops[i] := Array.getElem?_eq_getElem h1
    obtain ⟨hd, hgd⟩ := hdst i _ ho
    obtain ⟨v, w', hr, hu', hgv⟩ := hstep i _ ho (Act.mk (pre ++ mid ++ post).toArray ds).eval w (fun s hs => pre_eval hs) (fun c => rfl) (fun e he hb => by
      have hlt := hdep i _ ho e he hb
      rw [mid_eval (by omega)]
      refine hg e.on (by omega) ?_
      have k := h3 _ ho e he hb
      have hb2 : e.on < listed.size := by omega
      rw [Array.getD_eq_getD_getElem?, Array.getElem?_eq_getElem hb2] at k ⊢
      simpa using k) hu
    unfold wpOp
    rw [ho]
    simp only
    rw [if_pos (by simp [Region.wanted, hgd])]
    refine .inl ?_
    unfold Oper.wp
    rw [hr, Oper.upon_value, hd, mid_put (by omega)]
    refine ⟨by simpa using hsz, mid.set i v, by simpa using hml, rfl, hu.then hu' (fun _ _ => id), fun j hj hl => ?_⟩
    by_cases hji : j = i
    · subst hji
      rw [List.getD_eq_getElem?_getD, List.getElem?_set_self (by omega)]
      exact hgv
    · rw [List.getD_eq_getElem?_getD, List.getElem?_set_ne (fun e => hji e.symm), ← List.getD_eq_getElem?_getD]
      refine hgood _ _ _ _ (hg j hj ?_) hu'
      rw [Array.getD_eq_getD_getElem?, Array.getElem?_setIfInBounds_ne (fun e => hji e.symm), ← Array.getD_eq_getD_getElem?] at hl
      exact hl
  · rintro listed a w ⟨hsz, mid, hml, rfl, hu, hg⟩ hr
    exact hend mid w hml hu (fun i hi => hg i hi (ready_nil hsz hdep hr i hi))
  · refine ⟨by simp, mid0, hn, rfl, ⟨rfl, rfl, rfl, Nat.le_refl _, fun _ _ _ => rfl⟩, fun i hi hl => ?_⟩
    rw [Array.getD_eq_getD_getElem?] at hl
    simp [hi] at hl
  · unfold openN
    refine Nat.le_trans (List.length_filter_le _ _) (by simp)
theorem region_flow2 {rid : Nat} {W : World} (arr : Array Value) (p : Nat) (ds : List Deferred) (hm : P.follows .mixedOrders = true) (Good : Nat → Value → World → Prop)
    (hsz : p + ops.size ≤ arr.size) (hdst : ∀ i o, ops[i]? = some o → o.dst = some (p + i) ∧ o.guard = none)
    (hdep : ∀ i o, ops[i]? = some o → ∀ e ∈ o.after, Region.binds .any e = true → e.on < i)
    (hgood : ∀ i v w w', Good i v w → Upd w w' (fun _ => False) → Good i v w')
    (hstep : ∀ i o, ops[i]? = some o → ∀ (ρ : Operand → Value) (w : World), (∀ s, s < p → ρ (.tmp s) = arr.getD s undef) → (∀ c, ρ (.const c) = c) → (∀ e ∈ o.after, Region.binds .any e = true → Good e.on (ρ (.tmp (p + e.on))) w) → Upd W w (fun _ => False) → ∃ v w', (execOp ρ o).run P w = .ok (.value v) w' ∧ Upd w w' (fun _ => False) ∧ Good i v w')
    (hend : ∀ (mid : List Value) (w : World), mid.length = ops.size → Upd W w (fun _ => False) → (∀ i, i < ops.size → Good i (mid.getD i undef) w) → Q .normal ⟨(arr.toList.take p ++ mid ++ arr.toList.drop (p + ops.size)).toArray, ds⟩ w) :
    (Code.region rid ops true).wp P Q ⟨arr, ds⟩ W := by
  have hp : (arr.toList.take p).length = p := by rw [List.length_take]; simp; omega
  have key := region_flow (P := P) (ops := ops) (Q := Q) (rid := rid) (W := W) (arr.toList.take p) ((arr.toList.drop p).take ops.size) (arr.toList.drop (p + ops.size)) ds hm Good (by rw [List.length_take, List.length_drop]; simp; omega)
    (by rw [hp]; exact hdst) hdep hgood
    (by
      rw [hp]
      intro i o ho ρ w h1 h2 h3 h4
      exact hstep i o ho ρ w (fun s hs => by
        rw [h1 s hs, List.getD_eq_getElem?_getD, List.getElem?_take, if_pos hs, Array.getD_eq_getD_getElem?, Array.getElem?_toList]) h2 h3 h4) hend
  have e : (arr.toList.take p ++ (arr.toList.drop p).take ops.size ++ arr.toList.drop (p + ops.size)).toArray = arr := by
    rw [← List.drop_drop, List.append_assoc, List.take_append_drop, List.take_append_drop]
  rw [e] at key
  exact key
/-- The operations, by kind. -/
theorem fl_move {o : Oper} {ρ : Operand → Value} {x : Operand} {v : Value} (w : World) (ho : o.op = .move x) (hx : ρ x = v) : (execOp ρ o).run P w = .ok (.value v) w := by
  unfold execOp
  rw [ho]
  simp [hx]
theorem fl_load {o : Oper} {ρ : Operand → Value} {x : Operand} {t : TypeId} {b off : Nat} {cs : List Value} {d : TypeDesc} (w : World) (ho : o.op = .load t x) (hx : ρ x = .pointer (some ⟨b, off, none⟩)) (hc : w.rangeAt b off cs)
    (hu : P.underlying t = some d) (hd : d.isRow = true) (hi : (P.info? t).map (·.size) = some cs.length) : (execOp ρ o).run P w = .ok (.value (.agg cs.toArray)) w := by
  unfold execOp
  rw [ho]
  simp only [hx, Sem.run_bind, run_loadAt_mid w b off t cs d hc hu hd hi]
  rfl
theorem fl_build {o : Oper} {ρ : Operand → Value} {t : TypeId} {parts : Array (Nat × Operand)} {cells : Array Value} (w : World) (ho : o.op = .build t parts) (h : P.built t (parts.map fun (i, x) => (i, ρ x)).toList = some cells) : (execOp ρ o).run P w = .ok (.value (.agg cells)) w := by
  unfold execOp
  rw [ho]
  simp only [Sem.run_bind, run_build w t _ cells h]
  rfl
theorem fl_buildSlice {o : Oper} {ρ : Operand → Value} {t e : TypeId} {len : Nat} {parts : Array (Nat × Operand)} {cells : Array Value} {ie : TypeInfo} {z : Value} (w : World) (ho : o.op = .buildSlice t len parts)
    (hu : P.underlying t = some (.slice e)) (hie : P.info? e = some ie) (hz : ie.zero = some z) (hsmall : ¬ len * ie.size > 2 ^ 24) (hpos : ¬ len * ie.size = 0)
    (h : Instr.fill (fun i => some (i * ie.size, ie.size)) ((Array.range (len * ie.size)).map (z.cells[· % z.cells.size]!)) (parts.map fun (i, x) => (i, ρ x)).toList = some cells) :
    (execOp ρ o).run P w = .ok (.value (.slice (some ⟨w.heap.size, 0, none⟩) len len)) (w.alloc (.cells cells e)) := by
  unfold execOp
  rw [ho]
  simp only [Sem.run_bind, run_buildSlice w t e len _ cells ie z hu hie hz hsmall hpos h]
  rfl
theorem fl_index {o : Oper} {ρ : Operand → Value} {t e : TypeId} {x i : Operand} {a : Addr} {len cap j sz : Nat} (w : World) (ho : o.op = .indexAddr t x i) (hx : ρ x = .slice (some a) len cap) (hi : ρ i = .int .i64 (j : Int)) (hj : j < len)
    (hu : P.underlying t = some (.slice e)) (hsz : (P.info? e).map (·.size) = some sz) : (execOp ρ o).run P w = .ok (.value (.pointer (some (a.add (j * sz))))) w := by
  have hel : P.elem t = e := by simp [Program.elem, hu]
  unfold execOp
  rw [ho]
  cases hie : P.info? e with
  | none => rw [hie] at hsz; simp at hsz
  | some ie =>
    rw [hie] at hsz
    simp at hsz
    simp only [hx, hi, Sem.run_bind]
    rw [run_indexAt_slice w t a len cap .i64 (j : Int) (by rw [hel]; exact hu)]
    rw [hel]
    simp [hj, sizeOf, typeInfo, hie, hsz]
theorem fl_len {o : Oper} {ρ : Operand → Value} {t : TypeId} {e : TypeId} {x : Operand} {a : Option Addr} {len cap : Nat} (w : World) (ho : o.op = .call { callee := .builtin .len, args := #[x], argTypes := #[t] }) (hx : ρ x = .slice a len cap)
    (hu : P.underlying t = some (.slice e)) : (execOp ρ o).run P w = .ok (.value (.int .i64 (len : Int))) w := by
  unfold execOp
  rw [ho]
  simp [hx, go_sem, hu]
end
end Go.Lat
