/- A range over a map in whose round an entry that is there is stored into. -/
import Derived.Test.YtcclkfkdafmemaaCaA
import Derived.Maps.RangeWalk
set_option maxRecDepth 100000
namespace Go.Lat
open Go.RowKit Go.Maps Go.ChangeMaps Go.MapKept Go.WideShapes Go.WideElems

variable {P : Program} {k t e : TypeId} {w : World} {b r n : Nat} {D : DataW Value} {left : Lit → Bool} {cnt : Nat}

theorem entry_of_has {es : Array MapEntry} {clock : Nat} (K : Keyed P k) (F : Fit P k heldElem es clock) {key : Value} {kl : Lit} (hkey : keyOf P k key = some kl)
    (hD : Maps.has (DataW.map ((es.toList.map (rg P k heldElem)).foldr DataW.insert [])) kl = true) : ∃ x ∈ es.toList, x.key = key := by
  obtain ⟨p, hp, hpk⟩ := List.any_eq_true.1 hD
  obtain ⟨x, hx, rfl⟩ := List.mem_map.1 (mem_sorted.1 hp)
  obtain ⟨y, hy⟩ := F.reads x hx
  have e1 := WideAt.sameKey_eq hpk
  rw [rg_of hy] at e1
  exact ⟨x, hx, K.inj (rd_key hy) (e1 ▸ hkey)⟩

theorem ranges_store (h : w.ranges P k heldElem b r n D left cnt) (K : Keyed P k) (ht : P.underlying t = some (.map k e)) (hn : n < maxLen) {key val : Value} {kl : Lit} (hkey : keyOf P k key = some kl) (hD : Maps.has D kl = true) :
    ∃ w', (Instr.mapUpdate t (.map (some b)) key val).run P w = .ok () w' ∧ w'.ranges P k heldElem b r n (D.put kl (.held val)) left cnt ∧ w.grownBy w' (some b) := by
  have hne := h.ne
  obtain ⟨es, clock, since, seen, c0, hb, F, hs, rfl, hr, hold, hc, hl1, hl2, hsc, hsk⟩ := h
  have hv : heldElem val = some (.held val, []) := rfl
  obtain ⟨es', clock', hrun, F', hput, _, _, _⟩ := Maps.fit_store (R' := heldElem) K ht hb F (Nat.lt_of_le_of_lt hs hn) (fun _ _ _ _ hz => hz) hkey hv
  obtain ⟨x0, hx0, hxk⟩ := entry_of_has K F hkey hD
  rcases K.find w hkey es.toList F.keys with ⟨h1, h2⟩ | ⟨j, e0, h1, h2, h3⟩
  · exact absurd hxk (h2 x0 hx0)
  · have hj : es[j]? = some e0 := by simpa using h2
    have hjl : j < es.toList.length := (List.getElem?_eq_some_iff.1 h2).1
    have hrun2 : (Instr.mapUpdate t (.map (some b)) key val).run P w = .ok () (setBlock w b (.map (es.modify j (fun e' => { e' with key := key, val := val })) clock)) := by
      simp [Instr.mapUpdate, run_underlying ht, MapKept.run_getObj_map hb, K.check w false hkey, h1, hj, h3, K.stays w hkey, MapKept.run_setObj_map _ hb, Result.andThen, setBlock]
    have hsame : setBlock w b (.map es' clock') = setBlock w b (.map (es.modify j (fun e' => { e' with key := key, val := val })) clock) := by
      have := hrun.symm.trans hrun2
      simpa using this
    have hb1 : (setBlock w b (.map es' clock')).heap[b]? = some (.map es' clock') := heap_setBlock_same hb _
    have hb2 : (setBlock w b (.map (es.modify j (fun e' => { e' with key := key, val := val })) clock)).heap[b]? = some (.map (es.modify j (fun e' => { e' with key := key, val := val })) clock) := heap_setBlock_same hb _
    rw [hsame, hb2] at hb1
    obtain ⟨he, hcl⟩ : es' = es.modify j (fun e' => { e' with key := key, val := val }) ∧ clock' = clock := by
      have := Option.some.inj hb1
      injection this with q1 q2
      exact ⟨q1.symm, q2.symm⟩
    subst hcl
    have hlist : es'.toList = es.toList.set j { e0 with key := key, val := val } := by rw [he, Array.toList_modify, modify_eq_set _ _ _ _ h2]
    have he0 : e0 ∈ es.toList := List.mem_of_getElem? h2
    have who : ∀ x ∈ es'.toList, x = { e0 with key := key, val := val } ∨ x ∈ es.toList := by
      intro x hx
      rw [hlist] at hx
      exact (List.mem_or_eq_of_mem_set hx).symm
    have hst := (stamped_iff es clock').1 F.stamped
    obtain ⟨y0, hy0⟩ := F.reads e0 he0
    have hk0 : (rg P k heldElem e0).1 = kl := by
      have q := rd_key hy0
      rw [h3, hkey] at q
      rw [rg_of hy0]
      exact (Option.some.inj q).symm
    have hk1 : (rg P k heldElem { e0 with key := key, val := val }).1 = kl := by rw [rg_of (rd_mk hkey hv)]
    refine ⟨_, hrun, ⟨es', clock', since, seen, c0, heap_setBlock_same hb _, F', by rw [he]; simpa using hs, by rw [DataW.put_eq, hput], (heap_setBlock_other hb _ hne).trans hr, ?_, ?_, ?_, ?_, hsc, hsk⟩, ?_⟩
    · intro x hx
      rcases who x hx with rfl | hx'
      · exact hold e0 he0
      · exact hold x hx'
    · rw [← hc]
      have e1 : ∀ a : Array MapEntry, (leftOf a seen).size = ((a.toList.map MapEntry.born).filter fun c => !seen.contains c).length := fun a => by
        unfold leftOf
        rw [← Array.length_toList, Array.toList_filter, List.filter_map, List.length_map]
        rfl
      rw [e1, e1, hlist]
      congr 2
      apply List.ext_getElem?
      intro i
      simp only [List.getElem?_map, List.getElem?_set]
      by_cases q : j = i
      · subst q
        rw [if_pos rfl, if_pos hjl, h2]
        rfl
      · rw [if_neg q]
    · intro x hx
      rcases who x hx with rfl | hx'
      · rw [hk1, ← hk0]
        exact hl1 e0 he0
      · exact hl1 x hx'
    · intro q hq
      obtain ⟨x, hx, rfl⟩ := hl2 q hq
      obtain ⟨i, hi⟩ := List.getElem?_of_mem hx
      by_cases q : j = i
      · subst q
        rw [h2] at hi
        cases hi
        exact ⟨{ e0 with key := key, val := val }, by rw [hlist]; exact List.mem_iff_getElem.2 ⟨j, by simpa using hjl, by simp⟩, hk1.trans hk0.symm⟩
      · refine ⟨x, ?_, rfl⟩
        rw [hlist]
        exact List.mem_of_getElem? (i := i) (by rw [List.getElem?_set_ne q]; exact hi)
    · exact ⟨rfl, rfl, rfl, by simp [setBlock], fun i _ hi => heap_setBlock_other hb _ (fun e1 => hi (by rw [e1]))⟩
theorem ranges_upd {w' : World} {S : Nat → Prop} (h : w.ranges P k heldElem b r n D left cnt) (u : Upd w w' S) (hb : ¬ S b) (hr : ¬ S r) : w'.ranges P k heldElem b r n D left cnt := by
  obtain ⟨es, clock, since, seen, c0, h1, h2, h3, h4, h5, h6⟩ := h
  exact ⟨es, clock, since, seen, c0, u.get h1 hb, h2, h3, h4, u.get h5 hr, h6⟩
end Go.Lat
