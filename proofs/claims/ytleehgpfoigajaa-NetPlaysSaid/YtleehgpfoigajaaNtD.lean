/- The walk of package net's Pairs. -/
import Derived.Test.YtleehgpfoigajaaNtB
import Derived.Test.YtleehgpfoigajaaShelfS
import Derived.Maps.RangeWalk
set_option maxRecDepth 100000
namespace Go.Proofs.Ytleehgpfoigajaa
open Go.RowKit Go.Lat Go.Sort

theorem Sort_any (w : World) (v : Value) (ks : List Pr) (h : Rw w 40 2 v ks.length (prCells ks)) (hl : ks.length ≤ 1000000) :
    Calls Try.prog 23 #[v, .func (Fn.func 24) #[] #[]] w fun e w' => e = .returned (.tuple #[]) ∧ Rw w' 40 2 v ks.length (prCells (sortP ks)) ∧ Upd w w' (fun k => v.ownBlock = some k) := by
  rcases h.2 with ⟨rfl, h0⟩ | ⟨g, off, cap, cur, rfl, hg, hnc, hcs, htake⟩
  · have e0 : ks = [] := List.eq_nil_of_length_eq_zero h0
    subst e0
    have hcon := AnyF.slices_SortFunc_none Try.sortPr none 0 (.func (Fn.func 24) #[] #[]) w
    change Calls Try.prog 23 _ _ _ at hcon
    refine Calls.mono hcon ?_
    rintro e w' ⟨rfl, rfl⟩
    exact ⟨rfl, by simpa [sortP] using h, Upd.refl _ _⟩
  · have eg : ∀ args w, (callFunc 24 args).run Try.prog w = .ok (.enter 24 args) w := enters_of Try.func24 (by kernel_rfl) rfl
    have hH : HoldsK prEnc 2 w g off ks.toArray := by
      unfold HoldsK
      rw [flat_pr]
      intro j hj
      have hj' : j < (prCells ks).length := by simpa using hj
      refine ⟨?_, free_at hg (off + j)⟩
      have := h.cells j _ (List.getElem?_eq_getElem hj')
      rw [this]
      simp [hj']
    have hcon := AnyQ.slices_SortFunc_total Try.sortPr 2 Try.isAgg40 Try.sizeOf40 prEnc (fun _ => rfl) (fun x v hv => by simp [prEnc] at hv; rcases hv with rfl | rfl <;> rfl) cmpP swoP 24 #[] g off cap ks.toArray w eg (fun _ _ _ _ x y => (order_any _ x y).mono fun _ _ ⟨h1, h2⟩ => ⟨h1, h2⟩) hH (lt_at hg) (by simp; omega) totP
    change Calls Try.prog 23 _ _ _ at hcon
    refine Calls.mono hcon ?_
    rintro e w' ⟨rfl, q, os, rfl⟩
    have hs : (sortP ks).length = ks.length := (sortP_perm ks).length_eq
    obtain ⟨k1, k2⟩ := rw_putFlat w 40 2 g off ks.length cap q _ (prCells (sortP ks)) h (by rw [prCells_len, hs])
    have e1 : sortWorldK prEnc 2 w g off q (ks.mergeSort fun x y => !(ltOf cmpP) y x).toArray os = grow (putRow id (Go.Sort.ahead w q) g off (prCells (sortP ks)).toArray) os := by
      unfold sortWorldK putRowK
      rw [show (ks.mergeSort fun x y => !(ltOf cmpP) y x) = sortP ks from rfl, flat_pr]
    simp only [List.size_toArray] at *
    rw [e1]
    have u := upd_grow (Upd.refl (putRow id (Go.Sort.ahead w q) g off (prCells (sortP ks)).toArray) (fun _ => False)) os
    exact ⟨trivial, u.rw k1 (fun _ _ => id), (upd_grow k2 os).weaken fun k _ e => by rw [e]; rfl⟩

theorem Try.info40 : (Try.prog.info? 40).map (fun i => (i.zero, i.size, i.bytes)) = some (some (.agg #[.string ⟨#[]⟩, .string ⟨#[]⟩]), 2, 32) := by kernel_rfl

theorem made1 (W : World) (Y : Obj) (cur : Array Value) (e size n : Nat) (hs : cur.size = n * size) : Rw ((W.alloc Y).alloc (.cells cur e)) e size (.slice (some ⟨W.heap.size + 1, 0, none⟩) n n) n cur.toList := by
  have := Rw.made (W.alloc Y) cur e size n hs
  have e1 : (W.alloc Y).heap.size = W.heap.size + 1 := by simp
  rwa [e1] at this
theorem ranges_upd {P : Program} {k : TypeId} {w w' : World} {b r n cnt : Nat} {D : DataW Value} {left : Lit → Bool} {S : Nat → Prop} (h : w.ranges P k heldElem b r n D left cnt) (u : Upd w w' S) (hb : ¬ S b) (hr : ¬ S r) : w'.ranges P k heldElem b r n D left cnt := by
  obtain ⟨es, clock, since, seen, c0, h1, h2, h3, h4, h5, h6⟩ := h
  exact ⟨es, clock, since, seen, c0, u.get h1 hb, h2, h3, h4, u.get h5 hr, h6⟩

set_option maxHeartbeats 1600000 in
theorem Pairs_S (base : Nat) (w : World) (b bm n : Nat) (D : DataW Value) (lost : Nat) (M : Pr → List (List UInt8)) (V : Pr → Value) (h : Nets base w b bm n D lost M V) (hn : n < 1000000) :
    Calls Try.prog 16 #[.pointer (some ⟨b, 0, none⟩)] w fun e w' => ∃ a c ks, e = .returned (.slice a ks.length c) ∧ Rw w' 40 2 (.slice a ks.length c) ks.length (prCells ks) ∧ ks.length ≤ n ∧ ks.Pairwise ltP ∧ (∀ p ∈ ks, prOk p) ∧ (∀ p, prOk p → (p ∈ ks ↔ M p ≠ [])) ∧ (∀ j, (Value.slice a ks.length c).ownBlock = some j → w.heap.size ≤ j) ∧ Upd w w' (fun _ => False) := by
  obtain ⟨iP, hiP, hP0, hP1, hP2⟩ := info_parts Try.info40
  have c0 := (cells2 h.net.c).1
  have blt := lt_at h.net.c
  have bmlt := h.net.m.lt
  have hm := h.net.m
  have hsz := World.ownsMap.size_le hm
  have HN := hide h
  clear h
  go_enter Try.func16, Try.ntmps16
  go_wp2_with (at_range; refine wpList_range_own _ rfl _ 52 rfl 56 57 pairK Try.underlying52 heldElem bm n D rfl hm ?_; intro w0 hrg0 hg0 hs0)
  go_frame
  obtain ⟨r, hr⟩ : ∃ r, w.heap.size = r := ⟨_, rfl⟩
  have u0 : Upd w w0 (fun _ => False) := (Upd.refl w _).grown hg0 (fun k e => by cases e)
  rw [hr] at hrg0 ⊢
  have HR0 := hide hrg0
  have HU0 := hide u0
  have HR := hide hr
  clear hrg0 u0 hg0 hs0 hr
  go_loopw [3] (fun va wr => ∃ (left : Lit → Bool) (cnt : Nat) (ks : List Pr), wr.ranges Try.prog 56 heldElem bm r n D left cnt ∧ ks.length + cnt ≤ Maps.size D ∧ Rw wr 40 2 va ks.length (prCells ks) ∧ (∀ j, va.ownBlock = some j → r < j) ∧ (∀ p ∈ ks, prOk p) ∧ ks.Nodup ∧ (∀ p, prOk p → (p ∈ ks ↔ Maps.has D (prLit p) = true ∧ left (prLit p) = false)) ∧ Upd w wr (fun _ => False))
    (fun _ wr => wr.rangeLeft bm r)
  case atStart => exact ⟨_, _, [], HR0.out, by simp, Rw.nil _ _ _, fun j hj => (by cases hj), by simp, List.nodup_nil, fun p _ => by simp, HU0.out⟩
  case round =>
    obtain ⟨left, cnt, ks, hrg, hcnt, hra, hva, hok, hnd, hmem, hu⟩ := hrel
    go_wp2_with (at_next; refine wpList_next_ranges _ rfl _ rfl 56 pairK heldElem (fun p : Pr => .agg #[encStr p.1, encStr p.2]) (fun v : Value => v) (fun key kl hk => by obtain ⟨p, _, e, _⟩ := pair_inv hk; exact ⟨p, e⟩) (fun v y _ => ⟨v, rfl⟩) bm r n D left cnt rfl hrg ?_ ?_)
    · intro hc0 hl0
      obtain ⟨va, vc, rfl, -⟩ := Rw.form hra
      have hlen : (sortP ks).length = ks.length := (sortP_perm ks).length_eq
      have SC := Sort_any wr _ ks hra (by omega)
      have HS := hide SC
      have HU := hide hu
      have HM := hide hmem
      have HL := hide hl0
      have HK := hide hok
      clear SC hu hmem hl0 hok hrg
      go_wp2_with (go_at_call 23; refine Calls.mono HS.out ?_; rintro e w5 ⟨rfl, r5, u5⟩)
      go_ret
      refine ⟨va, vc, sortP ks, by rw [hlen]; rfl, by rw [hlen]; exact r5, by rw [hlen]; omega, sortP_sorted ks hnd, fun p hp => HK.out p ((sortP_perm ks).mem_iff.1 hp), fun p hp => ?_, fun j hj => ?_, HU.out.then u5 (fun i hi e => ?_)⟩
      · rw [(sortP_perm ks).mem_iff, HM.out p hp, HN.out.has p hp]
        simp [HL.out]
      · rw [hlen] at hj
        have := hva j hj
        have := HR.out
        omega
      · have := hva i e
        have := HR.out
        omega
    · intro x1 x2 c kl y1 y2 w1 cnt1 hkx hlx hcx hat hrg1 hlt hg1 hs1 hen
      obtain ⟨x, pok, e1, e2⟩ := pair_inv hkx
      obtain ⟨ex1, ex2⟩ : x1 = x.1 ∧ x2 = x.2 := by simpa using e1
      subst ex1
      subst ex2
      subst e2
      have u1 : Upd w w1 (fun _ => False) := hu.grown hg1 (fun k e => .inl (by have := Option.some.inj e; have := HR.out; omega))
      have ra1 : Rw w1 40 2 u3 ks.length (prCells ks) := hra.grown hg1 (by
        cases hv : u3.ownBlock with
        | none => exact .inl rfl
        | some k => exact .inr (fun e => by have := hva k hv; have := Option.some.inj e; omega))
      have hD : Maps.has D (prLit x) = true := by
        cases hd : Maps.has D (prLit x) with
        | true => rfl
        | false =>
          have h1 := hat (.held noRow)
          have h2 := hat (.held (.bool true))
          rw [Go.Maps.atKey_of_not_has hd] at h1 h2
          rw [← h1] at h2
          cases h2
      have hx : x ∉ ks := fun q => by
        have := ((hmem x pok).1 q).2
        rw [hlx] at this
        cases this
      obtain ⟨va, vc, rfl, -⟩ := Rw.form ra1
      have bm1 : bm < w1.heap.size := by have := u1.size; omega
      have r1 : r < w1.heap.size := by
        obtain ⟨_, _, _, _, _, _, _, _, _, q, _⟩ := hrg1
        exact lt_at q
      have uo : Upd w1 ((w1.alloc (.cells #[encStr x.1, encStr x.2] 56)).alloc (.cells #[encStr x.1, encStr x.2] 40)) (fun _ => False) := ((Upd.refl w1 _).alloc _).alloc _
      have HRA := hide (uo.rw ra1 (fun _ _ => id))
      have HUO := hide (u1.then uo (fun _ _ => id))
      have HRG := hide (ranges_upd hrg1 uo id id)
      have HVA := hide hva
      have HMM := hide hmem
      have HND := hide hnd
      have HOK := hide hok
      have HRR := hide hrg
      have HPK := hide pok
      have HLX := hide hlx
      have HDX := hide hD
      have HX := hide hx
      have HS1 := hide hs1
      clear u1 ra1 uo hva hmem hnd hok hrg hrg1 hra hu hlx hD hx hkx hat hcx e1 hs1
      go_wp2_with (at_builtin; go_loud (refine wpList_append_rw _ rfl _ _ 38 38 rfl 40 _ iP _ 2 32 Try.underlying38 Try.underlying38 (by simp) hiP hP0 hP1 hP2 rfl _ _ _ rfl HRA.out _ 1 [encStr x.1, encStr x.2] rfl (Rw.src (made1 w1 (.cells #[encStr x.1, encStr x.2] 56) #[encStr x.1, encStr x.2] _ 2 1 rfl)) rfl (by simp [Value.oneCell']) (by omega) (by omega) ?_)
                   intro ga gc w5 hv' hg' hob'
                   have HV1 := hide hv'
                   have HG1 := hide hg'
                   have HB1 := hide hob'
                   clear hv' hg' hob')
      have hbm : (Value.slice va ks.length vc).ownBlock ≠ some bm := fun e => by have := HVA.out bm e; have := HR.out; omega
      have hrr : (Value.slice va ks.length vc).ownBlock ≠ some r := fun e => by have := HVA.out r e; omega
      have hrg5 : w5.ranges Try.prog 56 heldElem bm r n D (fun z => left z && !z.sameKey (prLit x)) cnt1 := ranges_upd HRG.out ((Upd.refl _ (fun k => (Value.slice va ks.length vc).ownBlock = some k)).grown HG1.out (fun k e => .inr e)) hbm hrr
      go_roundw
      case rel =>
        refine ⟨_, cnt1, ks ++ [x], hrg5, by simp; omega, ?_, ?_, ?_, ?_, ?_, HUO.out.grown HG1.out (fun k e => .inl (by have := HVA.out k e; have := HR.out; omega))⟩
        · rw [prCells_app, List.length_append]
          simpa [prCells, prEnc] using HV1.out
        · intro j hj
          rcases HB1.out with e | e
          · exact HVA.out j (e.symm.trans hj)
          · have q := Option.some.inj (e.symm.trans hj)
            simp at q
            omega
        · intro p hp
          rcases List.mem_append.1 hp with q | q
          · exact HOK.out p q
          · simp at q
            subst q
            exact HPK.out
        · rw [List.nodup_append]
          refine ⟨HND.out, by simp, fun a ha b hb e => ?_⟩
          simp at hb
          subst hb
          subst e
          exact HX.out ha
        · intro p hp
          rw [List.mem_append, HMM.out p hp]
          by_cases e : p = x
          · subst e
            have := WideAt.sameKey_self (isKey_pr p)
            simp [this, HDX.out]
          · have : (prLit p).sameKey (prLit x) = false := Go.Maps.sameKey_ne (fun q => e (prLit_inj hp HPK.out q))
            simp [this, e]
      case measure => rw [hrg5.left_eq, HRR.out.left_eq]; exact hlt
end Go.Proofs.Ytleehgpfoigajaa
