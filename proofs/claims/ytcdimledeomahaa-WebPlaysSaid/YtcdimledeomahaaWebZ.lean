/- The walk of the law's act. -/
import Derived.Test.YtcdimledeomahaaWebY
set_option maxRecDepth 100000
namespace Go.Proofs.Ytcdimledeomahaa
open Go.RowKit Go.Lat

theorem RfAt.free {w w' : World} {S : Nat → Prop} {rb : Nat} {lv : Value} {xs : List Value} {KL : List Kn} (h : RfAt w rb lv xs KL) (u : Upd w w' S) (hb : ¬ S rb) (h0 : Free w S 108) (h1 : Free w S 110) (h2 : Free w S 73) : RfAt w' rb lv xs KL :=
  (h.kns.free u h0 h1 h2).rf (u.get h.c hb)

theorem edsz_len (l : List Cl) : (eds l).length ≤ 10 := by simp [eds]; omega
theorem edsz_reads (l : List Cl) : ∀ e ∈ eds l, e.reads.length ≤ 20 := by
  intro e he
  simp only [eds, List.mem_map] at he
  obtain ⟨x, _, rfl⟩ := he
  simp [Cl.ed, cuts]
  omega

/-- Both webs. -/
structure Both (w : World) (b bm n : Nat) (D : DataW Value) (F : List UInt8 → Option (Int × List Ed)) (rb : Nat) (lv : Value) (xs : List Value) (KL : List Kn) : Prop where
  web : WebAt w b bm n D
  kn : KnV w (fun _ => True) D F
  rf : RfAt w rb lv xs KL
  ag : ∀ t, told KL t = F t
  sm : Small F
theorem Both.upd {w w' : World} {b bm n : Nat} {D : DataW Value} {F : List UInt8 → Option (Int × List Ed)} {rb : Nat} {lv : Value} {xs : List Value} {KL : List Kn} (h : Both w b bm n D F rb lv xs KL) (u : Upd w w' (fun _ => False)) : Both w' b bm n D F rb lv xs KL :=
  ⟨h.web.upd u id id, h.kn.upd u (fun _ _ => id), h.rf.upd u, h.ag, h.sm⟩
theorem rb_ne_bm {w : World} {bm n rb : Nat} {D : DataW Value} {cs : Array Value} {t : TypeId} (h : w.ownsMap Try.prog 9 heldElem bm n D) (hr : w.heap[rb]? = some (.cells cs t (0, 0))) : ¬ rb = bm := by
  intro e
  subst e
  obtain ⟨es, clock, hm, _⟩ := h
  rw [hm] at hr
  cases hr
theorem rf_not {w : World} {rb : Nat} {lv : Value} {xs : List Value} {KL : List Kn} (h : RfAt w rb lv xs KL) {b bm n : Nat} {D : DataW Value} (hw : WebAt w b bm n D) : ¬ (b = rb ∨ lv.ownBlock = some b) ∧ ¬ (bm = rb ∨ lv.ownBlock = some bm) := by
  constructor
  · intro e
    exact rf_free h (e := 87) (by decide) (by decide) b _ _ e hw.c rfl
  · rintro (e | e)
    · exact rb_ne_bm hw.m h.c e.symm
    · obtain ⟨es, clock, hm, _⟩ := hw.m
      rcases h.r.2 with ⟨rfl, _⟩ | ⟨g, off, cap, cur, rfl, hg, _⟩
      · cases e
      · have e1 : g = bm := Option.some.inj e
        subst e1
        rw [hm] at hg
        cases hg

set_option maxHeartbeats 3200000 in
theorem act_any (w : World) (b bm n : Nat) (D : DataW Value) (F : List UInt8 → Option (Int × List Ed)) (rb : Nat) (lv : Value) (xs : List Value) (KL : List Kn) (h : Both w b bm n D F rb lv xs KL) (hn : n < 1000000) (hl : KL.length ≤ 1000000) (dv ver : Int) (nm tn : List UInt8) (htn : nm.take 20 = tn) (ca : Option Addr) (cl cc : Nat) (cs : List Cl) (hc : ClArg w (.slice ca cl cc) cs) :
    Calls Try.prog 14 #[.pointer (some ⟨b, 0, none⟩), .pointer (some ⟨rb, 0, none⟩), .agg #[.int .i64 dv, encStr nm, .int .i64 ver, .slice ca cl cc]] w fun e w' => e = .returned (.bool true) ∧
      ∃ n' D' F' lv' xs' KL', n' ≤ n + 1 ∧ KL'.length ≤ KL.length + 1 ∧ Both w' b bm n' D' F' rb lv' xs' KL' ∧ Upd w w' (fun k => k = bm ∨ k = rb ∨ lv.ownBlock = some k) ∧ (∀ k, lv'.ownBlock = some k → lv.ownBlock = some k ∨ w.heap.size ≤ k) := by
  have HT := hide htn
  have HH := hide h
  have HC := hide hc
  clear htn h hc
  go_enter Try.func14, Try.ntmps14
  have htl : tn.length ≤ 20 := by rw [← HT.out]; simp; omega
  have u0 : Upd w (w.alloc (.cells #[.int .i64 dv, encStr tn, .int .i64 ver, .slice ca cl cc] 61)) (fun _ => False) := (Upd.refl w _).alloc _
  have hX := new1 w (.cells #[.int .i64 dv, encStr tn, .int .i64 ver, .slice ca cl cc] 61)
  have B1 := HH.out.upd u0
  have hne1 : w.heap.size ≠ bm := fun e => by have := HH.out.web.m.lt; omega
  have hne2 : w.heap.size ≠ rb := fun e => by have := lt_at HH.out.rf.c; omega
  have hne3 : lv.ownBlock ≠ some w.heap.size := fun e => by have := HH.out.rf.r.lt _ e; omega
  have FG := Forget_any _ b bm n D B1.web tn (by unfold maxLen; omega)
  have ED := edges_any (w.alloc (.cells #[.int .i64 dv, encStr tn, .int .i64 ver, .slice ca cl cc] 61)) (.slice ca cl cc) cs (by
    obtain ⟨a, cap, h1, h2, h3, h4, h5⟩ := HC.out
    refine ⟨a, cap, h1, h2, h3, h4, fun i x hx => ?_⟩
    obtain ⟨g, off, lv, sa, sl, sc, k1, k2, k3, k4, k5, k6, k7, k8, k9⟩ := h5 i x hx
    exact ⟨g, off, lv, sa, sl, sc, k1, by simp; omega, (u0.cell g _ k2 id).trans k3, (u0.cell g _ k2 id).trans k4, (u0.cell g _ k2 id).trans k5, (u0.cell g _ k2 id).trans k6, (u0.cell g _ k2 id).trans k7, (u0.cell g _ k2 id).trans k8, k9.upd u0 (fun _ _ => id)⟩)
  have BB1 := hide B1
  have HX := hide hX
  have HU0 := hide u0
  clear B1 hX u0
  go_wp2_with fail
  · simp only [cut_eq, HT.out]
    refine Calls.mono FG ?_
    rintro e w2 ⟨rfl, a2, u2⟩
    have hx2 := u2.get HX.out hne1
    obtain ⟨x0, x1, x2, x3⟩ := cells4 hx2
    have xl := lt_at hx2
    have k2 := (BB1.out.kn.free u2 (map_free BB1.out.web.m _) (map_free BB1.out.web.m _)).del tn
    have r2 := BB1.out.rf.free u2 (rb_ne_bm BB1.out.web.m BB1.out.rf.c) (map_free BB1.out.web.m _) (map_free BB1.out.web.m _) (map_free BB1.out.web.m _)
    have RF := RForget_any w2 rb lv xs KL r2 hl tn
    have HU2 := hide u2
    have A2 := hide a2
    have K2 := hide k2
    have R2 := hide r2
    clear hx2 u2 a2 k2 r2 FG ED
    go_wp2_with fail
    refine Calls.mono RF ?_
    rintro e w3 ⟨rfl, lv', xs', r3, u3, o3⟩
    go_wp2_with fail
    go_ret
    have fr : ∀ e, 58 ≠ e → Free w2 (fun k => k = rb) e := fun e he => one_free R2.out.c he
    refine ⟨rfl, n, D.del (.string tn), (fun t => if t = tn then none else F t), lv', xs', KL.filter (fun k => decide (k.n ≠ tn)), by omega, by have := List.length_filter_le (fun k : Kn => decide (k.n ≠ tn)) KL; omega, ⟨?_, K2.out.free u3 (fr _ (by decide)) (fr _ (by decide)), r3, ?_, ?_⟩, ?_, fun k hk => .inr ?_⟩
    · exact A2.out.upd u3 (fun e => (rf_not R2.out A2.out).1 (.inl e)) (fun e => (rf_not R2.out A2.out).2 (.inl e))
    · intro t
      rw [told_filter, BB1.out.ag]
    · intro t v es ht
      simp only at ht
      split at ht
      · cases ht
      · exact BB1.out.sm t v es ht
    · exact ((HU0.out.weaken (T := fun k => k = bm ∨ k = rb ∨ lv.ownBlock = some k) (fun _ _ => False.elim)).then HU2.out (fun _ _ e => .inl e)).then u3 (fun _ _ e => .inr (.inl e))
    · have := o3 k hk
      have q1 := HU0.out.size
      have q2 := HU2.out.size
      omega
  · simp only [cut_eq, HT.out]
    refine Calls.mono ED ?_
    rintro e w2 ⟨v1, v2, rfl, ex, ey, u2⟩
    have hel := edsz_len cs
    have her := edsz_reads cs
    obtain ⟨es, hes⟩ : ∃ es, eds cs = es := ⟨_, rfl⟩
    rw [hes] at ex ey hel her
    have exw := ex.weaken (B := fun _ => True) (fun _ _ _ => trivial)
    have eyw := ey.weaken (B := fun _ => True) (fun _ _ _ => trivial)
    obtain ⟨xa, xc, rfl, -⟩ := Rw.form ex.2.choose_spec.1
    obtain ⟨ya, yc, rfl, -⟩ := Rw.form ey.2.choose_spec.1
    obtain ⟨M, hM⟩ : ∃ M, es.length = M := ⟨_, rfl⟩
    have hx2 := u2.get HX.out id
    obtain ⟨x0, x1, x2, x3⟩ := cells4 hx2
    have xl := lt_at hx2
    have B2 := BB1.out.upd u2
    have hag : told KL = F := funext B2.ag
    obtain ⟨q, hq⟩ : ∃ q, counts F tn ver = q := ⟨_, rfl⟩
    have uD : Upd w2 w2.drew (fun _ => False) := (Upd.refl w2 _).drew
    have LB := Learn_both w2.drew b bm n D F (B2.web.upd uD id id) (B2.kn.upd uD (fun _ _ => id)) hn tn (by unfold maxLen; omega) ver xa es.length xc es (exw.upd uD (fun _ _ => id)) ⟨by omega, fun e he => by have := her e he; omega⟩
    rw [hq] at LB
    have RR : ∀ w3, Upd w2.drew w3 (fun k => k = bm) → Calls Try.prog 31 #[.pointer (some ⟨rb, 0, none⟩), encStr tn, .int .i64 ver, .slice ya es.length yc] w3 fun e w' => e = .returned (.bool q) ∧ RfAt w3 rb lv xs KL ∧ ∃ lv' xs' KL', KL'.length ≤ KL.length + 1 ∧ RfAt w' rb lv' xs' KL' ∧ (∀ t, told KL' t = learnt F q tn ver es t) ∧ Upd w3 w' (fun k => k = rb ∨ lv.ownBlock = some k) ∧ (∀ k, lv'.ownBlock = some k → lv.ownBlock = some k ∨ w3.heap.size ≤ k) := by
      intro w3 u3
      have r3 := (B2.rf.upd uD).free u3 (rb_ne_bm (B2.web.upd uD id id).m (B2.rf.upd uD).c) (map_free (B2.web.upd uD id id).m _) (map_free (B2.web.upd uD id id).m _) (map_free (B2.web.upd uD id id).m _)
      refine Calls.mono (RLearn_both w3 rb lv xs KL r3 hl tn ver ya es.length yc es rfl ((eyw.upd uD (fun _ _ => id)).free u3 (map_free (B2.web.upd uD id id).m _) (map_free (B2.web.upd uD id id).m _))) ?_
      rw [hag, hq]
      rintro e w' ⟨rfl, k⟩
      exact ⟨rfl, r3, k⟩
    have HB2 := hide B2
    have HU2 := hide u2
    have HER := hide her
    rw [hM] at LB RR hel
    simp only [hM]
    have HM := hide hM
    clear hx2 u2 B2 ex ey exw eyw hes hM hag hq FG ED uD her
    go_wp2_with fail
    go_region_held3 (fun w' => w'.cell? ⟨w.heap.size, 1, none⟩ = some (encStr tn) ∧ w'.cell? ⟨w.heap.size, 2, none⟩ = some (.int .i64 ver))
      (first | (go_split_ands; first | exact ⟨(u4.cell w.heap.size 1 xl3 xn3).trans y1, (u4.cell w.heap.size 2 xl3 xn3).trans y2⟩ | exact ⟨y1, y2⟩) | go_keep)
      (first
        | (go_at_call 9; refine Calls.mono LB ?_; rintro e w3 ⟨rfl, n', D', hn', a3, k3, u3⟩; have y1 := (u3.cell w.heap.size 1 xl hne1).trans x1; have y2 := (u3.cell w.heap.size 2 xl hne1).trans x2; have xl3 := Nat.lt_of_lt_of_le xl u3.size; have xn3 : ¬ (w.heap.size = rb ∨ lv.ownBlock = some w.heap.size) := fun e => e.elim hne2 hne3)
        | (go_at_call 31; refine Calls.mono (RR w3 u3) ?_; rintro e w4 ⟨rfl, r3, lv', xs', KL', hkl, r4, ht4, u4, o4⟩))
    go_wp2_with fail
    go_ret
    have hf := rf_free (e := 83) r3 (by decide) (by decide)
    have hf2 := rf_free (e := 40) r3 (by decide) (by decide)
    have q1 := HU0.out.size
    have q2 := HU2.out.size
    have q3 : w2.heap.size ≤ w3.heap.size := u3.size
    refine ⟨rfl, n', D', learnt F q tn ver es, lv', xs', KL', hn', hkl, ⟨a3.upd u4 (rf_not r3 a3).1 (rf_not r3 a3).2, k3.free u4 hf hf2, r4, ht4, Small.learnt HH.out.sm ⟨by rw [HM.out]; omega, fun e he => by have := HER.out e he; omega⟩⟩, ?_, fun k hk => ?_⟩
    · exact (((HU0.out.weaken (T := fun k => k = bm ∨ k = rb ∨ lv.ownBlock = some k) (fun _ _ => False.elim)).then HU2.out (fun _ _ => False.elim)).drew.then u3 (fun _ _ e => .inl e)).then u4 (fun _ _ e => .inr e)
    · rcases o4 k hk with e | e
      · exact .inl e
      · exact .inr (by omega)
end Go.Proofs.Ytcdimledeomahaa
