/- The walk of package web's Cycles. -/
import Derived.Test.YtcdimledeomahaaWebN
set_option maxRecDepth 100000
namespace Go.Proofs.Ytcdimledeomahaa
open Go.RowKit Go.Lat

theorem Try.info32 : (Try.prog.info? 32).map (fun i => (i.zero, i.size, i.bytes)) = some (some (.agg #[.string ⟨#[]⟩, .int .i64 0, .int .i64 0]), 3, 32) := by kernel_rfl

def cyc (rf : On → Bool) (out : List Pc) : List On → List Pc
  | [] => out
  | o :: os => cyc rf (if o.p ∉ out ∧ rf o = true then out ++ [o.p] else out) os

theorem Cycles_nil (w : World) (s v : Value) : Calls Try.prog 11 #[.pointer none, s, v] w fun e w' => e = .returned (.slice none 0 0) ∧ Upd w w' (fun _ => False) := by
  go_enter Try.func11, Try.ntmps11
  go_wp2_with fail
  go_ret
  exact ⟨rfl, Upd.refl _ _⟩

theorem new3b (w : World) (A B C : Obj) : (((w.alloc A).alloc B).alloc C).heap[w.heap.size]? = some A := block_alloc (block_alloc (new1 w A) B) C
theorem new3m (w : World) (A B C : Obj) : (((w.alloc A).alloc B).alloc C).heap[w.heap.size + 1]? = some B := block_alloc (new2 w A B) C

set_option maxHeartbeats 3200000 in
theorem Cycles_any (w : World) (F : List UInt8 → Option (Int × List Ed)) (os : List On) (name : List UInt8) (ok : ∀ p, (Way.mk F os name p).Ok) (b0 bmw nw : Nat) (Dw : DataW Value) (A B : Nat → Prop) (hB : ∀ k, B k → k < w.heap.size) (ov : Value)
    (hw : WebAt w b0 bmw nw Dw) (hk : KnV w A Dw F) (ho : OnsAt w B ov os) (N : Nat) (hN : N ≤ 90) (rf : On → Bool) (hr : ∀ o ∈ os, (Way.mk F os name o.p).goes (N + 1) (sees [] [] o.links) = some (rf o)) :
    Calls Try.prog 11 #[.pointer (some ⟨b0, 0, none⟩), encStr name, ov] w fun e w' => ∃ a c, e = .returned (.slice a (cyc rf [] os).length c) ∧ PcsAt w' (.slice a (cyc rf [] os).length c) (cyc rf [] os) ∧ Upd w w' (fun _ => False) := by
  obtain ⟨i0, hi0, hz0, hz1, hz2⟩ := info_parts Try.info32
  obtain ⟨oa, oc, rfl, -⟩ := Rw.form ho.choose_spec.1
  obtain ⟨M, hM⟩ : ∃ M, os.length = M := ⟨_, rfl⟩
  have hMl : M ≤ 1000 := by have := (ok ⟨[], 0, 0⟩).own.1; rw [← hM]; exact this
  have HO := hide ho
  have HW := hide hw
  have HK := hide hk
  have HM := hide hM
  rw [hM]
  clear ho hw hk hM
  go_enter Try.func11, Try.ntmps11
  go_wp2_with fail
  go_loopg [7, 15] M (fun q va iv wr => ∃ (k : Nat) (out : List Pc), k + q = M ∧ iv = .int .i64 k ∧ out.length ≤ k ∧ cyc rf [] os = cyc rf out (os.drop k) ∧ Rw wr 32 3 va out.length (pcCells out) ∧ (∀ j, va.ownBlock = some j → w.heap.size ≤ j) ∧ Upd w wr (fun _ => False))
  case atStart => exact ⟨0, [], by omega, rfl, by simp, rfl, Rw.nil _ _ _, by simp [Value.ownBlock], Upd.refl _ _⟩
  case round =>
    obtain ⟨k, out, hk, rfl, hol, hcy, hro, hoo, hu⟩ := hrel
    obtain ⟨va, vc, rfl, -⟩ := Rw.form hro
    by_cases hkM : k < M
    · obtain ⟨o, hok⟩ : ∃ o, os[k]? = some o := ⟨_, List.getElem?_eq_getElem (by rw [HM.out]; exact hkM)⟩
      have hom : o ∈ os := List.mem_of_getElem? hok
      have hdrop : os.drop k = o :: os.drop (k + 1) := by
        obtain ⟨hl, e⟩ := List.getElem?_eq_some_iff.1 hok
        rw [List.drop_eq_getElem_cons hl, e]
      obtain ⟨xs, hxs, hrows⟩ := HO.out
      obtain ⟨rv, lv, q1, q2, q3, q4⟩ := hrows k o hok
      obtain ⟨ra, rc, rfl, -⟩ := Rw.form q2
      obtain ⟨la, lc, rfl, -⟩ := Rw.form q3
      have hxs' : Rw w 38 5 (.slice oa M oc) M xs := by rw [← HM.out]; exact hxs
      obtain ⟨g, off, rfl, hg, d0, d1, d2, d3, d4⟩ := on_at (hu.rw hxs' (fun _ _ => id)) k o _ _ q1 hkM
      obtain ⟨ow, how⟩ : ∃ ow, ow = (Obj.cells #[encStr o.p.s, .int .i64 o.p.c, .int .i64 o.p.r, .slice ra o.reads.length rc, .slice la o.links.length lc] 38) := ⟨_, rfl⟩
      obtain ⟨sw, hsw⟩ : ∃ sw, sw = (Obj.cells #[.pointer (some ⟨b0, 0, none⟩), encStr name, .slice (some ⟨g, off, none⟩) M oc, .map (some (wr.heap.size + 1)), .slice none 0 0] 98) := ⟨_, rfl⟩
      obtain ⟨W, hW⟩ : ∃ W, ((wr.alloc ow).alloc (.map #[] 0)).alloc sw = W := ⟨_, rfl⟩
      have uW : Upd wr W (fun _ => False) := hW ▸ ((((Upd.refl wr _).alloc _).alloc _).alloc _)
      have hT : W.heap[wr.heap.size]? = some ow := hW ▸ new3b wr _ _ _
      have hMp : W.heap[wr.heap.size + 1]? = some (.map #[] 0) := hW ▸ new3m wr _ _ _
      have hS : W.heap[wr.heap.size + 1 + 1]? = some sw := hW ▸ new3 wr _ _ _
      have CN := Contains_any W _ out o.p (uW.rw hro (fun _ _ => id)) (by omega)
      rw [how] at hT
      rw [hsw] at hS
      have hMM : W.ownsMap Try.prog 40 heldElem (wr.heap.size + 1) 0 (.map []) := by
        have m0 := ((World.ownsMap_made (wr.alloc ow) Try.prog 40 heldElem).alloc sw)
        rw [← hW]
        have e1 : (wr.alloc ow).heap.size = wr.heap.size + 1 := by simp
        rw [e1] at m0
        exact m0
      have wrl : w.heap.size ≤ wr.heap.size := hu.size
      have U1 : Upd w W (fun _ => False) := hu.then uW (fun _ _ => id)
      have hWs : wr.heap.size + 1 + 1 < W.heap.size := lt_at hS
      have bl0 := lt_at HW.out.c
      have bml0 := HW.out.m.lt
      have CM : ∀ V : World, Upd W V (fun _ => False) → Calls Try.prog 28 #[.pointer (some ⟨wr.heap.size + 1 + 1, 0, none⟩), .slice la o.links.length lc, o.p.val] V fun e w' => e = .returned (.bool (rf o)) ∧ Upd V w' (fun k => k = wr.heap.size + 1 + 1 ∨ k = wr.heap.size + 1) := by
        intro V uV
        have U2 : Upd w V (fun _ => False) := U1.then uV (fun _ _ => id)
        obtain ⟨hl1, hl2, hl3⟩ := (ok o.p).own.2 o hom
        refine comes_any V (Way.mk F os name o.p) (ok o.p) b0 bmw nw Dw (fun k => A k ∧ k < w.heap.size) B (fun k hk => by have := hB k hk; have := U2.size; omega) (some ⟨g, off, none⟩) M oc _ _ _ o.links
          ⟨HW.out.upd U2 id id, (HK.out.weaken (B := fun k => A k ∧ k < w.heap.size) (fun k hk hA => ⟨hA, hk⟩)).upd U2 (fun _ _ => id), ?_, ⟨_, uV.get hS id⟩, ⟨_, _, uV.get hMp id⟩, by omega, fun k hk => ⟨by omega, by omega⟩⟩
          ⟨uV.get hS id, ⟨_, ?_, MetV.nil⟩, Rw.nil _ _ _, by simp [Value.ownBlock], by simp [Value.ownBlock]⟩ (U2.rw q3 (fun _ _ => id)) hl3 hl2 N hN (rf o) (hr o hom)
        · have := OnsAt.upd HO.out U2
          rw [HM.out] at this
          exact this
        · obtain ⟨es, clock, hb, kk⟩ := hMM
          exact ⟨es, clock, uV.get hb id, kk⟩
      have HT := hide hT
      have HU := hide hu
      have HUW := hide uW
      have HRO := hide hro
      have HCY := hide hcy
      have HD := hide hdrop
      have HWW := hide hW
      have HOO := hide hoo
      have hk0 : (0 : Int) ≤ (k : Int) := by omega
      have hk1 : (k : Int) < (M : Int) := by omega
      clear hT hMp hS uW hro hcy hdrop hW hMM hu hoo hxs hxs' hrows q1 q2 q3 U1
      subst how
      subst hsw
      unfold Pc.val at CN CM
      have hmm := @run_makeMap Try.prog
      have hSB : ∀ i, i < w.heap.size → (i = wr.heap.size + 1 + 1 ∨ i = wr.heap.size + 1) → False := fun i hi e => by omega
      have UWW : Upd w W (fun _ => False) := HU.out.then HUW.out (fun _ _ => id)
      have HUWW := hide UWW
      clear UWW
      by_cases hin : o.p ∈ out
      · have hd : decide (o.p ∈ out) = true := by simpa using hin
        rw [hd] at CN
        have hcn : cyc rf [] os = cyc rf out (os.drop (k + 1)) := by rw [HCY.out, HD.out, cyc]; simp [hin]
        have HCN := hide hcn
        clear hd hin hcn
        go_wp2_with fail
        rw [HWW.out]
        refine Calls.mono CN ?_
        rintro e w4 ⟨rfl, u4⟩
        go_wp2_with fail
        go_roundg (gk - 1)
        case measure => omega
        case rel => exact ⟨k + 1, out, by omega, by go_num, by omega, HCN.out, u4.rw (HUW.out.rw HRO.out (fun _ _ => id)) (fun _ _ => id), HOO.out, HUWW.out.then u4 (fun _ _ => id)⟩
      · have hd : decide (o.p ∈ out) = false := by simpa using hin
        rw [hd] at CN
        have HIN := hide hin
        clear hd hin
        cases hrf : rf o with
        | false =>
          rw [hrf] at CM
          have hcn : cyc rf [] os = cyc rf out (os.drop (k + 1)) := by rw [HCY.out, HD.out, cyc]; simp [hrf]
          have HCN := hide hcn
          clear hcn hrf
          go_wp2_with fail
          rw [HWW.out]
          refine Calls.mono CN ?_
          rintro e w4 ⟨rfl, u4⟩
          obtain ⟨t0, t1, t2, t3, t4⟩ := cells5 (u4.get HT.out id)
          go_wp2_with fail
          refine Calls.mono (CM w4 u4) ?_
          rintro e w5 ⟨rfl, u5⟩
          go_wp2_with fail
          go_roundg (gk - 1)
          case measure => omega
          case rel => exact ⟨k + 1, out, by omega, by go_num, by omega, HCN.out, u5.rw (u4.rw (HUW.out.rw HRO.out (fun _ _ => id)) (fun _ _ => id)) (fun j hj e => by have := HRO.out.lt j hj; omega), HOO.out, (HUWW.out.then u4 (fun _ _ => id)).then u5 hSB⟩
        | true =>
          rw [hrf] at CM
          have hcn : cyc rf [] os = cyc rf (out ++ [o.p]) (os.drop (k + 1)) := by rw [HCY.out, HD.out, cyc]; simp [hrf, HIN.out]
          have HCN := hide hcn
          clear hcn hrf
          go_wp2_with fail
          rw [HWW.out]
          refine Calls.mono CN ?_
          rintro e w4 ⟨rfl, u4⟩
          obtain ⟨t0, t1, t2, t3, t4⟩ := cells5 (u4.get HT.out id)
          go_wp2_with fail
          refine Calls.mono (CM w4 u4) ?_
          rintro e w5 ⟨rfl, u5⟩
          have hT5 := u5.get (u4.get HT.out id) (show ¬ (wr.heap.size = wr.heap.size + 1 + 1 ∨ wr.heap.size = wr.heap.size + 1) by omega)
          obtain ⟨x0, x1, x2, x3, x4⟩ := cells5 hT5
          have xl := lt_at hT5
          have U5 : Upd w w5 (fun _ => False) := (HUWW.out.then u4 (fun _ _ => id)).then u5 hSB
          have R5 := u5.rw (u4.rw (HUW.out.rw HRO.out (fun _ _ => id)) (fun _ _ => id)) (fun j hj e => by have := HRO.out.lt j hj; omega)
          have HU5 := hide U5
          have HR5 := hide R5
          clear U5 R5 hT5
          go_wp2_with (at_builtin; go_loud (refine wpList_append_rw _ rfl _ _ 35 35 rfl 32 _ i0 _ 3 32 Try.underlying35 Try.underlying35 (by simp) hi0 hz0 hz1 hz2 rfl _ out.length _ rfl (HR5.out.alloc _) _ 1 _ rfl (Rw.made _ _ _ 3 1 rfl).src rfl (by simp [Value.oneCell']) (by omega) (by omega) ?_); intro ga gc w6 hv' hg hob')
          go_roundg (gk - 1)
          case measure => omega
          case rel =>
            refine ⟨k + 1, out ++ [o.p], by omega, by go_num, by simp; omega, HCN.out, ?_, ?_, (HU5.out.alloc _).grown hg (fun j hj => .inl (HOO.out j hj))⟩
            · rw [pcCells_app]
              simpa [pcCells, Pc.cells] using hv'
            · intro j hj
              rcases hob' with e | e
              · exact HOO.out j (e.symm.trans hj)
              · have := Option.some.inj (e.symm.trans hj); have := HU5.out.size; simp at *; omega
    · go_wp2_with fail
      go_ret
      have e0 : k = M := by omega
      subst e0
      have e1 : os.drop k = [] := by rw [← HM.out]; simp
      rw [e1] at hcy
      simp only [cyc] at hcy
      rw [hcy]
      exact ⟨va, vc, rfl, hro, hu⟩
end Go.Proofs.Ytcdimledeomahaa
