/- The walk of the reference's Pairs. -/
import Derived.Test.YtleehgpfoigajaaNtU
set_option maxRecDepth 100000
namespace Go.Proofs.Ytleehgpfoigajaa
open Go.RowKit Go.Lat Go.Sort

theorem insP_len (p : Pr) : ∀ l : List Pr, (insP p l).length = l.length + 1
  | [] => rfl
  | q :: l => by
    unfold insP
    split
    · rfl
    · simp [insP_len p l]
theorem pairsF_len : ∀ (l : List On) (out : List Pr), (pairsF l out).length ≤ out.length + l.length
  | [], out => by simp [pairsF]
  | x :: l, out => by
    rw [pairsF]
    refine Nat.le_trans (pairsF_len l _) ?_
    simp only [List.length_cons]
    split
    · omega
    · rw [insP_len]
      omega
theorem pairsF_next {L : List On} {j : Nat} {x : On} (h : L[j]? = some x) : pairsF (L.take (j + 1)) [] = if x.p ∈ pairsF (L.take j) [] then pairsF (L.take j) [] else insP x.p (pairsF (L.take j) []) := by
  rw [List.take_add_one, h]
  exact pairsF_snoc x _ _
theorem quiet_add {P : Program} {f : FuncId} {args : Array Value} {w : World} {m x : Nat} {v : Value} (h : Calls P f args (w.drewN (m + x)) fun e w' => e = .returned v ∧ ∃ k, w' = (w.drewN (m + x)).drewN k) : Calls P f args (w.drewN (m + x)) fun e w' => e = .returned v ∧ ∃ n, w' = w.drewN (m + n) :=
  h.mono fun _ _ ⟨he, k, hk⟩ => ⟨he, x + k, by rw [hk, World.drewN_drewN, Nat.add_assoc]⟩
def s0 : InsS := ⟨false, false, []⟩
theorem ins_next {out : List Pr} {k : Nat} {q : Pr} (h : out[k]? = some q) (p : Pr) {S : InsS} (hS : insG p (out.take k) s0 = S) {bq bl : Bool} (hq : decide (q = p) = bq) (hl : decide (ltP p q) = bl) :
    insG p (out.take (k + 1)) s0 = ⟨S.was || bq, S.put || bl, if !S.put && bl then S.next ++ [p, q] else S.next ++ [q]⟩ := by
  rw [List.take_add_one, h, ← hS, ← hq, ← hl]
  exact insG_snoc p q _ _
theorem ltP_parts {p q : Pr} {f1 e1 f2 : Bool} (h1 : decide (p.1 < q.1) = f1) (h2 : (p.1 == q.1) = e1) (h3 : decide (p.2 < q.2) = f2) : decide (ltP p q) = (f1 || (e1 && f2)) := by
  subst h1 h2 h3
  rw [Bool.eq_iff_iff, decide_eq_true_iff]
  simp [ltP]

set_option maxHeartbeats 6400000 in
theorem RPairs_any (base : Nat) (w : World) (rb : Nat) (v : Value) (L : List On) (lost : Nat) (h : RefAt base w rb v L lost) (hl : L.length ≤ 1000) (hk : ∀ x ∈ L, prOk x.p) :
    Calls Try.prog 19 #[.pointer (some ⟨rb, 0, none⟩)] w fun e w' => ∃ a c, e = .returned (.slice a (pairsR L).length c) ∧ Rw w' 40 2 (.slice a (pairsR L).length c) (pairsR L).length (prCells (pairsR L)) ∧ Upd w w' (fun _ => False) := by
  obtain ⟨iP, hiP, hP0, hP1, hP2⟩ := info_parts Try.info40
  obtain ⟨sa, sc, rfl, -⟩ := Rw.form h.r
  have c0 := (cells2 h.c).1
  have blt := lt_at h.c
  have HR := hide h.r
  obtain ⟨N, hN⟩ : ∃ N, L.length = N := ⟨_, rfl⟩
  have HN := hide hN
  rw [hN] at hl c0
  have HK := hide hk
  clear h hN hk
  go_enter Try.func19, Try.ntmps19
  go_wp2_with fail
  go_loopg [3, 4] N (fun q va jv wr => ∃ j : Nat, j + q = N ∧ jv = .int .i64 j ∧ Rw wr 40 2 va (pairsF (L.take j) []).length (prCells (pairsF (L.take j) [])) ∧ Upd w wr (fun _ => False))
  case atStart => exact ⟨0, by omega, rfl, by simpa [prCells, pairsF] using Rw.nil _ _ _, Upd.refl _ _⟩
  case round =>
    obtain ⟨j, hj, rfl, hra, hu⟩ := hrel
    obtain ⟨ogk, rfl⟩ : ∃ ogk : Nat, ogk = gk := ⟨_, rfl⟩
    have e0 := (hu.cell rb 0 blt id).trans c0
    by_cases hjN : j < N
    · obtain ⟨x, hx⟩ : ∃ x, L[j]? = some x := ⟨_, List.getElem?_eq_getElem (by rw [HN.out]; exact hjN)⟩
      have hR := HR.out
      rw [HN.out] at hR
      obtain ⟨g, off, rfl, hg, x0, x1, x2⟩ := on_at hR j x hx hjN
      have y0 := (hu.cell g _ hg id).trans x0
      have y1 := (hu.cell g _ hg id).trans x1
      have hq0 : (0 : Int) ≤ (j : Int) := by omega
      have hq1 : (j : Int) < (N : Int) := by omega
      have hnx := pairsF_next hx
      have hol := pairsF_len (L.take j) []
      rw [List.length_take] at hol
      simp only [List.length_nil, Nat.zero_add] at hol
      have pok := HK.out x (List.mem_of_getElem? hx)
      have oks : ∀ q ∈ pairsF (L.take j) [], prOk q := by
        intro q hq
        rcases pairsF_mem.1 hq with z | ⟨y, hy, e⟩
        · cases z
        · exact e ▸ HK.out y (List.mem_of_mem_take hy)
      obtain ⟨out, hout⟩ : ∃ out, pairsF (L.take j) [] = out := ⟨_, rfl⟩
      rw [hout] at hra hnx hol oks
      obtain ⟨va, vc, rfl, -⟩ := Rw.form hra
      obtain ⟨M, hM⟩ : ∃ M, out.length = M := ⟨_, rfl⟩
      rw [hM] at hra hol
      rw [hM]
      have HM := hide hM
      have rlt : rb < wr.heap.size := by have := hu.size; omega
      have glt : g < wr.heap.size := by have := hu.size; omega
      obtain ⟨⟨p1, p2⟩, xs⟩ := x
      simp only at x0 x1 x2 y0 y1 hnx pok
      have HNX := hide hnx
      have HRA := hide hra
      have HU := hide hu
      have HOK := hide oks
      clear hx hR hnx hra hu x0 x1 x2 hout hM oks
      go_wp2_with fail
      go_region_held3 (fun w' => w'.cell? ⟨rb, 0, none⟩ = some (.slice (some ⟨g, off, none⟩) N sc) ∧ w'.cell? ⟨g, off + j * 3, none⟩ = some (encStr p1) ∧ w'.cell? ⟨g, off + j * 3 + 1, none⟩ = some (encStr p2)) (go_keep) (fail)
      obtain ⟨W0, hW0⟩ : ∃ W0, (wr.alloc (.cells #[encStr p1, encStr p2] 40)).drew = W0 := ⟨_, rfl⟩
      have bp : W0.heap[wr.heap.size]? = some (.cells #[encStr p1, encStr p2] 40 (0, 0)) := hW0 ▸ new1 wr _
      have u0 : Upd wr W0 (fun _ => False) := hW0 ▸ ((Upd.refl wr _).alloc _).drew
      obtain ⟨pb, hpb⟩ : ∃ pb, wr.heap.size = pb := ⟨_, rfl⟩
      have hW1 : (wr.alloc (.cells #[.string ⟨p1.toArray⟩, .string ⟨p2.toArray⟩] 40)).drew = W0 := hW0
      rw [hW1]
      clear hW1
      rw [hpb] at bp ⊢
      have HRA0 := hide (u0.rw HRA.out (fun _ _ => id))
      have HU0 := hide (HU.out.then u0 (fun _ _ => id))
      have HBP := hide bp
      have HPOK := hide pok
      clear hW0 bp u0 hpb pok
      go_wp2_with fail
      go_loopg [6, 7, 8, 9] M (fun q wv nv pv kv wi => ∃ (k : Nat) (S : InsS), k + q = M ∧ kv = .int .i64 k ∧ insG (p1, p2) (out.take k) s0 = S ∧ wv = .bool S.was ∧ pv = .bool S.put ∧ Rw wi 40 2 nv S.next.length (prCells S.next) ∧ (∀ i, nv.ownBlock = some i → W0.heap.size ≤ i) ∧ Upd W0 wi (fun _ => False))
      case atStart => exact ⟨0, s0, by omega, rfl, by simp [insG], rfl, rfl, by simpa [prCells, s0] using Rw.nil _ _ _, fun i hi => (by cases hi), Upd.refl _ _⟩
      case round =>
        obtain ⟨k, S, hk, rfl, hS, rfl, rfl, hrn, hvn, hui⟩ := hrel
        obtain ⟨wi, rfl⟩ : ∃ wi, wi = wr := ⟨_, rfl⟩
        by_cases hkM : k < M
        · obtain ⟨q, hq⟩ : ∃ q, out[k]? = some q := ⟨_, List.getElem?_eq_getElem (by rw [HM.out]; exact hkM)⟩
          have qok := HOK.out q (List.mem_of_getElem? hq)
          obtain ⟨g2, off2, rfl, hg2, d0, d1⟩ := pr_at (hui.rw HRA0.out (fun _ _ => id)) k q hq hkM
          obtain ⟨x0, x1⟩ := cells2 (hui.get HBP.out id)
          have pl := lt_at (hui.get HBP.out id)
          have hk0 : (0 : Int) ≤ (k : Int) := by omega
          have hk1 : (k : Int) < (M : Int) := by omega
          obtain ⟨bq, hbq⟩ : ∃ b, decide (q = (p1, p2)) = b := ⟨_, rfl⟩
          obtain ⟨f1, hf1⟩ : ∃ b, decide (p1 < q.1) = b := ⟨_, rfl⟩
          obtain ⟨e1, he1⟩ : ∃ b, (p1 == q.1) = b := ⟨_, rfl⟩
          obtain ⟨f2, hf2⟩ : ∃ b, decide (p2 < q.2) = b := ⟨_, rfl⟩
          have hnxt := ins_next hq (p1, p2) hS hbq (ltP_parts (p := (p1, p2)) hf1 he1 hf2)
          have hlen := insG_len (p1, p2) (out.take k) s0
          rw [hS, List.length_take] at hlen
          simp only [s0, List.length_nil, Nat.zero_add] at hlen
          have hEQ : ∀ w, (binOp .eql 40 (.agg #[encStr q.1, encStr q.2]) (.agg #[encStr p1, encStr p2])).run Try.prog w = .ok (.bool bq) w := fun w => by
            rw [eq_pr w qok HPOK.out, hbq]
          have L1 := fun w => less_any w p1 q.1 HPOK.out.1 qok.1
          have L2 := fun w => less_any w p2 q.2 HPOK.out.2 qok.2
          rw [hf1] at L1
          rw [hf2] at L2
          obtain ⟨q1, q2⟩ := q
          simp only at d0 d1 he1 hEQ L1 L2
          obtain ⟨va2, vc2, rfl, -⟩ := Rw.form hrn
          obtain ⟨P, hP⟩ : ∃ P, S.next.length = P := ⟨_, rfl⟩
          rw [hP] at hrn hlen hvn ⊢
          have HNXT := hide hnxt
          have HRN := hide hrn
          have HVN := hide hvn
          have HUI := hide hui
          have HP := hide hP
          have HS := hide hS
          have HL1 := hide L1
          have HL2 := hide L2
          have HHB := hide hbq
          obtain ⟨was, put, next⟩ := S
          simp only at HRN HP HNXT
          have uW : ∀ W, W = wi → True := fun _ _ => trivial
          clear hq qok hS hrn hvn hui hP L1 L2 hnxt hf1 hf2 hbq uW
          have hc : put = true ∨ (put = false ∧ (f1 = true ∨ (f1 = false ∧ (e1 = false ∨ (e1 = true ∧ (f2 = true ∨ f2 = false)))))) := by cases put <;> cases f1 <;> cases e1 <;> cases f2 <;> simp
          have cs : bq = true ∨ bq = false := by cases bq <;> simp
          rcases cs with rfl | rfl
          all_goals rcases hc with rfl | ⟨rfl, rfl | ⟨rfl, rfl | ⟨rfl, rfl | rfl⟩⟩⟩
          all_goals go_wp2_with fail
          all_goals go_quiet (fail)
          all_goals go_wp2_with fail
          all_goals go_quiet ((go_at_call 32; exact quiet_add (HL1.out _)))
          all_goals go_wp2_with fail
          all_goals go_quiet ((go_at_call 32; exact quiet_add (HL2.out _)))
          all_goals go_wp2_with fail
          all_goals go_quiet (fail)
          all_goals generalize hW : World.drewN _ nq = W
          all_goals have uW : Upd wi W (fun _ => False) := hW ▸ ((((Upd.refl wi _).drewN _).drewN _).drewN _).drewN _
          all_goals (
            obtain ⟨x0, x1⟩ := cells2 ((HUI.out.then uW (fun _ _ => id)).get HBP.out id)
            have gl0 := HRA0.out.lt g2 rfl
            have gl : g2 < W.heap.size := by have := uW.size; have := HUI.out.size; omega
            have plW : pb < W.heap.size := by have := uW.size; omega
            have d0 := (uW.cell g2 _ (by have := HUI.out.size; omega) id).trans d0
            have d1 := (uW.cell g2 _ (by have := HUI.out.size; omega) id).trans d1
            have HRW := hide (uW.rw HRN.out (fun _ _ => id))
            have HUW := hide (HUI.out.then uW (fun _ _ => id))
            clear uW hW)
          all_goals go_wp2_with (first
            | (at_builtin; (refine wpList_append_rw _ rfl _ _ 38 38 rfl 40 _ iP _ 2 32 Try.underlying38 Try.underlying38 (by simp) hiP hP0 hP1 hP2 rfl _ _ _ rfl (HRW.out.alloc _) _ 1 [encStr q1, encStr q2] rfl (Rw.src (Rw.made W #[encStr q1, encStr q2] 40 2 1 rfl)) rfl (by simp [Value.oneCell']) (by omega) (by omega) ?_)
               intro ga gc w6 hv' hg' hob'
               have HV2 := hide hv'
               have HG2 := hide hg'
               have HB2 := hide hob'
               clear hv' hg' hob')
            | (at_builtin; (refine wpList_append_rw _ rfl _ _ 38 38 rfl 40 _ iP _ 2 32 Try.underlying38 Try.underlying38 (by simp) hiP hP0 hP1 hP2 rfl _ _ _ rfl (HRW.out.alloc _) _ 1 [encStr p1, encStr p2] rfl (Rw.src (Rw.made W #[encStr p1, encStr p2] 40 2 1 rfl)) rfl (by simp [Value.oneCell']) (by omega) (by omega) ?_)
               intro ga gc w5 hv' hg' hob'
               have u5 : Upd W w5 (fun i => (Value.slice va2 P vc2).ownBlock = some i) := ((Upd.refl W _).alloc _).grown hg' (fun i e => .inr e)
               have c0 := (u5.cell g2 _ gl (fun e => by have := HVN.out g2 e; omega)).trans d0
               have c1 := (u5.cell g2 _ gl (fun e => by have := HVN.out g2 e; omega)).trans d1
               have gl5 : g2 < w5.heap.size := by have := u5.size; omega
               have HV1 := hide hv'
               have HU5 := hide u5
               have HB1 := hide hob'
               clear hv' hg' hob' u5)
            | (at_builtin; (refine wpList_append_rw _ rfl _ _ 38 38 rfl 40 _ iP _ 2 32 Try.underlying38 Try.underlying38 (by simp) hiP hP0 hP1 hP2 rfl _ _ _ rfl (HV1.out.alloc _) _ 1 [encStr q1, encStr q2] rfl (Rw.src (Rw.made w5 #[encStr q1, encStr q2] 40 2 1 rfl)) rfl (by simp [Value.oneCell']) (by omega) (by omega) ?_)
               intro ha hc w7 hv' hg' hob'
               have HV3 := hide hv'
               have HG3 := hide hg'
               have HB3 := hide hob'
               clear hv' hg' hob'))
          all_goals go_roundg (gk - 1)
          case' measure => omega
          all_goals (first
            | omega
            | (have hn := HNXT.out
               simp at hn
               have e2 : (next ++ [((p1, p2) : Pr), (q1, q2)]).length = P + 1 + 1 := by simp [HP.out]
               refine ⟨k + 1, _, by omega, by go_num, hn, by rfl, by rfl, ?_, ?_, ?_⟩
               · dsimp only
                 rw [e2, prCells_app]
                 simpa [prCells, prEnc] using HV3.out
               · have lo5 : ∀ i, (Value.slice ga (P + 1) gc).ownBlock = some i → W0.heap.size ≤ i := own_lo HB1.out HVN.out (by have := HUW.out.size; simp; omega)
                 exact own_lo HB3.out lo5 (by have := HUW.out.size; have := HU5.out.size; simp; omega)
               · have lo5 : ∀ i, (Value.slice ga (P + 1) gc).ownBlock = some i → W0.heap.size ≤ i := own_lo HB1.out HVN.out (by have := HUW.out.size; simp; omega)
                 exact ((HUW.out.then HU5.out (fun i hi e => by have := HVN.out i e; omega)).alloc _).grown HG3.out (fun i e => .inl (lo5 i e)))
            | (have hn := HNXT.out
               simp at hn
               have e2 : (next ++ [((q1, q2) : Pr)]).length = P + 1 := by simp [HP.out]
               refine ⟨k + 1, _, by omega, by go_num, hn, by rfl, by rfl, ?_, own_lo HB2.out HVN.out (by have := HUW.out.size; simp; omega), (HUW.out.alloc _).grown HG2.out (fun i e => .inl (HVN.out i e))⟩
               dsimp only
               rw [e2, prCells_app]
               simpa [prCells, prEnc] using HV2.out))
        · have hk1 : ¬ (k : Int) < (M : Int) := by omega
          have htk : out.take k = out := List.take_of_length_le (by rw [HM.out]; omega)
          rw [htk] at hS
          have hwas := insG_was (p1, p2) out s0
          have hnext := insG_next (p1, p2) out [] false
          have hlen := insG_len (p1, p2) out s0
          rw [show (⟨false, false, []⟩ : InsS) = s0 from rfl] at hnext
          rw [hS] at hwas hlen hnext
          simp only [s0, Bool.false_or, List.length_nil, Nat.zero_add] at hwas hlen
          simp only [List.nil_append] at hnext
          obtain ⟨x0, x1⟩ := cells2 (hui.get HBP.out id)
          have pl := lt_at (hui.get HBP.out id)
          obtain ⟨va2, vc2, rfl, -⟩ := Rw.form hrn
          obtain ⟨P, hP⟩ : ∃ P, S.next.length = P := ⟨_, rfl⟩
          rw [hP] at hrn hlen hvn ⊢
          have hml : out.length ≤ 1000 := by rw [HM.out]; omega
          have HRN := hide hrn
          have HVN := hide hvn
          have HUI := hide hui
          have HP := hide hP
          have HWAS := hide hwas
          have HNEXT := hide hnext
          obtain ⟨was, put, next⟩ := S
          simp only at HRN HP HWAS HNEXT
          clear hS hrn hvn hui hP hwas hnext htk
          have cs : ∀ b : Bool, b = true ∨ b = false := fun b => by cases b <;> simp
          rcases cs put with rfl | rfl
          all_goals rcases cs was with rfl | rfl
          all_goals clear cs
          all_goals go_wp2_with (first
            | (at_builtin; (refine wpList_append_rw _ rfl _ _ 38 38 rfl 40 _ iP _ 2 32 Try.underlying38 Try.underlying38 (by simp) hiP hP0 hP1 hP2 rfl _ _ _ rfl (HRN.out.alloc _) _ 1 [encStr p1, encStr p2] rfl (Rw.src (Rw.made wi #[encStr p1, encStr p2] 40 2 1 rfl)) rfl (by simp [Value.oneCell']) (by omega) (by omega) ?_)
               intro ga gc w5 hv' hg' hob'
               have HV1 := hide hv'
               have HG1 := hide hg'
               have HB1 := hide hob'
               clear hv' hg' hob'))
          all_goals go_roundg (ogk - 1)
          case' measure => omega
          all_goals (first
            | omega
            | (have hm : (p1, p2) ∈ out := by simpa using HWAS.out
               have e1 := HNX.out
               rw [if_pos hm] at e1
               refine ⟨j + 1, by omega, by go_num, ?_, ?_⟩
               · rw [e1, HM.out]
                 first
                   | exact HUI.out.rw HRA0.out (fun _ _ => id)
                   | exact (((Upd.refl wi (fun i => (Value.slice va2 P vc2).ownBlock = some i)).alloc _).grown HG1.out (fun i e => .inr e)).rw (HUI.out.rw HRA0.out (fun _ _ => id)) (fun i hi e => by have := HVN.out i e; have := HRA0.out.lt i hi; omega)
               · first
                   | exact HU0.out.then HUI.out (fun _ _ => id)
                   | exact HU0.out.then ((HUI.out.alloc _).grown HG1.out (fun i e => .inl (HVN.out i e))) (fun _ _ => id))
            | (have hm : ¬ (p1, p2) ∈ out := by simpa using HWAS.out
               have e1 := HNX.out
               rw [if_neg hm] at e1
               have e3 := HNEXT.out
               simp only [Bool.false_eq_true, if_true, if_false] at e3
               refine ⟨j + 1, by omega, by go_num, ?_, ?_⟩
               · rw [e1, ← e3]
                 first
                   | (rw [HP.out]; exact HRN.out)
                   | (have e4 : (next ++ [((p1, p2) : Pr)]).length = P + 1 := by simp [HP.out]
                      rw [e4, prCells_app]
                      simpa [prCells, prEnc] using HV1.out)
               · first
                   | exact HU0.out.then HUI.out (fun _ _ => id)
                   | exact HU0.out.then ((HUI.out.alloc _).grown HG1.out (fun i e => .inl (HVN.out i e))) (fun _ _ => id)))
    · have hq1 : ¬ (j : Int) < (N : Int) := by omega
      have htk : L.take j = L := List.take_of_length_le (by rw [HN.out]; omega)
      rw [htk] at hra
      obtain ⟨va, vc, rfl, -⟩ := Rw.form hra
      have HRA := hide hra
      have HU := hide hu
      clear hra hu htk
      go_wp2_with fail
      go_ret
      exact ⟨va, vc, rfl, HRA.out, HU.out⟩
end Go.Proofs.Ytleehgpfoigajaa
