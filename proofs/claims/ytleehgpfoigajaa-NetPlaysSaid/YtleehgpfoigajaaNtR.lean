/- The walks of the reference's network: Send, Twice, Clear. -/
import Derived.Test.YtleehgpfoigajaaNtQ
set_option maxRecDepth 100000
namespace Go.Proofs.Ytleehgpfoigajaa
open Go.RowKit Go.Lat Go.Sort

def sendL (L : List On) (p : Pr) (s : List UInt8) : List On := if (ofP L p).length < 256 then L ++ [⟨p, s⟩] else L
theorem sendL_ofP (L : List On) (p : Pr) (s : List UInt8) : ofP (sendL L p s) = sendM (ofP L) p s := by
  unfold sendL sendM
  split
  · exact ofP_snoc L ⟨p, s⟩
  · rfl
theorem sendL_len (L : List On) (p : Pr) (s : List UInt8) : (sendL L p s).length ≤ L.length + 1 := by
  unfold sendL
  split <;> simp
theorem sendL_mem {L : List On} {p : Pr} {s : List UInt8} {x : On} (h : x ∈ sendL L p s) : x ∈ L ∨ x = ⟨p, s⟩ := by
  unfold sendL at h
  split at h
  · simpa using h
  · exact .inl h

set_option maxHeartbeats 800000 in
theorem RSend_any (base : Nat) (w : World) (rb : Nat) (v : Value) (L : List On) (lost : Nat) (h : RefAt base w rb v L lost) (hl : L.length ≤ 1000000) (hlo : lost ≤ 1000000) (p : Pr) (s : List UInt8) :
    Calls Try.prog 31 #[.pointer (some ⟨rb, 0, none⟩), encStr p.1, encStr p.2, encStr s] w fun e w' => e = .returned (.bool (decide ((ofP L p).length < 256))) ∧
      ∃ v', RefAt base w' rb v' (sendL L p s) (if (ofP L p).length < 256 then lost else lost + 1) ∧ Upd w w' (fun k => k = rb ∨ v.ownBlock = some k) ∧ (∀ k, v'.ownBlock = some k → v.ownBlock = some k ∨ w.heap.size ≤ k) := by
  have LN := RLen_any base w rb v L lost h hl p
  unfold sendL
  obtain ⟨A, hA⟩ : ∃ A, (ofP L p).length = A := ⟨_, rfl⟩
  rw [hA] at LN ⊢
  have HLN := hide LN
  clear LN hA
  obtain ⟨c0, c1⟩ := cells2 h.c
  have blt := lt_at h.c
  by_cases h256 : A < 256
  · rw [if_pos h256, if_pos h256, decide_eq_true h256]
    have d1 : decide (256 ≤ A) = false := by simp; omega
    have d2 : decide ((256 : Int) ≤ (A : Int)) = false := by simp; omega
    obtain ⟨iO, hiO, hO0, hO1, hO2⟩ := info_parts Try.info68
    obtain ⟨sa, sc, rfl, -⟩ := Rw.form h.r
    have HH := hide h
    obtain ⟨N, hN⟩ : ∃ N, L.length = N := ⟨_, rfl⟩
    have HN := hide hN
    have hr := h.r
    have ho := h.o
    rw [hN] at hl c0 hr ho
    rw [hN]
    have hb := fun k => h.bo k
    rw [hN] at hb
    have hra := hr.alloc (.cells #[encStr p.1, encStr p.2, encStr s] 68)
    have HR := hide hra
    have HO := hide ho
    have HB := hide hb
    clear h hr ho hb hra hN h256
    obtain ⟨p1, p2⟩ := p
    go_enter Try.func31, Try.ntmps31
    go_wp2_with (first
      | (go_at_call 20; refine Calls.mono HLN.out ?_; rintro e w' ⟨rfl, hw⟩; replace hw := hw.symm; subst hw)
      | (at_builtin; go_loud (refine wpList_append_rw _ rfl _ _ 43 43 rfl 68 _ iO _ 3 48 Try.underlying43 Try.underlying43 (by simp) hiO hO0 hO1 hO2 rfl _ _ _ rfl HR.out _ 1 [encStr p1, encStr p2, encStr s] rfl (Rw.src (Rw.made w #[encStr p1, encStr p2, encStr s] 68 3 1 rfl)) rfl (by simp [Value.oneCell']) (by omega) (by omega) ?_)
         intro ga gc w5 hv' hg' hob'
         have hb5 := block_grown hg' (block_alloc HH.out.c _) HO.out
         have f5 := free_at hb5 0
         have g5 := (cells2 hb5).1
         have l5 := lt_at hb5
         have HB5 := hide hb5
         have HV1 := hide hv'
         have HG1 := hide hg'
         have HB1 := hide hob'
         clear hv' hg' hob' hb5))
    go_ret
    have hne : (Value.slice ga (N + 1) gc).ownBlock ≠ some rb := by
      rcases HB1.out with e | e
      · rw [e]; exact HO.out
      · rw [e]; simp; omega
    have e1 : (L ++ [(⟨(p1, p2), s⟩ : On)]).length = N + 1 := by simp [HN.out]
    refine ⟨rfl, _, ⟨block_setCell HB5.out 0 _, ?_, hne, HH.out.bb, ?_⟩, ?_, ?_⟩
    · rw [e1, onCells_app]
      have := HV1.out.setCell (⟨rb, 0, none⟩) (.slice ga (N + 1) gc) hne
      simpa [onCells, onEnc] using this
    · refine own_lo HB1.out HB.out ?_
      have := HH.out.bb
      simp
      omega
    · exact (((Upd.refl w _).alloc _).grown HG1.out (fun k hk => .inr (.inr hk))).setCell _ _ (.inr (.inl rfl))
    · intro k hk
      rcases HB1.out with e | e
      · exact .inl (e.symm.trans hk)
      · have := Option.some.inj (e.symm.trans hk)
        simp at this
        omega
  · rw [if_neg h256, if_neg h256, decide_eq_false h256]
    have d1 : decide (256 ≤ A) = true := by simp; omega
    have d2 : decide ((256 : Int) ≤ (A : Int)) = true := by simp; omega
    have f1 := free_at h.c 1
    have w1 : IntKind.i64.wrap ((lost : Int) + 1) = (lost : Int) + 1 := IntWalk.i64_in _ (by omega)
    have HH := hide h
    clear h h256
    obtain ⟨p1, p2⟩ := p
    go_enter Try.func31, Try.ntmps31
    go_wp2_with (go_at_call 20; refine Calls.mono HLN.out ?_; rintro e w' ⟨rfl, hw⟩; replace hw := hw.symm; subst hw)
    go_ret
    refine ⟨rfl, v, ⟨block_setCell HH.out.c 1 (.int .i64 ((lost : Int) + 1)), HH.out.r.setCell _ _ HH.out.o, HH.out.o, HH.out.bb, HH.out.bo⟩, (Upd.refl w _).setCell _ _ (.inr (.inl rfl)), fun _ q => .inl q⟩

def twiceL (L : List On) (p : Pr) (i : Int) : List On := match lookR (ofP L p) i with
  | some x => sendL L p x
  | none => L
theorem twiceL_ofP (L : List On) (p : Pr) (i : Int) : ofP (twiceL L p i) = twiceM (ofP L) p i := by
  unfold twiceL twiceM
  cases h : lookR (ofP L p) i with
  | none => rfl
  | some x => exact sendL_ofP L p x
theorem RTwice_any (base : Nat) (w : World) (rb : Nat) (v : Value) (L : List On) (lost : Nat) (h : RefAt base w rb v L lost) (hl : L.length ≤ 1000000) (hlo : lost ≤ 1000000) (p : Pr) (i : Int) :
    Calls Try.prog 29 #[.pointer (some ⟨rb, 0, none⟩), encStr p.1, encStr p.2, .int .i64 i] w fun e w' => e = .returned (.int .i64 (twiceE (ofP L p) i)) ∧
      ∃ v', RefAt base w' rb v' (twiceL L p i) lost ∧ Upd w w' (fun k => k = rb ∨ v.ownBlock = some k) ∧ (∀ k, v'.ownBlock = some k → v.ownBlock = some k ∨ w.heap.size ≤ k) := by
  have LK := RLook_any base w rb v L lost h hl p i
  have LN := RLen_any base w rb v L lost h hl p
  unfold twiceE twiceL
  cases hlk : lookR (ofP L p) i with
  | none =>
    rw [lookV_none hlk] at LK
    have HLK := hide LK
    have HH := hide h
    clear LK LN hlk h
    obtain ⟨p1, p2⟩ := p
    go_enter Try.func29, Try.ntmps29
    go_wp2_with (go_at_call 27; refine Calls.mono HLK.out ?_; rintro e w' ⟨rfl, hw⟩; replace hw := hw.symm; subst hw)
    go_ret
    exact ⟨rfl, v, HH.out, Upd.refl _ _, fun _ q => .inl q⟩
  | some x =>
    rw [lookV_some hlk] at LK
    have SD := RSend_any base w rb v L lost h hl hlo p x
    by_cases h256 : (ofP L p).length < 256
    · simp only [h256, if_true, decide_true] at SD ⊢
      obtain ⟨A, hA⟩ : ∃ A, (ofP L p).length = A := ⟨_, rfl⟩
      rw [hA] at LN h256
      have d1 : decide ((256 : Int) ≤ (A : Int)) = false := by simp; omega
      have d2 : decide (256 ≤ A) = false := by simp; omega
      have HLK := hide LK
      have HLN := hide LN
      have HSD := hide SD
      clear LK LN SD hlk h hA h256
      obtain ⟨p1, p2⟩ := p
      go_enter Try.func29, Try.ntmps29
      go_wp2_with (first
        | (go_at_call 27; refine Calls.mono HLK.out ?_; rintro e w' ⟨rfl, hw⟩; replace hw := hw.symm; subst hw)
        | (go_at_call 20; refine Calls.mono HLN.out ?_; rintro e w' ⟨rfl, hw⟩; replace hw := hw.symm; subst hw)
        | (go_at_call 31; refine Calls.mono HSD.out ?_; rintro e w5 ⟨rfl, hq⟩))
      go_ret
      exact ⟨rfl, hq⟩
    · have e1 : sendL L p x = L := by simp [sendL, h256]
      simp only [h256, if_false, e1]
      obtain ⟨A, hA⟩ : ∃ A, (ofP L p).length = A := ⟨_, rfl⟩
      rw [hA] at LN h256
      have d1 : decide ((256 : Int) ≤ (A : Int)) = true := by simp; omega
      have d2 : decide (256 ≤ A) = true := by simp; omega
      have HLK := hide LK
      have HLN := hide LN
      have HH := hide h
      clear LK LN SD hlk h hA h256 e1
      obtain ⟨p1, p2⟩ := p
      go_enter Try.func29, Try.ntmps29
      go_wp2_with (first
        | (go_at_call 27; refine Calls.mono HLK.out ?_; rintro e w' ⟨rfl, hw⟩; replace hw := hw.symm; subst hw)
        | (go_at_call 20; refine Calls.mono HLN.out ?_; rintro e w' ⟨rfl, hw⟩; replace hw := hw.symm; subst hw))
      go_ret
      exact ⟨rfl, v, HH.out, Upd.refl _ _, fun _ q => .inl q⟩

theorem clear_next {L : List On} {j : Nat} {x : On} (h : L[j]? = some x) (name : List UInt8) : clearL name (L.take (j + 1)) = if inv name x.p = true then clearL name (L.take j) else clearL name (L.take j) ++ [x] := by
  unfold clearL
  rw [List.take_add_one, h, List.filter_append]
  split
  · rename_i e
    simp [e]
  · rename_i e
    simp [e]
theorem clearL_len (name : List UInt8) (L : List On) : (clearL name L).length ≤ L.length := List.length_filter_le _ _
set_option maxHeartbeats 800000 in
theorem RClear_any (base : Nat) (w : World) (rb : Nat) (v : Value) (L : List On) (lost : Nat) (h : RefAt base w rb v L lost) (hl : L.length ≤ 1000000) (name : List UInt8) :
    Calls Try.prog 30 #[.pointer (some ⟨rb, 0, none⟩), encStr name] w fun e w' => e = .returned (.tuple #[]) ∧
      ∃ v', RefAt base w' rb v' (clearL name L) lost ∧ Upd w w' (fun k => k = rb) ∧ (∀ k, v'.ownBlock = some k → v.ownBlock = some k ∨ w.heap.size ≤ k) := by
  obtain ⟨sa, sc, rfl, -⟩ := Rw.form h.r
  have c0 := (cells2 h.c).1
  have blt := lt_at h.c
  have HR := hide h.r
  have HC := hide h.c
  have HBB := hide h.bb
  obtain ⟨N, hN⟩ : ∃ N, L.length = N := ⟨_, rfl⟩
  have HN := hide hN
  rw [hN] at hl c0
  obtain ⟨iO, hiO, hO0, hO1, hO2⟩ := info_parts Try.info68
  clear h hN
  go_enter Try.func30, Try.ntmps30
  go_wp2_with fail
  go_loopg [4, 5] N (fun q va jv wr => ∃ j : Nat, j + q = N ∧ jv = .int .i64 j ∧ Rw wr 68 3 va (clearL name (L.take j)).length (onCells (clearL name (L.take j))) ∧ (∀ k, va.ownBlock = some k → w.heap.size ≤ k) ∧ Upd w wr (fun _ => False))
  case atStart => exact ⟨0, by omega, rfl, by simpa [onCells, clearL] using Rw.nil _ _ _, fun k hk => (by cases hk), Upd.refl _ _⟩
  case round =>
    obtain ⟨j, hj, rfl, hra, hva, hu⟩ := hrel
    have e0 := (hu.cell rb 0 blt id).trans c0
    by_cases hjN : j < N
    · obtain ⟨x, hx⟩ : ∃ x, L[j]? = some x := ⟨_, List.getElem?_eq_getElem (by rw [HN.out]; exact hjN)⟩
      have hR := HR.out
      rw [HN.out] at hR
      obtain ⟨g, off, rfl, hg, x0, x1, x2⟩ := on_at hR j x hx hjN
      have y0 := (hu.cell g _ hg id).trans x0
      have y1 := (hu.cell g _ hg id).trans x1
      have y2 := (hu.cell g _ hg id).trans x2
      have hq0 : (0 : Int) ≤ (j : Int) := by omega
      have hq1 : (j : Int) < (N : Int) := by omega
      have hen := clear_next hx name
      have hle := clearL_len name (L.take j)
      rw [List.length_take] at hle
      obtain ⟨va, vc, rfl, -⟩ := Rw.form hra
      obtain ⟨out, hout⟩ : ∃ out, clearL name (L.take j) = out := ⟨_, rfl⟩
      rw [hout] at hra hen hle hva
      have HE := hide hen
      have HRA := hide hra
      have HVA := hide hva
      have HU := hide hu
      have rlt : rb < wr.heap.size := by have := hu.size; omega
      rw [hout]
      have glt : g < wr.heap.size := by have := hu.size; omega
      obtain ⟨⟨x1', x2'⟩, xs⟩ := x
      simp only at x0 x1 x2 y0 y1 y2
      obtain ⟨P, hP⟩ : ∃ P, out.length = P := ⟨_, rfl⟩
      rw [hP] at hle
      have HP := hide hP
      rw [hP]
      clear hx hR hen hra hva hu x0 x1 x2 hout hP
      by_cases h1 : x1' = name
      · subst h1
        have HI := hide (show inv x1' (x1', x2') = true by simp [inv])
        go_wp2_with fail
        go_roundg (gk - 1)
        case measure => omega
        case rel =>
          have e1 := HE.out
          rw [if_pos HI.out] at e1
          have hr := HRA.out
          have hv := HVA.out
          rw [HP.out] at hr hv
          refine ⟨j + 1, by omega, by go_num, ?_, hv, HU.out⟩
          rw [e1, HP.out]
          exact hr
      · have hb1 : (x1' == name) = false := by simpa using h1
        by_cases h2 : x2' = name
        · subst h2
          have HI := hide (show inv x2' (x1', x2') = true by simp [inv])
          clear h1
          go_wp2_with fail
          go_roundg (gk - 1)
          case measure => omega
          case rel =>
            have e1 := HE.out
            rw [if_pos HI.out] at e1
            have hr := HRA.out
            have hv := HVA.out
            rw [HP.out] at hr hv
            refine ⟨j + 1, by omega, by go_num, ?_, hv, HU.out⟩
            rw [e1, HP.out]
            exact hr
        · have hb2 : (x2' == name) = false := by simpa using h2
          have HI := hide (show ¬ inv name (x1', x2') = true by simp [inv, h1, h2])
          clear h1 h2
          have hra := HRA.out
          rw [HP.out] at hra
          have HRA2 := hide (hra.alloc (.cells #[encStr x1', encStr x2', encStr xs] 68))
          clear hra
          go_wp2_with (at_builtin; go_loud (refine wpList_append_rw _ rfl _ _ 43 43 rfl 68 _ iO _ 3 48 Try.underlying43 Try.underlying43 (by simp) hiO hO0 hO1 hO2 rfl _ _ _ rfl HRA2.out _ 1 [encStr x1', encStr x2', encStr xs] rfl (Rw.src (Rw.made wr #[encStr x1', encStr x2', encStr xs] 68 3 1 rfl)) rfl (by simp [Value.oneCell']) (by omega) (by omega) ?_)
                       intro ga gc w5 hv' hg' hob'
                       have HV1 := hide hv'
                       have HG1 := hide hg'
                       have HB1 := hide hob'
                       clear hv' hg' hob')
          go_roundg (gk - 1)
          case measure => omega
          case rel =>
            have e1 := HE.out
            rw [if_neg HI.out] at e1
            have hb := HVA.out
            rw [HP.out] at hb
            refine ⟨j + 1, by omega, by go_num, ?_, ?_, ((HU.out.alloc _).grown HG1.out (fun k e => .inl (hb k e)))⟩
            · rw [e1, onCells_app, List.length_append, HP.out]
              simpa [onCells, onEnc] using HV1.out
            · refine own_lo HB1.out hb ?_
              have := HU.out.size
              simp
              omega
    · have hq1 : ¬ (j : Int) < (N : Int) := by omega
      have htk : L.take j = L := List.take_of_length_le (by rw [HN.out]; omega)
      rw [htk] at hra
      obtain ⟨va, vc, rfl, -⟩ := Rw.form hra
      have cb := hu.get HC.out id
      have f0 := free_at cb 0
      have rlt := lt_at cb
      have HRA := hide hra
      have HVA := hide hva
      have HU := hide hu
      have HCB := hide cb
      rw [htk] at *
      clear hra hva hu cb htk
      go_wp2_with fail
      go_end0
      have hne : (Value.slice va (clearL name L).length vc).ownBlock ≠ some rb := fun e => by have := HVA.out rb e; omega
      refine ⟨rfl, _, ⟨block_setCell HCB.out 0 _, HRA.out.setCell _ _ hne, hne, HBB.out, fun k hk => ?_⟩, (HU.out.weaken (T := fun k => k = rb) (fun _ _ => False.elim)).setCell _ _ (.inr rfl), fun k hk => .inr (HVA.out k hk)⟩
      have := HVA.out k hk
      have := HBB.out
      omega
end Go.Proofs.Ytleehgpfoigajaa
