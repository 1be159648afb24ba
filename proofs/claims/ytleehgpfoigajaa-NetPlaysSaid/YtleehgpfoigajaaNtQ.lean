/- The walks of the reference's network: Take, Send, Twice, Clear. -/
import Derived.Test.YtleehgpfoigajaaNtP
set_option maxRecDepth 100000
namespace Go.Proofs.Ytleehgpfoigajaa
open Go.RowKit Go.Lat Go.Sort

theorem Try.info68 : (Try.prog.info? 68).map (fun i => (i.zero, i.size, i.bytes)) = some (some (.agg #[.string ⟨#[]⟩, .string ⟨#[]⟩, .string ⟨#[]⟩]), 3, 48) := by kernel_rfl
theorem own_lo {a b : Option Nat} {n base : Nat} (h : a = b ∨ a = some n) (hb : ∀ k, b = some k → base ≤ k) (hn : base ≤ n) : ∀ k, a = some k → base ≤ k := by
  intro k hk
  rcases h with e | e
  · exact hb k (e ▸ hk)
  · have := Option.some.inj (e.symm.trans hk)
    omega

theorem erase_next {L : List On} {j d : Nat} {x : On} (h : L[j]? = some x) : (L.take (j + 1)).eraseIdx d = if j = d then (L.take j).eraseIdx d else (L.take j).eraseIdx d ++ [x] := by
  have hl : j < L.length := (List.getElem?_eq_some_iff.1 h).1
  have hj : (L.take j).length = j := by rw [List.length_take]; omega
  rw [List.take_add_one, h]
  simp only [Option.toList_some]
  split
  · rename_i e
    subst e
    rw [List.eraseIdx_append_of_length_le (by omega), List.eraseIdx_of_length_le (l := L.take j) (by omega), hj]
    simp
  · by_cases hd : d < j
    · rw [List.eraseIdx_append_of_lt_length (by omega)]
    · rw [List.eraseIdx_append_of_length_le (by omega), List.eraseIdx_of_length_le (l := L.take j) (by omega), List.eraseIdx_of_length_le (by simp; omega)]
theorem erase_len (L : List On) (d : Nat) : (L.eraseIdx d).length ≤ L.length := by
  rw [List.length_eraseIdx]
  split <;> omega

def takeL (L : List On) (p : Pr) (i : Int) : List On := match lookR (ofP L p) i with
  | some _ => L.eraseIdx (findR L p i).toNat
  | none => L
theorem takeL_ofP (L : List On) (p : Pr) (i : Int) : ofP (takeL L p i) = takeM (ofP L) p i := by
  unfold takeL
  cases h : lookR (ofP L p) i with
  | none => simp [takeM, h]
  | some x =>
    obtain ⟨d, h1, h2, h3⟩ := find_some h
    rw [h1]
    simp only [Int.toNat_natCast]
    rw [List.eraseIdx_eq_take_drop_succ]
    exact h3
theorem takeL_len (L : List On) (p : Pr) (i : Int) : (takeL L p i).length ≤ L.length := by
  unfold takeL
  split
  · exact erase_len _ _
  · exact Nat.le_refl _
theorem takeL_mem {L : List On} {p : Pr} {i : Int} {x : On} (h : x ∈ takeL L p i) : x ∈ L := by
  unfold takeL at h
  split at h
  · exact (List.eraseIdx_sublist L _).mem h
  · exact h

set_option maxHeartbeats 800000 in
theorem RTake_any (base : Nat) (w : World) (rb : Nat) (v : Value) (L : List On) (lost : Nat) (h : RefAt base w rb v L lost) (hl : L.length ≤ 1000000) (p : Pr) (i : Int) :
    Calls Try.prog 28 #[.pointer (some ⟨rb, 0, none⟩), encStr p.1, encStr p.2, .int .i64 i] w fun e w' => e = .returned (lookV (ofP L p) i) ∧
      ∃ v', RefAt base w' rb v' (takeL L p i) lost ∧ Upd w w' (fun k => k = rb) ∧ (∀ k, v'.ownBlock = some k → v.ownBlock = some k ∨ w.heap.size ≤ k) := by
  have FI := find_any base w rb v L lost h hl p i
  unfold takeL
  cases hlk : lookR (ofP L p) i with
  | none =>
    rw [lookV_none hlk]
    rw [find_none hlk] at FI
    have HFI := hide FI
    have H := hide h
    clear FI hlk h
    obtain ⟨p1, p2⟩ := p
    go_enter Try.func28, Try.ntmps28
    go_wp2_with (go_at_call 38; refine Calls.mono HFI.out ?_; rintro e w' ⟨rfl, hw⟩; replace hw := hw.symm; subst hw)
    go_ret2
    exact ⟨rfl, v, H.out, Upd.refl _ _, fun _ q => .inl q⟩
  | some x =>
    rw [lookV_some hlk]
    obtain ⟨d, h1, h2, -⟩ := find_some hlk
    rw [h1] at FI ⊢
    simp only [Int.toNat_natCast]
    have HFI := hide FI
    obtain ⟨sa, sc, rfl, -⟩ := Rw.form h.r
    have c0 := (cells2 h.c).1
    have blt := lt_at h.c
    have hd : d < L.length := (List.getElem?_eq_some_iff.1 h2).1
    have HR := hide h.r
    have HC := hide h.c
    have HBB := hide h.bb
    obtain ⟨g, off, rfl, hg, d0, d1, d2⟩ := on_at h.r d _ h2 hd
    have gne : g ≠ rb := fun e => h.o (by rw [e]; rfl)
    obtain ⟨N, hN⟩ : ∃ N, L.length = N := ⟨_, rfl⟩
    have HN := hide hN
    rw [hN] at hl c0 hd
    have hj0 : (0 : Int) ≤ (d : Int) := by omega
    have hj1 : (d : Int) < (N : Int) := by omega
    obtain ⟨iO, hiO, hO0, hO1, hO2⟩ := info_parts Try.info68
    obtain ⟨p1, p2⟩ := p
    simp only at d0 d1 d2
    have HD := hide h2
    clear FI hlk h h1 h2 hN
    go_enter Try.func28, Try.ntmps28
    go_wp2_with (go_at_call 38; refine Calls.mono HFI.out ?_; rintro e w' ⟨rfl, hw⟩; replace hw := hw.symm; subst hw)
    go_loopg [12, 13] N (fun q va jv wr => ∃ j : Nat, j + q = N ∧ jv = .int .i64 j ∧ Rw wr 68 3 va ((L.take j).eraseIdx d).length (onCells ((L.take j).eraseIdx d)) ∧ (∀ k, va.ownBlock = some k → w.heap.size ≤ k) ∧ Upd w wr (fun _ => False))
    case atStart => exact ⟨0, by omega, rfl, by simpa [onCells] using Rw.nil _ _ _, fun k hk => (by cases hk), Upd.refl _ _⟩
    case round =>
      obtain ⟨j, hj, rfl, hra, hva, hu⟩ := hrel
      have e0 := (hu.cell rb 0 blt id).trans c0
      by_cases hjN : j < N
      · obtain ⟨x, hx⟩ : ∃ x, L[j]? = some x := ⟨_, List.getElem?_eq_getElem (by rw [HN.out]; exact hjN)⟩
        have hR := HR.out
        rw [HN.out] at hR
        obtain ⟨g', off', hgg, _, x0, x1, x2⟩ := on_at hR j x hx hjN
        simp at hgg
        obtain ⟨rfl, rfl⟩ := hgg
        have y0 := (hu.cell g _ hg id).trans x0
        have y1 := (hu.cell g _ hg id).trans x1
        have y2 := (hu.cell g _ hg id).trans x2
        have hq0 : (0 : Int) ≤ (j : Int) := by omega
        have hq1 : (j : Int) < (N : Int) := by omega
        have hen := erase_next (d := d) hx
        have hle := erase_len (L.take j) d
        rw [List.length_take] at hle
        obtain ⟨va, vc, rfl, -⟩ := Rw.form hra
        obtain ⟨out, hout⟩ : ∃ out, (L.take j).eraseIdx d = out := ⟨_, rfl⟩
        rw [hout] at hra hen hle hva
        have HE := hide hen
        have HRA := hide hra
        have HVA := hide hva
        have HU := hide hu
        have rlt : rb < wr.heap.size := by have := hu.size; omega
        rw [hout]
        have glt : g < wr.heap.size := by have := hu.size; omega
        obtain ⟨⟨x1', x2'⟩, xs⟩ := x
        simp only at x0 x1 x2 y0 y1 y2
        clear hx hR hen hra hva hu x0 x1 x2 hout
        by_cases hjd : j = d
        · subst hjd
          go_wp2_with fail
          go_roundg (gk - 1)
          case measure => omega
          case rel =>
            have e1 := HE.out
            simp only [if_true] at e1
            refine ⟨j + 1, by omega, by go_num, ?_, HVA.out, HU.out⟩
            rw [e1]
            exact HRA.out
        · have hb : ((j : Int) == (d : Int)) = false := by simp; omega
          have hb' : (j == d) = false := by simpa using hjd
          obtain ⟨P, hP⟩ : ∃ P, out.length = P := ⟨_, rfl⟩
          rw [hP] at hle
          have HP := hide hP
          have hra := HRA.out
          rw [hP] at hra ⊢
          have HRA2 := hide (hra.alloc (.cells #[encStr x1', encStr x2', encStr xs] 68))
          clear hP hra
          go_wp2_with (at_builtin; go_loud (refine wpList_append_rw _ rfl _ _ 43 43 rfl 68 _ iO _ 3 48 Try.underlying43 Try.underlying43 (by simp) hiO hO0 hO1 hO2 rfl _ _ _ rfl HRA2.out _ 1 [encStr x1', encStr x2', encStr xs] rfl (Rw.src (Rw.made wr #[encStr x1', encStr x2', encStr xs] 68 3 1 rfl)) rfl (by simp [Value.oneCell']) (by omega) (by omega) ?_)
                       intro ga gc w5 hv' hg' hob'
                       have HV1 := hide hv'
                       have HG1 := hide hg'
                       have HB1 := hide hob'
                       clear hv' hg' hob')
          go_roundg (gk - 1)
          case measure => omega
          case rel =>
            have e1 := HE.out
            rw [if_neg hjd] at e1
            have hb := HVA.out
            rw [HP.out] at hb
            refine ⟨j + 1, by omega, by go_num, ?_, ?_, ((HU.out.alloc _).grown HG1.out (fun k e => .inl (hb k e)))⟩
            · rw [e1, onCells_app, List.length_append, HP.out]
              simpa [onCells, onEnc] using HV1.out
            · refine own_lo HB1.out hb ?_
              have := HU.out.size
              simp
              omega
      · have hq1 : ¬ (j : Int) < (N : Int) := by omega
        have htk : L.take j = L := List.take_of_length_le (by rw [HN.out]; omega)
        rw [htk] at hra
        obtain ⟨va, vc, rfl, -⟩ := Rw.form hra
        have cb := hu.get HC.out id
        have f0 := free_at cb 0
        have rlt := lt_at cb
        have HRA := hide hra
        have HVA := hide hva
        have HU := hide hu
        have HCB := hide cb
        rw [htk] at *
        clear hra hva hu cb htk
        go_wp2_with fail
        go_ret2
        have hne : (Value.slice va (L.eraseIdx d).length vc).ownBlock ≠ some rb := fun e => by have := HVA.out rb e; omega
        have hbb : rb < w.heap.size := blt
        refine ⟨rfl, _, ⟨block_setCell HCB.out 0 _, HRA.out.setCell _ _ hne, hne, HBB.out, fun k hk => ?_⟩, (HU.out.weaken (T := fun k => k = rb) (fun _ _ => False.elim)).setCell _ _ (.inr rfl), fun k hk => .inr (HVA.out k hk)⟩
        have := HVA.out k hk
        have := HBB.out
        omega
end Go.Proofs.Ytleehgpfoigajaa
