/- The walk of the reference's Call. -/
import Derived.Test.YtdjpkkgcoainhaaGreatDoorJ30
import Derived.Test.YtdjpkkgcoainhaaGreatDoorJ20
set_option maxRecDepth 100000
namespace Go.Proofs.YtdjpkkgcoainhaaGreatDoor
open Go.RowKit Go.Lat Go.Lib

theorem ret_rvb {fn : Func} {p q : Tmp} (h : fn.results = #[.cell p 30, .tmp q]) (tmps : Array Value) (W : World) (g : Nat) (x : Vl) (hp : tmps.getD p undef = .pointer (some ⟨g, 0, none⟩)) (hg : W.heap[g]? = some (.cells x.cs 30 (0, 0))) :
    (results fn tmps).run Tryz.prog W = .ok (.tuple #[x.val, tmps.getD q undef]) W :=
  results_ct_row h tmps W g 30 x.cs (0, 0) _ hp hg Tryz.underlying30 rfl Tryz.infoR
theorem idxS (S : List UInt8) (i : Nat) (b : UInt8) (h : S[i]? = some b) (W : World) : (Instr.index 9 (.string ⟨S.toArray⟩) (.int .i64 (i : Int))).run Tryz.prog W = .ok (.int .u8 (b.toNat : Int)) W := by
  obtain ⟨hi, hb⟩ := List.getElem?_eq_some_iff.1 h
  rw [run_index_string W 9 ⟨S.toArray⟩ .i64 (i : Int) Tryz.underlying9]
  have hs : (ByteArray.mk S.toArray).size = S.length := rfl
  rw [dif_pos ⟨by omega, by rw [hs]; omega⟩]
  subst hb
  rfl
theorem toldR_any (w : World) (n : List UInt8) (p : Option Addr) (pc : Nat) (aa : List Ar) (hr : RdA w p aa) (A : ArgsOk aa) (hn : shapeF n ≠ []) (hc : n ≠ nCHOOSE) (hl : ¬ (aa.length < (shapeF n).length ∧ (shapeF n).getD aa.length 0 ≠ 78)) :
    Calls Tryz.prog 39 #[enS n, .slice p aa.length pc] w fun e w' => e = .returned (toldR n aa).val ∧ Upd w w' (fun _ => False) := by
  have key : n = nROWS ∨ n = nCOLUMNS ∨ n = nMATCH ∨ n = nINDEX ∨ n = nLOOKUP ∨ n = nVLOOKUP ∨ n = nHLOOKUP := by
    unfold shapeF at hn
    by_cases h1 : n = nROWS
    · exact .inl h1
    · by_cases h2 : n = nCOLUMNS
      · exact .inr (.inl h2)
      · by_cases h3 : n = nMATCH
        · exact .inr (.inr (.inl h3))
        · by_cases h4 : n = nINDEX
          · exact .inr (.inr (.inr (.inl h4)))
          · by_cases h5 : n = nLOOKUP
            · exact .inr (.inr (.inr (.inr (.inl h5))))
            · by_cases h6 : n = nVLOOKUP
              · exact .inr (.inr (.inr (.inr (.inr (.inl h6)))))
              · by_cases h7 : n = nHLOOKUP
                · exact .inr (.inr (.inr (.inr (.inr (.inr h7)))))
                · simp [h1, h2, h3, h4, h5, h6, h7, hc] at hn
  obtain ⟨k, hk⟩ : ∃ k, aa.length = k := ⟨_, rfl⟩
  rw [hk] at hl
  rcases key with rfl | rfl | rfl | rfl | rfl | rfl | rfl
  · exact Rtold_ROWS w p pc aa hr A (by rcases k with _ | k; · exact absurd ⟨by decide, by decide⟩ hl
                                        · omega)
  · exact Rtold_COLUMNS w p pc aa hr A (by rcases k with _ | k; · exact absurd ⟨by decide, by decide⟩ hl
                                           · omega)
  · exact Rtold_MATCH w p pc aa hr A (by rcases k with _ | _ | k; · exact absurd ⟨by decide, by decide⟩ hl
                                         · exact absurd ⟨by decide, by decide⟩ hl
                                         · omega)
  · exact Rtold_INDEX w p pc aa hr A (by rcases k with _ | _ | k; · exact absurd ⟨by decide, by decide⟩ hl
                                         · exact absurd ⟨by decide, by decide⟩ hl
                                         · omega)
  · exact Rtold_LOOKUP w p pc aa hr A (by rcases k with _ | _ | _ | k; · exact absurd ⟨by decide, by decide⟩ hl
                                          · exact absurd ⟨by decide, by decide⟩ hl
                                          · exact absurd ⟨by decide, by decide⟩ hl
                                          · omega)
  · exact Rtold_VLOOKUP w p pc aa hr A (by rcases k with _ | _ | _ | k; · exact absurd ⟨by decide, by decide⟩ hl
                                           · exact absurd ⟨by decide, by decide⟩ hl
                                           · exact absurd ⟨by decide, by decide⟩ hl
                                           · omega)
  · exact Rtold_HLOOKUP w p pc aa hr A (by rcases k with _ | _ | _ | k; · exact absurd ⟨by decide, by decide⟩ hl
                                           · exact absurd ⟨by decide, by decide⟩ hl
                                           · exact absurd ⟨by decide, by decide⟩ hl
                                           · omega)
theorem shape_kind (n : List UInt8) (k : UInt8) (h : k ∈ shapeF n) : k = 120 ∨ k = 110 ∨ k = 78 ∨ k = 108 ∨ k = 116 := by
  unfold shapeF at h
  repeat' split at h
  all_goals simp at h
  all_goals (try rcases h with h | h | h | h)
  all_goals (try rcases h with h | h | h)
  all_goals (try rcases h with h | h)
  all_goals simp_all
theorem fok (f : Int) : okFail (mkE f).f = true := by
  unfold mkE
  simp only
  split
  · assumption
  · decide
theorem good_fok {y : Vl} (h : goodV y = true) : y.f = 0 ∨ okFail y.f = true := by
  by_cases h4 : y.k = 4
  · right
    unfold goodV at h
    rw [if_neg (by omega), if_neg (by omega), if_neg (by omega), if_neg (by omega), if_pos h4, eqV_iff] at h
    have e := congrArg Vl.f h
    rw [e]
    exact fok _
  · exact .inl (good_f0 h h4)
theorem good_sound (x : Vl) : goodV (soundV x) = true := by
  unfold soundV
  split
  · assumption
  · exact good_mkE 3
theorem numF_fok (x : Vl) : (numF x).2 = 0 ∨ okFail (numF x).2 = true := by
  have k := good_fok (good_sound x)
  unfold numF asNumV
  split
  · exact .inl rfl
  · split
    · exact .inl rfl
    · split
      · split
        · exact .inl rfl
        · exact .inr rfl
      · split
        · exact .inl rfl
        · exact k
theorem faultA_ok (a : Ar) (k : UInt8) (h : faultA a k ≠ 0) : okFail (faultA a k) = true := by
  have key : faultA a k = 0 ∨ okFail (faultA a k) = true := by
    unfold faultA
    split
    · split
      · exact .inr rfl
      · exact good_fok (good_sound _)
    · split
      · split
        · exact .inr rfl
        · exact numF_fok _
      · split
        · split
          · exact .inr rfl
          · exact .inl rfl
        · exact .inl rfl
  exact key.resolve_left h
theorem faultL_at {aa : List Ar} {S : List UInt8} : ∀ {i : Nat} {a : Ar} {k : UInt8}, aa[i]? = some a → S[i]? = some k → (∀ j < i, ∀ b c, aa[j]? = some b → S[j]? = some c → faultA b c = 0) → faultA a k ≠ 0 → faultL aa S = faultA a k := by
  induction aa generalizing S with
  | nil => intro i a k h; simp at h
  | cons x aa ih =>
    intro i a k h1 h2 h3 h4
    cases S with
    | nil => simp at h2
    | cons y S =>
      cases i with
      | zero =>
        simp at h1 h2
        subst h1 h2
        unfold faultL
        rw [if_pos h4]
      | succ i =>
        have h0 := h3 0 (by omega) x y rfl rfl
        unfold faultL
        rw [if_neg (by simpa using h0)]
        exact ih (by simpa using h1) (by simpa using h2) (fun j hj b c hb hc => h3 (j + 1) (by omega) b c (by simpa using hb) (by simpa using hc)) h4
theorem faultL_none {aa : List Ar} {S : List UInt8} : (∀ (j : Nat) (b : Ar) (c : UInt8), aa[j]? = some b → S[j]? = some c → faultA b c = 0) → faultL aa S = 0 := by
  induction aa generalizing S with
  | nil => intro _; rfl
  | cons x aa ih =>
    intro h
    cases S with
    | nil => rfl
    | cons y S =>
      have h0 := h 0 x y rfl rfl
      unfold faultL
      rw [if_neg (by simpa using h0)]
      exact ih (fun j b c hb hc => h (j + 1) b c (by simpa using hb) (by simpa using hc))
def fewR (n : List UInt8) (K : Nat) : Bool := if n = nCHOOSE then decide (K < 2) else (decide (K < (shapeF n).length) && decide ((shapeF n).getD K 0 ≠ 78))
def manyR (n : List UInt8) (K : Nat) : Bool := if n = nCHOOSE then decide (32 < K) else decide ((shapeF n).length < K)
theorem callR_bad {n : List UInt8} {aa : List Ar} (h0 : shapeF n ≠ []) (h : (fewR n aa.length || manyR n aa.length) = true) : callR n aa = (mkE 3, true) := by
  unfold callR
  rw [if_neg h0, if_pos (by unfold fewR manyR at h; split at h <;> rename_i hc <;> simp only [hc, if_true, if_false] <;> exact h)]
theorem callR_not {n : List UInt8} {aa : List Ar} (h0 : shapeF n ≠ []) (hg : aa.all goodA = false) : callR n aa = (mkE 3, true) := by
  unfold callR
  rw [if_neg h0, if_pos hg]
  simp only [ite_self]
theorem callR_fault {n : List UInt8} {aa : List Ar} (h0 : shapeF n ≠ []) (h : (fewR n aa.length || manyR n aa.length) = false) (hg : aa.all goodA = true) (hf : faultL aa (shapeF n) ≠ 0) : callR n aa = (mkE (faultL aa (shapeF n)), true) := by
  unfold callR
  rw [if_neg h0, if_neg (by unfold fewR manyR at h; split at h <;> rename_i hc <;> simp only [hc, if_true, if_false] <;> rw [Bool.eq_false_iff] at h <;> exact h), if_neg (by rw [hg]; decide), if_pos hf]
theorem callR_end {n : List UInt8} {aa : List Ar} (h0 : shapeF n ≠ []) (h : (fewR n aa.length || manyR n aa.length) = false) (hg : aa.all goodA = true) (hf : faultL aa (shapeF n) = 0) : callR n aa = (if n = nCHOOSE then
    (if wholeA aa 0 0 < 1 ∨ (aa.length : Int) ≤ wholeA aa 0 0 then (mkE 3, true)
    else if faultA (argA aa (wholeA aa 0 0).toNat) 120 ≠ 0 then (mkE (faultA (argA aa (wholeA aa 0 0).toNat) 120), true) else ((argA aa (wholeA aa 0 0).toNat).v.getD 0 vZero, true))
    else (toldR n aa, true)) := by
  unfold callR
  rw [if_neg h0, if_neg (by unfold fewR manyR at h; split at h <;> rename_i hc <;> simp only [hc, if_true, if_false] <;> rw [Bool.eq_false_iff] at h <;> exact h), if_neg (by rw [hg]; decide), if_neg (by simpa using hf)]
set_option maxHeartbeats 12800000 in
theorem RCall_any (w : World) (n : List UInt8) (p : Option Addr) (pc : Nat) (aa : List Ar) (hr : RdA w p aa) (ho : oksA aa) (hl : aa.length ≤ 1000) :
    Calls Tryz.prog 15 #[enS n, .slice p aa.length pc] w fun e w' => e = .returned (.tuple #[(callR n aa).1.val, .bool (callR n aa).2]) ∧ Upd w w' (fun _ => False) := by
  have SH := fun w => RShape_any w n
  have HU0 : Hid (Upd w (w.alloc (.cells #[.int .i64 0, .int .i64 0, .string ⟨#[]⟩, .bool false, .int .i64 0] 30)) (fun _ => False)) := hide ((Upd.refl w _).alloc _)
  have HV0 := hide (Vnew1 w (.cells vZero.cs 30))
  obtain ⟨⟨⟨k0, n0, t0, b0, e0'⟩, ok⟩, hres⟩ : ∃ r, callR n aa = r := ⟨_, rfl⟩
  rw [hres]
  have HRES := hide hres
  unfold Vl.val
  simp only
  obtain ⟨K, hK⟩ : ∃ K, aa.length = K := ⟨_, rfl⟩
  have HK := hide hK
  have HR := hide hr
  have HO := hide ho
  obtain ⟨S, hS⟩ : ∃ S, shapeF n = S := ⟨_, rfl⟩
  rw [hS] at SH
  have HS := hide hS
  rw [hK] at hl ⊢
  clear hres hr ho hS hK
  by_cases h0 : S = []
  · subst h0
    have hev := HRES.out
    have e0 : callR n aa = (vZero, false) := by unfold callR; rw [HS.out, if_pos rfl]
    rw [e0] at hev
    obtain ⟨h1, rfl⟩ := Prod.mk.inj hev
    obtain ⟨rfl, rfl, rfl, rfl, rfl⟩ := Vl.mk.inj h1
    clear hev h1 e0 HRES
    go_enter Tryz.func15, Tryz.ntmps15
    go_wp2_with fail
    refine Calls.mono (SH _) ?_
    rintro e w1 ⟨rfl, hw⟩
    obtain rfl := hw.symm
    clear hw SH
    go_wp2_with fail
    (try simp only [Exit.inBlock, Exit.then])
    refine bodyPost_ret (ret_rvb rfl _ _ w.heap.size ⟨0, 0, [], false, 0⟩ rfl (Vnew1 w _)) rfl ?_
    exact ⟨rfl, HU0.out⟩
  · obtain ⟨SL, hSL⟩ : ∃ m, S.length = m := ⟨_, rfl⟩
    obtain ⟨SB, hSB⟩ : ∃ s : ByteArray, (⟨S.toArray⟩ : ByteArray) = s := ⟨_, rfl⟩
    have IX : ∀ (i : Nat) (b : UInt8), S[i]? = some b → ∀ W, (Instr.index 9 (.string SB) (.int .i64 (i : Int))).run Tryz.prog W = .ok (.int .u8 (b.toNat : Int)) W := fun i b h W => by rw [← hSB]; exact idxS S i b h W
    have HIX := hide IX
    have hsz : SB.size = SL := by rw [← hSB, ← hSL]; rfl
    have HSL := hide hSL
    have bS : SB.toList.isEmpty = false := by rw [← hSB]; simpa using h0
    have H0 := hide h0
    obtain ⟨ch, hch⟩ : ∃ c, decide (n = nCHOOSE) = c := ⟨_, rfl⟩
    have bch : (n == [67, 72, 79, 79, 83, 69]) = ch := by
      rw [← hch]
      by_cases h : n = nCHOOSE
      · rw [decide_eq_true h, h]; rfl
      · rw [decide_eq_false h]; simpa [nCHOOSE] using h
    have HCH := hide hch
    obtain ⟨few, hfew⟩ : ∃ c, fewR n K = c := ⟨_, rfl⟩
    obtain ⟨many, hmany⟩ : ∃ c, manyR n K = c := ⟨_, rfl⟩
    have HF := hide hfew
    have HM := hide hmany
    simp only [enS] at SH
    rw [hSB] at SH
    clear IX hSL h0 hch hfew hmany hSB
    have hK0 : (0 : Int) ≤ (K : Int) := by omega
    go_enter Tryz.func15, Tryz.ntmps15
    go_wp2_with fail
    refine Calls.mono (SH _) ?_
    rintro e w1 ⟨rfl, hw⟩
    obtain rfl := hw.symm
    clear hw SH
    obtain ⟨f1, hf1⟩ : ∃ c, (decide (K < SL) && decide (S.getD K 0 ≠ 78)) = c := ⟨_, rfl⟩
    have HF1 := hide hf1
    clear hf1
    go_upto_region 5 with fail
    go_cut [8] (fun s wx => s = .bool f1 ∧ wx = w.alloc (.cells #[.int .i64 0, .int .i64 0, .string ⟨#[]⟩, .bool false, .int .i64 0] 30))
    case first =>
      by_cases q : K < SL
      · obtain ⟨b, hb⟩ : ∃ b, S[K]? = some b := ⟨_, List.getElem?_eq_getElem (by rw [HSL.out]; exact q)⟩
        have I := HIX.out K b hb
        have eb : f1 = ((b.toNat : Int) != 78) := by
          rw [← HF1.out, List.getD_eq_getElem?_getD, hb]
          have e1 : decide (b ≠ 78) = ((b.toNat : Int) != 78) := by
            by_cases h : b = 78
            · subst h; rfl
            · have h2 : ¬ (b.toNat : Int) = 78 := fun e => h (UInt8.toNat_inj.1 (show b.toNat = (78 : UInt8).toNat from by have : (78 : UInt8).toNat = 78 := rfl; omega))
              simp [h, h2]
          rw [← e1]
          simp [q]
        clear hb
        go_wp2_with fail
        go_meet
        exact ⟨by rw [eb], rfl⟩
      · have eb : f1 = false := by rw [← HF1.out]; simp [q]
        go_wp2_with fail
        go_meet
        exact ⟨by rw [eb], rfl⟩
    case rest =>
      obtain ⟨rfl, rfl⟩ := hcut
      have dmany : decide ((SL : Int) < (K : Int)) = decide (SL < K) := by simp
      obtain ⟨m1, hm1⟩ : ∃ c, decide (SL < K) = c := ⟨_, rfl⟩
      have HM1 := hide hm1
      go_upto_region 6 with fail
      go_cut [9] (fun s wx => s = .bool m1 ∧ wx = w.alloc (.cells #[.int .i64 0, .int .i64 0, .string ⟨#[]⟩, .bool false, .int .i64 0] 30))
      case first =>
        go_wp2_with fail
        all_goals go_meet
        all_goals exact ⟨by simp_all, rfl⟩
      case rest =>
        obtain ⟨rfl, rfl⟩ := hcut
        clear dmany hm1
        go_upto_if 40 with fail
        go_cut [8, 9] (fun s z wx => s = .bool few ∧ z = .bool many ∧ wx = w.alloc (.cells #[.int .i64 0, .int .i64 0, .string ⟨#[]⟩, .bool false, .int .i64 0] 30))
        case first =>
          cases ch with
          | false =>
            have ef : f1 = few := by
              rw [← HF.out, ← HF1.out]
              unfold fewR
              rw [if_neg (by simpa using HCH.out), HS.out, HSL.out]
            have em : m1 = many := by
              rw [← HM.out, ← HM1.out]
              unfold manyR
              rw [if_neg (by simpa using HCH.out), HS.out, HSL.out]
            go_wp2_with fail
            go_meet
            exact ⟨by rw [ef], by rw [em], rfl⟩
          | true =>
            obtain ⟨fv, hfv⟩ : ∃ c, decide (K < 2) = c := ⟨_, rfl⟩
            obtain ⟨mv, hmv⟩ : ∃ c, decide (32 < K) = c := ⟨_, rfl⟩
            have ef : fv = few := by
              rw [← HF.out, ← hfv]
              unfold fewR
              rw [if_pos (by simpa using HCH.out)]
            have em : mv = many := by
              rw [← HM.out, ← hmv]
              unfold manyR
              rw [if_pos (by simpa using HCH.out)]
            go_wp2_with fail
            go_meet
            exact ⟨by rw [← ef, ← hfv]; simp only [Value.bool.injEq, decide_eq_decide]; omega, by rw [← em, ← hmv]; simp only [Value.bool.injEq, decide_eq_decide]; omega, rfl⟩
        case rest =>
          obtain ⟨rfl, rfl, rfl⟩ := hcut
          have hcase : (few || many) = true ∨ (few = false ∧ many = false) := by cases few <;> cases many <;> simp
          rcases hcase with hbad | ⟨rfl, rfl⟩
          · have hb0 := callR_bad (n := n) (aa := aa) (by rw [HS.out]; exact H0.out) (by rw [HK.out, HF.out, HM.out]; exact hbad)
            have hfm : few = true ∨ few = false ∧ many = true := by revert hbad; cases few <;> cases many <;> simp
            have HB0 := hide hb0
            clear hb0 hbad HF HM HF1 HM1
            rcases hfm with rfl | ⟨rfl, rfl⟩
            · have hev := HRES.out
              rw [HB0.out, (rawE_ok (f := 3) rfl).symm] at hev
              have hev1 := (Prod.mk.inj hev).1
              have hev2 := (Prod.mk.inj hev).2
              subst hev2
              have EA := fun w => RE12_any w 3
              rw [hev1] at EA
              unfold Vl.val at EA
              simp only at EA
              clear hev hev1
              go_wp2_with fail
              refine Calls.mono (EA _) ?_
              rintro e w7 ⟨rfl, u7⟩
              have bV := u7.get HV0.out id
              have HU7 := hide (HU0.out.then u7 (fun _ _ => id))
              obtain ⟨v0, v1, v2, v3, v4⟩ := cells5 bV
              have vl := lt_at bV
              have fv0 := free_at bV 0
              have fv1 := free_at bV 1
              have fv2 := free_at bV 2
              have fv3 := free_at bV 3
              have fv4 := free_at bV 4
              have HBV := hide bV
              clear bV u7 EA
              go_wp2_with fail
              (try simp only [Exit.inBlock, Exit.then])
              refine bodyPost_ret (ret_rvb rfl _ _ w.heap.size ⟨k0, n0, t0, b0, e0'⟩ rfl (rblock5 (x := vZero) HBV.out _ _ _ _ _)) rfl ?_
              exact ⟨rfl, upd5 HU7.out (Nat.le_refl _) _ _ _ _ _⟩
            · have hev := HRES.out
              rw [HB0.out, (rawE_ok (f := 3) rfl).symm] at hev
              have hev1 := (Prod.mk.inj hev).1
              have hev2 := (Prod.mk.inj hev).2
              subst hev2
              have EA := fun w => RE12_any w 3
              rw [hev1] at EA
              unfold Vl.val at EA
              simp only at EA
              clear hev hev1
              go_wp2_with fail
              refine Calls.mono (EA _) ?_
              rintro e w7 ⟨rfl, u7⟩
              have bV := u7.get HV0.out id
              have HU7 := hide (HU0.out.then u7 (fun _ _ => id))
              obtain ⟨v0, v1, v2, v3, v4⟩ := cells5 bV
              have vl := lt_at bV
              have fv0 := free_at bV 0
              have fv1 := free_at bV 1
              have fv2 := free_at bV 2
              have fv3 := free_at bV 3
              have fv4 := free_at bV 4
              have HBV := hide bV
              clear bV u7 EA
              go_wp2_with fail
              (try simp only [Exit.inBlock, Exit.then])
              refine bodyPost_ret (ret_rvb rfl _ _ w.heap.size ⟨k0, n0, t0, b0, e0'⟩ rfl (rblock5 (x := vZero) HBV.out _ _ _ _ _)) rfl ?_
              exact ⟨rfl, upd5 HU7.out (Nat.le_refl _) _ _ _ _ _⟩
          · have hfm : (fewR n aa.length || manyR n aa.length) = false := by rw [HK.out, HF.out, HM.out]; rfl
            have hFW : fewR n K = false := HF.out
            have HFM := hide hfm
            have HFW := hide hFW
            have hU9 := HU0.out
            have hV9 := HV0.out
            obtain ⟨W9, hW9⟩ : ∃ W, w.alloc (.cells #[.int .i64 0, .int .i64 0, .string ⟨#[]⟩, .bool false, .int .i64 0] 30) = W := ⟨_, rfl⟩
            have hV9' : W9.heap[w.heap.size]? = some (.cells vZero.cs 30 (0, 0)) := by rw [← hW9]; exact hV9
            rw [hW9] at hU9 ⊢
            have HU9 := hide hU9
            have HV9 := hide hV9'
            clear hfm hFW HF HM HF1 HM1 hU9 hV9 hV9' hW9 HU0 HV0
            go_wp2_with fail
            go_loopg [10] K (fun q iv wr => ∃ i : Nat, i + q = K ∧ iv = .int .i64 i ∧ (∀ a ∈ aa.take i, goodA a = true) ∧ Upd W9 wr (fun _ => False))
            case atStart => exact ⟨0, by omega, rfl, by simp, Upd.refl _ _⟩
            case round =>
              obtain ⟨i, hi, rfl, hno, hu⟩ := hrel
              have HU8 := hide (HU9.out.then hu (fun _ _ => id))
              have HV8 := hide (hu.get HV9.out id)
              have HW8 := hide hu
              have HNO := hide hno
              clear hu hno
              by_cases hiK : i < K
              · obtain ⟨a, ha⟩ : ∃ a, aa[i]? = some a := ⟨_, List.getElem?_eq_getElem (by rw [HK.out]; exact hiK)⟩
                obtain ⟨g, off, va, vc, rfl, hg, d0, d1, d2, -⟩ := (HR.out.upd HU8.out) i a ha
                have hoa := HO.out a (List.mem_of_getElem? ha)
                have GA := fun w => RAGood_any w a va vc hoa.2.1 hoa.2.2
                have hi0 : (0 : Int) ≤ (i : Int) := by omega
                have hi1 : (i : Int) < (K : Int) := by omega
                have HA := hide ha
                obtain ⟨q, hq⟩ : ∃ q, goodA a = q := ⟨_, rfl⟩
                rw [hq] at GA
                have HQ := hide hq
                obtain ⟨X, hX⟩ : ∃ X, X = a := ⟨_, rfl⟩
                rw [← hX] at HQ HA
                clear ha hoa hq hX
                obtain ⟨v, c, wd⟩ := a
                simp only at d0 d1 d2 GA
                cases q with
                | false =>
                  have hall : aa.all goodA = false := by
                    rw [Bool.eq_false_iff]
                    intro h
                    rw [List.all_eq_true] at h
                    have := h _ (List.mem_of_getElem? HA.out)
                    rw [HQ.out] at this
                    cases this
                  have HALL := hide (callR_not (n := n) (aa := aa) (by rw [HS.out]; exact H0.out) hall)
                  clear hall
                  go_wp2_with fail
                  refine Calls.mono (GA _) ?_
                  rintro e w2 ⟨rfl, u2⟩
                  have HU2 := hide (HU8.out.then u2 (fun _ _ => id))
                  have HV2 := hide (u2.get HV8.out id)
                  clear u2 GA d0 d1 d2
                  have hev := HRES.out
                  rw [HALL.out, (rawE_ok (f := 3) rfl).symm] at hev
                  have hev1 := (Prod.mk.inj hev).1
                  have hev2 := (Prod.mk.inj hev).2
                  subst hev2
                  have EA := fun w => RE12_any w 3
                  rw [hev1] at EA
                  unfold Vl.val at EA
                  simp only at EA
                  clear hev hev1
                  go_wp2_with fail
                  refine Calls.mono (EA _) ?_
                  rintro e w7 ⟨rfl, u7⟩
                  have bV := u7.get HV2.out id
                  have HU7 := hide (HU2.out.then u7 (fun _ _ => id))
                  obtain ⟨v0, v1, v2, v3, v4⟩ := cells5 bV
                  have vl := lt_at bV
                  have fv0 := free_at bV 0
                  have fv1 := free_at bV 1
                  have fv2 := free_at bV 2
                  have fv3 := free_at bV 3
                  have fv4 := free_at bV 4
                  have HBV := hide bV
                  clear bV u7 EA
                  go_wp2_with fail
                  (try simp only [Exit.inBlock, Exit.then])
                  refine bodyPost_ret (ret_rvb rfl _ _ w.heap.size ⟨k0, n0, t0, b0, e0'⟩ rfl (rblock5 (x := vZero) HBV.out _ _ _ _ _)) rfl ?_
                  exact ⟨rfl, upd5 HU7.out (Nat.le_refl _) _ _ _ _ _⟩
                | true =>
                  go_wp2_with fail
                  refine Calls.mono (GA _) ?_
                  rintro e w2 ⟨rfl, u2⟩
                  go_wp2_with fail
                  go_roundg (gk - 1)
                  case measure => omega
                  case rel =>
                    refine ⟨i + 1, by omega, by go_num, fun x hx => ?_, HW8.out.then u2 (fun _ _ => id)⟩
                    rw [List.take_add_one, HA.out, List.mem_append] at hx
                    rcases hx with hx | hx
                    · exact HNO.out x hx
                    · simp at hx
                      rw [hx]
                      exact HQ.out
              · have hall : aa.all goodA = true := by
                  rw [List.all_eq_true]
                  intro x hx
                  refine HNO.out x ?_
                  rw [List.take_of_length_le (by rw [HK.out]; omega)]
                  exact hx
                have hA : ArgsOk aa := ⟨by rw [HK.out]; exact hl, fun x hx => by rw [List.all_eq_true] at hall; exact hall x hx, HO.out⟩
                have HA := hide hA
                have HALL := hide hall
                have hi1 : ¬ (i : Int) < (K : Int) := by omega
                obtain ⟨W8, hW8⟩ : ∃ W, W = wr := ⟨_, rfl⟩
                subst hW8
                clear hA hall HNO HW8 HU9 HV9
                go_wp2_with fail
                clear hi1 hiK hi
                go_loopg [12] K (fun q iv wr => ∃ i : Nat, i + q = K ∧ i ≤ SL ∧ iv = .int .i64 i ∧ (∀ j < i, ∀ b c, aa[j]? = some b → S[j]? = some c → faultA b c = 0) ∧ Upd W8 wr (fun _ => False))
                case atStart => exact ⟨0, by omega, by omega, rfl, fun j hj => by omega, Upd.refl _ _⟩
                case round =>
                  obtain ⟨i, hi, hiS, rfl, hno, hu⟩ := hrel
                  have HU6 := hide (HU8.out.then hu (fun _ _ => id))
                  have HV6 := hide (hu.get HV8.out id)
                  have HW6 := hide hu
                  have HNO := hide hno
                  clear hu hno
                  by_cases hlt : i < K ∧ i < SL
                  · obtain ⟨hiK, hiL⟩ := hlt
                    obtain ⟨a, ha⟩ : ∃ a, aa[i]? = some a := ⟨_, List.getElem?_eq_getElem (by rw [HK.out]; exact hiK)⟩
                    obtain ⟨k, hk⟩ : ∃ k, S[i]? = some k := ⟨_, List.getElem?_eq_getElem (by rw [HSL.out]; exact hiL)⟩
                    have I := HIX.out i k hk
                    obtain ⟨g, off, va, vc, rfl, hg, d0, d1, d2, hv⟩ := (HR.out.upd HU6.out) i a ha
                    have hoa := HO.out a (List.mem_of_getElem? ha)
                    have hkk := shape_kind n k (by rw [HS.out]; exact List.mem_of_getElem? hk)
                    have FA := fun W (u : Upd wr W (fun _ => False)) => Rfault_any W a va vc k hkk (hv.upd u) (HA.out.good a (List.mem_of_getElem? ha)) hoa.1 hoa.2.1
                    obtain ⟨f, hf⟩ : ∃ f, faultA a k = f := ⟨_, rfl⟩
                    have hfo := faultA_ok a k
                    rw [hf] at FA hfo
                    have hi0 : (0 : Int) ≤ (i : Int) := by omega
                    have hi1 : (i : Int) < (K : Int) := by omega
                    have hi2 : (i : Int) < (SL : Int) := by omega
                    have HAI := hide ha
                    have HKI := hide hk
                    have HFI := hide hf
                    have HFO := hide hfo
                    obtain ⟨X, hX⟩ : ∃ X, X = a := ⟨_, rfl⟩
                    rw [← hX] at HAI HFI
                    obtain ⟨kn, hkn⟩ : ∃ m, (k.toNat : Int) = m := ⟨_, rfl⟩
                    rw [hkn] at I FA
                    clear ha hk hoa hkk hf hfo hX hkn hv
                    obtain ⟨v, c, wd⟩ := a
                    simp only at d0 d1 d2 FA
                    go_wp2_with fail
                    go_region_held3 (fun w' => w'.cell? ⟨g, off + i * 3, none⟩ = some (.slice va v.length vc) ∧ w'.cell? ⟨g, off + i * 3 + 1, none⟩ = some (.int .i64 c) ∧ w'.cell? ⟨g, off + i * 3 + 2, none⟩ = some (.bool wd) ∧ Upd wr w' (fun _ => False))
                      (first | (go_keep; done) | exact ⟨d0, d1, d2, (Upd.refl wr _).drew⟩ | (have hz : Upd wr _ (fun _ => False) := Upd.then (And.right (And.right (And.right (by assumption)))) uFA (fun _ _ => id); with_reducible exact ⟨(hz.cell g _ hg id).trans d0, (hz.cell g _ hg id).trans d1, (hz.cell g _ hg id).trans d2, hz⟩))
                      (first | (go_at_call 37; with_reducible refine Calls.mono (FA _ (And.right (And.right (And.right (by assumption))))) ?_; rintro e wz ⟨rfl, uFA⟩))
                    rename_i wq hwq
                    have HU2 := hide (HU6.out.then (And.right (And.right (And.right hwq))) (fun _ _ => id))
                    have HV2 := hide ((And.right (And.right (And.right hwq))).get HV6.out id)
                    have HW2 := hide (HW6.out.then (And.right (And.right (And.right hwq))) (fun _ _ => id))
                    clear hwq d0 d1 d2 FA I
                    by_cases hf0 : f = 0
                    · have bf : (f != 0) = false := by simpa using hf0
                      go_wp2_with fail
                      go_roundg (gk - 1)
                      case measure => omega
                      case rel =>
                        refine ⟨i + 1, by omega, by omega, by go_num, fun j hj b d hb hd => ?_, HW2.out⟩
                        by_cases hji : j = i
                        · subst hji
                          rw [HAI.out] at hb
                          rw [HKI.out] at hd
                          cases hb
                          cases hd
                          rw [HFI.out, hf0]
                        · exact HNO.out j (by omega) b d hb hd
                    · have bf : (f != 0) = true := by simpa using hf0
                      have hfl : faultL aa (shapeF n) = f := by
                        rw [HS.out, ← HFI.out]
                        exact faultL_at HAI.out HKI.out (fun j hj b d hb hd => HNO.out j hj b d hb hd) (by rw [HFI.out]; exact hf0)
                      have hres := callR_fault (n := n) (aa := aa) (by rw [HS.out]; exact H0.out) HFM.out HALL.out (by rw [hfl]; exact hf0)
                      rw [hfl] at hres
                      have HRS := hide hres
                      have HOK := hide (rawE_ok (HFO.out hf0)).symm
                      clear hfl hres hf0
                      have hev := HRES.out
                      rw [HRS.out, HOK.out] at hev
                      have hev1 := (Prod.mk.inj hev).1
                      have hev2 := (Prod.mk.inj hev).2
                      subst hev2
                      have EA := fun w => RE12_any w f
                      rw [hev1] at EA
                      unfold Vl.val at EA
                      simp only at EA
                      clear hev hev1
                      go_wp2_with fail
                      refine Calls.mono (EA _) ?_
                      rintro e w7 ⟨rfl, u7⟩
                      have bV := u7.get HV2.out id
                      have HU7 := hide (HU2.out.then u7 (fun _ _ => id))
                      obtain ⟨v0, v1, v2, v3, v4⟩ := cells5 bV
                      have vl := lt_at bV
                      have fv0 := free_at bV 0
                      have fv1 := free_at bV 1
                      have fv2 := free_at bV 2
                      have fv3 := free_at bV 3
                      have fv4 := free_at bV 4
                      have HBV := hide bV
                      clear bV u7 EA
                      go_wp2_with fail
                      (try simp only [Exit.inBlock, Exit.then])
                      refine bodyPost_ret (ret_rvb rfl _ _ w.heap.size ⟨k0, n0, t0, b0, e0'⟩ rfl (rblock5 (x := vZero) HBV.out _ _ _ _ _)) rfl ?_
                      exact ⟨rfl, upd5 HU7.out (Nat.le_refl _) _ _ _ _ _⟩
                  · have hfl : faultL aa (shapeF n) = 0 := by
                      rw [HS.out]
                      refine faultL_none fun j b d hb hd => HNO.out j ?_ b d hb hd
                      have h1 := (List.getElem?_eq_some_iff.1 hb).1
                      have h2 := (List.getElem?_eq_some_iff.1 hd).1
                      rw [HK.out] at h1
                      rw [HSL.out] at h2
                      omega
                    have hend := callR_end (n := n) (aa := aa) (by rw [HS.out]; exact H0.out) HFM.out HALL.out hfl
                    have HEND := hide hend
                    have hcc : ¬ (i : Int) < (K : Int) ∨ (i : Int) < (K : Int) ∧ ¬ (i : Int) < (SL : Int) := by omega
                    clear hend hfl HNO
                    go_upto_region 19 with fail
                    go_cut [75] (fun s wx => s = .bool false ∧ wx = wr)
                    case first =>
                      rcases hcc with h1 | ⟨h1, h2⟩
                      all_goals go_wp2_with fail
                      all_goals go_meet
                      all_goals exact ⟨rfl, rfl⟩
                    case rest =>
                      obtain ⟨rfl, rfl⟩ := hcut
                      clear hcc hlt hi hiS
                      cases ch with
                      | false =>
                        have hnc : n ≠ nCHOOSE := by simpa using HCH.out
                        have hev := HRES.out
                        rw [HEND.out, if_neg hnc] at hev
                        have hev1 := (Prod.mk.inj hev).1
                        have hev2 := (Prod.mk.inj hev).2
                        subst hev2
                        have hFW := HFW.out
                        unfold fewR at hFW
                        rw [if_neg hnc] at hFW
                        have TO := toldR_any wc n p pc aa (HR.out.upd HU6.out) HA.out (by rw [HS.out]; exact H0.out) hnc (by rw [HK.out]; intro h; simp at hFW; exact h.2 (hFW h.1))
                        rw [hev1, HK.out] at TO
                        unfold Vl.val at TO
                        simp only at TO
                        clear hev hev1 hFW hnc
                        go_wp2_with fail
                        refine Calls.mono TO ?_
                        rintro e w7 ⟨rfl, u7⟩
                        have bV := u7.get HV6.out id
                        have HU7 := hide (HU6.out.then u7 (fun _ _ => id))
                        obtain ⟨v0, v1, v2, v3, v4⟩ := cells5 bV
                        have vl := lt_at bV
                        have fv0 := free_at bV 0
                        have fv1 := free_at bV 1
                        have fv2 := free_at bV 2
                        have fv3 := free_at bV 3
                        have fv4 := free_at bV 4
                        have HBV := hide bV
                        clear bV u7 TO
                        go_wp2_with fail
                        (try simp only [Exit.inBlock, Exit.then])
                        refine bodyPost_ret (ret_rvb rfl _ _ w.heap.size ⟨k0, n0, t0, b0, e0'⟩ rfl (rblock5 (x := vZero) HBV.out _ _ _ _ _)) rfl ?_
                        exact ⟨rfl, upd5 HU7.out (Nat.le_refl _) _ _ _ _ _⟩
                      | true =>
                        have hnc : n = nCHOOSE := by simpa using HCH.out
                        have WA := Rwhole_any wc p pc aa 0 0 (HR.out.upd HU6.out) HA.out
                        have hrng := wholeA_rng aa 0 0 (by omega)
                        have hend := HEND.out
                        rw [if_pos hnc] at hend
                        obtain ⟨kk, hkk⟩ : ∃ k, wholeA aa 0 0 = k := ⟨_, rfl⟩
                        rw [hkk] at WA hend hrng
                        rw [HK.out] at WA hend
                        have HEN := hide hend
                        obtain ⟨hr1, hr2⟩ := hrng
                        clear hend hnc hkk HEND
                        simp only [Int.natCast_zero] at WA
                        by_cases hbad : kk < 1 ∨ (K : Int) ≤ kk
                        · have hres : callR n aa = (mkE 3, true) := by rw [HEN.out, if_pos hbad]
                          have HRS := hide hres
                          have hcc : kk < 1 ∨ ¬ kk < 1 ∧ (K : Int) ≤ kk := by omega
                          clear hres hbad
                          rcases hcc with c1 | ⟨c1, c2⟩
                          · go_wp2_with fail
                            refine Calls.mono WA ?_
                            rintro e w2 ⟨rfl, u2⟩
                            have HU2 := hide (HU6.out.then u2 (fun _ _ => id))
                            have HV2 := hide (u2.get HV6.out id)
                            clear u2 WA
                            have hev := HRES.out
                            rw [HRS.out, (rawE_ok (f := 3) rfl).symm] at hev
                            have hev1 := (Prod.mk.inj hev).1
                            have hev2 := (Prod.mk.inj hev).2
                            subst hev2
                            have EA := fun w => RE12_any w 3
                            rw [hev1] at EA
                            unfold Vl.val at EA
                            simp only at EA
                            clear hev hev1
                            go_wp2_with fail
                            refine Calls.mono (EA _) ?_
                            rintro e w7 ⟨rfl, u7⟩
                            have bV := u7.get HV2.out id
                            have HU7 := hide (HU2.out.then u7 (fun _ _ => id))
                            obtain ⟨v0, v1, v2, v3, v4⟩ := cells5 bV
                            have vl := lt_at bV
                            have fv0 := free_at bV 0
                            have fv1 := free_at bV 1
                            have fv2 := free_at bV 2
                            have fv3 := free_at bV 3
                            have fv4 := free_at bV 4
                            have HBV := hide bV
                            clear bV u7 EA
                            go_wp2_with fail
                            (try simp only [Exit.inBlock, Exit.then])
                            refine bodyPost_ret (ret_rvb rfl _ _ w.heap.size ⟨k0, n0, t0, b0, e0'⟩ rfl (rblock5 (x := vZero) HBV.out _ _ _ _ _)) rfl ?_
                            exact ⟨rfl, upd5 HU7.out (Nat.le_refl _) _ _ _ _ _⟩
                          · go_wp2_with fail
                            refine Calls.mono WA ?_
                            rintro e w2 ⟨rfl, u2⟩
                            have HU2 := hide (HU6.out.then u2 (fun _ _ => id))
                            have HV2 := hide (u2.get HV6.out id)
                            clear u2 WA
                            have hev := HRES.out
                            rw [HRS.out, (rawE_ok (f := 3) rfl).symm] at hev
                            have hev1 := (Prod.mk.inj hev).1
                            have hev2 := (Prod.mk.inj hev).2
                            subst hev2
                            have EA := fun w => RE12_any w 3
                            rw [hev1] at EA
                            unfold Vl.val at EA
                            simp only at EA
                            clear hev hev1
                            go_wp2_with fail
                            refine Calls.mono (EA _) ?_
                            rintro e w7 ⟨rfl, u7⟩
                            have bV := u7.get HV2.out id
                            have HU7 := hide (HU2.out.then u7 (fun _ _ => id))
                            obtain ⟨v0, v1, v2, v3, v4⟩ := cells5 bV
                            have vl := lt_at bV
                            have fv0 := free_at bV 0
                            have fv1 := free_at bV 1
                            have fv2 := free_at bV 2
                            have fv3 := free_at bV 3
                            have fv4 := free_at bV 4
                            have HBV := hide bV
                            clear bV u7 EA
                            go_wp2_with fail
                            (try simp only [Exit.inBlock, Exit.then])
                            refine bodyPost_ret (ret_rvb rfl _ _ w.heap.size ⟨k0, n0, t0, b0, e0'⟩ rfl (rblock5 (x := vZero) HBV.out _ _ _ _ _)) rfl ?_
                            exact ⟨rfl, upd5 HU7.out (Nat.le_refl _) _ _ _ _ _⟩
                        · have hres := HEN.out
                          rw [if_neg hbad] at hres
                          obtain ⟨m, rfl⟩ : ∃ m : Nat, kk = (m : Int) := ⟨kk.toNat, by omega⟩
                          have hm1 : ¬ (m : Int) < 1 := by omega
                          have hm2 : ¬ (K : Int) ≤ (m : Int) := by omega
                          have hm3 : (m : Int) < (K : Int) := by omega
                          have hm0 : (0 : Int) ≤ (m : Int) := by omega
                          obtain ⟨a, ha⟩ : ∃ a, aa[m]? = some a := ⟨_, List.getElem?_eq_getElem (by rw [HK.out]; omega)⟩
                          have eA : argA aa m = a := by unfold argA; rw [List.getD_eq_getElem?_getD, ha]; rfl
                          rw [Int.toNat_natCast, eA] at hres
                          have hga := HA.out.good a (List.mem_of_getElem? ha)
                          have hoa := HO.out a (List.mem_of_getElem? ha)
                          have hRA := hide (HR.out.upd HU6.out)
                          obtain ⟨g, off, va, vc, rfl, hg, d0, d1, d2, hv⟩ := hRA.out m a ha
                          have FA := fun W (u : Upd wc W (fun _ => False)) => Rfault_any W a va vc 120 (.inl rfl) (hv.upd u) hga hoa.1 hoa.2.1
                          have e120 : ((120 : UInt8).toNat : Int) = 120 := rfl
                          rw [e120] at FA
                          obtain ⟨f, hf⟩ : ∃ f, faultA a 120 = f := ⟨_, rfl⟩
                          have hfo := faultA_ok a 120
                          rw [hf] at FA hfo hres
                          obtain ⟨gv, ov, x, hx, rfl, hgv, x0, x1, x2, x3, x4, hlen⟩ := head_at hv hga
                          rw [hx] at hres
                          have HRS := hide hres
                          have HFO := hide hfo
                          have hl0 : (0 : Int) < (a.v.length : Int) := by omega
                          clear hres hbad ha eA hga hoa hv hf hfo hx e120 hRA
                          obtain ⟨v, c, wd⟩ := a
                          simp only at d0 d1 d2 FA hlen hl0
                          go_wp2_with fail
                          refine Calls.mono WA ?_
                          rintro e w2 ⟨rfl, u2⟩
                          have HU2 := hide (HU6.out.then u2 (fun _ _ => id))
                          have HV2 := hide (u2.get HV6.out id)
                          have q0 := (u2.cell g _ hg id).trans d0
                          have q1 := (u2.cell g _ hg id).trans d1
                          have q2 := (u2.cell g _ hg id).trans d2
                          have ql := Nat.lt_of_lt_of_le hg u2.size
                          have HU2s := hide u2
                          have FB := FA w2 u2
                          clear u2 WA FA
                          go_wp2_with fail
                          refine Calls.mono FB ?_
                          rintro e w3 ⟨rfl, u3⟩
                          have HU3 := hide (HU2.out.then u3 (fun _ _ => id))
                          have HV3 := hide (u3.get HV2.out id)
                          have u23 := HU2s.out.then u3 (fun _ _ => id)
                          have d0' := (u23.cell g _ hg id).trans d0
                          have d1' := (u23.cell g _ hg id).trans d1
                          have d2' := (u23.cell g _ hg id).trans d2
                          have dl' := Nat.lt_of_lt_of_le hg u23.size
                          have y0 := (u23.cell gv _ hgv id).trans x0
                          have y1 := (u23.cell gv _ hgv id).trans x1
                          have y2 := (u23.cell gv _ hgv id).trans x2
                          have y3 := (u23.cell gv _ hgv id).trans x3
                          have y4 := (u23.cell gv _ hgv id).trans x4
                          have yl := Nat.lt_of_lt_of_le hgv u23.size
                          clear u3 u23 FB q0 q1 q2 ql d0 d1 d2 x0 x1 x2 x3 x4
                          by_cases hf0 : f = 0
                          · have bf : (f != 0) = false := by simpa using hf0
                            have hres := HRS.out
                            rw [if_neg (by simpa using hf0)] at hres
                            have hev := HRES.out
                            rw [hres] at hev
                            have hev1 := (Prod.mk.inj hev).1
                            have hev2 := (Prod.mk.inj hev).2
                            subst hev1 hev2
                            have bV := HV3.out
                            have HBV := hide bV
                            obtain ⟨v0, v1, v2, v3, v4⟩ := cells5 bV
                            have vl := lt_at bV
                            have fv0 := free_at bV 0
                            have fv1 := free_at bV 1
                            have fv2 := free_at bV 2
                            have fv3 := free_at bV 3
                            have fv4 := free_at bV 4
                            clear bV hev hres
                            go_wp2_with fail
                            (try simp only [Exit.inBlock, Exit.then])
                            refine bodyPost_ret (ret_rvb rfl _ _ w.heap.size ⟨k0, n0, t0, b0, e0'⟩ rfl (rblock5 (x := vZero) HBV.out _ _ _ _ _)) rfl ?_
                            exact ⟨rfl, upd5 HU3.out (Nat.le_refl _) _ _ _ _ _⟩
                          · have bf : (f != 0) = true := by simpa using hf0
                            have hres := HRS.out
                            rw [if_pos (by simpa using hf0)] at hres
                            have HRT := hide hres
                            have HOK := hide (rawE_ok (HFO.out hf0)).symm
                            clear hres hf0 y0 y1 y2 y3 y4 d0' d1' d2'
                            have hev := HRES.out
                            rw [HRT.out, HOK.out] at hev
                            have hev1 := (Prod.mk.inj hev).1
                            have hev2 := (Prod.mk.inj hev).2
                            subst hev2
                            have EA := fun w => RE12_any w f
                            rw [hev1] at EA
                            unfold Vl.val at EA
                            simp only at EA
                            clear hev hev1
                            go_wp2_with fail
                            refine Calls.mono (EA _) ?_
                            rintro e w7 ⟨rfl, u7⟩
                            have bV := u7.get HV3.out id
                            have HU7 := hide (HU3.out.then u7 (fun _ _ => id))
                            obtain ⟨v0, v1, v2, v3, v4⟩ := cells5 bV
                            have vl := lt_at bV
                            have fv0 := free_at bV 0
                            have fv1 := free_at bV 1
                            have fv2 := free_at bV 2
                            have fv3 := free_at bV 3
                            have fv4 := free_at bV 4
                            have HBV := hide bV
                            clear bV u7 EA
                            go_wp2_with fail
                            (try simp only [Exit.inBlock, Exit.then])
                            refine bodyPost_ret (ret_rvb rfl _ _ w.heap.size ⟨k0, n0, t0, b0, e0'⟩ rfl (rblock5 (x := vZero) HBV.out _ _ _ _ _)) rfl ?_
                            exact ⟨rfl, upd5 HU7.out (Nat.le_refl _) _ _ _ _ _⟩
end Go.Proofs.YtdjpkkgcoainhaaGreatDoor
