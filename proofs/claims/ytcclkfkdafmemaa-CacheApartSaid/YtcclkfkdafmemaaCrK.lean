/- The walk of the reference's Want. -/
import Derived.Test.YtcclkfkdafmemaaCrJ
import Derived.Test.YtcclkfkdafmemaaCaU
import Derived.OwnWalk
set_option maxRecDepth 100000
namespace Go.Proofs.Ytcclkfkdafmemaa
open Go.RowKit Go.Lat

theorem Try.info65 : (Try.prog.info? 65).map (fun i => (i.zero, i.size, i.bytes)) = some (some (.agg #[.string ⟨#[]⟩, .string ⟨#[]⟩, .int .i64 0, .int .i64 0, .int .i64 0, .int .i64 0, .string ⟨#[]⟩, .bool false, .int .i64 0, .int .i64 0, .int .i64 0, .bool false, .bool false, .bool false]), 14, 120) := by kernel_rfl
/-- The document's entries when just these links are wanted. -/
def wantL (M : Lk → Option En) (now : List Lk) : List Rf := now.map fun x => (x, (M x).getD enZero)
def comeL (M : Lk → Option En) (now : List Lk) : List Lk := now.filter fun x => (M x).isNone
def goneL (now was : List Lk) : List Lk := was.filter fun x => !decide (x ∈ now)
theorem wantL_next {M : Lk → Option En} {now : List Lk} {i : Nat} {p : Lk} (h : now[i]? = some p) : wantL M (now.take (i + 1)) = wantL M (now.take i) ++ [(p, (M p).getD enZero)] := by
  rw [take_next' h]
  simp [wantL]
theorem comeL_next {M : Lk → Option En} {now : List Lk} {i : Nat} {p : Lk} (h : now[i]? = some p) : comeL M (now.take (i + 1)) = comeL M (now.take i) ++ (if (M p).isNone = true then [p] else []) := by
  rw [take_next' h]
  unfold comeL
  rw [List.filter_append]
  congr 1
  by_cases e : (M p).isNone = true
  · rw [if_pos e]
    simp [e]
  · rw [if_neg e]
    simp [e]
theorem goneL_next {now was : List Lk} {i : Nat} {p : Lk} (h : was[i]? = some p) : goneL now (was.take (i + 1)) = goneL now (was.take i) ++ (if p ∈ now then [] else [p]) := by
  rw [take_next' h]
  unfold goneL
  rw [List.filter_append]
  congr 1
  by_cases e : p ∈ now
  · rw [if_pos e, List.filter_cons_of_neg (by simp [e])]
    rfl
  · rw [if_neg e, List.filter_cons_of_pos (by simp [e])]
    rfl
theorem wantL_len (M : Lk → Option En) (now : List Lk) : (wantL M now).length = now.length := by simp [wantL]
theorem comeL_len (M : Lk → Option En) (now : List Lk) : (comeL M now).length ≤ now.length := List.length_filter_le _ _
theorem goneL_len (now was : List Lk) : (goneL now was).length ≤ was.length := List.length_filter_le _ _
theorem enZero_ok : enZero.ok := by
  constructor
  · exact vZ_ok
  · unfold enZero i64ok; decide
  · unfold enZero i64ok; decide
theorem RefAt.want {w w' : World} {v v' : Value} {l : List Rf} {M : Lk → Option En} (h : RefAt w v l M) {now W : List Lk} (hs : now.Pairwise ltP) (hm : ∀ x, x ∈ now ↔ x ∈ W) (hok : ∀ x ∈ W, x.ok) (hr : Rw w' 65 14 v' (wantL M now).length (rfCells (wantL M now))) : RefAt w' v' (wantL M now) (wantM M W) := by
  have hmap : (wantL M now).map Prod.fst = now := by
    unfold wantL
    rw [List.map_map]
    exact List.map_id'' (fun _ => rfl) now
  refine ⟨hr, by rw [hmap]; exact hs, fun z hz => ?_, fun x hx => ⟨fun z hz e => ?_, fun hno => ?_⟩⟩
  · obtain ⟨x, hx, rfl⟩ := List.mem_map.1 hz
    have xok := hok x ((hm x).1 hx)
    refine ⟨xok, ?_⟩
    rcases h.cases x xok with ⟨k, y, _, _, h3, h4, _⟩ | ⟨h1, _⟩
    · simp only [h3, Option.getD_some]
      exact h4
    · simp only [h1, Option.getD_none]
      exact enZero_ok
  · obtain ⟨y, hy, rfl⟩ := List.mem_map.1 hz
    simp only at e
    subst e
    unfold wantM
    rw [if_pos ((hm y).1 hy)]
  · unfold wantM
    rw [if_neg]
    intro q
    exact hno (x, (M x).getD enZero) (List.mem_map.2 ⟨x, (hm x).2 q, rfl⟩) rfl

/-- A slice of the document's links, in order, each once, new. -/
structure Row3 (w w' : World) (v : Value) (S : Lk → Prop) (ks : List Lk) : Prop where
  rw : Rw w' 31 4 v ks.length (lkCells ks)
  ord : ks.Pairwise ltP
  mem : ∀ x, x.ok → (x ∈ ks ↔ S x)
  ok : ∀ x ∈ ks, x.ok
  new : ∀ k, v.ownBlock = some k → w.heap.size ≤ k

set_option maxHeartbeats 12800000 in
theorem RWant_any (w : World) (va : Option Addr) (vc : Nat) (l : List Rf) (M : Lk → Option En) (h : RefAt w (.slice va l.length vc) l M) (hl : l.length ≤ 100000) (wa : Option Addr) (wc : Nat) (W : List Lk) (hw : Rw w 31 4 (.slice wa W.length wc) W.length (lkCells W)) (hok : ∀ x ∈ W, x.ok) (hW : W.length ≤ 100000) :
    Calls Try.prog 33 #[.slice va l.length vc, .slice wa W.length wc] w fun e w' => ∃ (a0 : Option Addr) (c0 : Nat) (lo : List Rf) (a1 : Option Addr) (c1 : Nat) (k1 : List Lk) (a2 : Option Addr) (c2 : Nat) (k2 : List Lk), e = .returned (.tuple #[.slice a0 lo.length c0, .slice a1 k1.length c1, .slice a2 k2.length c2]) ∧
      RefAt w' (.slice a0 lo.length c0) lo (wantM M W) ∧ lo.length ≤ W.length ∧ (∀ k, (Value.slice a0 lo.length c0).ownBlock = some k → w.heap.size ≤ k) ∧ Row3 w w' (.slice a1 k1.length c1) (fun x => x ∈ W ∧ M x = none) k1 ∧ Row3 w w' (.slice a2 k2.length c2) (fun x => x ∉ W ∧ (M x).isSome = true) k2 ∧ Upd w w' (fun _ => False) := by
  obtain ⟨iO, hiO, hO0, hO1, hO2⟩ := info_parts Try.info31
  obtain ⟨iE, hiE, hE0, hE1, hE2⟩ := info_parts Try.info65
  have HL := hide (RLinks_any w va vc l h.r (fun z hz => (h.ok z hz).1) (by omega))
  have HH := hide h
  have HW := hide hw
  have HOK := hide hok
  have HWL := hide hW
  have HLL := hide hl
  clear h hw hok hW hl
  obtain ⟨n1, hn1⟩ : ∃ n, l.length = n := ⟨_, rfl⟩
  obtain ⟨n2, hn2⟩ : ∃ n, W.length = n := ⟨_, rfl⟩
  have HN1 := hide hn1
  have HN2 := hide hn2
  rw [hn1] at HL ⊢
  rw [hn2]
  clear hn1 hn2
  go_enter Try.func33, Try.ntmps33
  go_wp2_with (first
    | (go_at_call 19; refine Calls.mono HL.out ?_; rintro e w1 ⟨a1, c1, was, rfl, r1, s1, m1, l1, o1, u1⟩; have hS := RSorted_any w1 wa wc W (u1.rw HW.out (fun _ _ => id)) HOK.out (by have := HWL.out; omega); rw [HN2.out] at hS; have HS := hide hS; have HU1 := hide u1; have HR1 := hide r1; have HM1 := hide m1; have HS1 := hide s1; have HL1 := hide l1; have HO1 := hide o1; clear r1 m1 s1 l1 o1 u1 hS)
    | (go_at_call 37; refine Calls.mono HS.out ?_; rintro e w2 ⟨a2, c2, now, rfl, r2, s2, m2, l2, o2, u2⟩; have HU2 := hide u2; have HR2 := hide r2; have HM2 := hide m2; have HS2 := hide s2; have HL2 := hide l2; have HO2 := hide o2; clear r2 m2 s2 l2 o2 u2))
  have HRW := hide (HU2.out.rw HR1.out (fun _ _ => id))
  have HUW := hide (HU1.out.then HU2.out (fun _ _ => id))
  have hRL := HH.out.upd HUW.out (fun _ _ => id)
  have HRL := hide hRL
  have HOKN : Hid (∀ x ∈ now, x.ok) := hide (fun x hx => HOK.out x ((HM2.out x).1 hx))
  have HOKW : Hid (∀ x ∈ was, x.ok) := hide (fun x hx => by
    obtain ⟨z, hz, rfl⟩ := List.mem_map.1 ((HM1.out x).1 hx)
    exact (HH.out.ok z hz).1)
  obtain ⟨N, hN⟩ : ∃ n, now.length = n := ⟨_, rfl⟩
  obtain ⟨K, hK⟩ : ∃ n, was.length = n := ⟨_, rfl⟩
  have HNN := hide hN
  have HKK := hide hK
  have hn2 := HL2.out
  have hk1 := HL1.out
  rw [hN] at HR2 hn2 ⊢
  rw [hK] at HRW hk1 ⊢
  have hNW := HWL.out
  have hKW := HLL.out
  rw [HN2.out] at hNW
  rw [HN1.out] at hKW
  clear hN hK hRL HS HL HU1 HU2 HR1
  go_loopg [9, 10, 12] N (fun q ov cv iv wr => ∃ i : Nat, i + q = N ∧ iv = .int .i64 i ∧ Rw wr 65 14 ov i (rfCells (wantL M (now.take i))) ∧ Rw wr 31 4 cv (comeL M (now.take i)).length (lkCells (comeL M (now.take i))) ∧ (∀ k, ov.ownBlock = some k → w2.heap.size ≤ k) ∧ (∀ k, cv.ownBlock = some k → w2.heap.size ≤ k) ∧ (∀ k, ov.ownBlock = some k → cv.ownBlock ≠ some k) ∧ Upd w2 wr (fun _ => False))
  case atStart => exact ⟨0, by omega, rfl, by simpa [rfCells, wantL] using Rw.nil _ _ _, by simpa [lkCells, comeL] using Rw.nil _ _ _, fun k hk => (by cases hk), fun k hk => (by cases hk), fun k hk => (by cases hk), Upd.refl _ _⟩
  case round =>
    obtain ⟨i, hi, rfl, hro, hrc, hoo, hoc, hne, hu⟩ := hrel
    obtain ⟨oa, oc, rfl, -⟩ := Rw.form hro
    obtain ⟨ca, cc, rfl, -⟩ := Rw.form hrc
    by_cases hiN : i < N
    · obtain ⟨p, hp⟩ : ∃ x, now[i]? = some x := ⟨_, List.getElem?_eq_getElem (by rw [HNN.out]; exact hiN)⟩
      have pok := HOKN.out p (List.mem_of_getElem? hp)
      obtain ⟨g, off, rfl, hg, p0, p1, p2, p3⟩ := row_at HR2.out i p hp hiN
      have d0 := (hu.cell g _ hg id).trans p0
      have d1 := (hu.cell g _ hg id).trans p1
      have d2 := (hu.cell g _ hg id).trans p2
      have d3 := (hu.cell g _ hg id).trans p3
      have glt : g < wr.heap.size := Nat.lt_of_lt_of_le hg hu.size
      have hi0 : (0 : Int) ≤ (i : Int) := by omega
      have hi1 : (i : Int) < (N : Int) := by omega
      have HWX := hide (wantL_next (M := M) hp)
      have HCX := hide (comeL_next (M := M) hp)
      have HRO := hide hro
      have HRC := hide hrc
      have HOO := hide hoo
      have HOC := hide hoc
      have HNE := hide hne
      have HU := hide hu
      have hcl := comeL_len M (now.take i)
      rw [List.length_take] at hcl
      obtain ⟨Q, hQ⟩ : ∃ Q, (comeL M (now.take i)).length = Q := ⟨_, rfl⟩
      rw [hQ] at hcl HRC HOC HNE ⊢
      have HQ := hide hQ
      have hrl := HRL.out.upd hu (fun _ _ => id)
      clear hp hro hrc hoo hoc hne hQ
      rcases hrl.cases p pok with ⟨k, z, hz, hzp, hzM, zok, hfst⟩ | ⟨hzM, hno⟩
      · have HF := hide (Find_hit wr va vc l hrl.r (fun z hz => (hrl.ok z hz).1) p pok (by rw [HN1.out]; omega) k z hz hzp hfst)
        have hkl : k < l.length := (List.getElem?_eq_some_iff.1 hz).1
        rw [HN1.out] at HF hkl
        have HRLr := HRL.out.r
        rw [HN1.out] at HRLr
        obtain ⟨g2, off2, rfl, hg2, hc⟩ := rf_at HRLr k z hz hkl
        have hg2w : g2 < wr.heap.size := Nat.lt_of_lt_of_le hg2 hu.size
        have q0 := hc 0 _ rfl
        have q1 := hc 1 _ rfl
        have q2 := hc 2 _ rfl
        have q3 := hc 3 _ rfl
        have q4 := hc 4 _ rfl
        have q5 := hc 5 _ rfl
        have q6 := hc 6 _ rfl
        have q7 := hc 7 _ rfl
        have q8 := hc 8 _ rfl
        have q9 := hc 9 _ rfl
        have q10 := hc 10 _ rfl
        have q11 := hc 11 _ rfl
        have q12 := hc 12 _ rfl
        have q13 := hc 13 _ rfl
        rw [Nat.add_zero] at q0
        have hk0 : (0 : Int) ≤ (k : Int) := by omega
        have hk1' : (k : Int) < (n1 : Int) := by omega
        have e1 : (M p).getD enZero = z.2 := by rw [hzM]; rfl
        have e2 : ¬ (M p).isNone = true := by rw [hzM]; simp
        have hwx := HWX.out
        have hcx := HCX.out
        rw [e1] at hwx
        rw [if_neg e2, List.append_nil] at hcx
        replace HWX := hide hwx
        replace HCX := hide hcx
        clear e1 e2 hwx hcx hzM zok hfst hc hrl hz pok HRLr
        obtain ⟨pb, ps, pc, pr⟩ := p
        obtain ⟨z1, ⟨⟨ek, en, et, eb, ef⟩, ever, einc, ehas, estale, elost⟩⟩ := z
        simp only at hzp
        subst hzp
        unfold Lk.val at HF
        simp only at HF HWX d0 d1 d2 d3 q0 q1 q2 q3 q4 q5 q6 q7 q8 q9 q10 q11 q12 q13
        go_wp2_with (first
          | (go_at_call 38; refine Calls.mono HF.out ?_; rintro e w3 ⟨rfl, u3⟩; have HU3 := hide (HU.out.then u3 (fun _ _ => id)); have HRO3 := hide (u3.rw HRO.out (fun _ _ => id)); have HRC3 := hide (u3.rw HRC.out (fun _ _ => id)); have x0 := (HU3.out.cell g2 _ hg2 id).trans q0; have x1 := (HU3.out.cell g2 _ hg2 id).trans q1; have x2 := (HU3.out.cell g2 _ hg2 id).trans q2; have x3 := (HU3.out.cell g2 _ hg2 id).trans q3; have x4 := (HU3.out.cell g2 _ hg2 id).trans q4; have x5 := (HU3.out.cell g2 _ hg2 id).trans q5; have x6 := (HU3.out.cell g2 _ hg2 id).trans q6; have x7 := (HU3.out.cell g2 _ hg2 id).trans q7; have x8 := (HU3.out.cell g2 _ hg2 id).trans q8; have x9 := (HU3.out.cell g2 _ hg2 id).trans q9; have x10 := (HU3.out.cell g2 _ hg2 id).trans q10; have x11 := (HU3.out.cell g2 _ hg2 id).trans q11; have x12 := (HU3.out.cell g2 _ hg2 id).trans q12; have x13 := (HU3.out.cell g2 _ hg2 id).trans q13; have gl3 : g2 < w3.heap.size := Nat.lt_of_lt_of_le hg2 HU3.out.size; have HRX := hide (HRO3.out.alloc (.cells #[enS pb, enS ps, .int .i64 pc, .int .i64 pr, .int .i64 ek, .int .i64 en, enS et, .bool eb, .int .i64 ef, .int .i64 ever, .int .i64 einc, .bool ehas, .bool estale, .bool elost] 65)); clear u3 d0 d1 d2 d3 q0 q1 q2 q3 q4 q5 q6 q7 q8 q9 q10 q11 q12 q13)
          | (at_builtin; (refine wpList_append_rw _ rfl _ _ 55 55 rfl 65 _ iE _ 14 120 Try.underlying55 Try.underlying55 (by simp) hiE hE0 hE1 hE2 rfl _ _ _ rfl HRX.out _ 1 [enS pb, enS ps, .int .i64 pc, .int .i64 pr, .int .i64 ek, .int .i64 en, enS et, .bool eb, .int .i64 ef, .int .i64 ever, .int .i64 einc, .bool ehas, .bool estale, .bool elost] rfl (Rw.src (Rw.made w3 #[enS pb, enS ps, .int .i64 pc, .int .i64 pr, .int .i64 ek, .int .i64 en, enS et, .bool eb, .int .i64 ef, .int .i64 ever, .int .i64 einc, .bool ehas, .bool estale, .bool elost] 65 14 1 rfl)) rfl (by simp [Value.oneCell']) (by omega) (by omega) ?_); intro ga5 gc5 w5 hv' hg' hob'; have HV5 := hide hv'; have HG5 := hide hg'; have HB5 := hide hob'; have HU5 := hide ((HU3.out.alloc (.cells #[enS pb, enS ps, .int .i64 pc, .int .i64 pr, .int .i64 ek, .int .i64 en, enS et, .bool eb, .int .i64 ef, .int .i64 ever, .int .i64 einc, .bool ehas, .bool estale, .bool elost] 65)).grown hg' (fun k e => .inl (HOO.out k e))); have HNO5 := hide (own_lo hob' HOO.out (by have := HU3.out.size; simp; omega)); clear hv' hg' hob'; ))
        go_roundg (gk - 1)
        case measure => omega
        case rel =>
          refine ⟨i + 1, by omega, by go_num, ?_, ?_, HNO5.out, ?_, ?_, HU5.out⟩
          · rw [HWX.out, rfCells_app]
            simpa [rfCells, rfEnc] using HV5.out
          · rw [HCX.out, HQ.out]
            refine (HRC3.out.alloc _).grown HG5.out ?_
            cases hb : (Value.slice ca Q cc).ownBlock with
            | none => exact .inl rfl
            | some j => exact .inr (fun e => HNE.out j e.symm hb)
          · exact HOC.out
          · intro k hk hk2
            rcases HB5.out with e | e
            · exact HNE.out k (e ▸ hk) hk2
            · have h1 := HRC3.out.lt k hk2
              have h2 := Option.some.inj (e.symm.trans hk)
              simp at h2
              omega
      · have HF := hide (Find_miss wr va vc l hrl.r (fun z hz => (hrl.ok z hz).1) p pok (by rw [HN1.out]; omega) hno)
        rw [HN1.out] at HF
        have e1 : (M p).getD enZero = enZero := by rw [hzM]; rfl
        have e2 : (M p).isNone = true := by rw [hzM]; rfl
        have hwx := HWX.out
        have hcx := HCX.out
        rw [e1] at hwx
        rw [if_pos e2] at hcx
        replace HWX := hide hwx
        replace HCX := hide hcx
        clear e1 e2 hwx hcx hzM hno hrl pok
        obtain ⟨pb, ps, pc, pr⟩ := p
        unfold Lk.val at HF
        simp only at HF HWX HCX d0 d1 d2 d3 p0 p1 p2 p3
        go_wp2_with (first
          | (go_at_call 38; refine Calls.mono HF.out ?_; rintro e w3 ⟨rfl, u3⟩; have HU3 := hide (HU.out.then u3 (fun _ _ => id)); have HRO3 := hide (u3.rw HRO.out (fun _ _ => id)); have HRC3 := hide (u3.rw HRC.out (fun _ _ => id)); have x0 := (HU3.out.cell g _ hg id).trans p0; have x1 := (HU3.out.cell g _ hg id).trans p1; have x2 := (HU3.out.cell g _ hg id).trans p2; have x3 := (HU3.out.cell g _ hg id).trans p3; have gl3 : g < w3.heap.size := Nat.lt_of_lt_of_le hg HU3.out.size; have HRX := hide (HRO3.out.alloc (.cells #[enS pb, enS ps, .int .i64 pc, .int .i64 pr, .int .i64 0, .int .i64 0, .string ⟨#[]⟩, .bool false, .int .i64 0, .int .i64 0, .int .i64 0, .bool false, .bool false, .bool false] 65)); clear u3 d0 d1 d2 d3)
          | (at_builtin; (refine wpList_append_rw _ rfl _ _ 55 55 rfl 65 _ iE _ 14 120 Try.underlying55 Try.underlying55 (by simp) hiE hE0 hE1 hE2 rfl _ _ _ rfl HRX.out _ 1 [enS pb, enS ps, .int .i64 pc, .int .i64 pr, .int .i64 0, .int .i64 0, .string ⟨#[]⟩, .bool false, .int .i64 0, .int .i64 0, .int .i64 0, .bool false, .bool false, .bool false] rfl (Rw.src (Rw.made w3 #[enS pb, enS ps, .int .i64 pc, .int .i64 pr, .int .i64 0, .int .i64 0, .string ⟨#[]⟩, .bool false, .int .i64 0, .int .i64 0, .int .i64 0, .bool false, .bool false, .bool false] 65 14 1 rfl)) rfl (by simp [Value.oneCell']) (by omega) (by omega) ?_); intro ga5 gc5 w5 hv' hg' hob'; have HV5 := hide hv'; have HG5 := hide hg'; have HB5 := hide hob'; have HU5 := hide ((HU3.out.alloc (.cells #[enS pb, enS ps, .int .i64 pc, .int .i64 pr, .int .i64 0, .int .i64 0, .string ⟨#[]⟩, .bool false, .int .i64 0, .int .i64 0, .int .i64 0, .bool false, .bool false, .bool false] 65)).grown hg' (fun k e => .inl (HOO.out k e))); have HNO5 := hide (own_lo hob' HOO.out (by have := HU3.out.size; simp; omega)); clear hv' hg' hob'; have HRC5 := hide ((HRC3.out.alloc (.cells #[enS pb, enS ps, .int .i64 pc, .int .i64 pr, .int .i64 0, .int .i64 0, .string ⟨#[]⟩, .bool false, .int .i64 0, .int .i64 0, .int .i64 0, .bool false, .bool false, .bool false] 65)).grown HG5.out (by
              cases hb : (Value.slice ca Q cc).ownBlock with
              | none => exact .inl rfl
              | some j => exact .inr (fun e => HNE.out j e.symm hb))); have HNE5 : Hid (∀ k, (Value.slice ga5 (i + 1) gc5).ownBlock = some k → (Value.slice ca Q cc).ownBlock ≠ some k) := hide (fun k hk hk2 => by
              rcases HB5.out with e | e
              · exact HNE.out k (e ▸ hk) hk2
              · have h1 := HRC3.out.lt k hk2
                have h2 := Option.some.inj (e.symm.trans hk)
                simp at h2
                omega); have y0 := (HU5.out.cell g _ hg id).trans p0; have y1 := (HU5.out.cell g _ hg id).trans p1; have y2 := (HU5.out.cell g _ hg id).trans p2; have y3 := (HU5.out.cell g _ hg id).trans p3; have gl5 : g < w5.heap.size := Nat.lt_of_lt_of_le hg HU5.out.size; have HRY := hide (HRC5.out.alloc (.cells #[enS pb, enS ps, .int .i64 pc, .int .i64 pr] 31)))
          | (at_builtin; (refine wpList_append_rw _ rfl _ _ 60 60 rfl 31 _ iO _ 4 48 Try.underlying60 Try.underlying60 (by simp) hiO hO0 hO1 hO2 rfl _ _ _ rfl HRY.out _ 1 [enS pb, enS ps, .int .i64 pc, .int .i64 pr] rfl (Rw.src (Rw.made w5 #[enS pb, enS ps, .int .i64 pc, .int .i64 pr] 31 4 1 rfl)) rfl (by simp [Value.oneCell']) (by omega) (by omega) ?_); intro ga6 gc6 w6 hv' hg' hob'; have HV6 := hide hv'; have HG6 := hide hg'; have HB6 := hide hob'; have HU6 := hide ((HU5.out.alloc (.cells #[enS pb, enS ps, .int .i64 pc, .int .i64 pr] 31)).grown hg' (fun k e => .inl (HOC.out k e))); have HNO6 := hide (own_lo hob' HOC.out (by have := HU5.out.size; simp; omega)); clear hv' hg' hob'; ))
        go_roundg (gk - 1)
        case measure => omega
        case rel =>
          refine ⟨i + 1, by omega, by go_num, ?_, ?_, HNO5.out, ?_, ?_, HU6.out⟩
          · rw [HWX.out, rfCells_app]
            have := (HV5.out.alloc (.cells #[enS pb, enS ps, .int .i64 pc, .int .i64 pr] 31)).grown HG6.out (by
              cases hb : (Value.slice ga5 (i + 1) gc5).ownBlock with
              | none => exact .inl rfl
              | some j => exact .inr (fun e => HNE5.out j hb e.symm))
            simpa [rfCells, rfEnc, enZero] using this
          · rw [HCX.out, lkCells_app, List.length_append, HQ.out]
            simpa [lkCells, lkEnc] using HV6.out
          · exact HNO6.out
          · intro k hk hk2
            rcases HB6.out with e | e
            · exact HNE5.out k hk (e ▸ hk2)
            · have h1 := HV5.out.lt k hk
              have h2 := Option.some.inj (e.symm.trans hk2)
              simp at h2
              omega
    · have hi1 : ¬ (i : Int) < (N : Int) := by omega
      have hiN' : i = N := by omega
      subst hiN'
      have htk : now.take i = now := List.take_of_length_le (by rw [HNN.out]; omega)
      rw [htk] at hro hrc hoc
      rw [htk]
      have HRO := hide hro
      have HRC := hide hrc
      have HOO := hide hoo
      have HOC := hide hoc
      have HU3 := hide hu
      obtain ⟨Q, hQ⟩ : ∃ Q, (comeL M now).length = Q := ⟨_, rfl⟩
      rw [hQ] at HRC HOC ⊢
      have HQ := hide hQ
      obtain ⟨w3, hw3⟩ : ∃ w3, w3 = wr := ⟨_, rfl⟩
      have HR2' := hide (hu.rw HR2.out (fun _ _ => id))
      have HRW' := hide (hu.rw HRW.out (fun _ _ => id))
      rw [← hw3] at HRO HRC HU3 HR2' HRW'
      have s3 : w2.heap.size ≤ w3.heap.size := HU3.out.size
      have HW3 := hide hw3
      clear hro hrc hoo hoc hne hu hQ htk
      go_wp2_with fail
      rw [← HW3.out]
      clear HW3 hw3
      go_loopg [11, 14] K (fun q gv iv wi => ∃ j : Nat, j + q = K ∧ iv = .int .i64 j ∧ Rw wi 31 4 gv (goneL now (was.take j)).length (lkCells (goneL now (was.take j))) ∧ (∀ k, gv.ownBlock = some k → w3.heap.size ≤ k) ∧ Upd w3 wi (fun _ => False))
      case atStart => exact ⟨0, by omega, rfl, by simpa [lkCells, goneL] using Rw.nil _ _ _, fun k hk => (by cases hk), Upd.refl _ _⟩
      case round =>
        obtain ⟨j, hj, rfl, hrg, hog, hu⟩ := hrel
        obtain ⟨ga, gc, rfl, -⟩ := Rw.form hrg
        by_cases hjK : j < K
        · obtain ⟨p, hp⟩ : ∃ x, was[j]? = some x := ⟨_, List.getElem?_eq_getElem (by rw [HKK.out]; exact hjK)⟩
          have pok := HOKW.out p (List.mem_of_getElem? hp)
          obtain ⟨g, off, rfl, hg, p0, p1, p2, p3⟩ := row_at HRW'.out j p hp hjK
          have d0 := (hu.cell g _ hg id).trans p0
          have d1 := (hu.cell g _ hg id).trans p1
          have d2 := (hu.cell g _ hg id).trans p2
          have d3 := (hu.cell g _ hg id).trans p3
          have glt : g < wr.heap.size := Nat.lt_of_lt_of_le hg hu.size
          have hi0 : (0 : Int) ≤ (j : Int) := by omega
          have hi2 : (j : Int) < (K : Int) := by omega
          have HGX := hide (goneL_next (now := now) hp)
          have hr2 := hu.rw HR2'.out (fun _ _ => id)
          have hH := Has_any wr a2 c2 now (by rw [HNN.out]; exact hr2) HOKN.out p pok (by rw [HNN.out]; omega)
          rw [HNN.out] at hH
          have HRG := hide hrg
          have HOG := hide hog
          have HUI := hide hu
          have hgl := goneL_len now (was.take j)
          rw [List.length_take] at hgl
          obtain ⟨R, hR⟩ : ∃ R, (goneL now (was.take j)).length = R := ⟨_, rfl⟩
          rw [hR] at hgl HRG HOG ⊢
          have HRR := hide hR
          clear hp hrg hog hu hR pok hr2
          by_cases hin : p ∈ now
          · have e : decide (p ∈ now) = true := by simpa using hin
            rw [e] at hH
            have hgx := HGX.out
            rw [if_pos hin, List.append_nil] at hgx
            replace HGX := hide hgx
            clear e hin hgx
            obtain ⟨pb, ps, pc, pr⟩ := p
            unfold Lk.val at hH
            simp only at hH d0 d1 d2 d3
            have HHH := hide hH
            clear hH
            go_wp2_with (go_at_call 50; refine Calls.mono HHH.out ?_; rintro e w4 ⟨rfl, u4⟩)
            go_roundg (gk - 1)
            case measure => omega
            case rel => exact ⟨j + 1, by omega, by go_num, by rw [HGX.out, HRR.out]; exact u4.rw HRG.out (fun _ _ => id), HOG.out, HUI.out.then u4 (fun _ _ => id)⟩
          · have e : decide (p ∈ now) = false := by simpa using hin
            rw [e] at hH
            have hgx := HGX.out
            rw [if_neg hin] at hgx
            replace HGX := hide hgx
            clear e hin hgx
            obtain ⟨pb, ps, pc, pr⟩ := p
            unfold Lk.val at hH
            simp only at hH HGX d0 d1 d2 d3 p0 p1 p2 p3
            have HHH := hide hH
            clear hH
            go_wp2_with (first
              | (go_at_call 50; refine Calls.mono HHH.out ?_; rintro e w4 ⟨rfl, u4⟩; have HU4 := hide (HUI.out.then u4 (fun _ _ => id)); have x0 := (HU4.out.cell g _ hg id).trans p0; have x1 := (HU4.out.cell g _ hg id).trans p1; have x2 := (HU4.out.cell g _ hg id).trans p2; have x3 := (HU4.out.cell g _ hg id).trans p3; have gl4 : g < w4.heap.size := Nat.lt_of_lt_of_le hg HU4.out.size; have HRX := hide ((u4.rw HRG.out (fun _ _ => id)).alloc (.cells #[enS pb, enS ps, .int .i64 pc, .int .i64 pr] 31)); clear u4 d0 d1 d2 d3)
              | (at_builtin; (refine wpList_append_rw _ rfl _ _ 60 60 rfl 31 _ iO _ 4 48 Try.underlying60 Try.underlying60 (by simp) hiO hO0 hO1 hO2 rfl _ _ _ rfl HRX.out _ 1 [enS pb, enS ps, .int .i64 pc, .int .i64 pr] rfl (Rw.src (Rw.made w4 #[enS pb, enS ps, .int .i64 pc, .int .i64 pr] 31 4 1 rfl)) rfl (by simp [Value.oneCell']) (by omega) (by omega) ?_); intro ga5 gc5 w5 hv' hg' hob'; have HV5 := hide hv'; have HG5 := hide hg'; have HB5 := hide hob'; have HU5 := hide ((HU4.out.alloc (.cells #[enS pb, enS ps, .int .i64 pc, .int .i64 pr] 31)).grown hg' (fun k e => .inl (HOG.out k e))); have HNO5 := hide (own_lo hob' HOG.out (by have := HU4.out.size; simp; omega)); clear hv' hg' hob'; ))
            go_roundg (gk - 1)
            case measure => omega
            case rel =>
              refine ⟨j + 1, by omega, by go_num, ?_, ?_, HU5.out⟩
              · rw [HGX.out, lkCells_app, List.length_append, HRR.out]
                simpa [lkCells, lkEnc] using HV5.out
              · exact HNO5.out
        · have hi2 : ¬ (j : Int) < (K : Int) := by omega
          have htk : was.take j = was := List.take_of_length_le (by rw [HKK.out]; omega)
          rw [htk] at hrg hog
          rw [htk]
          have HRG := hide hrg
          have HOG := hide hog
          have HUI := hide hu
          clear hrg hog hu htk
          go_wp2_with fail
          (try simp only [Exit.inBlock, Exit.then])
          refine bodyPost_ret (results_tmp3 rfl _ _ _) rfl ?_
          have hwl := wantL_len M now
          rw [HNN.out] at hwl
          have sz := HUW.out.size
          refine ⟨oa, oc, wantL M now, ca, cc, comeL M now, ga, gc, goneL now was, by rw [hwl, HQ.out]; rfl, ?_, by rw [hwl]; omega, ?_, ⟨?_, HS2.out.filter _, fun x hx => ?_, fun x hx => HOKN.out x ((List.mem_filter.1 hx).1), ?_⟩, ⟨HRG.out, HS1.out.filter _, fun x hx => ?_, fun x hx => HOKW.out x ((List.mem_filter.1 hx).1), ?_⟩, (HUW.out.then HU3.out (fun _ _ => id)).then HUI.out (fun _ _ => id)⟩
          · refine HH.out.want HS2.out HM2.out HOK.out ?_
            rw [hwl]
            exact HUI.out.rw HRO.out (fun _ _ => id)
          · intro k hk
            rw [hwl] at hk
            have := HOO.out k hk
            omega
          · rw [HQ.out]
            exact HUI.out.rw HRC.out (fun _ _ => id)
          · unfold comeL
            rw [List.mem_filter, HM2.out]
            simp
          · intro k hk
            rw [HQ.out] at hk
            have := HOC.out k hk
            omega
          · unfold goneL
            rw [List.mem_filter, HM1.out]
            have e1 : x ∈ l.map Prod.fst ↔ (M x).isSome = true := by
              rcases HH.out.cases x hx with ⟨k, z, hz, hzp, hzM, _, _⟩ | ⟨hzM, hno⟩
              · rw [hzM]
                simp only [Option.isSome_some, iff_true]
                exact List.mem_map.2 ⟨z, List.mem_of_getElem? hz, hzp⟩
              · rw [hzM]
                simp only [Option.isSome_none, Bool.false_eq_true, iff_false]
                rintro q
                obtain ⟨z, hz, e⟩ := List.mem_map.1 q
                exact hno z hz e
            rw [e1, ← HM2.out]
            simp
            exact And.comm
          · intro k hk
            have := HOG.out k hk
            omega
end Go.Proofs.Ytcclkfkdafmemaa

