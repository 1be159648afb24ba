/- The walk of package web's Summary. -/
import Derived.Test.YtcdimledeomahaaWholeB
import Derived.Test.YtcdimledeomahaaWebH
set_option maxRecDepth 100000
namespace Go.Proofs.Ytcdimledeomahaa
open Go.RowKit Go.Lat

def linksAt (os : List On) (p : Pc) : List Lk := match ownAt os p with
  | none => []
  | some o => o.links
def sumE (os : List On) (p : Pc) : Ed := ⟨p.s, p.c, p.r, linksAt os p⟩

theorem at_links (V : World) (B : Nat → Prop) (v : Value) (os : List On) (p : Pc) (h : OnsAt V B v os) (hl : os.length ≤ 1000000) :
    Calls Try.prog 25 #[v, p.val] V fun e w' => ∃ (s : List UInt8) (c r : Int) (ra : Option Addr) (rn rc : Nat) (la : Option Addr) (lc : Nat) (q : Bool), e = .returned (.tuple #[.agg #[encStr s, .int .i64 c, .int .i64 r, .slice ra rn rc, .slice la (linksAt os p).length lc], .bool q]) ∧ Rw V 40 4 (.slice la (linksAt os p).length lc) (linksAt os p).length (lkCells (linksAt os p)) ∧ Upd V w' (fun _ => False) := by
  refine Calls.mono (at_any V B v os p h hl) ?_
  rintro e w' ⟨u, ⟨rfl, hno⟩ | ⟨i, o, rv, lv, rfl, h1, h2, h3, h4, h5, h6⟩⟩
  · have e1 : linksAt os p = [] := by simp [linksAt, ownAt_none hno]
    rw [e1]
    exact ⟨[], 0, 0, none, 0, 0, none, 0, false, rfl, Rw.nil _ _ _, u⟩
  · have e1 : linksAt os p = o.links := by simp [linksAt, ownAt_some h1 h2 h3]
    rw [e1]
    obtain ⟨ra, rc, rfl, -⟩ := Rw.form h4
    obtain ⟨la, lc, rfl, -⟩ := Rw.form h5
    exact ⟨_, _, _, ra, _, rc, la, lc, true, rfl, h5, u⟩

set_option maxHeartbeats 3200000 in
theorem Summary_any (w : World) (B : Nat → Prop) (ov sv : Value) (os : List On) (ps : List Pc) (ho : OnsAt w B ov os) (hp : PcsAt w sv ps) (hol : os.length ≤ 1000) (hpl : ps.length ≤ 1000) (hll : ∀ p ∈ ps, (linksAt os p).length ≤ 1000) :
    Calls Try.prog 10 #[ov, sv] w fun e w' => ∃ a c, e = .returned (.slice a ps.length c) ∧ EdsAt w' (fun k => w.heap.size ≤ k) (.slice a ps.length c) (ps.map (sumE os)) ∧ Upd w w' (fun _ => False) := by
  obtain ⟨i1, hi1, hz1a, hz1b, hz1c⟩ := info_parts Try.info83
  replace hp : Rw w 32 3 sv ps.length (pcCells ps) := hp
  obtain ⟨sa, sc, rfl, -⟩ := Rw.form hp
  obtain ⟨oa, oc, rfl, -⟩ := Rw.form ho.choose_spec.1
  obtain ⟨N, hN⟩ : ∃ N, ps.length = N := ⟨_, rfl⟩
  obtain ⟨M, hM⟩ : ∃ M, os.length = M := ⟨_, rfl⟩
  rw [hM] at ho hol ⊢
  rw [hN] at hp hpl ⊢
  have HO := hide ho
  have HP := hide hp
  have HN := hide hN
  have HM := hide hM
  clear ho hp hN hM
  go_enter Try.func10, Try.ntmps10
  go_wp2_with fail
  go_loopg [5, 12] N (fun q va iv wr => ∃ k : Nat, k + q = N ∧ iv = .int .i64 k ∧ EdsAt wr (fun k => w.heap.size ≤ k) va ((ps.take k).map (sumE os)) ∧ Upd w wr (fun _ => False))
  case atStart => exact ⟨0, by omega, rfl, EdsAt.nil _ _, Upd.refl _ _⟩
  case round =>
    obtain ⟨k, hk, rfl, ra, hu⟩ := hrel
    by_cases hkN : k < N
    · obtain ⟨p, hpk⟩ : ∃ p, ps[k]? = some p := ⟨_, List.getElem?_eq_getElem (by rw [HN.out]; exact hkN)⟩
      have hE : (ps.take (k + 1)).map (sumE os) = (ps.take k).map (sumE os) ++ [sumE os p] := by rw [List.take_add_one, hpk]; simp
      have hlen := hll p (List.mem_of_getElem? hpk)
      obtain ⟨g, off, rfl, hg, d0, d1, d2⟩ := pc_at (hu.rw HP.out (fun _ _ => id)) k p hpk hkN
      have uX : Upd wr (wr.alloc (.cells #[encStr p.s, .int .i64 p.c, .int .i64 p.r] 32)) (fun _ => False) := (Upd.refl wr _).alloc _
      have AT := at_links (wr.alloc (.cells #[encStr p.s, .int .i64 p.c, .int .i64 p.r] 32)) B (.slice oa M oc) os p ((HO.out.upd hu).upd uX) (by rw [HM.out]; omega)
      have hX := new1 wr (.cells #[encStr p.s, .int .i64 p.c, .int .i64 p.r] 32)
      obtain ⟨ls, hls⟩ : ∃ ls, linksAt os p = ls := ⟨_, rfl⟩
      have hse : sumE os p = ⟨p.s, p.c, p.r, ls⟩ := by simp [sumE, hls]
      rw [hls] at AT hlen
      rw [hse] at hE
      unfold Pc.val at AT
      have hek : ((ps.take k).map (sumE os)).length = k := by simp; rw [HN.out]; omega
      obtain ⟨es, hes⟩ : ∃ es, (ps.take k).map (sumE os) = es := ⟨_, rfl⟩
      rw [hes] at hek hE ra
      subst hek
      have HE := hide hE
      have HA := hide ra
      have HU := hide hu
      have HX := hide hX
      have UX := hide uX
      have hk0 : (0 : Int) ≤ (es.length : Int) := by omega
      have hk1 : (es.length : Int) < (N : Int) := by omega
      clear hpk hE ra hu hX uX hls hse hes
      go_wp2_with fail
      refine Calls.mono AT ?_
      rintro e w2 ⟨s0, c0, r0, qa, qn, qc, la, lc, qb, rfl, hl2, u2⟩
      have hx2 := u2.get HX.out id
      have hb2 := new1 w2 (.cells #[encStr s0, .int .i64 c0, .int .i64 r0, .slice qa qn qc, .slice la ls.length lc] 38)
      obtain ⟨W, hW⟩ : ∃ W, w2.alloc (.cells #[encStr s0, .int .i64 c0, .int .i64 r0, .slice qa qn qc, .slice la ls.length lc] 38) = W := ⟨_, rfl⟩
      have uW : Upd w2 W (fun _ => False) := hW ▸ (Upd.refl w2 _).alloc _
      rw [hW] at hb2
      have hxW := uW.get hx2 id
      obtain ⟨x0, x1, x2⟩ := cells3 hxW
      have y4 := (cells5 hb2).2.2.2.2
      have xl := lt_at hxW
      have yl := lt_at hb2
      have UW : Upd wr W (fun _ => False) := (UX.out.then u2 (fun _ _ => id)).then uW (fun _ _ => id)
      have hAW := HA.out.upd UW (fun _ _ => id)
      obtain ⟨oA, xs1, rA, oneA, rowA⟩ := hAW
      have uD : Upd W W.drew (fun _ => False) := (Upd.refl W _).drew
      have CL := CloneL_any W.drew (.slice la ls.length lc) ls.length _ ((u2.then (uW.then uD (fun _ _ => id)) (fun _ _ => id)).rw hl2 (fun _ _ => id)) (lkCells_one _) (by omega)
      have nX := Rw.ne_block rA hxW (by decide)
      have nY := Rw.ne_block rA hb2 (by decide)
      have sW : w.heap.size ≤ W.heap.size := (HU.out.then UW (fun _ _ => id)).size
      have HRA := hide rA
      have HUW := hide UW
      have HW := hide hW
      obtain ⟨pt, hpt⟩ : ∃ pt, w2.heap.size = pt := ⟨_, rfl⟩
      rw [hpt] at y4 yl nY
      have HPT := hide hpt
      clear AT hl2 u2 hx2 hb2 uW hxW UW rA hpt hW d0 d1 d2
      go_wp2_with fail
      rw [HW.out, HPT.out]
      have hA0 : ∀ V, Upd W V (fun _ => False) → Rw V 83 4 _ es.length xs1 := fun V uV => uV.rw HRA.out (fun _ _ => id)
      go_region_held3 (fun w' => w'.cell? ⟨wr.heap.size, 0, none⟩ = some (encStr p.s) ∧ w'.cell? ⟨wr.heap.size, 1, none⟩ = some (.int .i64 p.c) ∧ w'.cell? ⟨wr.heap.size, 2, none⟩ = some (.int .i64 p.r) ∧ w'.cell? ⟨pt, 4, none⟩ = some (.slice la ls.length lc))
        (first
          | (go_split_ands; exact ⟨(uk.cell wr.heap.size 0 xl id).trans x0, (uk.cell wr.heap.size 1 xl id).trans x1, (uk.cell wr.heap.size 2 xl id).trans x2, (uk.cell pt 4 yl id).trans y4⟩)
          | (go_split_ands; exact ⟨hg6.cell (by assumption) (Ne.symm nX), hg6.cell (by assumption) (Ne.symm nX), hg6.cell (by assumption) (Ne.symm nX), hg6.cell (by assumption) (Ne.symm nY)⟩)
          | go_keep)
        (first
          | (go_at_call 26; refine Calls.mono CL ?_; rintro e w5 ⟨a5, c5, rfl, r5, nb5, v5⟩; have uk := uD.then v5 (fun _ _ => id))
          | (refine step_append_rw _ (by rfl) _ _ 47 47 (by rfl) 83 _ i1 _ 4 56 Try.underlying47 Try.underlying47 (by simp) hi1 hz1a hz1b hz1c rfl _ es.length xs1 (by rfl) ((hA0 w5 uk).alloc _) _ 1 [encStr p.s, .int .i64 p.c, .int .i64 p.r, .slice a5 ls.length c5] (by rfl) (Rw.src (Rw.made w5 _ _ 4 1 rfl)) rfl (by simp [Value.oneCell']) (by omega) (by omega) ?_; intro ga gc w6 hv6 hg6 ho6))
      go_wp2_with fail
      go_roundg (gk - 1)
      case measure => omega
      case rel =>
        have v6 : Upd W w6 (fun k => u5.ownBlock = some k) := ((uk.weaken (T := fun k => u5.ownBlock = some k) (fun _ _ => False.elim)).alloc _).grown hg6 (fun k e => .inr e)
        have hob : ∀ j, (Value.slice ga (es.length + 1) gc).ownBlock = some j → w.heap.size ≤ j := fun j hj => by
          rcases ho6 with e | e
          · exact oA j (e.symm.trans hj)
          · have q := Option.some.inj (e.symm.trans hj)
            have q2 := uk.size
            simp at q
            omega
        have R6 : Rw w6 40 4 (.slice a5 ls.length c5) ls.length (lkCells ls) := Rw.past (Rw.alloc r5 _) (Rw.alloc (hA0 w5 uk) _) (by decide) hg6
        have E6 := EdsAt.snoc (e := ⟨p.s, p.c, p.r, ls⟩) rfl hob HRA.out oneA rowA v6 (fun hx hk e => (hx.away HRA.out (by decide) hk) e) hv6 R6 (fun k hk => by have := nb5 k hk; have q : W.drew.heap.size = W.heap.size := rfl; omega) rfl
        exact ⟨es.length + 1, by omega, by go_num, by rw [HE.out]; exact E6, (HU.out.then HUW.out (fun _ _ => id)).then v6 (fun i hi e => by have := oA i e; omega)⟩
    · go_wp2_with fail
      go_ret
      have e0 : k = N := by omega
      subst e0
      have e1 : ps.take k = ps := by rw [← HN.out]; simp
      rw [e1] at ra
      obtain ⟨a, c, rfl, -⟩ := Rw.form ra.2.choose_spec.1
      have e2 : (ps.map (sumE os)).length = k := by simp; exact HN.out
      rw [e2] at ra ⊢
      exact ⟨a, c, rfl, ra, hu⟩
end Go.Proofs.Ytcdimledeomahaa
