/- The reference's Reads. -/
import Derived.Test.YtcdimledeomahaaWebU
set_option maxRecDepth 100000
namespace Go.Proofs.Ytcdimledeomahaa
open Go.RowKit Go.Lat

theorem re_at {w : World} {sa : Option Addr} {n c : Nat} {xs : List Value} (h : Rw w 110 5 (.slice sa n c) n xs) {j : Nat} {e : Ed} {rv : Value} (hr : ReRow xs j e rv) (hj : j < n) :
    ∃ g off, sa = some ⟨g, off, none⟩ ∧ g < w.heap.size ∧ w.cell? ⟨g, off + j * 5, none⟩ = some (encStr []) ∧ w.cell? ⟨g, off + j * 5 + 1, none⟩ = some (encStr e.s) ∧ w.cell? ⟨g, off + j * 5 + 2, none⟩ = some (.int .i64 e.c) ∧ w.cell? ⟨g, off + j * 5 + 3, none⟩ = some (.int .i64 e.r) ∧ w.cell? ⟨g, off + j * 5 + 4, none⟩ = some rv := by
  obtain ⟨g, off, cap, hv, hg, hc⟩ := Rw.pos h (by omega)
  simp at hv
  obtain ⟨c0, c1, c2, c3, c4⟩ := hr
  exact ⟨g, off, hv.1, hg, hc _ _ c0, hc _ _ c1, hc _ _ c2, hc _ _ c3, hc _ _ c4⟩
theorem RfAt.upd {w w' : World} {rb : Nat} {lv : Value} {xs : List Value} {KL : List Kn} (h : RfAt w rb lv xs KL) (u : Upd w w' (fun _ => False)) : RfAt w' rb lv xs KL := by
  refine ⟨u.get h.c id, u.rw h.r (fun _ _ => id), h.one, fun i k hk => ?_⟩
  obtain ⟨ea, ec, q1, q2⟩ := h.rows i k hk
  exact ⟨ea, ec, q1, q2.upd u (fun _ _ => id)⟩

set_option maxHeartbeats 1600000 in
theorem RReads_any (w : World) (rb : Nat) (lv : Value) (xs : List Value) (KL : List Kn) (h : RfAt w rb lv xs KL) (hl : KL.length ≤ 1000000) (l : Lk) (hes : ∀ ver es, told KL l.b = some (ver, es) → es.length ≤ 1000) :
    Calls Try.prog 20 #[.pointer (some ⟨rb, 0, none⟩), l.val] w fun e w' => ∃ a c, e = .returned (.slice a (readsOf (told KL) l).length c) ∧ PlsAt w' (.slice a (readsOf (told KL) l).length c) (readsOf (told KL) l) ∧ Upd w w' (fun _ => False) := by
  obtain ⟨lb, ls, lc, lr⟩ := l
  have u0 : Upd w (w.alloc (.cells #[encStr lb, encStr ls, .int .i64 lc, .int .i64 lr] 73)) (fun _ => False) := (Upd.refl w _).alloc _
  have hX := new1 w (.cells #[encStr lb, encStr ls, .int .i64 lc, .int .i64 lr] 73)
  have h1 := RfAt.upd h u0
  have FI := find_any _ rb lv xs KL h1 hl lb
  unfold Lk.val
  have HU0 := hide u0
  have HXX := hide hX
  have H1 := hide h1
  clear u0 hX h1
  go_enter Try.func20, Try.ntmps20
  go_wp2_with fail
  refine Calls.mono FI ?_
  rintro e w' ⟨rfl, r, rfl, hs⟩
  rcases hs with ⟨rfl, hno⟩ | ⟨i, kk, rfl, hi, hn, hno⟩
  · have ht := hide (told_none hno)
    clear hno
    go_wp2_with fail
    go_ret
    have e1 : readsOf (told KL) ⟨lb, ls, lc, lr⟩ = [] := by simp [readsOf, ht.out]
    rw [e1]
    exact ⟨none, 0, rfl, Rw.nil _ _ _, HU0.out⟩
  · have ht := told_some hi hn hno
    have e1 : readsOf (told KL) ⟨lb, ls, lc, lr⟩ = findEd kk.es ⟨lb, ls, lc, lr⟩ := by simp [readsOf, ht]
    have hN0 := hes _ _ ht
    have hil : i < KL.length := (List.getElem?_eq_some_iff.1 hi).1
    obtain ⟨L, hL⟩ : ∃ L, KL.length = L := ⟨_, rfl⟩
    obtain ⟨es, hee⟩ : ∃ es, kk.es = es := ⟨_, rfl⟩
    obtain ⟨N, hN⟩ : ∃ N, es.length = N := ⟨_, rfl⟩
    obtain ⟨ea, ec, hrow, hre⟩ := H1.out.rows i kk hi
    have hlr := H1.out.r
    obtain ⟨sa, sc, rfl, -⟩ := Rw.form hlr
    obtain ⟨g0, o0, rfl, hg0, d0, d1, d2⟩ := kn_at hlr hrow hil
    have hc0 := H1.out.c
    rw [hee] at hrow hre hN0 d2 e1
    rw [hN] at hrow hre hN0 d2
    rw [hL] at hlr hil hc0
    have hi0 : decide ((i : Int) < 0) = false := by simp
    have hi1 : (0 : Int) ≤ (i : Int) := by omega
    have hi2 : (i : Int) < (L : Int) := by omega
    obtain ⟨-, ys, hys, -, hyr⟩ := hre
    have HL := hide hlr
    have HC := hide hc0
    have HROW := hide hrow
    have HYS := hide hys
    have HYR := hide hyr
    have HN := hide hN
    have HE1 := hide e1
    have HG := hide hg0
    have HD2 := hide d2
    rw [hN] at hys
    have HYS := hide hys
    clear hno ht hi hn FI e1 hlr hc0 hrow hys hyr hN hee hL hg0 d0 d1 d2
    have z0 := cells1 HC.out
    have zz := HD2.out
    go_wp2_with fail
    clear z0 zz
    go_loopg [6, 7] N (fun q iv pv wr => ∃ k : Nat, k + q = N ∧ iv = .int .i64 k ∧ (∀ (j : Nat) (e : Ed), j < k → es[j]? = some e → e.is ⟨lb, ls, lc, lr⟩ = false) ∧ Upd (w.alloc (.cells #[encStr lb, encStr ls, .int .i64 lc, .int .i64 lr] 73)) wr (fun _ => False))
    case atStart => exact ⟨0, by omega, rfl, fun j e hj => absurd hj (by omega), Upd.refl _ _⟩
    case round =>
      obtain ⟨k, hk, rfl, hno, hu⟩ := hrel
      have HNO := hide hno
      have HW := hide hu
      clear hno
      have hxr := hu.get HXX.out id
      obtain ⟨x0, x1, x2, x3⟩ := cells4 hxr
      have xl := lt_at hxr
      have hcr := hu.get HC.out id
      have c0 := cells1 hcr
      have cl := lt_at hcr
      have b2 := (hu.cell g0 (o0 + i * 3 + 2) HG.out id).trans HD2.out
      have b2l : g0 < wr.heap.size := Nat.lt_of_lt_of_le HG.out hu.size
      by_cases hkN : k < N
      · obtain ⟨e, he⟩ : ∃ e, es[k]? = some e := ⟨_, List.getElem?_eq_getElem (by rw [HN.out]; exact hkN)⟩
        obtain ⟨rv, hrr, hrp, -⟩ := HYR.out k e he
        obtain ⟨ra, rc, rfl, -⟩ := Rw.form hrp
        obtain ⟨g, off, rfl, hg, d0, d1, d2, d3, d4⟩ := re_at (hu.rw HYS.out (fun _ _ => id)) hrr hkN
        have hk0 : (0 : Int) ≤ (k : Int) := by omega
        have hk1 : (k : Int) < (N : Int) := by omega
        have HP := hide (hu.rw hrp (fun _ _ => id))
        have HE := hide he
        clear hu hxr hcr he hrr hrp
        obtain ⟨es', ec', er, erd⟩ := e
        simp only at d1 d2 d3 d4
        by_cases h1 : es' = ls
        · by_cases h2 : ec' = lc
          · by_cases h3 : er = lr
            · subst h1
              subst h2
              subst h3
              have hF : findEd es ⟨lb, es', ec', er⟩ = erd := findEd_some HE.out HNO.out (by simp [Ed.is])
              have HF := hide hF
              clear hF
              go_wp2_with fail
              go_ret
              rw [HE1.out, HF.out]
              exact ⟨ra, rc, rfl, Rw.alloc HP.out _, (HU0.out.then HW.out (fun _ _ => id)).alloc _⟩
            · have HN2 : Hid (∀ (j : Nat) (e : Ed), j < k + 1 → es[j]? = some e → e.is ⟨lb, ls, lc, lr⟩ = false) := hide (fun j e hj he2 => by
                by_cases hjk : j = k
                · subst hjk
                  rw [HE.out] at he2
                  cases he2
                  simp [Ed.is, h3]
                · exact HNO.out j e (by omega) he2)
              have hwk : IntKind.i64.wrap ((k : Int) + 1) = (k : Int) + 1 := IntWalk.i64_in _ (by omega)
              go_wp2_with fail
              go_roundg (gk - 1)
              case measure => omega
              case rel => exact ⟨k + 1, by omega, by go_num, HN2.out, HW.out.alloc _⟩
          · have HN2 : Hid (∀ (j : Nat) (e : Ed), j < k + 1 → es[j]? = some e → e.is ⟨lb, ls, lc, lr⟩ = false) := hide (fun j e hj he2 => by
              by_cases hjk : j = k
              · subst hjk
                rw [HE.out] at he2
                cases he2
                simp [Ed.is, h2]
              · exact HNO.out j e (by omega) he2)
            have hwk : IntKind.i64.wrap ((k : Int) + 1) = (k : Int) + 1 := IntWalk.i64_in _ (by omega)
            go_wp2_with fail
            go_roundg (gk - 1)
            case measure => omega
            case rel => exact ⟨k + 1, by omega, by go_num, HN2.out, HW.out.alloc _⟩
        · have HN2 : Hid (∀ (j : Nat) (e : Ed), j < k + 1 → es[j]? = some e → e.is ⟨lb, ls, lc, lr⟩ = false) := hide (fun j e hj he2 => by
            by_cases hjk : j = k
            · subst hjk
              rw [HE.out] at he2
              cases he2
              simp [Ed.is, h1]
            · exact HNO.out j e (by omega) he2)
          have hwk : IntKind.i64.wrap ((k : Int) + 1) = (k : Int) + 1 := IntWalk.i64_in _ (by omega)
          go_wp2_with fail
          go_roundg (gk - 1)
          case measure => omega
          case rel => exact ⟨k + 1, by omega, by go_num, HN2.out, HW.out.alloc _⟩
      · clear hu hxr hcr
        go_wp2_with fail
        go_ret
        have hF : findEd es ⟨lb, ls, lc, lr⟩ = [] := findEd_none (fun j e he => HNO.out j e (by have := (List.getElem?_eq_some_iff.1 he).1; rw [HN.out] at this; omega) he)
        rw [HE1.out, hF]
        exact ⟨none, 0, rfl, Rw.nil _ _ _, HU0.out.then HW.out (fun _ _ => id)⟩
end Go.Proofs.Ytcdimledeomahaa
