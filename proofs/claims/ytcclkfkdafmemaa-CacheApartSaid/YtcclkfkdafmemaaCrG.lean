/- The walks of the reference's Mark, Take, Put. -/
import Derived.Test.YtcclkfkdafmemaaCrF
import Derived.Test.YtcclkfkdafmemaaCaS
set_option maxRecDepth 100000
namespace Go.Lat
open Go.RowKit
def setCells : World → Nat → Nat → List Value → World
  | w, _, _, [] => w
  | w, g, o, v :: vs => setCells (w.setCell ⟨g, o, none⟩ v) g (o + 1) vs
theorem Rw.setMany {e size g off n cap : Nat} : ∀ (vs : List Value) {_w : World} {xs : List Value} (_ : Rw _w e size (.slice (some ⟨g, off, none⟩) n cap) n xs) (o : Nat) (_ : o + vs.length ≤ n * size),
    Rw (setCells _w g (off + o) vs) e size (.slice (some ⟨g, off, none⟩) n cap) n (setMany xs o vs)
  | [], _, _, h, _, _ => h
  | v :: vs, _, xs, h, o, ho => by
    have h1 := Rw.set h o v (by simp at ho; omega)
    exact Rw.setMany vs h1 (o + 1) (by simp at ho; omega)
theorem Upd.setCells {a : World} {S : Nat → Prop} {g : Nat} (hg : a.heap.size ≤ g ∨ S g) : ∀ (vs : List Value) {w : World} (_ : Upd a w S) (o : Nat), Upd a (setCells w g o vs) S
  | [], _, h, _ => h
  | v :: vs, _, h, o => Upd.setCells hg vs (h.setCell ⟨g, o, none⟩ v hg) (o + 1)
end Go.Lat
namespace Go.Proofs.Ytcclkfkdafmemaa
open Go.RowKit Go.Lat

theorem set_self {l : List Rf} {k : Nat} {z : Rf} (h : l[k]? = some z) : l.set k z = l := by
  apply List.ext_getElem?
  intro i
  by_cases e : k = i
  · subst e
    rw [List.getElem?_set_self (List.getElem?_eq_some_iff.1 h).1, h]
  · rw [List.getElem?_set_ne e]
theorem rf_set_one (l : List Rf) (k : Nat) (z z' : Rf) (hz : l[k]? = some z) (t : Nat) (ht : t < 14) (u : Value) (he : rfEnc z' = (rfEnc z).set t u) : (rfCells l).set (k * 14 + t) u = rfCells (l.set k z') := by
  have hkl : k < l.length := (List.getElem?_eq_some_iff.1 hz).1
  apply List.ext_getElem?
  intro i
  by_cases hi : i < l.length * 14
  · obtain ⟨q, r, hr, rfl⟩ : ∃ q r, r < 14 ∧ i = q * 14 + r := ⟨i / 14, i % 14, Nat.mod_lt _ (by decide), by omega⟩
    have hq : q < l.length := by omega
    by_cases e : q = k
    · subst e
      rw [rfCells_get (l.set q z') q z' (List.getElem?_set_self hkl) r hr, he]
      by_cases e2 : t = r
      · subst e2
        rw [List.getElem?_set_self (by rw [rfCells_len]; omega), List.getElem?_set_self (by rw [rfEnc_len]; exact ht)]
      · rw [List.getElem?_set_ne (by omega), List.getElem?_set_ne e2, rfCells_get l q z hz r hr]
    · obtain ⟨y, hy⟩ : ∃ y, l[q]? = some y := ⟨_, List.getElem?_eq_getElem hq⟩
      rw [List.getElem?_set_ne (by omega), rfCells_get l q y hy r hr, rfCells_get (l.set k z') q y (by rw [List.getElem?_set_ne (fun h => e h.symm)]; exact hy) r hr]
  · rw [List.getElem?_eq_none (by rw [List.length_set, rfCells_len]; omega), List.getElem?_eq_none (by rw [rfCells_len]; simp; omega)]
/-- An entry of a book becomes another. -/
def mkR (nm : List UInt8) (F : En → En) (z : Rf) : Rf := if z.1.b = nm then (z.1, F z.2) else z
def markL (nm : List UInt8) (F : En → En) (l : List Rf) (j : Nat) : List Rf := (l.take j).map (mkR nm F) ++ l.drop j
theorem markL_len (nm : List UInt8) (F : En → En) (l : List Rf) (j : Nat) : (markL nm F l j).length = l.length := by
  unfold markL
  simp
  omega
theorem markL_get {nm : List UInt8} {F : En → En} {l : List Rf} {j : Nat} {z : Rf} (h : l[j]? = some z) : (markL nm F l j)[j]? = some z := by
  have hl := (List.getElem?_eq_some_iff.1 h).1
  unfold markL
  rw [List.getElem?_append_right (by simp; omega)]
  simp
  rw [Nat.min_eq_left (by omega), Nat.sub_self, Nat.add_zero]
  exact h
theorem markL_next {nm : List UInt8} {F : En → En} {l : List Rf} {j : Nat} {z : Rf} (h : l[j]? = some z) : markL nm F l (j + 1) = (markL nm F l j).set j (mkR nm F z) := by
  have hl := (List.getElem?_eq_some_iff.1 h).1
  apply List.ext_getElem?
  intro i
  rw [List.getElem?_set]
  rw [markL_len]
  unfold markL
  by_cases e : j = i
  · subst e
    rw [if_pos rfl, if_pos hl, List.getElem?_append_left (by simp; omega)]
    simp [h]
  · rw [if_neg e]
    by_cases hij : i < j
    · rw [List.getElem?_append_left (by simp; omega), List.getElem?_append_left (by simp; omega)]
      simp [hij, Nat.lt_succ_of_lt hij]
    · rw [List.getElem?_append_right (by simp; omega), List.getElem?_append_right (by simp; omega)]
      simp
      rw [Nat.min_eq_left (by omega), Nat.min_eq_left (by omega)]
      congr 1
      omega
theorem markL_all (nm : List UInt8) (F : En → En) (l : List Rf) : markL nm F l l.length = l.map (mkR nm F) := by simp [markL]
theorem mkR_fst (nm : List UInt8) (F : En → En) (z : Rf) : (mkR nm F z).1 = z.1 := by
  unfold mkR
  split <;> rfl
theorem staleE_ok {x : En} (h : x.ok) : (staleE x).ok := ⟨h.v, h.ver, h.inc⟩
theorem loseE_ok {x : En} (h : x.ok) : (loseE x).ok := ⟨h.v, h.ver, h.inc⟩
theorem RefAt.mark {w w' : World} {v : Value} {l : List Rf} {M : Lk → Option En} (h : RefAt w v l M) (nm : List UInt8) (F : En → En) (hF : ∀ x : En, x.ok → (F x).ok) (hr : Rw w' 65 14 v l.length (rfCells (l.map (mkR nm F)))) : RefAt w' v (l.map (mkR nm F)) (MB M F nm) := by
  have hm : (l.map (mkR nm F)).map Prod.fst = l.map Prod.fst := by
    rw [List.map_map]
    exact List.map_congr_left fun z _ => mkR_fst nm F z
  refine ⟨by simpa using hr, by rw [hm]; exact h.s, fun y hy => ?_, fun x hx => ⟨fun y hy e => ?_, fun hno => ?_⟩⟩
  · obtain ⟨z, hz, rfl⟩ := List.mem_map.1 hy
    unfold mkR
    have := h.ok z hz
    split
    · exact ⟨this.1, hF _ this.2⟩
    · exact this
  · obtain ⟨z, hz, rfl⟩ := List.mem_map.1 hy
    rw [mkR_fst] at e
    have := (h.m x hx).1 z hz e
    unfold MB mkR
    rw [e, this]
    split <;> rfl
  · have h0 : ∀ z ∈ l, z.1 ≠ x := fun z hz e => hno _ (List.mem_map_of_mem hz) (by rw [mkR_fst]; exact e)
    have := (h.m x hx).2 h0
    unfold MB
    rw [this]
    simp

set_option maxHeartbeats 3200000 in
theorem RMarkLose_any (w : World) (va : Option Addr) (vc : Nat) (l : List Rf) (M : Lk → Option En) (h : RefAt w (.slice va l.length vc) l M) (hl : l.length ≤ 1000000) (nm : List UInt8) :
    Calls Try.prog 34 #[.slice va l.length vc, enS nm, .bool true] w fun e w' => e = .returned (.tuple #[]) ∧ RefAt w' (.slice va l.length vc) (l.map (mkR nm loseE)) (MB M loseE nm) ∧ Upd w w' (fun k => (Value.slice va l.length vc).ownBlock = some k) := by
  have HH := hide (fun w' => h.mark (w' := w') nm loseE (fun x => loseE_ok))
  have hr := h.r
  obtain ⟨N, hN⟩ : ∃ N, l.length = N := ⟨_, rfl⟩
  rw [hN] at HH hr hl ⊢
  have HN := hide hN
  have HR := hide hr
  clear hN hr h
  go_enter Try.func34, Try.ntmps34
  go_wp2_with fail
  go_loopg [6] N (fun q iv wr => ∃ j : Nat, j + q = N ∧ iv = .int .i64 j ∧ Rw wr 65 14 (.slice va N vc) N (rfCells (markL nm loseE l j)) ∧ Upd w wr (fun k => (Value.slice va N vc).ownBlock = some k))
  case atStart => exact ⟨0, by omega, rfl, by simpa [markL] using HR.out, Upd.refl _ _⟩
  case round =>
    obtain ⟨j, hj, rfl, hra, hu⟩ := hrel
    by_cases hjN : j < N
    · obtain ⟨z, hz⟩ : ∃ z, l[j]? = some z := ⟨_, List.getElem?_eq_getElem (by rw [HN.out]; exact hjN)⟩
      obtain ⟨g, off, rfl, hg, hc⟩ := rf_at hra j z (markL_get hz) hjN
      have d0 := hc 0 _ rfl
      have d12 := hc 12 _ rfl
      have d13 := hc 13 _ rfl
      rw [Nat.add_zero] at d0
      have fr := fun o => Rw.free hra o
      simp only at fr
      have f12 := fr (off + j * 14 + 12)
      have f13 := fr (off + j * 14 + 13)
      have hj0 : (0 : Int) ≤ (j : Int) := by omega
      have hj1 : (j : Int) < (N : Int) := by omega
      have HNX := hide (markL_next (nm := nm) (F := loseE) hz)
      have HMG := hide (markL_get (nm := nm) (F := loseE) hz)
      have HRA := hide hra
      have HU := hide hu
      clear hc fr hz hra hu
      by_cases hb : z.1.b = nm
      · have HE : Hid (mkR nm loseE z = (z.1, loseE z.2)) := hide (by unfold mkR; rw [if_pos hb])
        obtain ⟨⟨xb, xs, xc, xr⟩, ⟨xv, ver, inc, has, stale, lost⟩⟩ := z
        simp only at hb d0 d12 d13
        subst hb
        go_wp2_with fail
        go_roundg (gk - 1)
        case measure => omega
        case rel =>
          refine ⟨j + 1, by omega, by go_num, ?_, ?_⟩
          · rw [HNX.out, HE.out]
            have r1 := Rw.set HRA.out (j * 14 + 13) (.bool true) (by omega)
            have r2 := Rw.set r1 (j * 14 + 12) (.bool false) (by omega)
            rw [rf_set_one _ j _ (⟨xb, xs, xc, xr⟩, ⟨xv, ver, inc, has, stale, true⟩) HMG.out 13 (by omega) _ rfl, rf_set_one _ j (⟨xb, xs, xc, xr⟩, ⟨xv, ver, inc, has, stale, true⟩) (⟨xb, xs, xc, xr⟩, ⟨xv, ver, inc, has, false, true⟩) (List.getElem?_set_self (by rw [markL_len, HN.out]; exact hjN)) 12 (by omega) _ rfl, List.set_set] at r2
            exact r2
          · exact (HU.out.setCell ⟨g, off + j * 14 + 13, none⟩ _ (.inr rfl)).setCell ⟨g, off + j * 14 + 12, none⟩ _ (.inr rfl)
      · have HE : Hid (mkR nm loseE z = z) := hide (by unfold mkR; rw [if_neg hb])
        have hb' : (z.1.b == nm) = false := by simpa using hb
        have HS : Hid (markL nm loseE l (j + 1) = markL nm loseE l j) := hide (by
          rw [HNX.out, HE.out]
          exact set_self HMG.out)
        clear hb
        obtain ⟨⟨xb, xs, xc, xr⟩, ze⟩ := z
        simp only at hb' d0 d12 d13
        go_wp2_with fail
        go_roundg (gk - 1)
        case measure => omega
        case rel => exact ⟨j + 1, by omega, by go_num, by rw [HS.out]; exact HRA.out, HU.out⟩
    · have hj1 : ¬ (j : Int) < (N : Int) := by omega
      have hjN' : j = N := by omega
      subst hjN'
      have hra' := hra
      rw [← HN.out, markL_all, HN.out] at hra'
      have HF := hide (HH.out _ hra')
      have HU := hide hu
      clear hra hra' hu HH
      go_wp2_with fail
      go_end0
      exact ⟨rfl, HF.out, HU.out⟩

set_option maxHeartbeats 3200000 in
theorem RMarkStale_any (w : World) (va : Option Addr) (vc : Nat) (l : List Rf) (M : Lk → Option En) (h : RefAt w (.slice va l.length vc) l M) (hl : l.length ≤ 1000000) (nm : List UInt8) :
    Calls Try.prog 34 #[.slice va l.length vc, enS nm, .bool false] w fun e w' => e = .returned (.tuple #[]) ∧ RefAt w' (.slice va l.length vc) (l.map (mkR nm staleE)) (MB M staleE nm) ∧ Upd w w' (fun k => (Value.slice va l.length vc).ownBlock = some k) := by
  have HH := hide (fun w' => h.mark (w' := w') nm staleE (fun x => staleE_ok))
  have hr := h.r
  obtain ⟨N, hN⟩ : ∃ N, l.length = N := ⟨_, rfl⟩
  rw [hN] at HH hr hl ⊢
  have HN := hide hN
  have HR := hide hr
  clear hN hr h
  go_enter Try.func34, Try.ntmps34
  go_wp2_with fail
  go_loopg [6] N (fun q iv wr => ∃ j : Nat, j + q = N ∧ iv = .int .i64 j ∧ Rw wr 65 14 (.slice va N vc) N (rfCells (markL nm staleE l j)) ∧ Upd w wr (fun k => (Value.slice va N vc).ownBlock = some k))
  case atStart => exact ⟨0, by omega, rfl, by simpa [markL] using HR.out, Upd.refl _ _⟩
  case round =>
    obtain ⟨j, hj, rfl, hra, hu⟩ := hrel
    by_cases hjN : j < N
    · obtain ⟨z, hz⟩ : ∃ z, l[j]? = some z := ⟨_, List.getElem?_eq_getElem (by rw [HN.out]; exact hjN)⟩
      obtain ⟨g, off, rfl, hg, hc⟩ := rf_at hra j z (markL_get hz) hjN
      have d0 := hc 0 _ rfl
      have d12 := hc 12 _ rfl
      have d13 := hc 13 _ rfl
      rw [Nat.add_zero] at d0
      have fr := fun o => Rw.free hra o
      simp only at fr
      have f12 := fr (off + j * 14 + 12)
      have f13 := fr (off + j * 14 + 13)
      have hj0 : (0 : Int) ≤ (j : Int) := by omega
      have hj1 : (j : Int) < (N : Int) := by omega
      have HNX := hide (markL_next (nm := nm) (F := staleE) hz)
      have HMG := hide (markL_get (nm := nm) (F := staleE) hz)
      have HRA := hide hra
      have HU := hide hu
      clear hc fr hz hra hu
      by_cases hb : z.1.b = nm
      · have HE : Hid (mkR nm staleE z = (z.1, staleE z.2)) := hide (by unfold mkR; rw [if_pos hb])
        obtain ⟨⟨xb, xs, xc, xr⟩, ⟨xv, ver, inc, has, stale, lost⟩⟩ := z
        simp only at hb d0 d12 d13
        subst hb
        go_wp2_with fail
        go_roundg (gk - 1)
        case measure => omega
        case rel =>
          refine ⟨j + 1, by omega, by go_num, ?_, ?_⟩
          · rw [HNX.out, HE.out]
            have r2 := Rw.set HRA.out (j * 14 + 12) (.bool true) (by omega)
            rw [rf_set_one _ j _ (⟨xb, xs, xc, xr⟩, ⟨xv, ver, inc, has, true, lost⟩) HMG.out 12 (by omega) _ rfl] at r2
            exact r2
          · exact HU.out.setCell ⟨g, off + j * 14 + 12, none⟩ _ (.inr rfl)
      · have HE : Hid (mkR nm staleE z = z) := hide (by unfold mkR; rw [if_neg hb])
        have hb' : (z.1.b == nm) = false := by simpa using hb
        have HS : Hid (markL nm staleE l (j + 1) = markL nm staleE l j) := hide (by
          rw [HNX.out, HE.out]
          exact set_self HMG.out)
        clear hb
        obtain ⟨⟨xb, xs, xc, xr⟩, ze⟩ := z
        simp only at hb' d0 d12 d13
        go_wp2_with fail
        go_roundg (gk - 1)
        case measure => omega
        case rel => exact ⟨j + 1, by omega, by go_num, by rw [HS.out]; exact HRA.out, HU.out⟩
    · have hj1 : ¬ (j : Int) < (N : Int) := by omega
      have hjN' : j = N := by omega
      subst hjN'
      have hra' := hra
      rw [← HN.out, markL_all, HN.out] at hra'
      have HF := hide (HH.out _ hra')
      have HU := hide hu
      clear hra hra' hu HH
      go_wp2_with fail
      go_end0
      exact ⟨rfl, HF.out, HU.out⟩

end Go.Proofs.Ytcclkfkdafmemaa
