/- The reference's web in memory; find, Tells, Reads. -/
import Derived.Test.YtcdimledeomahaaWebR
set_option maxRecDepth 100000
namespace Go.Proofs.Ytcdimledeomahaa
open Go.RowKit Go.Lat

/-- What a book told, by the reference. -/
structure Kn where
  n : List UInt8
  ver : Int
  es : List Ed
def KnRow (xs : List Value) (i : Nat) (k : Kn) (ev : Value) : Prop := xs[i * 3]? = some (encStr k.n) ∧ xs[i * 3 + 1]? = some (.int .i64 k.ver) ∧ xs[i * 3 + 2]? = some ev
/-- The reference's web. -/
structure RfAt (w : World) (rb : Nat) (lv : Value) (xs : List Value) (KL : List Kn) : Prop where
  c : w.heap[rb]? = some (.cells #[lv] 58 (0, 0))
  r : Rw w 108 3 lv KL.length xs
  one : ∀ u ∈ xs, u.oneCell' = true
  rows : ∀ i k, KL[i]? = some k → ∃ ea ec, KnRow xs i k (.slice ea k.es.length ec) ∧ ResAt w (fun _ => True) (.slice ea k.es.length ec) k.es

theorem kn_at {w : World} {sa : Option Addr} {n c : Nat} {xs : List Value} (h : Rw w 108 3 (.slice sa n c) n xs) {j : Nat} {k : Kn} {ev : Value} (hr : KnRow xs j k ev) (hj : j < n) :
    ∃ g off, sa = some ⟨g, off, none⟩ ∧ g < w.heap.size ∧ w.cell? ⟨g, off + j * 3, none⟩ = some (encStr k.n) ∧ w.cell? ⟨g, off + j * 3 + 1, none⟩ = some (.int .i64 k.ver) ∧ w.cell? ⟨g, off + j * 3 + 2, none⟩ = some ev := by
  obtain ⟨g, off, cap, hv, hg, hc⟩ := Rw.pos h (by omega)
  simp at hv
  obtain ⟨c0, c1, c2⟩ := hr
  exact ⟨g, off, hv.1, hg, hc _ _ c0, hc _ _ c1, hc _ _ c2⟩

/-- Where a name stands. -/
def Stands (KL : List Kn) (s : List UInt8) (r : Int) : Prop :=
  (r = -1 ∧ ∀ k ∈ KL, k.n ≠ s) ∨ ∃ (i : Nat) (k : Kn), r = i ∧ KL[i]? = some k ∧ k.n = s ∧ ∀ (j : Nat) (k : Kn), j < i → KL[j]? = some k → k.n ≠ s

set_option maxHeartbeats 800000 in
theorem find_any (w : World) (rb : Nat) (lv : Value) (xs : List Value) (KL : List Kn) (h : RfAt w rb lv xs KL) (hl : KL.length ≤ 1000000) (s : List UInt8) :
    Calls Try.prog 32 #[.pointer (some ⟨rb, 0, none⟩), encStr s] w fun e w' => w' = w ∧ ∃ r, e = .returned (.int .i64 r) ∧ Stands KL s r := by
  obtain ⟨sa, sc, rfl, -⟩ := Rw.form h.r
  have c0 := cells1 h.c
  obtain ⟨N, hN⟩ : ∃ N, KL.length = N := ⟨_, rfl⟩
  have hr := h.r
  have hrows := h.rows
  rw [hN] at hr c0 hl
  have HN := hide hN
  have HR := hide hr
  have HW := hide hrows
  clear hN hr hrows
  go_enter Try.func32, Try.ntmps32
  go_wp2_with fail
  go_loopg [5] N (fun q iv wr => ∃ k : Nat, k + q = N ∧ iv = .int .i64 k ∧ wr = w ∧ ∀ (j : Nat) (k' : Kn), j < k → KL[j]? = some k' → k'.n ≠ s)
  case atStart => exact ⟨0, by omega, rfl, rfl, fun j k' hj => absurd hj (by omega)⟩
  case round =>
    obtain ⟨k, hk, rfl, rfl, hno⟩ := hrel
    have HNO := hide hno
    clear hno
    by_cases hkN : k < N
    · obtain ⟨o, ho⟩ : ∃ o, KL[k]? = some o := ⟨_, List.getElem?_eq_getElem (by rw [HN.out]; exact hkN)⟩
      obtain ⟨ea, ec, hrow, -⟩ := HW.out k o ho
      obtain ⟨g, off, rfl, hg, d0, d1, d2⟩ := kn_at HR.out hrow hkN
      have HO := hide ho
      have hk0 : (0 : Int) ≤ (k : Int) := by omega
      have hk1 : (k : Int) < (N : Int) := by omega
      clear ho hrow
      obtain ⟨on, over, oes⟩ := o
      simp only at d0 d1 d2
      by_cases h1 : on = s
      · have hb : (on == s) = true := by simpa using h1
        have H1 := hide h1
        clear h1
        go_wp2_with fail
        go_ret
        exact ⟨rfl, k, rfl, .inr ⟨k, _, rfl, HO.out, H1.out, HNO.out⟩⟩
      · have hb : (on == s) = false := by simpa using h1
        have H1 := hide h1
        clear h1
        have w1 : IntKind.i64.wrap ((k : Int) + 1) = (k : Int) + 1 := IntWalk.i64_in _ (by omega)
        go_wp2_with fail
        go_roundg (gk - 1)
        case measure => omega
        case rel =>
          refine ⟨k + 1, by omega, by go_num, rfl, fun j k' hj hk' => ?_⟩
          by_cases hjk : j = k
          · subst hjk
            rw [HO.out] at hk'
            cases hk'
            exact H1.out
          · exact HNO.out j k' (by omega) hk'
    · go_wp2_with fail
      go_ret
      refine ⟨rfl, -1, rfl, .inl ⟨rfl, fun k' hk' => ?_⟩⟩
      obtain ⟨j, hj⟩ := List.getElem?_of_mem hk'
      exact HNO.out j k' (by have := (List.getElem?_eq_some_iff.1 hj).1; rw [HN.out] at this; omega) hj

/-- What the list says of a name. -/
def told (KL : List Kn) (s : List UInt8) : Option (Int × List Ed) := (KL.find? (fun k => decide (k.n = s))).map fun k => (k.ver, k.es)
theorem told_none {KL : List Kn} {s : List UInt8} (h : ∀ k ∈ KL, k.n ≠ s) : told KL s = none := by
  unfold told
  rw [List.find?_eq_none.2 (fun k hk => by simpa using h k hk)]
  rfl
theorem told_some {KL : List Kn} {s : List UInt8} {i : Nat} {k : Kn} (hk : KL[i]? = some k) (hn : k.n = s) (h : ∀ (j : Nat) (k : Kn), j < i → KL[j]? = some k → k.n ≠ s) : told KL s = some (k.ver, k.es) := by
  have : KL.find? (fun k => decide (k.n = s)) = some k := by
    rw [List.find?_eq_some_iff_getElem]
    obtain ⟨hl, hk'⟩ := List.getElem?_eq_some_iff.1 hk
    refine ⟨by simpa using hn, i, hl, hk', fun j hj => ?_⟩
    simpa using h j _ hj (List.getElem?_eq_getElem (by omega))
  unfold told
  rw [this]
  rfl

theorem Tells_any (w : World) (rb : Nat) (lv : Value) (xs : List Value) (KL : List Kn) (h : RfAt w rb lv xs KL) (hl : KL.length ≤ 1000000) (s : List UInt8) :
    Calls Try.prog 16 #[.pointer (some ⟨rb, 0, none⟩), encStr s] w fun e w' => (∃ n, w' = w.drewN n) ∧ ((told KL s = none ∧ e = .returned (.tuple #[.int .i64 0, .int .i64 0])) ∨ ∃ ver es, told KL s = some (ver, es) ∧ e = .returned (.tuple #[.int .i64 ver, .int .i64 (es.length : Nat)])) := by
  have FI := find_any w rb lv xs KL h hl s
  obtain ⟨sa, sc, rfl, -⟩ := Rw.form h.r
  have c0 := cells1 h.c
  have HR := hide h.r
  have HW := hide h.rows
  go_enter Try.func16, Try.ntmps16
  go_wp2_with fail
  refine Calls.mono FI ?_
  rintro e w' ⟨hw, r, rfl, hs⟩
  replace hw := hw.symm
  subst hw
  rcases hs with ⟨rfl, hno⟩ | ⟨i, k, rfl, hi, hn, hno⟩
  · have ht := hide (told_none hno)
    clear hno
    go_wp2_with fail
    go_ret2
    exact ⟨⟨0, rfl⟩, .inl ⟨ht.out, rfl⟩⟩
  · have ht := hide (told_some hi hn hno)
    obtain ⟨ea, ec, hrow, -⟩ := HW.out i k hi
    have hil : i < KL.length := (List.getElem?_eq_some_iff.1 hi).1
    obtain ⟨g, off, rfl, hg, d0, d1, d2⟩ := kn_at HR.out hrow hil
    have hi0 : decide ((i : Int) < 0) = false := by simp
    have hi1 : (0 : Int) ≤ (i : Int) := by omega
    have hi2 : (i : Int) < (KL.length : Int) := by omega
    clear hno hi hn hrow
    go_wp2_with fail
    go_quiet (fail)
    go_wp2_with fail
    go_ret2
    exact ⟨⟨_, rfl⟩, .inr ⟨_, _, ht.out, rfl⟩⟩
end Go.Proofs.Ytcdimledeomahaa
