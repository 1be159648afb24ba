/- The walks of latticeref16's texts and Ahead: which of two links comes ahead. -/
import Derived.Test.YtcclkfkdafmemaaCaD
set_option maxRecDepth 100000
namespace Go.Proofs.Ytcclkfkdafmemaa
open Go.RowKit Go.Lat

theorem lt_cons8 {x y : UInt8} {a b : List UInt8} : (x :: a) < (y :: b) ↔ x < y ∨ (x = y ∧ a < b) := List.cons_lt_cons_iff
theorem lt_drop : ∀ {a b : List UInt8} (n : Nat), a.take n = b.take n → (a < b ↔ a.drop n < b.drop n)
  | a, b, 0, _ => by simp
  | [], [], n + 1, _ => by simp
  | [], y :: b, n + 1, h => by simp at h
  | x :: a, [], n + 1, h => by simp at h
  | x :: a, y :: b, n + 1, h => by
    simp only [List.take_succ_cons, List.cons.injEq] at h
    obtain ⟨rfl, h⟩ := h
    rw [lt_cons8, List.drop_succ_cons, List.drop_succ_cons, ← lt_drop n h]
    constructor
    · rintro (q | ⟨_, q⟩)
      · exact absurd q (by simp)
      · exact q
    · exact fun q => .inr ⟨rfl, q⟩
theorem less_at {a b : List UInt8} {j : Nat} {x y : UInt8} (ht : a.take j = b.take j) (hx : a[j]? = some x) (hy : b[j]? = some y) (hne : x ≠ y) : (a < b) ↔ x < y := by
  obtain ⟨h1, e1⟩ := List.getElem?_eq_some_iff.1 hx
  obtain ⟨h2, e2⟩ := List.getElem?_eq_some_iff.1 hy
  rw [lt_drop j ht, List.drop_eq_getElem_cons h1, List.drop_eq_getElem_cons h2, e1, e2, lt_cons8]
  constructor
  · rintro (q | ⟨q, _⟩)
    · exact q
    · exact absurd q hne
  · exact .inl
theorem less_end {a b : List UInt8} {j : Nat} (ht : a.take j = b.take j) (hj : j = a.length ∨ j = b.length) (h1 : j ≤ a.length) (h2 : j ≤ b.length) : (a < b) ↔ a.length < b.length := by
  rw [lt_drop j ht]
  rcases hj with e | e
  · rw [List.drop_eq_nil_of_le (by omega)]
    by_cases h : a.length < b.length
    · obtain ⟨x, hx⟩ : ∃ x, b[j]? = some x := ⟨_, List.getElem?_eq_getElem (by omega)⟩
      obtain ⟨h3, e3⟩ := List.getElem?_eq_some_iff.1 hx
      rw [List.drop_eq_getElem_cons h3]
      exact ⟨fun _ => h, fun _ => List.nil_lt_cons _ _⟩
    · rw [List.drop_eq_nil_of_le (by omega)]
      simp [h]
  · have e0 : b.drop j = [] := List.drop_eq_nil_of_le (by omega)
    have : ¬ a.length < b.length := by omega
    rw [e0]
    simp [this]
theorem take_next {a b : List UInt8} {j : Nat} {x : UInt8} (ht : a.take j = b.take j) (hx : a[j]? = some x) (hy : b[j]? = some x) : a.take (j + 1) = b.take (j + 1) := by
  rw [List.take_add_one, List.take_add_one, ht, hx, hy]

theorem texts_any (w : World) (a b : List UInt8) (ha : a.length ≤ maxLen) (hb : b.length ≤ maxLen) :
    Calls Try.prog 60 #[enS a, enS b] w fun e w' => e = .returned (.bool (decide (a < b))) ∧ ∃ n, w' = w.drewN n := by
  obtain ⟨N, hN⟩ : ∃ N, min a.length b.length = N := ⟨_, rfl⟩
  obtain ⟨sa, hsa⟩ : ∃ s : ByteArray, ⟨a.toArray⟩ = s := ⟨_, rfl⟩
  obtain ⟨sb, hsb⟩ : ∃ s : ByteArray, ⟨b.toArray⟩ = s := ⟨_, rfl⟩
  have za : sa.size = a.length := by rw [← hsa]; rfl
  have zb : sb.size = b.length := by rw [← hsb]; rfl
  have ga : ∀ (j : Nat) (h : j < sa.size) (x : UInt8), a[j]? = some x → sa[j] = x := by
    subst hsa
    intro j h x hx
    obtain ⟨h1, e1⟩ := List.getElem?_eq_some_iff.1 hx
    rw [← e1]
    rfl
  have gb : ∀ (j : Nat) (h : j < sb.size) (x : UInt8), b[j]? = some x → sb[j] = x := by
    subst hsb
    intro j h x hx
    obtain ⟨h1, e1⟩ := List.getElem?_eq_some_iff.1 hx
    rw [← e1]
    rfl
  change Calls Try.prog 60 #[.string ⟨a.toArray⟩, .string ⟨b.toArray⟩] w _
  rw [hsa, hsb]
  have HZA := hide za
  have HZB := hide zb
  have HGA := hide ga
  have HGB := hide gb
  have HN := hide hN
  have mA : sa.size ≤ maxLen := by omega
  have mB : sb.size ≤ maxLen := by omega
  unfold maxLen at mA mB
  clear za zb ga gb hN hsa hsb
  go_enter Try.func60, Try.ntmps60
  go_wp2_with fail
  go_loopg [5] N (fun q iv wr => (∃ n, wr = w.drewN n) ∧ ∃ j : Nat, j + q = N ∧ iv = .int .i64 j ∧ a.take j = b.take j)
  case atStart => exact ⟨⟨0, rfl⟩, 0, by omega, rfl, by simp⟩
  case round =>
    obtain ⟨hw, j, hj, rfl, ht⟩ := hrel
    have HW := hide hw
    have HT := hide ht
    clear hw ht
    by_cases hja : j < sa.size
    · have k0 : (0 : Int) ≤ (j : Int) := by omega
      have k1 : (j : Int) < (sa.size : Int) := by omega
      by_cases hjb : j < sb.size
      · have k2 : (j : Int) < (sb.size : Int) := by omega
        obtain ⟨x, hx⟩ : ∃ x, a[j]? = some x := ⟨_, List.getElem?_eq_getElem (by have := HZA.out; omega)⟩
        obtain ⟨y, hy⟩ : ∃ y, b[j]? = some y := ⟨_, List.getElem?_eq_getElem (by have := HZB.out; omega)⟩
        have ex := HGA.out j hja x hx
        have ey := HGB.out j hjb y hy
        have HX := hide hx
        have HY := hide hy
        clear hx hy
        by_cases hxy : x = y
        · subst hxy
          go_wp2_with fail
          go_quiet (fail)
          go_wp2_with fail
          go_roundg (gk - 1)
          case measure => have := HZA.out; have := HZB.out; have := HN.out; omega
          case rel =>
            obtain ⟨n, rfl⟩ := HW.out
            refine ⟨⟨n + nq, by first | rfl | (rw [World.drewN_drewN])⟩, j + 1, by have := HZA.out; have := HZB.out; have := HN.out; omega, by go_num, take_next HT.out HX.out HY.out⟩
        · have hne : ((x.toNat : Int) == (y.toNat : Int)) = false := by
            have : x.toNat ≠ y.toNat := fun e => hxy (UInt8.toNat_inj.1 e)
            simp; omega
          have hne' : (x.toNat == y.toNat) = false := by
            have : x.toNat ≠ y.toNat := fun e => hxy (UInt8.toNat_inj.1 e)
            simpa using this
          have HR := hide (less_at HT.out HX.out HY.out hxy)
          clear hxy
          go_wp2_with fail
          go_quiet (fail)
          go_wp2_with fail
          go_quiet (fail)
          go_wp2_with fail
          go_ret
          have hv : decide (a < b) = decide (x.toNat < y.toNat) := by rw [decide_eq_decide, HR.out]; exact UInt8.lt_iff_toNat_lt
          obtain ⟨n, rfl⟩ := HW.out
          exact ⟨by rw [hv]; first | rfl | simp, _, by rw [World.drewN_drewN, World.drewN_drewN]⟩
      · have k2 : ¬ (j : Int) < (sb.size : Int) := by omega
        go_wp2_with fail
        go_ret
        have hv : decide (a < b) = decide (sa.size < sb.size) := by
          rw [HZA.out, HZB.out, decide_eq_decide]
          have := HZA.out
          have := HZB.out
          have := HN.out
          exact less_end HT.out (by omega) (by omega) (by omega)
        exact ⟨by rw [hv]; first | rfl | simp, HW.out⟩
    · have k2 : ¬ (j : Int) < (sa.size : Int) := by omega
      go_wp2_with fail
      go_ret
      have hv : decide (a < b) = decide (sa.size < sb.size) := by
        rw [HZA.out, HZB.out, decide_eq_decide]
        have := HZA.out
        have := HZB.out
        have := HN.out
        exact less_end HT.out (by omega) (by omega) (by omega)
      exact ⟨by rw [hv]; first | rfl | simp, HW.out⟩

instance (x y : Lk) : Decidable (ltP x y) := by unfold ltP; infer_instance
theorem ltP_b {x y : Lk} (h : x.b ≠ y.b) : ltP x y ↔ x.b < y.b := by
  unfold ltP
  simp [h]
theorem ltP_s {x y : Lk} (h0 : x.b = y.b) (h : x.s ≠ y.s) : ltP x y ↔ x.s < y.s := by
  unfold ltP
  simp [h0, h, List.lt_irrefl]
theorem ltP_r {x y : Lk} (h0 : x.b = y.b) (h1 : x.s = y.s) (h : x.r ≠ y.r) : ltP x y ↔ x.r < y.r := by
  unfold ltP
  simp [h0, h1, h, List.lt_irrefl]
theorem ltP_c {x y : Lk} (h0 : x.b = y.b) (h1 : x.s = y.s) (h : x.r = y.r) : ltP x y ↔ x.c < y.c := by
  unfold ltP
  simp [h0, h1, h, List.lt_irrefl]
set_option maxHeartbeats 1600000 in
theorem Ahead_any (w : World) (x y : Lk) (hx : x.ok) (hy : y.ok) :
    Calls Try.prog 52 #[x.val, y.val] w fun e w' => e = .returned (.bool (decide (ltP x y))) ∧ Upd w w' (fun _ => False) := by
  have hB := fun h => ltP_b (x := x) (y := y) h
  have hS := fun h0 h => ltP_s (x := x) (y := y) h0 h
  have hR := fun h0 h1 h => ltP_r (x := x) (y := y) h0 h1 h
  have hC := fun h0 h1 h => ltP_c (x := x) (y := y) h0 h1 h
  obtain ⟨q, hq⟩ : ∃ q, decide (ltP x y) = q := ⟨_, rfl⟩
  rw [hq]
  obtain ⟨xb, xs, xc, xr⟩ := x
  obtain ⟨yb, ys, yc, yr⟩ := y
  have TB := fun w => texts_any w xb yb hx.b hy.b
  have TS := fun w => texts_any w xs ys hx.s hy.s
  unfold Lk.val
  simp only at hB hS hR hC ⊢
  have HTB := hide TB
  have HTS := hide TS
  clear TB TS hx hy
  by_cases h0 : xb = yb
  · subst h0
    by_cases h1 : xs = ys
    · subst h1
      by_cases h2 : xr = yr
      · subst h2
        have hq' : decide (xc < yc) = q := by rw [← hq, decide_eq_decide]; exact (hC rfl rfl rfl).symm
        clear hB hS hR hC hq
        go_enter Try.func52, Try.ntmps52
        go_wp2_with fail
        go_ret
        exact ⟨rfl, (((Upd.refl w _).alloc _).alloc _)⟩
      · have hq' : decide (xr < yr) = q := by rw [← hq, decide_eq_decide]; exact (hR rfl rfl h2).symm
        have hz : (xr == yr) = false := by simpa using h2
        clear hB hS hR hC hq
        go_enter Try.func52, Try.ntmps52
        go_wp2_with fail
        go_ret
        exact ⟨rfl, (((Upd.refl w _).alloc _).alloc _)⟩
    · have hq' : decide (xs < ys) = q := by rw [← hq, decide_eq_decide]; exact (hS rfl h1).symm
      have hz : (xs == ys) = false := by simpa using h1
      clear hB hS hR hC hq
      have HQ := hide hq'
      clear hq'
      go_enter Try.func52, Try.ntmps52
      go_wp2_with (go_at_call 60; refine Calls.mono (HTS.out _) ?_; rintro e w1 ⟨rfl, n, rfl⟩)
      go_ret
      exact ⟨by rw [HQ.out]; rfl, (((Upd.refl w _).alloc _).alloc _).drewN n⟩
  · have hq' : decide (xb < yb) = q := by rw [← hq, decide_eq_decide]; exact (hB h0).symm
    have hz : (xb == yb) = false := by simpa using h0
    clear hB hS hR hC hq
    have HQ := hide hq'
    clear hq'
    go_enter Try.func52, Try.ntmps52
    go_wp2_with (go_at_call 60; refine Calls.mono (HTB.out _) ?_; rintro e w1 ⟨rfl, n, rfl⟩)
    go_ret
    exact ⟨by rw [HQ.out]; rfl, (((Upd.refl w _).alloc _).alloc _).drewN n⟩
end Go.Proofs.Ytcclkfkdafmemaa
