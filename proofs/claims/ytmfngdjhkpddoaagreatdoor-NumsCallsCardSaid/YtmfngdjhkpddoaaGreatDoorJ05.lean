/- Plain laws on digits: a number's digits, the lowest first. -/
import Derived.Test.YtmfngdjhkpddoaaGreatDoorJ01
import Derived.Laws.OwnMore
import Derived.Deep.OwnRows
/- Plain laws on digits: a number's digits, the lowest first. -/
namespace Go.Lat

/-- What a list of places stands for. -/
def val : List Nat → Nat
  | [] => 0
  | d :: l => d + 10 * val l
/-- The digits of a number, the lowest first; none of 0. -/
def dg (n : Nat) : List Nat := if h : n = 0 then [] else n % 10 :: dg (n / 10)
termination_by n
decreasing_by omega

theorem dg_zero : dg 0 = [] := by rw [dg]; simp
theorem dg_pos {n : Nat} (h : n ≠ 0) : dg n = n % 10 :: dg (n / 10) := by rw [dg, dif_neg h]
theorem val_dg (n : Nat) : val (dg n) = n := by
  induction n using Nat.strongRecOn with
  | ind n ih =>
    by_cases h : n = 0
    · subst h; rw [dg_zero]; rfl
    · rw [dg_pos h]
      simp only [val]
      rw [ih (n / 10) (by omega)]
      omega

/-- Digits, and no nought above. -/
def Norm (l : List Nat) : Prop := (∀ d ∈ l, d < 10) ∧ ∀ h : l ≠ [], l.getLast h ≠ 0

theorem dg_norm (n : Nat) : Norm (dg n) := by
  induction n using Nat.strongRecOn with
  | ind n ih =>
    by_cases h : n = 0
    · subst h; rw [dg_zero]; exact ⟨by simp, fun h => absurd rfl h⟩
    · obtain ⟨h1, h2⟩ := ih (n / 10) (by omega)
      rw [dg_pos h]
      refine ⟨?_, fun _ => ?_⟩
      · intro d hd
        rcases List.mem_cons.1 hd with e | e
        · subst e; omega
        · exact h1 d e
      · by_cases h3 : n / 10 = 0
        · simp only [h3, dg_zero, List.getLast_singleton]
          omega
        · have hne : dg (n / 10) ≠ [] := by rw [dg_pos h3]; simp
          rw [List.getLast_cons hne]
          exact h2 hne

theorem val_append (a b : List Nat) : val (a ++ b) = val a + 10 ^ a.length * val b := by
  induction a with
  | nil => simp [val]
  | cons d l ih =>
    simp only [List.cons_append, val, ih, List.length_cons, Nat.pow_succ]
    rw [Nat.mul_add, Nat.mul_comm (10 ^ l.length) 10, Nat.mul_assoc, ← Nat.add_assoc]
theorem val_lt (l : List Nat) (h : ∀ d ∈ l, d < 10) : val l < 10 ^ l.length := by
  induction l with
  | nil => simp [val]
  | cons d l ih =>
    have h1 := ih (fun x hx => h x (by simp [hx]))
    have h2 := h d (by simp)
    simp only [val, List.length_cons, Nat.pow_succ]
    omega

/-- Digits without noughts above are told by what they stand for. -/
theorem norm_dg : ∀ (l : List Nat), Norm l → l = dg (val l)
  | [], _ => by simp [val, dg_zero]
  | d :: l, h => by
    have hd : d < 10 := h.1 d (by simp)
    have hn : Norm l := by
      refine ⟨fun x hx => h.1 x (by simp [hx]), fun hne => ?_⟩
      have := h.2 (by simp)
      rwa [List.getLast_cons hne] at this
    have ih := norm_dg l hn
    have hv : d + 10 * val l ≠ 0 := by
      intro h0
      have hv0 : val l = 0 := by omega
      have hl : l = [] := by rw [ih, hv0, dg_zero]
      subst hl
      have := h.2 (by simp)
      simp at this
      omega
    simp only [val]
    rw [dg_pos hv, show (d + 10 * val l) % 10 = d from by omega, show (d + 10 * val l) / 10 = val l from by omega, ← ih]

theorem dg_len_lt {a b : Nat} (h : (dg a).length < (dg b).length) : a < b := by
  have h1 := val_lt (dg a) (dg_norm a).1
  rw [val_dg] at h1
  have hb : b ≠ 0 := by intro e; subst e; rw [dg_zero] at h; simp at h
  have h2 : 10 ^ ((dg b).length - 1) ≤ b := by
    clear h h1
    induction b using Nat.strongRecOn with
    | ind n ih =>
      rw [dg_pos hb]
      by_cases h3 : n / 10 = 0
      · rw [h3, dg_zero]; simp; omega
      · have := ih (n / 10) (by omega) h3
        have hl : 1 ≤ (dg (n / 10)).length := by rw [dg_pos h3]; simp
        simp only [List.length_cons, Nat.add_sub_cancel]
        have e : 10 ^ (dg (n / 10)).length = 10 * 10 ^ ((dg (n / 10)).length - 1) := by
          rw [← Nat.pow_succ']; congr 1; omega
        omega
  have h3 : 10 ^ (dg a).length ≤ 10 ^ ((dg b).length - 1) := Nat.pow_le_pow_right (by omega) (by omega)
  omega

theorem dg_len (n k : Nat) (h : n < 10 ^ k) : (dg n).length ≤ k := by
  induction n using Nat.strongRecOn generalizing k with
  | ind n ih =>
    by_cases h0 : n = 0
    · subst h0; rw [dg_zero]; simp
    · rw [dg_pos h0]
      cases k with
      | zero => simp at h; omega
      | succ k =>
        have := ih (n / 10) (by omega) k (by rw [Nat.pow_succ] at h; omega)
        simp; omega

theorem drop_getD (l : List Nat) (j : Nat) (hj : j < l.length) : l.drop j = l.getD j 0 :: l.drop (j + 1) := by
  rw [List.drop_eq_getElem_cons hj, List.getD_eq_getElem?_getD, List.getElem?_eq_getElem hj]
  rfl

theorem val_split (l : List Nat) (j : Nat) (hj : j < l.length) : val l = val (l.take j) + 10 ^ j * (l.getD j 0 + 10 * val (l.drop (j + 1))) := by
  have e : l = l.take j ++ (l.getD j 0 :: l.drop (j + 1)) := by
    have h1 : l.drop j = l.getD j 0 :: l.drop (j + 1) := by
      rw [List.drop_eq_getElem_cons hj, List.getD_eq_getElem?_getD, List.getElem?_eq_getElem hj]
      rfl
    rw [← h1, List.take_append_drop]
  have h2 := congrArg val e
  rw [val_append, List.length_take, Nat.min_eq_left (by omega)] at h2
  exact h2

/-- The first place from above at which two lists differ tells which is less. -/
theorem val_cmp (a b : List Nat) (j : Nat) (ha : ∀ d ∈ a, d < 10) (hb : ∀ d ∈ b, d < 10) (hla : j < a.length) (hlb : j < b.length) (hd : a.drop (j + 1) = b.drop (j + 1)) (hne : a.getD j 0 ≠ b.getD j 0) :
    val a < val b ↔ a.getD j 0 < b.getD j 0 := by
  have h1 := val_lt (a.take j) (fun d h => ha d (List.mem_of_mem_take h))
  have h2 := val_lt (b.take j) (fun d h => hb d (List.mem_of_mem_take h))
  rw [List.length_take, Nat.min_eq_left (by omega)] at h1 h2
  rw [val_split a j hla, val_split b j hlb, hd]
  generalize val (a.take j) = x at *
  generalize val (b.take j) = y at *
  generalize a.getD j 0 = u at *
  generalize b.getD j 0 = v at *
  generalize 10 * val (b.drop (j + 1)) = z at *
  generalize 10 ^ j = P at *
  constructor
  · intro h
    rcases Nat.lt_trichotomy u v with c | c | c
    · exact c
    · exact absurd c hne
    · have := Nat.mul_le_mul_left P (show v + z + 1 ≤ u + z by omega)
      rw [Nat.mul_add] at this
      omega
  · intro h
    have := Nat.mul_le_mul_left P (show u + z + 1 ≤ v + z by omega)
    rw [Nat.mul_add] at this
    omega

/-- Of normal lists the longer one is more. -/
theorem val_len_lt (a b : List Nat) (ha : Norm a) (hb : Norm b) (h : a.length < b.length) : val a < val b := by
  refine dg_len_lt ?_
  rw [← norm_dg a ha, ← norm_dg b hb]
  exact h
end Go.Lat
/- The walks of the reference's digits. -/
set_option maxRecDepth 100000
namespace Go.Proofs.YtmfngdjhkpddoaaGreatDoor
open Go.RowKit Go.Lat

/-- A slice of places that reads. -/
def DgAt (w : World) (v : Value) (l : List Nat) : Prop := Rw w 3 1 v l.length (l.map fun d => .int .i64 (d : Nat))

theorem Tryz.info3 : (Tryz.prog.info? 3).map (fun i => (i.zero, i.size, i.bytes)) = some (some (.int .i64 0), 1, 8) := by kernel_rfl

def DigitsRel (w : World) (s : Bool) (n q : Nat) (a v : Value) (wr : World) : Prop :=
  ∃ (m : Nat) (l : List Nat), m ≤ q ∧ m ≤ n ∧ a = .int .i64 (if s then -(m : Int) else m) ∧ DgAt wr v l ∧ l ++ dg m = dg n ∧ Upd w wr (fun _ => False) ∧ (∀ k, v.ownBlock = some k → w.heap.size ≤ k)

set_option maxHeartbeats 1600000 in
theorem Digits_any (w : World) (s : Bool) (n : Nat) (hn : n ≤ 9223372036854775807) :
    Calls Tryz.prog 96 #[.int .i64 (if s then -(n : Int) else n)] w fun e w' => ∃ v, e = .returned v ∧ DgAt w' v (dg n) ∧ Upd w w' (fun _ => False) ∧ (∀ k, v.ownBlock = some k → w.heap.size ≤ k) := by
  obtain ⟨i0, hi, hz0, hz1, hz2⟩ := info_parts Tryz.info3
  have hlen := dg_len n 20 (by omega)
  obtain ⟨a, ha⟩ : ∃ a, (if s then -(n : Int) else (n : Int)) = a := ⟨_, rfl⟩
  rw [ha]
  have HA := hide ha
  clear ha
  go_enter Tryz.func96, Tryz.ntmps96
  go_wp2
  go_loopg [0, 3] n (fun q a v wr => DigitsRel w s n q a v wr)
  case atStart => exact ⟨n, [], Nat.le_refl _, Nat.le_refl _, by rw [HA.out], Rw.nil _ _ _, by simp, Upd.refl _ _, by simp [Value.ownBlock]⟩
  case round =>
    obtain ⟨m, l, hm, hmn, rfl, hv, hl, hu, hob⟩ := hrel
    have hll : l.length ≤ 20 := by
      have := congrArg List.length hl
      rw [List.length_append] at this
      omega
    unfold DgAt at hv
    obtain ⟨k, hk⟩ : ∃ k, m % 10 = k := ⟨_, rfl⟩
    obtain ⟨m2, hm2⟩ : ∃ m2, m / 10 = m2 := ⟨_, rfl⟩
    have hk10 : k < 10 := by omega
    by_cases hm0 : m = 0
    · subst hm0
      rw [dg_zero, List.append_nil] at hl
      have e0 : (if s = true then -((0 : Nat) : Int) else ((0 : Nat) : Int)) = 0 := by cases s <;> rfl
      rw [e0]
      go_wp2
      go_ret
      exact ⟨_, rfl, by rw [← hl]; exact hv, hu, hob⟩
    · have hl2 : (l ++ [k]) ++ dg m2 = dg n := by rw [← hl, dg_pos hm0, hk, hm2, List.append_assoc]; rfl
      have e1 : (m : Int).tmod 10 = (k : Int) := by rw [← hk]; rfl
      have e2 : (m : Int).tdiv 10 = (m2 : Int) := by rw [← hm2]; rfl
      have HL := hide hl2
      have hm2b : m2 ≤ gk - 1 ∧ m2 ≤ n ∧ 1 ≤ gk := by omega
      have hmb : m ≤ 9223372036854775807 := by omega
      cases s
      case false =>
        simp only [Bool.false_eq_true, if_false] at HL ⊢
        have d1 : ((m : Int) != 0) = true := by simpa using hm0
        have d2 : decide ((k : Int) < 0) = false := by simp
        clear hk hm2 hl hl2 hm0
        go_wp2_with (at_builtin; go_loud (refine wpList_append_rw _ rfl _ _ 49 49 rfl 3 _ i0 _ 1 8 Tryz.underlying49 Tryz.underlying49 (by simp) hi hz0 hz1 hz2 rfl _ l.length _ rfl (hv.alloc _) _ 1 _ rfl (Rw.made _ _ _ 1 1 rfl).src rfl (by simp [Value.oneCell']) (by omega) (by omega) ?_); intro ga gc w1 hv' hg hob')
        go_roundg (gk - 1)
        case measure => omega
        case rel =>
          refine ⟨m2, l ++ [k], by omega, by omega, by simp, ?_, HL.out, (hu.alloc _).grown hg (fun i hi => .inl (hob i hi)), ?_⟩
          · unfold DgAt
            simpa using hv'
          · intro i hi
            rcases hob' with e | e
            · exact hob i (Eq.trans (show _ = _ from e.symm) hi)
            · rw [e] at hi; simp at hi; have := hu.size; omega
      case true =>
        simp only [if_true] at HL ⊢
        have d1 : (-(m : Int) != 0) = true := by simpa using hm0
        have e3 : (-(m : Int)).tmod 10 = -(k : Int) := by rw [Int.neg_tmod, e1]
        have e4 : (-(m : Int)).tdiv 10 = -(m2 : Int) := by rw [Int.neg_tdiv, e2]
        by_cases hk0 : k = 0
        · subst hk0
          simp only [Int.natCast_zero, Int.neg_zero] at e3
          have d2 : decide ((0 : Int) < 0) = false := by simp
          clear hk hm2 hl hl2 hm0 e1 e2
          go_wp2_with (at_builtin; go_loud (refine wpList_append_rw _ rfl _ _ 49 49 rfl 3 _ i0 _ 1 8 Tryz.underlying49 Tryz.underlying49 (by simp) hi hz0 hz1 hz2 rfl _ l.length _ rfl (hv.alloc _) _ 1 _ rfl (Rw.made _ _ _ 1 1 rfl).src rfl (by simp [Value.oneCell']) (by omega) (by omega) ?_); intro ga gc w1 hv' hg hob')
          go_roundg (gk - 1)
          case measure => omega
          case rel =>
            refine ⟨m2, l ++ [0], by omega, by omega, by simp, ?_, HL.out, (hu.alloc _).grown hg (fun i hi => .inl (hob i hi)), ?_⟩
            · unfold DgAt
              simpa using hv'
            · intro i hi
              rcases hob' with e | e
              · exact hob i (Eq.trans (show _ = _ from e.symm) hi)
              · rw [e] at hi; simp at hi; have := hu.size; omega
        · have d2 : decide (-(k : Int) < 0) = true := by simp; omega
          have d3 : decide (0 < k) = true := by simp; omega
          have d4 : 0 < k := by omega
          clear hk hm2 hl hl2 hm0 e1 e2 hk0
          go_wp2_with (at_builtin; go_loud (refine wpList_append_rw _ rfl _ _ 49 49 rfl 3 _ i0 _ 1 8 Tryz.underlying49 Tryz.underlying49 (by simp) hi hz0 hz1 hz2 rfl _ l.length _ rfl (hv.alloc _) _ 1 _ rfl (Rw.made _ _ _ 1 1 rfl).src rfl (by simp [Value.oneCell']) (by omega) (by omega) ?_); intro ga gc w1 hv' hg hob')
          go_roundg (gk - 1)
          case measure => omega
          case rel =>
            refine ⟨m2, l ++ [k], by omega, by omega, by simp, ?_, HL.out, (hu.alloc _).grown hg (fun i hi => .inl (hob i hi)), ?_⟩
            · unfold DgAt
              simpa using hv'
            · intro i hi
              rcases hob' with e | e
              · exact hob i (Eq.trans (show _ = _ from e.symm) hi)
              · rw [e] at hi; simp at hi; have := hu.size; omega
end Go.Proofs.YtmfngdjhkpddoaaGreatDoor
/- The walks of the reference's comparison of digits. -/
set_option maxRecDepth 100000
namespace Go.Proofs.YtmfngdjhkpddoaaGreatDoor
open Go.RowKit Go.Lat

theorem dg_cell {w : World} {sa : Option Addr} {c : Nat} {l : List Nat} (h : DgAt w (.slice sa l.length c) l) (j : Nat) (hj : j < l.length) :
    ∃ g off, sa = some ⟨g, off, none⟩ ∧ w.cell? ⟨g, off + j, none⟩ = some (.int .i64 (l.getD j 0 : Nat)) := by
  obtain ⟨g, off, cap, hv, hg, hc⟩ := Rw.pos h (by omega)
  simp at hv
  exact ⟨g, off, hv.1, hc j _ (by simp [hj])⟩

set_option maxHeartbeats 1600000 in
theorem below1_any (w : World) (v1 v2 : Value) (a b : List Nat) (h1 : DgAt w v1 a) (h2 : DgAt w v2 b) (na : Norm a) (nb : Norm b) (hl : a.length ≤ 100000) :
    Calls Tryz.prog 137 #[v1, v2] w fun e w' => e = .returned (.bool (decide (val a < val b))) ∧ ∃ n, w' = w.drewN n := by
  obtain ⟨a1, p1, rfl, -⟩ := Rw.form h1
  obtain ⟨a2, p2, rfl, -⟩ := Rw.form h2
  by_cases hne : a.length = b.length
  · have d0 : ((a.length : Int) != (b.length : Int)) = false := by simp; omega
    have r1 := fun j (hj : j < a.length) => dg_cell h1 j hj
    have r2 := fun j (hj : j < b.length) => dg_cell h2 j hj
    have cmp := fun j hla hlb hd hn => val_cmp a b j na.1 nb.1 hla hlb hd hn
    have CMP := hide cmp
    have HN := hide hne
    obtain ⟨N, hN⟩ : ∃ N, a.length = N := ⟨_, rfl⟩
    obtain ⟨M, hM⟩ : ∃ M, b.length = M := ⟨_, rfl⟩
    have HA := hide hN
    have HB := hide hM
    rw [hN, hM] at d0 ⊢
    rw [hN] at hl
    have hNM : N = M := by omega
    clear h1 h2 na nb cmp hne hN hM
    go_enter Tryz.func137, Tryz.ntmps137
    go_wp2_with fail
    go_loopg [5] N (fun q i wr => ∃ r : Nat, r ≤ q ∧ r ≤ N ∧ i = .int .i64 ((r : Int) - 1) ∧ a.drop r = b.drop r ∧ ∃ n, wr = w.drewN n)
    case atStart => exact ⟨N, Nat.le_refl _, Nat.le_refl _, by first | rfl | go_num, by rw [List.drop_eq_nil_of_le (by rw [HA.out]; exact Nat.le_refl _), List.drop_eq_nil_of_le (by rw [HB.out]; omega)], 0, rfl⟩
    case round =>
      obtain ⟨r, hr, hrN, rfl, hd, n, rfl⟩ := hrel
      cases r with
      | zero =>
        have e : a = b := by simpa using hd
        have hv : decide (val a < val b) = false := by rw [e]; simp
        clear hNM
        go_wp2_with fail
        go_ret
        exact ⟨by rw [hv]; rfl, n, rfl⟩
      | succ j =>
        have ej : ((j + 1 : Nat) : Int) - 1 = (j : Int) := by omega
        rw [ej]
        obtain ⟨b1, o1, rfl, c1⟩ := r1 j (by rw [HA.out]; omega)
        obtain ⟨b2, o2, rfl, c2⟩ := r2 j (by rw [HB.out]; omega)
        have hcmp := CMP.out j (by rw [HA.out]; omega) (by rw [HB.out]; omega) hd
        have hstep : a.getD j 0 = b.getD j 0 → a.drop j = b.drop j := by
          intro he
          rw [drop_getD a j (by rw [HA.out]; omega), drop_getD b j (by rw [HB.out]; omega), hd, he]
        have HC := hide hcmp
        have HS := hide hstep
        clear r1 r2 ej hcmp hstep
        generalize a.getD j 0 = x at c1 HC HS
        generalize b.getD j 0 = y at c2 HC HS
        have hj0 : (0 : Int) ≤ (j : Int) := Int.natCast_nonneg _
        have hjN : (j : Int) < (N : Int) := by omega
        have hjM : (j : Int) < (M : Int) := by omega
        clear hNM
        by_cases hxy : x = y
        · have d1 : ((x : Int) != (y : Int)) = false := by simp; omega
          go_wp2_with fail
          go_quiet (fail)
          go_wp2_with fail
          go_roundg (gk - 1)
          case measure => omega
          case rel => exact ⟨j, by omega, by omega, by first | rfl | go_num, HS.out hxy, _, rfl⟩
        · have d1 : ((x : Int) != (y : Int)) = true := by simp; omega
          have hv : decide (val a < val b) = decide (x < y) := by
            rw [Bool.eq_iff_iff]
            simp only [decide_eq_true_eq]
            exact HC.out hxy
          go_wp2_with fail
          go_quiet (fail)
          go_wp2_with fail
          go_quiet (fail)
          go_wp2_with fail
          go_ret
          exact ⟨by rw [hv]; simp, _, by rw [World.drewN_drewN, World.drewN_drewN]⟩
  · have d0 : ((a.length : Int) != (b.length : Int)) = true := by simp; omega
    have hv : decide (val a < val b) = decide (a.length < b.length) := by
      rw [Bool.eq_iff_iff]
      simp only [decide_eq_true_eq]
      constructor
      · intro h
        rcases Nat.lt_trichotomy a.length b.length with c | c | c
        · exact c
        · exact absurd c hne
        · have := val_len_lt b a nb na c
          omega
      · exact val_len_lt a b na nb
    clear hne
    go_enter Tryz.func137, Tryz.ntmps137
    go_wp2_with fail
    go_ret
    exact ⟨by rw [hv]; simp, 0, rfl⟩

end Go.Proofs.YtmfngdjhkpddoaaGreatDoor
/- Plain laws on digits: a place is added to, a carry is made, noughts above are struck. -/
namespace Go.Lat

theorem val_set (l : List Nat) (j x : Nat) (hj : j < l.length) : val (l.set j (l.getD j 0 + x)) = val l + x * 10 ^ j := by
  induction l generalizing j with
  | nil => simp at hj
  | cons d l ih =>
    cases j with
    | zero => simp [val]; omega
    | succ j =>
      have := ih j (by simpa using hj)
      simp only [List.set_cons_succ, List.getD_cons_succ, val, this, Nat.pow_succ]
      rw [Nat.mul_add, Nat.mul_comm (10 ^ j) 10, Nat.mul_left_comm]
      omega

theorem val_take_succ (l : List Nat) (j : Nat) (hj : j < l.length) : val (l.take (j + 1)) = val (l.take j) + l.getD j 0 * 10 ^ j := by
  have e : l.take (j + 1) = l.take j ++ [l.getD j 0] := by
    rw [List.take_add_one, List.getElem?_eq_getElem hj, List.getD_eq_getElem?_getD, List.getElem?_eq_getElem hj]
    rfl
  rw [e, val_append, List.length_take, Nat.min_eq_left (by omega)]
  simp only [val]
  rw [Nat.mul_zero, Nat.add_zero, Nat.mul_comm]

theorem mem_set_le (l : List Nat) (j x B : Nat) (h : ∀ d ∈ l, d ≤ B) (hx : x ≤ B) : ∀ d ∈ l.set j x, d ≤ B := by
  intro d hd
  rcases List.mem_or_eq_of_mem_set hd with e | e
  · exact h d e
  · omega

theorem getD_set (l : List Nat) (j k x : Nat) (hj : j < l.length) : (l.set j x).getD k 0 = if k = j then x else l.getD k 0 := by
  rw [List.getD_eq_getElem?_getD, List.getD_eq_getElem?_getD, List.getElem?_set]
  by_cases h : j = k
  · subst h; simp [hj]
  · rw [if_neg h, if_neg (fun e => h e.symm)]

/-- The carry at place i. -/
theorem val_carry (l : List Nat) (i : Nat) (hi : i + 1 < l.length) :
    val ((l.set (i + 1) (l.getD (i + 1) 0 + l.getD i 0 / 10)).set i (l.getD i 0 % 10)) = val l := by
  induction l generalizing i with
  | nil => simp at hi
  | cons d l ih =>
    cases i with
    | zero =>
      cases l with
      | nil => simp at hi
      | cons e l =>
        simp [val]
        omega
    | succ i =>
      have := ih i (by simpa using hi)
      simp only [List.set_cons_succ, List.getD_cons_succ, val, this]

theorem val_zero (l : List Nat) (h : ∀ d ∈ l, d = 0) : val l = 0 := by
  induction l with
  | nil => rfl
  | cons d l ih =>
    have h1 := h d (by simp)
    have h2 := ih (fun x hx => h x (by simp [hx]))
    simp [val, h1, h2]

theorem getD_mem (l : List Nat) (j : Nat) (hj : j < l.length) : l.getD j 0 ∈ l := by
  rw [List.getD_eq_getElem?_getD, List.getElem?_eq_getElem hj]
  exact List.getElem_mem hj

/-- Of places that are struck from above, what is left. -/
theorem val_strike (l : List Nat) (m : Nat) (hz : ∀ j, m ≤ j → j < l.length → l.getD j 0 = 0) : val (l.take m) = val l := by
  conv => rhs; rw [← List.take_append_drop m l]
  rw [val_append]
  have : val (l.drop m) = 0 := by
    refine val_zero _ (fun d hd => ?_)
    obtain ⟨k, hk, e⟩ := List.mem_iff_getElem.1 hd
    rw [List.length_drop] at hk
    have h1 := hz (m + k) (by omega) (by omega)
    rw [List.getD_eq_getElem?_getD, List.getElem?_eq_getElem (by omega)] at h1
    simp at h1
    rw [← e, List.getElem_drop]
    exact h1
  rw [this, Nat.mul_zero, Nat.add_zero]

theorem norm_strike (l : List Nat) (m : Nat) (hm : m ≤ l.length) (h10 : ∀ d ∈ l, d < 10) (hl : m = 0 ∨ l.getD (m - 1) 0 ≠ 0) : Norm (l.take m) := by
  refine ⟨fun d hd => h10 d (List.mem_of_mem_take hd), fun hne => ?_⟩
  have h0 : m ≠ 0 := by intro e; subst e; simp at hne
  rcases hl with h | h
  · exact absurd h h0
  · rw [List.getLast_eq_getElem, List.getElem_take]
    simp only [List.length_take, Nat.min_eq_left hm]
    rw [List.getD_eq_getElem?_getD, List.getElem?_eq_getElem (by omega)] at h
    simpa using h

/-- The place above all is 0 if what is stood for is less. -/
theorem top_zero (l : List Nat) (n : Nat) (hl : l.length = n + 1) (h : val l < 10 ^ n) : l.getD n 0 = 0 := by
  have := val_split l n (by omega)
  rcases Nat.eq_zero_or_pos (l.getD n 0) with e | e
  · exact e
  · have h2 := Nat.mul_le_mul_left (10 ^ n) (show 1 ≤ l.getD n 0 + 10 * val (l.drop (n + 1)) by omega)
    omega
end Go.Lat
/- An array of places in memory that is written in place. -/
set_option maxRecDepth 100000
namespace Go.Proofs.YtmfngdjhkpddoaaGreatDoor
open Go.RowKit Go.Lat

def ArrAt (w : World) (g : Nat) (l : List Nat) : Prop := ∃ cs, w.heap[g]? = some (.cells cs 3 (0, 0)) ∧ cs.toList = l.map fun d => .int .i64 (d : Nat)

theorem ArrAt.lt {w : World} {g : Nat} {l : List Nat} (h : ArrAt w g l) : g < w.heap.size := by
  obtain ⟨cs, h1, -⟩ := h
  exact lt_at h1
theorem ArrAt.cell {w : World} {g : Nat} {l : List Nat} (h : ArrAt w g l) (j : Nat) (hj : j < l.length) : w.cell? ⟨g, j, none⟩ = some (.int .i64 (l.getD j 0 : Nat)) := by
  obtain ⟨cs, h1, h2⟩ := h
  refine cell_at h1 j _ ?_
  rw [← Array.getElem?_toList, h2]
  simp [hj]
theorem ArrAt.free {w : World} {g : Nat} {l : List Nat} (h : ArrAt w g l) (j : Nat) : w.frozen? ⟨g, j, none⟩ = false := by
  obtain ⟨cs, h1, -⟩ := h
  exact free_at h1 j
theorem ArrAt.set {w : World} {g : Nat} {l : List Nat} (h : ArrAt w g l) (j x : Nat) : ArrAt (w.setCell ⟨g, j, none⟩ (.int .i64 (x : Nat))) g (l.set j x) := by
  obtain ⟨cs, h1, h2⟩ := h
  refine ⟨_, block_setCell h1 j _, ?_⟩
  rw [Array.toList_setIfInBounds, h2, List.map_set]
theorem ArrAt.upd {w w' : World} {g : Nat} {l : List Nat} {S : Nat → Prop} (h : ArrAt w g l) (u : Upd w w' S) (hg : ¬ S g) : ArrAt w' g l := by
  obtain ⟨cs, h1, h2⟩ := h
  exact ⟨cs, u.get h1 hg, h2⟩
theorem ArrAt.dg {w : World} {g : Nat} {l : List Nat} (h : ArrAt w g l) : DgAt w (.slice (some ⟨g, 0, none⟩) l.length l.length) l := by
  obtain ⟨cs, h1, h2⟩ := h
  have hs : cs.size = l.length := by rw [← Array.length_toList, h2, List.length_map]
  refine ⟨by simp, .inr ⟨g, 0, l.length, cs, rfl, h1, Nat.le_refl _, by omega, ?_⟩⟩
  rw [h2, List.drop_zero, Nat.mul_one, List.take_of_length_le (by simp)]
theorem ArrAt.made (w : World) (n : Nat) : ArrAt (w.alloc (.cells (madeCells #[.int .i64 0] n) 3)) w.heap.size (List.replicate n 0) := by
  refine ⟨_, heap_alloc_new w _, ?_⟩
  rw [toList_madeCells_one, List.map_replicate]
  rfl

/-- A number's places in order: 10 times by place. -/
theorem dgs_le (l : List Nat) (h : Norm l) : ∀ j, l.getD j 0 ≤ 9 := by
  intro j
  by_cases hj : j < l.length
  · have := h.1 _ (getD_mem l j hj)
    omega
  · rw [List.getD_eq_getElem?_getD, List.getElem?_eq_none (by omega)]
    simp
end Go.Proofs.YtmfngdjhkpddoaaGreatDoor
/- The walks of the reference's digits of a word, of its powers of 2, and of its trimming. -/
set_option maxRecDepth 100000
namespace Go.Proofs.YtmfngdjhkpddoaaGreatDoor
open Go.RowKit Go.Lat

set_option maxHeartbeats 800000 in
theorem trim1_any (w : World) (v : Value) (l : List Nat) (hv : DgAt w v l) (h10 : ∀ d ∈ l, d < 10) (hl : l.length ≤ 100000) :
    Calls Tryz.prog 136 #[v] w fun e w' => ∃ v', e = .returned v' ∧ DgAt w' v' (dg (val l)) ∧ (∃ n, w' = w.drewN n) ∧ v'.ownBlock = v.ownBlock := by
  obtain ⟨sa, sc, rfl, -⟩ := Rw.form hv
  have hc := fun j hj => dg_cell hv j hj
  obtain ⟨s, hs⟩ : ∃ s, l.length = s := ⟨_, rfl⟩
  obtain ⟨i0, hi, hz0, hz1, hz2⟩ := info_parts Tryz.info3
  have hsl := fun m (hm : m ≤ l.length) => Rw.slice_to (P := Tryz.prog) hv 49 i0 Tryz.underlying49 hi hz1 m hm
  rw [hs] at hsl hc hl ⊢
  have HS := hide hs
  clear hs
  go_enter Tryz.func136, Tryz.ntmps136
  go_wp2_with fail
  go_loopg [3] s (fun q v wr => wr = w ∧ ∃ m : Nat, m ≤ q ∧ m ≤ s ∧ v = .int .i64 m ∧ ∀ k, m ≤ k → k < s → l.getD k 0 = 0)
  case atStart => exact ⟨rfl, s, Nat.le_refl _, Nat.le_refl _, rfl, by omega⟩
  case round =>
    obtain ⟨hwr, m, hm, hms, rfl, hz⟩ := hrel
    replace hwr := hwr.symm
    subst hwr
    obtain ⟨a, c, s1, s2, s3⟩ := hsl m hms
    have fin : (m = 0 ∨ l.getD (m - 1) 0 ≠ 0) → DgAt w (.slice a m c) (dg (val l)) := by
      intro hl'
      have e : l.take m = dg (val l) := by
        rw [norm_dg (l.take m) (norm_strike l m (by rw [HS.out]; exact hms) h10 hl'), val_strike l m (by rw [HS.out]; exact hz)]
      unfold DgAt
      rw [← e, List.length_take, HS.out, Nat.min_eq_left hms, List.map_take]
      simpa using s2
    have FIN := hide fin
    have HZ := hide hz
    clear fin hz s2
    obtain ⟨m2, hm2⟩ : ∃ m2, m = m2 := ⟨_, rfl⟩
    by_cases hm0 : m = 0
    · have d3 : decide (0 < m) = false := by simp; omega
      have hF := FIN.out (.inl hm0)
      have HF := hide hF
      clear hF hc hsl hm0 hm2
      go_wp2_with fail
      go_ret
      exact ⟨_, rfl, HF.out, ⟨0, rfl⟩, s3⟩
    · obtain ⟨j, hj⟩ : ∃ j, m = j + 1 := ⟨m - 1, by omega⟩
      have d3 : decide (0 < m) = true := by simp; omega
      have hmp : 0 < m := by omega
      have em : (m : Int) - 1 = (j : Int) := by omega
      obtain ⟨g, off, rfl, k1⟩ := hc j (by omega)
      obtain ⟨z, hzz⟩ : ∃ z, l.getD j 0 = z := ⟨_, rfl⟩
      rw [hzz] at k1
      have ZZ := hide hzz
      have hj0 : (0 : Int) ≤ (j : Int) := Int.natCast_nonneg _
      have hjs : (j : Int) < (s : Int) := by omega
      have HJ := hide hj
      clear hzz hj hm2 hm0 hc hsl
      by_cases hz0' : z = 0
      · have d4 : ((z : Int) == 0) = true := by simp; omega
        go_wp2_with fail
        go_roundg (gk - 1)
        case measure => have := HJ.out; omega
        case rel =>
          refine ⟨rfl, j, by have := HJ.out; omega, by omega, by first | rfl | go_num, ?_⟩
          intro k hk hks
          by_cases e : k = j
          · rw [e, ZZ.out]; exact hz0'
          · exact HZ.out k (by have := HJ.out; omega) hks
      · have d4 : ((z : Int) == 0) = false := by simp; omega
        have hF := FIN.out (.inr (by rw [show m - 1 = j from by have := HJ.out; omega, ZZ.out]; exact hz0'))
        have HF := hide hF
        clear hF
        go_wp2_with fail
        go_ret
        exact ⟨_, rfl, HF.out, ⟨0, rfl⟩, s3⟩
theorem DgAt.upd {w w' : World} {v : Value} {l : List Nat} (h : DgAt w v l) (u : Upd w w' (fun _ => False)) : DgAt w' v l := u.rw h (fun _ _ => id)

theorem Digits_nat (w : World) (n : Nat) (hn : n ≤ 9223372036854775807) :
    Calls Tryz.prog 96 #[.int .i64 n] w fun e w' => ∃ v, e = .returned v ∧ DgAt w' v (dg n) ∧ Upd w w' (fun _ => False) := by
  have h := Digits_any w false n hn
  simp only [Bool.false_eq_true, if_false] at h
  exact h.mono fun e w' ⟨v, h1, h2, h3, _⟩ => ⟨v, h1, h2, h3⟩

end Go.Proofs.YtmfngdjhkpddoaaGreatDoor
/- The walks of the reference's number of digits, and of its difference. -/
set_option maxRecDepth 100000
namespace Go.Proofs.YtmfngdjhkpddoaaGreatDoor
open Go.RowKit Go.Lat

theorem val_drop (l : List Nat) (j : Nat) (hj : j < l.length) : val (l.drop j) = l.getD j 0 + 10 * val (l.drop (j + 1)) := by
  rw [drop_getD l j hj]
  rfl
theorem val_drop_le (l : List Nat) (r : Nat) : val (l.drop r) ≤ val l := by
  have := val_append (l.take r) (l.drop r)
  rw [List.take_append_drop] at this
  have hp : 0 < 10 ^ (l.take r).length := Nat.pow_pos (by omega)
  have h2 := Nat.mul_le_mul_right (val (l.drop r)) hp
  omega

def numV (neg : Bool) (X : Nat) : Int := if 9000000000000000000 < X then 0 else if neg then -(X : Int) else X
def numE (X : Nat) : Int := if 9000000000000000000 < X then 5 else 0

set_option maxHeartbeats 1600000 in
theorem Number_any (w : World) (v : Value) (X : Nat) (neg : Bool) (hv : DgAt w v (dg X)) (hX : X < 10 ^ 100) :
    Calls Tryz.prog 98 #[v, .bool neg] w fun e w' => e = .returned (.tuple #[.int .i64 (numV neg X), .int .i64 (numE X)]) ∧ Upd w w' (fun _ => False) := by
  have hlx := dg_len X 100 hX
  have D := fun w => Digits_nat w 9000000000000000000 (by omega)
  have hB := fun w v1 v2 h1 h2 => below1_any w v1 v2 (dg 9000000000000000000) (dg X) h1 h2 (dg_norm _) (dg_norm _) (by have := dg_len 9000000000000000000 19 (by omega); omega)
  simp only [val_dg] at hB
  have q := hv.lt
  go_enter Tryz.func98, Tryz.ntmps98
  go_wp2_with fail
  refine Calls.mono (D _) ?_
  rintro e w1 ⟨v1, rfl, q1, u1⟩
  go_wp2_with fail
  refine Calls.mono (hB _ _ _ q1 (hv.upd u1)) ?_
  rintro e w2 ⟨rfl, n2, rfl⟩
  clear D hB q1
  by_cases hbig : 9000000000000000000 < X
  · rw [decide_eq_true hbig]
    go_wp2_with fail
    go_ret2
    exact ⟨by unfold numV numE; rw [if_pos hbig, if_pos hbig]; rfl, u1.drewN n2⟩
  · rw [decide_eq_false hbig]
    have hv2 := hv.upd (u1.drewN n2)
    have u2 := u1.drewN n2
    generalize w1.drewN n2 = w2 at hv2 u2 ⊢
    obtain ⟨sa, sc, rfl, -⟩ := Rw.form hv2
    have hc := fun j hj => dg_cell hv2 j hj
    obtain ⟨s, hs⟩ : ∃ s, (dg X).length = s := ⟨_, rfl⟩
    rw [hs] at hc hlx ⊢
    have HS := hide hs
    have hvX : val (dg X) = X := val_dg X
    clear hs hv2 hv q u1
    go_wp2_with fail
    go_loopg [8, 9] s (fun q n i wr => wr = w2 ∧ ∃ r m : Nat, r ≤ q ∧ r ≤ s ∧ i = .int .i64 ((r : Int) - 1) ∧ n = .int .i64 m ∧ m = val ((dg X).drop r))
    case atStart => exact ⟨rfl, s, 0, Nat.le_refl _, Nat.le_refl _, by first | rfl | go_num, rfl, by rw [List.drop_eq_nil_of_le (by rw [HS.out]; exact Nat.le_refl _)]; rfl⟩
    case round =>
      obtain ⟨hwr, r, m, hr, hrs, rfl, rfl, hm⟩ := hrel
      replace hwr := hwr.symm
      subst hwr
      cases r with
      | zero =>
        have hmX : m = X := by rw [hm, List.drop_zero, hvX]
        have HM := hide hmX
        have hmb : m ≤ 9000000000000000000 := by omega
        clear hm hmX hvX hc
        cases neg with
        | true =>
          go_wp2_with fail
          go_ret2
          exact ⟨by unfold numV numE; rw [if_neg hbig, if_neg hbig, ← HM.out]; simp, u2⟩
        | false =>
          go_wp2_with fail
          go_ret2
          exact ⟨by unfold numV numE; rw [if_neg hbig, if_neg hbig, ← HM.out]; simp, u2⟩
      | succ j =>
        have ej : ((j + 1 : Nat) : Int) - 1 = (j : Int) := by omega
        rw [ej]
        obtain ⟨g, off, rfl, k1⟩ := hc j (by omega)
        have hj0 : (0 : Int) ≤ (j : Int) := Int.natCast_nonneg _
        have hjs : (j : Int) < (s : Int) := by omega
        have hnext := val_drop (dg X) j (by rw [HS.out]; omega)
        have hle := val_drop_le (dg X) j
        rw [hvX] at hle
        obtain ⟨z, hz⟩ : ∃ z, (dg X).getD j 0 = z := ⟨_, rfl⟩
        rw [hz] at k1 hnext
        rw [← hm] at hnext
        obtain ⟨t, ht⟩ : ∃ t, 10 * m = t := ⟨_, rfl⟩
        obtain ⟨u, hu⟩ : ∃ u, t + z = u := ⟨_, rfl⟩
        have e1 : (10 : Int) * (m : Int) = (t : Int) := by omega
        have e2 : (t : Int) + (z : Int) = (u : Int) := by omega
        have hub : u ≤ 9000000000000000000 := by omega
        have htb : t ≤ 9000000000000000000 := by omega
        have hres : u = val ((dg X).drop j) := by omega
        have HR := hide hres
        clear hnext hle hz ht hu hm hres hc ej hvX
        go_wp2_with fail
        go_roundg (gk - 1)
        case measure => omega
        case rel => exact ⟨rfl, j, u, by omega, by omega, by first | rfl | go_num, rfl, HR.out⟩

/-- What stands in the array of a difference behind i places. -/
structure Sb (a b o : List Nat) (i t : Nat) : Prop where
  len : o.length = a.length
  ten : ∀ d ∈ o, d < 10
  v : val (a.take i) + t * 10 ^ i = val (o.take i) + val (b.take i)
  t1 : t ≤ 1

theorem val_take_succ' (l : List Nat) (j : Nat) : val (l.take (j + 1)) = val (l.take j) + l.getD j 0 * 10 ^ j := by
  by_cases hj : j < l.length
  · exact val_take_succ l j hj
  · rw [List.take_of_length_le (by omega), List.take_of_length_le (by omega), List.getD_eq_getElem?_getD, List.getElem?_eq_none (by omega)]
    simp
theorem take_set (o : List Nat) (i x : Nat) (hi : i < o.length) : val ((o.set i x).take (i + 1)) = val (o.take i) + x * 10 ^ i := by
  rw [val_take_succ' (o.set i x) i, getD_set o i i x hi, if_pos rfl]
  congr 2
  rw [List.take_set_of_le (Nat.le_refl i)]

theorem Sb.step {a b o : List Nat} {i t : Nat} (h : Sb a b o i t) (hi : i < a.length) (x t' : Nat) (hx : x < 10) (ht : t' ≤ 1) (he : x + t + b.getD i 0 = a.getD i 0 + 10 * t') : Sb a b (o.set i x) (i + 1) t' := by
  refine ⟨by simp [h.len], ?_, ?_, ht⟩
  · intro d hd
    rcases List.mem_or_eq_of_mem_set hd with e | e
    · exact h.ten d e
    · omega
  · rw [take_set o i x (by rw [h.len]; exact hi), val_take_succ' a i, val_take_succ' b i, Nat.pow_succ]
    have hv := h.v
    have e2 : (x + t + b.getD i 0) * 10 ^ i = (a.getD i 0 + 10 * t') * 10 ^ i := by rw [he]
    rw [Nat.add_mul, Nat.add_mul, Nat.add_mul, Nat.mul_assoc] at e2
    rw [Nat.mul_comm (10 ^ i) 10, Nat.mul_left_comm]
    omega

theorem Sb.done {a b o : List Nat} {t : Nat} (h : Sb a b o a.length t) (nb : Norm b) (na : Norm a) (hle : val b ≤ val a) : val o = val a - val b := by
  have hl : b.length ≤ a.length := by
    rcases Nat.lt_or_ge a.length b.length with e | e
    · have := val_len_lt a b na nb e
      omega
    · exact e
  have hv := h.v
  rw [List.take_of_length_le (Nat.le_refl _), List.take_of_length_le (by rw [h.len]; exact Nat.le_refl _), List.take_of_length_le hl] at hv
  have ho := val_lt o h.ten
  rw [h.len] at ho
  have ht := h.t1
  generalize 10 ^ a.length = P at *
  rcases (show t = 0 ∨ t = 1 by omega) with e | e
  · subst e; omega
  · subst e; omega

set_option maxHeartbeats 3200000 in
theorem minus1_any (w : World) (v1 v2 : Value) (a b : List Nat) (h1 : DgAt w v1 a) (h2 : DgAt w v2 b) (na : Norm a) (nb : Norm b) (hle : val b ≤ val a) (hl1 : a.length ≤ 1000) (hl2 : b.length ≤ 1000) :
    Calls Tryz.prog 170 #[v1, v2] w fun e w' => ∃ v, e = .returned v ∧ DgAt w' v (dg (val a - val b)) ∧ Upd w w' (fun _ => False) ∧ (∀ k, v.ownBlock = some k → w.heap.size ≤ k) := by
  have q1 := h1.lt
  have q2 := h2.lt
  obtain ⟨a1, p1, rfl, -⟩ := Rw.form h1
  obtain ⟨a2, p2, rfl, -⟩ := Rw.form h2
  have r1 := fun j (hj : j < a.length) => dg_cell h1 j hj
  have r2 := fun j (hj : j < b.length) => dg_cell h2 j hj
  obtain ⟨A, hA⟩ : ∃ A, a.length = A := ⟨_, rfl⟩
  obtain ⟨B, hB⟩ : ∃ B, b.length = B := ⟨_, rfl⟩
  rw [hA] at hl1 ⊢
  rw [hB] at hl2 ⊢
  have hmk := run_make_row' (P := Tryz.prog) 49 3 (.int .i64 0) 8 Tryz.underlying49 Tryz.info3 rfl .i64 .i64 A (by omega) (by omega)
  have HA := hide hA
  have HB := hide hB
  clear h1 h2 hA hB
  go_enter Tryz.func170, Tryz.ntmps170
  go_wp2_with fail
  have hM := ArrAt.made w A
  have uM : Upd w (w.alloc (.cells (madeCells #[.int .i64 0] A) 3)) (fun _ => False) := (Upd.refl w _).alloc _
  have hS : Sb a b (List.replicate A 0) 0 0 := ⟨by rw [HA.out]; simp, fun d hd => by rw [List.eq_of_mem_replicate hd]; omega, by simp [val], by omega⟩
  generalize (w.alloc (.cells (madeCells #[.int .i64 0] A) 3)) = wm at hM uM ⊢
  obtain ⟨G, hG⟩ : ∃ G, w.heap.size = G := ⟨_, rfl⟩
  rw [hG] at hM ⊢
  have HG := hide hG
  clear hG hmk
  go_loopg [6, 7] A (fun q tv v wr => ∃ (i t : Nat) (o : List Nat), i + q = A ∧ v = .int .i64 i ∧ tv = .int .i64 t ∧ ArrAt wr G o ∧ Sb a b o i t ∧ Upd w wr (fun _ => False))
  case atStart => exact ⟨0, 0, _, by omega, rfl, rfl, hM, hS, uM⟩
  case round =>
    clear hM hS uM
    obtain ⟨i, t, o, hi, rfl, rfl, hO, hC, hu⟩ := hrel
    by_cases hiA : i < A
    · have d1 : decide (i < A) = true := by simpa using hiA
      obtain ⟨g1, o1, rfl, c1⟩ := r1 i (by rw [HA.out]; exact hiA)
      have hg1 : g1 < w.heap.size := q1 g1 rfl
      have k1 := (hu.cell g1 _ hg1 id).trans c1
      have hx9 := dgs_le a na i
      have hy9 := dgs_le b nb i
      have ht1 := hC.t1
      have hf := hO.free i
      have k3 := hO.cell i (by rw [hC.len, HA.out]; exact hiA)
      have hstep := fun x t' hx ht he => hC.step (by rw [HA.out]; exact hiA) x t' hx ht he
      obtain ⟨x, hx⟩ : ∃ x, a.getD i 0 = x := ⟨_, rfl⟩
      obtain ⟨y, hy⟩ : ∃ y, b.getD i 0 = y := ⟨_, rfl⟩
      rw [hx] at k1 hx9
      rw [hx, hy] at hstep
      rw [hy] at hy9
      have hi0 : (0 : Int) ≤ (i : Int) := Int.natCast_nonneg _
      have hiA2 : (i : Int) < (A : Int) := by omega
      obtain ⟨y1, e1⟩ : ∃ y1 : Int, (x : Int) - (t : Int) = y1 := ⟨_, rfl⟩
      have b1 : -1 ≤ y1 ∧ y1 ≤ 9 := by omega
      have HST := hide hstep
      have HO := hide hO
      by_cases hiB : i < B
      · have d2 : decide (i < B) = true := by simpa using hiB
        obtain ⟨g2, o2, rfl, c2⟩ := r2 i (by rw [HB.out]; exact hiB)
        have hg2 : g2 < w.heap.size := q2 g2 rfl
        have k2 := (hu.cell g2 _ hg2 id).trans c2
        rw [hy] at k2
        have hiB2 : (i : Int) < (B : Int) := by omega
        obtain ⟨y2, e2⟩ : ∃ y2 : Int, y1 - (y : Int) = y2 := ⟨_, rfl⟩
        have b2 : -10 ≤ y2 ∧ y2 ≤ 9 := by omega
        by_cases hneg : y2 < 0
        · have d3 : decide (y2 < 0) = true := by simpa using hneg
          obtain ⟨z, hz⟩ := Int.eq_ofNat_of_zero_le (show 0 ≤ y2 + 10 by omega)
          have hst := HST.out z 1 (by omega) (by omega) (by omega)
          clear hx hy hstep hC hO c1 c2 r1 r2 hneg
          go_wp2_with fail
          go_roundg (gk - 1)
          case measure => omega
          case rel => exact ⟨i + 1, 1, o.set i z, by omega, by first | rfl | go_num, rfl, HO.out.set i z, hst, hu.setCell ⟨G, i, none⟩ _ (.inl (by rw [HG.out]; exact Nat.le_refl _))⟩
        · have d3 : decide (y2 < 0) = false := by simpa using hneg
          obtain ⟨z, hz⟩ := Int.eq_ofNat_of_zero_le (show 0 ≤ y2 by omega)
          have d4 : decide ((z : Int) < 0) = false := by simp
          have d5 : (0 : Int) ≤ (z : Int) := Int.natCast_nonneg _
          have hst := HST.out z 0 (by omega) (by omega) (by omega)
          clear hx hy hstep hC hO c1 c2 r1 r2 hneg
          go_wp2_with fail
          go_roundg (gk - 1)
          case measure => omega
          case rel => exact ⟨i + 1, 0, o.set i z, by omega, by first | rfl | go_num, rfl, HO.out.set i z, hst, hu.setCell ⟨G, i, none⟩ _ (.inl (by rw [HG.out]; exact Nat.le_refl _))⟩
      · have d2 : decide (i < B) = false := by simpa using hiB
        have hy0 : y = 0 := by rw [← hy, List.getD_eq_getElem?_getD, List.getElem?_eq_none (by rw [HB.out]; omega)]; rfl
        by_cases hneg : y1 < 0
        · have d3 : decide (y1 < 0) = true := by simpa using hneg
          obtain ⟨z, hz⟩ := Int.eq_ofNat_of_zero_le (show 0 ≤ y1 + 10 by omega)
          have hst := HST.out z 1 (by omega) (by omega) (by omega)
          clear hx hy hstep hC hO c1 r1 r2 hneg hiB hy0
          go_wp2_with fail
          go_roundg (gk - 1)
          case measure => omega
          case rel => exact ⟨i + 1, 1, o.set i z, by omega, by first | rfl | go_num, rfl, HO.out.set i z, hst, hu.setCell ⟨G, i, none⟩ _ (.inl (by rw [HG.out]; exact Nat.le_refl _))⟩
        · have d3 : decide (y1 < 0) = false := by simpa using hneg
          obtain ⟨z, hz⟩ := Int.eq_ofNat_of_zero_le (show 0 ≤ y1 by omega)
          have d4 : decide ((z : Int) < 0) = false := by simp
          have d5 : (0 : Int) ≤ (z : Int) := Int.natCast_nonneg _
          have hst := HST.out z 0 (by omega) (by omega) (by omega)
          clear hx hy hstep hC hO c1 r1 r2 hneg hiB hy0
          go_wp2_with fail
          go_roundg (gk - 1)
          case measure => omega
          case rel => exact ⟨i + 1, 0, o.set i z, by omega, by first | rfl | go_num, rfl, HO.out.set i z, hst, hu.setCell ⟨G, i, none⟩ _ (.inl (by rw [HG.out]; exact Nat.le_refl _))⟩
    · have hie : i = A := by omega
      subst hie
      have d1 : decide (i < i) = false := by simp
      have hlen : o.length = i := by rw [hC.len]; exact HA.out
      have hval : val o = val a - val b := by
        rw [← HA.out] at hC
        exact hC.done nb na hle
      have hdg := hO.dg
      have T := fun w v hv => trim1_any w v o hv hC.ten (by omega)
      rw [hlen] at hdg
      rw [hval] at T
      clear hC r1 r2 hiA hi hval
      go_wp2_with fail
      refine Calls.mono (T _ _ hdg) ?_
      rintro e w2 ⟨v2, rfl, g2, ⟨n, rfl⟩, g3⟩
      go_wp2_with fail
      go_ret
      refine ⟨_, rfl, g2, hu.drewN n, fun k hk => ?_⟩
      have hk2 : some G = some k := (show v2.ownBlock = some G from g3).symm.trans hk
      cases hk2
      rw [HG.out]
      exact Nat.le_refl _
end Go.Proofs.YtmfngdjhkpddoaaGreatDoor
