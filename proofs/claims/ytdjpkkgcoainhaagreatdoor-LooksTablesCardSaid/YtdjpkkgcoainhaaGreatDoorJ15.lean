/- The walks of package fixed: differences, whole numbers. -/
import Derived.Test.YtdjpkkgcoainhaaGreatDoorJ14
import Derived.Test.YtdjpkkgcoainhaaGreatDoorJ01
import Derived.Test.YtdjpkkgcoainhaaGreatDoorJ09
import Derived.Test.YtdjpkkgcoainhaaGreatDoorJ10
import Derived.Test.YtdjpkkgcoainhaaGreatDoorJ08
import Derived.Test.YtdjpkkgcoainhaaGreatDoorJ06
import Derived.Test.YtdjpkkgcoainhaaGreatDoorJ05
import Derived.Test.YtdjpkkgcoainhaaGreatDoorJ12
/- The walks of package fixed: differences, whole numbers. -/
set_option maxRecDepth 100000
namespace Go.Proofs.YtdjpkkgcoainhaaGreatDoor
open Go.RowKit Go.Lat

/-- A whole number, and its error. -/
def wholeOk (a : Int) : Bool := decide (-900000000000000 ≤ a) && decide (a ≤ 900000000000000)

theorem Of_any (w : World) (a : Int) : Calls Tryz.prog 82 #[.int .i64 a] w fun e w' => e = .returned (.tuple #[.int .i64 (if wholeOk a then a * 10000 else 0), .int .i64 (if wholeOk a then 0 else 5)]) ∧ w' = w := by
  unfold wholeOk
  by_cases h1 : 900000000000000 < a
  · have d1 : decide (900000000000000 < a) = true := by simpa using h1
    have d2 : decide (a ≤ 900000000000000) = false := by simp; omega
    rw [d2]
    simp only [Bool.and_false]
    clear h1 d2
    go_enter Tryz.func82, Tryz.ntmps82
    go_wp2_with fail
    go_ret2
    exact ⟨rfl, rfl⟩
  · have d1 : decide (900000000000000 < a) = false := by simpa using h1
    have d2 : decide (a ≤ 900000000000000) = true := by simp; omega
    rw [d2]
    simp only [Bool.and_true]
    by_cases h2 : a < -900000000000000
    · have d3 : decide (a < -900000000000000) = true := by simpa using h2
      have d4 : decide (-900000000000000 ≤ a) = false := by simp; omega
      rw [d4]
      clear h1 h2 d2 d4
      go_enter Tryz.func82, Tryz.ntmps82
      go_wp2_with fail
      go_ret2
      exact ⟨rfl, rfl⟩
    · have d3 : decide (a < -900000000000000) = false := by simpa using h2
      have d4 : decide (-900000000000000 ≤ a) = true := by simp; omega
      have w1 : IntKind.i64.wrap (a * 10000) = a * 10000 := IntWalk.i64_in _ (by omega)
      rw [d4]
      clear h1 h2 d2 d4
      go_enter Tryz.func82, Tryz.ntmps82
      go_wp2_with fail
      go_ret2
      exact ⟨rfl, rfl⟩

end Go.Proofs.YtdjpkkgcoainhaaGreatDoor
/- The walks of fixed.power and fixed.Round. -/
set_option maxRecDepth 100000
namespace Go.Proofs.YtdjpkkgcoainhaaGreatDoor
open Go.RowKit Go.Lat

theorem pow19 (n : Nat) (hn : n ≤ 19) : 10 ^ n ≤ 10000000000000000000 := by
  have := Nat.pow_le_pow_right (n := 10) (by omega) hn
  have e : (10 : Nat) ^ 19 = 10000000000000000000 := by decide
  omega

end Go.Proofs.YtdjpkkgcoainhaaGreatDoor
/- The walks of the reference's sums and differences. -/
set_option maxRecDepth 100000
namespace Go.Proofs.YtdjpkkgcoainhaaGreatDoor
open Go.RowKit Go.Lat

theorem signed (a : Int) : ∃ (s : Bool) (n : Nat), a = (if s then -(n : Int) else (n : Int)) ∧ (s = true → 0 < n) ∧ decide (a < 0) = s ∧ n = a.natAbs := by
  by_cases h : a < 0
  · exact ⟨true, a.natAbs, (by simp; omega), (fun _ => by omega), (by simpa using h), rfl⟩
  · exact ⟨false, a.natAbs, (by simp; omega), (fun h => Bool.noConfusion h), (by simpa using h), rfl⟩

theorem norm_len (n : Nat) (h : n ≤ 9000000000000000000) : (dg n).length ≤ 1000 := by
  have := dg_len n 20 (by omega)
  omega

end Go.Proofs.YtdjpkkgcoainhaaGreatDoor
/- The walk of the reference's Round. -/
set_option maxRecDepth 100000
namespace Go.Proofs.YtdjpkkgcoainhaaGreatDoor
open Go.RowKit Go.Lat

end Go.Proofs.YtdjpkkgcoainhaaGreatDoor
/- Rounds of the program and of the reference agree: the other cases, and the join. -/
set_option maxRecDepth 100000
namespace Go.Proofs.YtdjpkkgcoainhaaGreatDoor
open Go.RowKit Go.Lat

end Go.Proofs.YtdjpkkgcoainhaaGreatDoor
/- The digits of a number without the lowest. -/
set_option maxRecDepth 100000
namespace Go.Proofs.YtdjpkkgcoainhaaGreatDoor
open Go.RowKit Go.Lat

theorem dg_drop (k : Nat) : ∀ n, (dg n).drop k = dg (n / 10 ^ k) := by
  induction k with
  | zero => intro n; simp
  | succ k ih =>
    intro n
    by_cases h : n = 0
    · subst h
      rw [dg_zero, Nat.zero_div, dg_zero]
      rfl
    · rw [dg_pos h, List.drop_succ_cons, ih, Nat.div_div_eq_div_mul, Nat.pow_succ, Nat.mul_comm 10]

end Go.Proofs.YtdjpkkgcoainhaaGreatDoor
/- The walks of Mod, Floor and Whole, of the program and of the reference. -/
set_option maxRecDepth 100000
namespace Go.Proofs.YtdjpkkgcoainhaaGreatDoor
open Go.RowKit Go.Lat

/-- What is left by a divisor, of the divisor's sign. -/
def modN (sa sb : Bool) (x y : Nat) : Nat := if x % y = 0 ∨ sa = sb then x % y else y - x % y
def modV (sa sb : Bool) (x y : Nat) : Int := if sb then -(modN sa sb x y : Int) else modN sa sb x y

theorem tmod_signed (sa sb : Bool) (x y : Nat) : (if sa then -(x : Int) else (x : Int)).tmod (if sb then -(y : Int) else (y : Int)) = if sa then -((x % y : Nat) : Int) else ((x % y : Nat) : Int) := by
  have e : (x : Int).tmod (y : Int) = ((x % y : Nat) : Int) := rfl
  cases sa <;> cases sb <;> simp [Int.neg_tmod, Int.tmod_neg, e]
theorem tdiv_signed (sa : Bool) (x y : Nat) : (if sa then -(x : Int) else (x : Int)).tdiv (y : Int) = if sa then -((x / y : Nat) : Int) else ((x / y : Nat) : Int) := by
  have e : (x : Int).tdiv (y : Int) = ((x / y : Nat) : Int) := rfl
  cases sa <;> simp [Int.neg_tdiv, e]

theorem modV_bound (s : Bool) (x : Nat) : 0 ≤ modV s false x 10000 ∧ modV s false x 10000 < 10000 := by
  have hm := Nat.mod_lt x (show 0 < 10000 by omega)
  unfold modV modN
  generalize x % 10000 = r at *
  cases s <;> simp <;> (first | omega | (split <;> omega))

theorem Whole_bad (w : World) (a : Int) (h : okNum a = false) : Calls Tryz.prog 93 #[.int .i64 a] w fun e w' => e = .returned (.int .i64 0) ∧ Upd w w' (fun _ => False) := by
  have G := fun w B k => fixgood_any w B a k
  rw [h] at G
  clear h
  go_enter Tryz.func93, Tryz.ntmps93
  go_wp2_with fail
  refine Calls.mono (G _ _ (cells1 (heap_alloc_new w _))) ?_
  rintro e' w1 ⟨rfl, rfl⟩
  go_wp2_with fail
  go_ret
  exact ⟨rfl, (Upd.refl w _).alloc _⟩

theorem Whole_in (w : World) (a : Int) (s : Bool) (x : Nat) (ha : okNum a = true) (ea : a = (if s then -(x : Int) else (x : Int))) :
    Calls Tryz.prog 93 #[.int .i64 a] w fun e w' => e = .returned (.int .i64 (if s then -((x / 10000 : Nat) : Int) else ((x / 10000 : Nat) : Int))) ∧ Upd w w' (fun _ => False) := by
  have G := fun w B k => fixgood_any w B a k
  rw [ha] at G
  have ba := okNum_true ha
  have hR := tdiv_signed s x 10000
  rw [← ea, show ((10000 : Nat) : Int) = 10000 from rfl] at hR
  have hx9 : x ≤ 9000000000000000000 := by cases s <;> simp at ea <;> omega
  have hw : IntKind.i64.wrap (if s then -((x / 10000 : Nat) : Int) else ((x / 10000 : Nat) : Int)) = (if s then -((x / 10000 : Nat) : Int) else ((x / 10000 : Nat) : Int)) := IntWalk.i64_in _ (by cases s <;> simp <;> omega)
  generalize (if s then -((x / 10000 : Nat) : Int) else ((x / 10000 : Nat) : Int)) = V at *
  clear ea ha ba hx9
  go_enter Tryz.func93, Tryz.ntmps93
  go_wp2_with fail
  refine Calls.mono (G _ _ (cells1 (heap_alloc_new w _))) ?_
  rintro e' w1 ⟨rfl, rfl⟩
  go_wp2_with fail
  go_ret
  exact ⟨rfl, (Upd.refl w _).alloc _⟩

theorem RefWhole_bad (w : World) (a : Int) (h : okNum a = false) : Calls Tryz.prog 65 #[.int .i64 a] w fun e w' => e = .returned (.int .i64 0) ∧ Upd w w' (fun _ => False) := by
  have G := fun w => RefGood_any w a
  rw [h] at G
  clear h
  go_enter Tryz.func65, Tryz.ntmps65
  go_wp2_with fail
  refine Calls.mono (G _) ?_
  rintro e' w1 ⟨rfl, hw⟩
  replace hw := hw.symm
  subst hw
  go_wp2_with fail
  go_ret
  exact ⟨rfl, Upd.refl _ _⟩

theorem dg_from (w : World) (a : Option Addr) (p k : Nat) (l : List Nat) (h : DgAt w (.slice a l.length p) l) (hk : k ≤ l.length) :
    (p = k → DgAt w (.slice a (l.length - k) 0) (l.drop k)) ∧ (¬ p = k → DgAt w (.slice (a.map fun x => { block := x.block, off := x.off + k }) (l.length - k) (p - k)) (l.drop k)) := by
  unfold DgAt at h ⊢
  obtain ⟨hl, hr⟩ := h
  rw [Nat.mul_one] at hl
  rcases hr with ⟨he, h0⟩ | ⟨g, off, cap, cur, he, hg, hnc, hcs, htake⟩
  · have hk0 : k = 0 := by omega
    subst hk0
    simp only [Value.slice.injEq] at he
    obtain ⟨rfl, -, rfl⟩ := he
    have hx : l = [] := List.eq_nil_of_length_eq_zero h0
    subst hx
    exact ⟨fun _ => by simpa using Rw.nil w 3 1, fun e => absurd rfl e⟩
  · simp only [Value.slice.injEq] at he
    obtain ⟨rfl, -, rfl⟩ := he
    have hl2 : ((l.drop k).map fun d => (.int .i64 (d : Nat) : Value)).length = (l.length - k) * 1 := by simp
    rw [List.length_drop]
    constructor
    · intro e
      have e0 : l.length - k = 0 := by omega
      refine ⟨hl2, .inr ⟨g, off, 0, cur, rfl, hg, by omega, by omega, ?_⟩⟩
      rw [e0, List.drop_eq_nil_of_le (show l.length ≤ k by omega)]
      simp
    · intro e
      refine ⟨hl2, .inr ⟨g, off + k, p - k, cur, rfl, hg, by omega, by omega, ?_⟩⟩
      rw [List.map_drop, ← htake, List.drop_take, List.drop_drop]
      simp

theorem RefWhole_in (w : World) (a : Int) (s : Bool) (x : Nat) (ha : okNum a = true) (ea : a = (if s then -(x : Int) else (x : Int))) (hs : decide (a < 0) = s) :
    Calls Tryz.prog 65 #[.int .i64 a] w fun e w' => e = .returned (.int .i64 (if s then -((x / 10000 : Nat) : Int) else ((x / 10000 : Nat) : Int))) ∧ Upd w w' (fun _ => False) := by
  have G := fun w => RefGood_any w a
  rw [ha] at G
  have ba := okNum_true ha
  have hx9 : x ≤ 9000000000000000000 := by cases s <;> simp at ea <;> omega
  have D := fun w => Digits_any w s x (by omega)
  rw [← ea] at D
  have ll := dg_len x 20 (by omega)
  obtain ⟨i0, hi, hz0, hz1, hz2⟩ := info_parts Tryz.info3
  have N := fun w v k => Number_any w v (x / 10000) s k (by omega)
  have eV : numV s (x / 10000) = (if s then -((x / 10000 : Nat) : Int) else ((x / 10000 : Nat) : Int)) := by unfold numV; rw [if_neg (by omega)]
  rw [eV] at N
  generalize numE (x / 10000) = E at *
  have hdrop := dg_drop 4 x
  rw [show (10 : Nat) ^ 4 = 10000 from by decide] at hdrop
  have hsmall : (dg x).length ≤ 4 → (if s then -((x / 10000 : Nat) : Int) else ((x / 10000 : Nat) : Int)) = 0 := by
    intro h
    have h1 := val_lt (dg x) (dg_norm x).1
    rw [val_dg] at h1
    have h2 : 10 ^ (dg x).length ≤ 10 ^ 4 := Nat.pow_le_pow_right (by omega) h
    rw [Nat.div_eq_of_lt (by omega)]
    cases s <;> rfl
  generalize (if s then -((x / 10000 : Nat) : Int) else ((x / 10000 : Nat) : Int)) = V at *
  clear ea ha ba hx9 eV
  by_cases hl : (dg x).length ≤ 4
  · have d1 : decide ((dg x).length ≤ 4) = true := by simpa using hl
    have d2 : decide (((dg x).length : Int) ≤ 4) = true := by simp; omega
    have hV := hsmall hl
    subst hV
    clear hl hsmall hdrop N
    go_enter Tryz.func65, Tryz.ntmps65
    go_wp2_with fail
    refine Calls.mono (G _) ?_
    rintro e' w1 ⟨rfl, hw⟩
    replace hw := hw.symm
    subst hw
    go_wp2_with fail
    refine Calls.mono (D _) ?_
    rintro e' w1 ⟨v1, rfl, q1, u1, -⟩
    obtain ⟨a1, p1, rfl, -⟩ := Rw.form q1
    go_wp2_with fail
    go_ret
    exact ⟨rfl, u1⟩
  · have d1 : decide ((dg x).length ≤ 4) = false := by simpa using hl
    have d2 : decide (((dg x).length : Int) ≤ 4) = false := by simp; omega
    clear hsmall
    have hl5 : 4 ≤ (dg x).length := by omega
    have HD := hide hdrop
    have HL := hide hl5
    clear hl hl5 hdrop
    go_enter Tryz.func65, Tryz.ntmps65
    go_wp2_with fail
    refine Calls.mono (G _) ?_
    rintro e' w1 ⟨rfl, hw⟩
    replace hw := hw.symm
    subst hw
    go_wp2_with fail
    refine Calls.mono (D _) ?_
    rintro e' w1 ⟨v1, rfl, q1, u1, -⟩
    obtain ⟨a1, p1, rfl, -⟩ := Rw.form q1
    obtain ⟨s1, s2⟩ := dg_from w1 a1 p1 4 (dg x) q1 HL.out
    rw [HD.out] at s1 s2
    obtain ⟨L, hL⟩ : ∃ L, (dg x).length = L := ⟨_, rfl⟩
    have hl4 := HL.out
    rw [hL] at s1 s2 d1 d2 hl4
    have S1 := hide s1
    have S2 := hide s2
    clear s1 s2
    go_wp2_with fail
    · refine Calls.mono (N _ _ (S1.out (by assumption))) ?_
      rintro e' w2 ⟨rfl, u2⟩
      go_wp2_with fail
      go_ret
      exact ⟨rfl, u1.then u2 (fun _ _ => id)⟩
    · refine Calls.mono (N _ _ (S2.out (by assumption))) ?_
      rintro e' w2 ⟨rfl, u2⟩
      go_wp2_with fail
      go_ret
      exact ⟨rfl, u1.then u2 (fun _ _ => id)⟩

theorem Whole_both (a : Int) : ∃ V : Int,
    (∀ w, Calls Tryz.prog 93 #[.int .i64 a] w fun e w' => e = .returned (.int .i64 V) ∧ Upd w w' (fun _ => False)) ∧
    (∀ w, Calls Tryz.prog 65 #[.int .i64 a] w fun e w' => e = .returned (.int .i64 V) ∧ Upd w w' (fun _ => False)) := by
  cases h : okNum a with
  | false => exact ⟨0, fun w => Whole_bad w a h, fun w => RefWhole_bad w a h⟩
  | true =>
    obtain ⟨s, x, ea, h0, hs, hx⟩ := signed a
    exact ⟨_, fun w => Whole_in w a s x h ea, fun w => RefWhole_in w a s x h ea hs⟩
end Go.Proofs.YtdjpkkgcoainhaaGreatDoor
/- Values as numbers, the same on both sides; arguments as data (plain). -/
set_option maxRecDepth 100000
namespace Go.Proofs.YtdjpkkgcoainhaaGreatDoor
open Go.RowKit Go.Lat Go.Lib

theorem trimR_len (l : List UInt8) (c : UInt8) : (trimB l c).length ≤ l.length := by
  have dw : ∀ (m : List UInt8), (m.dropWhile (· == c)).length ≤ m.length := fun m => (List.dropWhile_sublist _).length_le
  unfold trimB trimLeftB trimRightB
  have h1 := dw (l.reverse.dropWhile (· == c)).reverse
  have h2 := dw l.reverse
  rw [List.length_reverse] at h1 h2
  omega
theorem soundV_t255 (x : Vl) : (soundV x).t.length ≤ 255 := by
  unfold soundV
  split
  · rename_i h
    unfold goodV at h
    split at h
    · rw [eqV_iff] at h; rw [h]; exact Nat.zero_le _
    · split at h
      · rw [eqV_iff] at h
        rw [h]
        unfold mkN
        split
        · exact Nat.zero_le _
        · exact Nat.zero_le _
      · split at h
        · rw [eqV_iff] at h
          by_cases hl : x.t.length ≤ 255
          · exact hl
          · rw [h]
            unfold mkT
            rw [if_neg hl]
            exact Nat.zero_le _
        · split at h
          · rw [eqV_iff] at h; rw [h]; exact Nat.zero_le _
          · split at h
            · rw [eqV_iff] at h; rw [h]; exact Nat.zero_le _
            · cases h
  · exact Nat.zero_le _
theorem parse_ex (s : List UInt8) (hs : s.length ≤ 1000) : ∃ p : Int × Int,
    (∀ w, Calls Tryz.prog 100 #[enS s] w fun e w' => e = .returned (.tuple #[.int .i64 p.1, .int .i64 p.2]) ∧ Upd w w' (fun _ => False)) ∧
    (∀ w, Calls Tryz.prog 86 #[enS s] w fun e w' => e = .returned (.tuple #[.int .i64 p.1, .int .i64 p.2]) ∧ Upd w w' (fun _ => False)) := by
  obtain ⟨V, E, h1, h2⟩ := Parse_both ⟨s.toArray⟩ hs
  exact ⟨(V, E), h1, h2⟩
/-- What a text is read aa, by both sides. -/
noncomputable def parseF (s : List UInt8) : Int × Int := if h : s.length ≤ 1000 then (parse_ex s h).choose else (0, 0)
theorem parseF_spec (s : List UInt8) (hs : s.length ≤ 1000) :
    (∀ w, Calls Tryz.prog 100 #[enS s] w fun e w' => e = .returned (.tuple #[.int .i64 (parseF s).1, .int .i64 (parseF s).2]) ∧ Upd w w' (fun _ => False)) ∧
    (∀ w, Calls Tryz.prog 86 #[enS s] w fun e w' => e = .returned (.tuple #[.int .i64 (parseF s).1, .int .i64 (parseF s).2]) ∧ Upd w w' (fun _ => False)) := by
  unfold parseF
  rw [dif_pos hs]
  exact (parse_ex s hs).choose_spec
/-- A value aa a number, and the error. -/
noncomputable def numF (x : Vl) : Int × Int := asNumV (soundV x) (parseF (trimB (soundV x).t 32)).1 (parseF (trimB (soundV x).t 32)).2
theorem numP_any (w : World) (x : Vl) (hx : x.ok) (htl : x.t.length ≤ 1000000) :
    Calls Tryz.prog 92 #[x.val] w fun e w' => e = .returned (.tuple #[.int .i64 (numF x).1, .int .i64 (numF x).2]) ∧ Upd w w' (fun _ => False) :=
  AsNum_any w x hx htl _ _ (parseF_spec _ (by have h1 := trimR_len (soundV x).t 32; have h2 := soundV_t255 x; omega)).1
theorem numR_any (w : World) (x : Vl) (htl : x.t.length ≤ 1000000) :
    Calls Tryz.prog 64 #[x.val] w fun e w' => e = .returned (.tuple #[.int .i64 (numF x).1, .int .i64 (numF x).2]) ∧ Upd w w' (fun _ => False) :=
  RAsNum_any w x htl _ _ (parseF_spec _ (by have h1 := trimR_len (soundV x).t 32; have h2 := soundV_t255 x; omega)).2
theorem numF_n {n : Int} (h : okNum n = true) : numF ⟨1, n, [], false, 0⟩ = (n, 0) := by
  have hg : goodV ⟨1, n, [], false, 0⟩ = true := by
    rw [← rgood_eq]
    simp [rgoodV, h]
  unfold numF soundV
  rw [if_pos hg]
  simp [asNumV]
def wholeF (a : Int) : Int := if okNum a then a.tdiv 10000 else 0
theorem wholeP_any (w : World) (a : Int) : Calls Tryz.prog 93 #[.int .i64 a] w fun e w' => e = .returned (.int .i64 (wholeF a)) ∧ Upd w w' (fun _ => False) := by
  unfold wholeF
  cases h : okNum a with
  | false => exact Whole_bad w a h
  | true =>
    obtain ⟨s, x, ea, h0, hs, hx⟩ := signed a
    have k := Whole_in w a s x h ea
    have e : a.tdiv 10000 = if s then -((x / 10000 : Nat) : Int) else ((x / 10000 : Nat) : Int) := by rw [ea]; exact tdiv_signed s x 10000
    simp only [if_true]
    rw [e]
    exact k
theorem wholeR_any (w : World) (a : Int) : Calls Tryz.prog 65 #[.int .i64 a] w fun e w' => e = .returned (.int .i64 (wholeF a)) ∧ Upd w w' (fun _ => False) := by
  unfold wholeF
  cases h : okNum a with
  | false => exact RefWhole_bad w a h
  | true =>
    obtain ⟨s, x, ea, h0, hs, hx⟩ := signed a
    have k := RefWhole_in w a s x h ea hs
    have e : a.tdiv 10000 = if s then -((x / 10000 : Nat) : Int) else ((x / 10000 : Nat) : Int) := by rw [ea]; exact tdiv_signed s x 10000
    simp only [if_true]
    rw [e]
    exact k
theorem okNum_small {k : Int} (h1 : -1000000000 ≤ k) (h2 : k ≤ 1000000000) : okNum (k * 10000) = true := by
  simp [okNum]
  omega
theorem wholeF_mul {k : Int} (h1 : -1000000000 ≤ k) (h2 : k ≤ 1000000000) : wholeF (k * 10000) = k := by
  unfold wholeF
  rw [okNum_small h1 h2]
  simp
theorem wholeF_rng (a : Int) : -900000000000000 ≤ wholeF a ∧ wholeF a ≤ 900000000000000 := by
  unfold wholeF
  split
  · rename_i h
    have := okNum_true h
    have e1 : a.tdiv 10000 = if 0 ≤ a then a / 10000 else -((-a) / 10000) := by
      split
      · exact Int.tdiv_eq_ediv_of_nonneg (by omega)
      · have : a.tdiv 10000 = -((-a).tdiv 10000) := by rw [Int.neg_tdiv]; omega
        rw [this, Int.tdiv_eq_ediv_of_nonneg (by omega)]
    rw [e1]
    split <;> omega
  · omega

/-- An argument as data. -/
structure Ar where
  v : List Vl
  c : Int
  w : Bool
def goodA (a : Ar) : Bool := if a.w then decide (0 < a.c) && (decide (1 ≤ a.v.length) && (decide (a.v.length ≤ 4096) && decide ((a.v.length : Int).tmod a.c = 0))) else decide (a.v.length = 1) && decide (a.c = 0)
def rowsA (a : Ar) : Int := if a.w then (a.v.length : Int).tdiv a.c else 1
def colsA (a : Ar) : Int := if a.w then a.c else 1
theorem goodA_dims {a : Ar} (h : goodA a = true) : ∃ R C : Nat, rowsA a = R ∧ colsA a = C ∧ R * C = a.v.length ∧ 1 ≤ R ∧ 1 ≤ C ∧ a.v.length ≤ 4096 := by
  obtain ⟨v, c, w⟩ := a
  unfold goodA rowsA colsA at *
  cases w with
  | false =>
    simp at h
    exact ⟨1, 1, by simp, by simp, by simp; omega, by omega, by omega, by simp; omega⟩
  | true =>
    simp at h
    obtain ⟨h1, h2, h3, h4⟩ := h
    obtain ⟨C, rfl⟩ : ∃ C : Nat, c = C := ⟨c.toNat, by omega⟩
    have hv : 1 ≤ v.length := by
      cases v with
      | nil => simp at h2
      | cons x l => simp
    have e4 : v.length % C = 0 := by
      have : ((v.length : Int).tmod (C : Int)) = ((v.length % C : Nat) : Int) := by rw [Int.tmod_eq_emod_of_nonneg (by omega)]; rfl
      rw [this] at h4
      omega
    have e5 : (v.length : Int).tdiv (C : Int) = ((v.length / C : Nat) : Int) := by rw [Int.tdiv_eq_ediv_of_nonneg (by omega)]; rfl
    have e6 : v.length / C * C = v.length := Nat.div_mul_cancel (Nat.dvd_of_mod_eq_zero e4)
    refine ⟨v.length / C, C, by simp [e5], by simp, by simpa using e6, ?_, by omega, by simpa using h3⟩
    rcases Nat.eq_zero_or_pos (v.length / C) with h0 | h0
    · rw [h0] at e6; omega
    · omega
/-- The table of the rows and columns the other way round. -/
def turnL (R C : Nat) (l : List Vl) : List Vl := (List.range (R * C)).map fun j => l.getD (j % R * C + j / R) vZero
theorem turnL_len (R C : Nat) (l : List Vl) : (turnL R C l).length = R * C := by simp [turnL]
def badF (f g : Int) : Int := if f = 0 then g else f
/-- The reader of arguments: single values. -/
def sglV (aa : List Ar) (s : Nat × Int) : Vl := match aa[s.1]? with
  | none => vZero
  | some a => if a.w then vZero else a.v.getD 0 vZero
def sglB (aa : List Ar) (s : Nat × Int) : Bool := match aa[s.1]? with
  | none => false
  | some a => !a.w
def sglS (aa : List Ar) (s : Nat × Int) : Nat × Int := match aa[s.1]? with
  | none => s
  | some a => (s.1 + 1, if a.w then badF s.2 3 else s.2)
def thgS (aa : List Ar) (s : Nat × Int) : Nat × Int :=
  ((sglS aa s).1, if goodV (sglV aa s) then (if (sglV aa s).k = 4 then badF (sglS aa s).2 (sglV aa s).f else (sglS aa s).2) else badF (sglS aa s).2 3)
noncomputable def cntV (aa : List Ar) (s : Nat × Int) (o : Int) : Int := if sglB aa s then wholeF (numF (sglV aa s)).1 else o
noncomputable def cntS (aa : List Ar) (s : Nat × Int) : Nat × Int := ((sglS aa s).1, if sglB aa s then badF (sglS aa s).2 (numF (sglV aa s)).2 else (sglS aa s).2)
def argA (aa : List Ar) (k : Nat) : Ar := aa.getD k ⟨[], 0, false⟩
def lstS (aa : List Ar) (s : Nat × Int) : Nat × Int := (s.1 + 1, if rowsA (argA aa s.1) ≠ 1 ∧ colsA (argA aa s.1) ≠ 1 then badF s.2 6 else s.2)
def wayI (m : Int) : Int := if 0 < m then 1 else if m < 0 then -1 else 0
def atV (l : List Vl) (R C row col : Int) : Vl := if row < 1 ∨ R < row ∨ col < 1 ∨ C < col then mkE 4 else l.getD ((row - 1) * C + col - 1).toNat vZero
noncomputable def matchP (aa : List Ar) : Vl × Int :=
  let s1 := thgS aa (0, 0)
  let s2 := lstS aa s1
  let p := placeV (wayI (cntV aa s2 0)) (sglV aa (0, 0)) (argA aa s1.1).v
  (if p = 0 then mkE 6 else mkN ((p : Int) * 10000), (cntS aa s2).2)
noncomputable def indexP (aa : List Ar) : Vl × Int :=
  let t := argA aa 0
  let row := cntV aa (1, 0) 0
  let s2 := cntS aa (1, 0)
  let col := cntV aa s2 1
  (if sglB aa s2 = false ∧ rowsA t = 1 then atV t.v (rowsA t) (colsA t) 1 row else atV t.v (rowsA t) (colsA t) row col, (cntS aa s2).2)
noncomputable def lookupP (aa : List Ar) (across : Bool) : Vl × Int :=
  let x := sglV aa (0, 0)
  let s1 := thgS aa (0, 0)
  let a := argA aa s1.1
  let s2 := (s1.1 + 1, s1.2)
  let col := cntV aa s2 0
  let s3 := cntS aa s2
  let m := cntV aa s3 0
  let f := (cntS aa s3).2
  let t : List Vl × Int × Int := if across ∧ f = 0 then (turnL (rowsA a).toNat (colsA a).toNat a.v, colsA a, rowsA a) else (a.v, rowsA a, colsA a)
  (if f ≠ 0 ∨ col < 1 ∨ t.2.2 < col then mkE 4 else
    let p := placeV (wayI m) x ((turnL t.2.1.toNat t.2.2.toNat t.1).take t.2.1.toNat)
    if p = 0 then mkE 6 else atV t.1 t.2.1 t.2.2 p col, f)
def besideP (aa : List Ar) : Vl × Int :=
  let x := sglV aa (0, 0)
  let s1 := thgS aa (0, 0)
  let s2 := lstS aa s1
  let s3 := lstS aa s2
  let p := placeV 1 x (argA aa s1.1).v
  (if p = 0 ∨ (argA aa s2.1).v.length < p then mkE 6 else (argA aa s2.1).v.getD (p - 1) vZero, s3.2)
noncomputable def chooseP (aa : List Ar) : Vl × Int :=
  let k := cntV aa (0, 0) 0
  let s := cntS aa (0, 0)
  let rest := aa.drop s.1
  (if k < 1 ∨ (rest.length : Int) < k then mkE 3 else
    let one := [argA rest (k - 1).toNat]
    if (thgS one (0, 0)).2 ≠ 0 then mkE (thgS one (0, 0)).2 else sglV one (0, 0), s.2)
def nROWS : List UInt8 := [82, 79, 87, 83]
def nCOLUMNS : List UInt8 := [67, 79, 76, 85, 77, 78, 83]
def nMATCH : List UInt8 := [77, 65, 84, 67, 72]
def nINDEX : List UInt8 := [73, 78, 68, 69, 88]
def nLOOKUP : List UInt8 := [76, 79, 79, 75, 85, 80]
def nVLOOKUP : List UInt8 := [86, 76, 79, 79, 75, 85, 80]
def nHLOOKUP : List UInt8 := [72, 76, 79, 79, 75, 85, 80]
def nCHOOSE : List UInt8 := [67, 72, 79, 79, 83, 69]
def takesF (n : List UInt8) : Int × Int :=
  if n = nROWS then (1, 1) else if n = nCOLUMNS then (1, 1) else if n = nMATCH then (2, 3) else if n = nINDEX then (2, 3) else if n = nLOOKUP then (3, 3) else if n = nVLOOKUP then (3, 4) else if n = nHLOOKUP then (3, 4) else if n = nCHOOSE then (2, 32) else (0, 0)
noncomputable def toldP (n : List UInt8) (aa : List Ar) : Vl × Int :=
  if n = nMATCH then matchP aa else if n = nINDEX then indexP aa else if n = nVLOOKUP then lookupP aa false else if n = nHLOOKUP then lookupP aa true else if n = nLOOKUP then besideP aa else if n = nCHOOSE then chooseP aa
  else if n = nROWS then (mkN (rowsA (argA aa 0) * 10000), 0) else (mkN (colsA (argA aa 0) * 10000), 0)
noncomputable def callP (n : List UInt8) (aa : List Ar) : Vl × Bool :=
  if (takesF n).2 = 0 then (vZero, false) else if (aa.length : Int) < (takesF n).1 ∨ (takesF n).2 < aa.length ∨ aa.all goodA = false then (mkE 3, true)
  else if (toldP n aa).2 ≠ 0 then (mkE (toldP n aa).2, true) else (soundV (toldP n aa).1, true)
/-- The reference's answer. -/
def shapeF (n : List UInt8) : List UInt8 :=
  if n = nROWS then [116] else if n = nCOLUMNS then [116] else if n = nMATCH then [120, 108, 78] else if n = nINDEX then [116, 110, 78] else if n = nLOOKUP then [120, 108, 108] else if n = nVLOOKUP then [120, 116, 110, 78] else if n = nHLOOKUP then [120, 116, 110, 78] else if n = nCHOOSE then [110] else []
noncomputable def faultA (a : Ar) (k : UInt8) : Int :=
  if k = 120 then (if a.w then 3 else (soundV (a.v.getD 0 vZero)).f) else if k = 110 ∨ k = 78 then (if a.w then 3 else (numF (a.v.getD 0 vZero)).2) else if k = 108 then (if rowsA a ≠ 1 ∧ colsA a ≠ 1 then 6 else 0) else 0
noncomputable def faultL : List Ar → List UInt8 → Int
  | a :: aa, k :: ks => if faultA a k ≠ 0 then faultA a k else faultL aa ks
  | _, _ => 0
noncomputable def wholeA (aa : List Ar) (i : Nat) (o : Int) : Int := match aa[i]? with
  | none => o
  | some a => wholeF (numF (a.v.getD 0 vZero)).1
def firstL (across : Bool) (C : Nat) (l : List Vl) : List Vl := (List.range l.length).filterMap fun i => if (across = true ∧ i < C ∨ across = false ∧ i % C = 0) then l[i]? else none
def atR (a : Ar) (row col : Int) : Vl := if row < 1 ∨ rowsA a < row ∨ col < 1 ∨ colsA a < col then mkE 4 else soundV (a.v.getD ((row - 1) * colsA a + (col - 1)).toNat vZero)
noncomputable def toldR (n : List UInt8) (aa : List Ar) : Vl :=
  let t := argA aa 0
  if n = nROWS then mkN (10000 * rowsA t) else if n = nCOLUMNS then mkN (10000 * colsA t)
  else if n = nINDEX then (if aa.length = 2 ∧ rowsA t = 1 then atR t 1 (wholeA aa 1 0) else atR t (wholeA aa 1 0) (wholeA aa 2 1))
  else if n = nMATCH then
    let p := placeV (wayI (wholeA aa 2 0)) (t.v.getD 0 vZero) (argA aa 1).v
    if p = 0 then mkE 6 else mkN (10000 * p)
  else if n = nLOOKUP then
    let p := placeV 1 (t.v.getD 0 vZero) (argA aa 1).v
    if p = 0 ∨ (argA aa 2).v.length < p then mkE 6 else soundV ((argA aa 2).v.getD (p - 1) vZero)
  else
    let u := argA aa 1
    let k := wholeA aa 2 0
    let across := decide (n = nHLOOKUP)
    if k < 1 ∨ (if across then rowsA u else colsA u) < k then mkE 4 else
      let p := placeV (wayI (wholeA aa 3 0)) (t.v.getD 0 vZero) (firstL across (colsA u).toNat u.v)
      if p = 0 then mkE 6 else if across then atR u k p else atR u p k
noncomputable def callR (n : List UInt8) (aa : List Ar) : Vl × Bool :=
  if shapeF n = [] then (vZero, false)
  else if (if n = nCHOOSE then decide (aa.length < 2) || decide (32 < aa.length) else (decide (aa.length < (shapeF n).length) && decide ((shapeF n).getD aa.length 0 ≠ 78)) || decide ((shapeF n).length < aa.length)) then (mkE 3, true)
  else if aa.all goodA = false then (mkE 3, true)
  else if faultL aa (shapeF n) ≠ 0 then (mkE (faultL aa (shapeF n)), true)
  else if n = nCHOOSE then
    let k := wholeA aa 0 0
    if k < 1 ∨ (aa.length : Int) ≤ k then (mkE 3, true)
    else if faultA (argA aa k.toNat) 120 ≠ 0 then (mkE (faultA (argA aa k.toNat) 120), true) else ((argA aa k.toNat).v.getD 0 vZero, true)
  else (toldR n aa, true)
end Go.Proofs.YtdjpkkgcoainhaaGreatDoor
/- Arguments in memory; the walks of sums.Arg.Good, of slices.ContainsFunc with it, of sums.One; way, whole, tabled. -/
set_option maxRecDepth 100000
namespace Go.Proofs.YtdjpkkgcoainhaaGreatDoor
open Go.RowKit Go.Lat Go.Lib

def Ar.val (a : Ar) (va : Option Addr) (vc : Nat) : Value := .agg #[.slice va a.v.length vc, .int .i64 a.c, .bool a.w]
/-- A row of arguments that is read. -/
def RdA (w : World) (p : Option Addr) (l : List Ar) : Prop :=
  ∀ i a, l[i]? = some a → ∃ g off va vc, p = some ⟨g, off, none⟩ ∧ g < w.heap.size ∧ w.cell? ⟨g, off + i * 3, none⟩ = some (.slice va a.v.length vc) ∧ w.cell? ⟨g, off + i * 3 + 1, none⟩ = some (.int .i64 a.c) ∧ w.cell? ⟨g, off + i * 3 + 2, none⟩ = some (.bool a.w) ∧ RdV w va a.v
theorem RdA.upd {w w' : World} {p : Option Addr} {l : List Ar} (h : RdA w p l) (u : Upd w w' (fun _ => False)) : RdA w' p l := fun i a ha => by
  obtain ⟨g, off, va, vc, e, hg, h0, h1, h2, h3⟩ := h i a ha
  exact ⟨g, off, va, vc, e, Nat.lt_of_lt_of_le hg u.size, (u.cell g _ hg id).trans h0, (u.cell g _ hg id).trans h1, (u.cell g _ hg id).trans h2, h3.upd u⟩
def oksA (l : List Ar) : Prop := ∀ a ∈ l, oksV a.v ∧ a.v.length ≤ 1000000 ∧ i64ok a.c
theorem drop_off {l : List Ar} {k : Nat} {i : Nat} {a : Ar} (h : (l.drop k)[i]? = some a) : l[k + i]? = some a := by rw [List.getElem?_drop] at h; exact h
theorem RdA.drop {w : World} {g off : Nat} {l : List Ar} (h : RdA w (some ⟨g, off, none⟩) l) (k : Nat) : RdA w (some ⟨g, off + k * 3, none⟩) (l.drop k) := fun i a ha => by
  obtain ⟨g', off', va, vc, e, hg, h0, h1, h2, h3⟩ := h (k + i) a (drop_off ha)
  obtain ⟨rfl, rfl⟩ : g' = g ∧ off' = off := by simp at e; exact ⟨e.1.symm, e.2.symm⟩
  have e2 : off' + k * 3 + i * 3 = off' + (k + i) * 3 := by omega
  exact ⟨g', off' + k * 3, va, vc, rfl, hg, by rw [e2]; exact h0, by rw [e2]; exact h1, by rw [e2]; exact h2, h3⟩
theorem RdA.take {w : World} {p : Option Addr} {l : List Ar} (h : RdA w p l) (k : Nat) : RdA w p (l.take k) := fun i a ha => h i a (by
  rw [List.getElem?_take] at ha
  split at ha
  · exact ha
  · cases ha)

set_option maxHeartbeats 1600000 in
theorem AGood_any (w : World) (a : Ar) (va : Option Addr) (vc : Nat) (hn : a.v.length ≤ 1000000) (hc : i64ok a.c) : Calls Tryz.prog 33 #[.agg #[.slice va a.v.length vc, .int .i64 a.c, .bool a.w]] w fun e w' => e = .returned (.bool (goodA a)) ∧ Upd w w' (fun _ => False) := by
  have bX := Vnew1 w (.cells #[.slice va a.v.length vc, .int .i64 a.c, .bool a.w] 67)
  obtain ⟨c0, c1, c2⟩ := cells3 bX
  have xl := lt_at bX
  unfold goodA
  obtain ⟨v, c, wd⟩ := a
  simp only at hn hc c0 c1 c2 ⊢
  obtain ⟨N, hN⟩ : ∃ N, v.length = N := ⟨_, rfl⟩
  rw [hN] at hn c0 ⊢
  clear hN bX
  cases wd with
  | false =>
    by_cases h1 : N = 1
    · have e1 : ((N : Int) == 1) = true := by simp; omega
      go_enter Tryz.func33, Tryz.ntmps33
      go_wp2_with fail
      all_goals go_ret
      all_goals refine ⟨?_, (Upd.refl w _).alloc _⟩
      all_goals first | (simp_all; done) | (simp_all; exact beq0 _)
    · have e1 : ((N : Int) == 1) = false := by simp; omega
      go_enter Tryz.func33, Tryz.ntmps33
      go_wp2_with fail
      all_goals go_ret
      all_goals refine ⟨?_, (Upd.refl w _).alloc _⟩
      all_goals first | (simp_all; done) | (simp_all; exact beq0 _)
  | true =>
    by_cases h1 : 0 < c
    · by_cases h2 : 1 ≤ N
      · by_cases h3 : N ≤ 4096
        · have h2' : (1 : Int) ≤ (N : Int) := by omega
          have h3' : (N : Int) ≤ 4096 := by omega
          have hc0 : c ≠ 0 := by omega
          have hc1 : (c == 0) = false := by simpa using hc0
          obtain ⟨R, hR⟩ : ∃ R, (N : Int).tmod c = R := ⟨_, rfl⟩
          have hR1 : -9223372036854775808 ≤ R ∧ R ≤ 9223372036854775807 := by
            rw [← hR, Int.tmod_eq_emod_of_nonneg (by omega)]
            have h5 := Int.emod_nonneg (N : Int) hc0
            have h6 := Int.emod_lt_of_pos (N : Int) h1
            obtain ⟨q1, q2⟩ := hc
            constructor <;> omega
          obtain ⟨hR1, hR2⟩ := hR1
          clear hc
          rw [hR]
          go_enter Tryz.func33, Tryz.ntmps33
          go_wp2_with fail
          all_goals go_ret
          all_goals refine ⟨?_, (Upd.refl w _).alloc _⟩
          all_goals first | (simp_all; done) | (simp_all; exact beq0 _) | (simp [h1, h2, h3]; exact beq0 _)
        · have h2' : (1 : Int) ≤ (N : Int) := by omega
          have h3' : ¬ (N : Int) ≤ 4096 := by omega
          go_enter Tryz.func33, Tryz.ntmps33
          go_wp2_with fail
          all_goals go_ret
          all_goals refine ⟨?_, (Upd.refl w _).alloc _⟩
          all_goals simp
      · have h2' : ¬ (1 : Int) ≤ (N : Int) := by omega
        go_enter Tryz.func33, Tryz.ntmps33
        go_wp2_with fail
        all_goals go_ret
        all_goals refine ⟨?_, (Upd.refl w _).alloc _⟩
        all_goals simp
        all_goals omega
    · go_enter Tryz.func33, Tryz.ntmps33
      go_wp2_with fail
      all_goals go_ret
      all_goals refine ⟨?_, (Upd.refl w _).alloc _⟩
      all_goals simp
      all_goals omega
theorem way_any (w : World) (m : Int) : Calls Tryz.prog 78 #[.int .i64 m] w fun e w' => e = .returned (.int .i64 (wayI m)) ∧ w' = w := by
  unfold wayI
  by_cases h1 : 0 < m
  · rw [if_pos h1]
    go_enter Tryz.func78, Tryz.ntmps78
    go_wp2_with fail
    go_ret
    exact ⟨rfl, rfl⟩
  · rw [if_neg h1]
    by_cases h2 : m < 0
    · rw [if_pos h2]
      go_enter Tryz.func78, Tryz.ntmps78
      go_wp2_with fail
      go_ret
      exact ⟨rfl, rfl⟩
    · rw [if_neg h2]
      go_enter Tryz.func78, Tryz.ntmps78
      go_wp2_with fail
      go_ret
      exact ⟨rfl, rfl⟩
theorem whole_any (w : World) (n : Int) (h1 : 0 ≤ n) (h2 : n ≤ 1000000) : Calls Tryz.prog 61 #[.int .i64 n] w fun e w' => e = .returned (mkN (n * 10000)).val ∧ Upd w w' (fun _ => False) := by
  have O := fun w => Of_any w n
  have e1 : wholeOk n = true := by unfold wholeOk; simp; omega
  rw [e1] at O
  simp only [if_true] at O
  obtain ⟨M, hM⟩ : ∃ M, n * 10000 = M := ⟨_, rfl⟩
  have NA := fun w => N_any w M
  rw [hM] at O ⊢
  obtain ⟨v, hv⟩ : ∃ v, mkN M = v := ⟨_, rfl⟩
  rw [hv] at NA ⊢
  obtain ⟨k0, n0, t0, b0, e0⟩ := v
  unfold Vl.val at NA ⊢
  simp only at NA ⊢
  clear hM hv e1
  go_enter Tryz.func61, Tryz.ntmps61
  go_wp2_with fail
  refine Calls.mono (O _) ?_
  rintro e w1 ⟨rfl, hw⟩
  obtain rfl := hw.symm
  clear hw
  go_wp2_with fail
  refine Calls.mono (NA _) ?_
  rintro e w2 ⟨rfl, u2⟩
  have bX2 := u2.get (Vnew1 w (.cells vZero.cs 29)) id
  obtain ⟨c0, c1, c2, c3, c4⟩ := cells5 bX2
  have xl := lt_at bX2
  have f0 := free_at bX2 0
  have f1 := free_at bX2 1
  have f2 := free_at bX2 2
  have f3 := free_at bX2 3
  have f4 := free_at bX2 4
  have HX2 := hide bX2
  have HU2 := hide u2
  clear bX2 u2
  go_wp2_with fail
  (try simp only [Exit.inBlock, Exit.then])
  refine bodyPost_ret (ret_vl rfl _ _ w.heap.size ⟨k0, n0, t0, b0, e0⟩ rfl (block5 HX2.out _ _ _ _ _)) rfl ?_
  exact ⟨rfl, upd5 (((Upd.refl w _).alloc _).then HU2.out (fun _ _ => id)) (Nat.le_refl _) _ _ _ _ _⟩
end Go.Proofs.YtdjpkkgcoainhaaGreatDoor
