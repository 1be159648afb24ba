/- Theorems of earlier texts that only the later ones need. -/
import Derived.Test.YtmfngdjhkpddoaaGreatDoorJ01
import Derived.Test.YtmfngdjhkpddoaaGreatDoorJ05
import Derived.Test.YtmfngdjhkpddoaaGreatDoorJ07
import Derived.Test.YtmfngdjhkpddoaaGreatDoorJ21
import Derived.Test.YtmfngdjhkpddoaaGreatDoorJ22
import Derived.Test.YtmfngdjhkpddoaaGreatDoorJ24
import Derived.Test.YtmfngdjhkpddoaaGreatDoorJ25
import Derived.Test.YtmfngdjhkpddoaaGreatDoorJ27
import Derived.Test.YtmfngdjhkpddoaaGreatDoorJ28
import Derived.Test.YtmfngdjhkpddoaaGreatDoorJ29
import Derived.Test.YtmfngdjhkpddoaaGreatDoorJ33
import Derived.Test.YtmfngdjhkpddoaaGreatDoorJ34
import Derived.Test.YtmfngdjhkpddoaaGreatDoorJ35
import Derived.Test.YtmfngdjhkpddoaaGreatDoorJ36
import Derived.Test.YtmfngdjhkpddoaaGreatDoorJ37
set_option maxRecDepth 100000
namespace Go.Lat
open Go.RowKit
section
variable {P : Program} (w : World)
/-- At a step of a region that draws its order. -/
theorem step_append_rw {ops : Array Oper} {o : Oper} {a : Act} {K : Act → World → Prop} {Q : Exit → Act → World → Prop} {E : Prop} (hgd : o.guard = none) (s x : Operand) (t u : TypeId)
    (ho : o.op = .call { callee := .builtin .append, args := #[s, x], argTypes := #[t, u] })
    (e : TypeId) (d : TypeDesc) (i : TypeInfo) (z : Value) (size bytes : Nat) (ht : P.underlying t = some (.slice e)) (hu : P.underlying u = some d) (hud : ∀ k, d ≠ .int k) (hi : P.info? e = some i) (hz : i.zero = some z)
    (hsize : i.size = size) (hby : i.bytes = bytes) (hzs : z.cells.size = size)
    (v : Value) (n : Nat) (xs : List Value) (hs : a.eval s = v) (hv : Rw w e size v n xs)
    (vx : Value) (m : Nat) (news : List Value) (hvx : a.eval x = vx) (hx : Src P w size vx m news) (hl : news.length = m * size) (h1 : ∀ u ∈ news, u.oneCell' = true)
    (hbytes : (n + m) * bytes ≤ 140737488355328) (h63 : n + m ≤ 9223372036854775807)
    (h : ∀ ga c w', Rw w' e size (.slice ga (n + m) c) (n + m) (xs ++ news) → w.grownBy w' v.ownBlock → ((Value.slice ga (n + m) c).ownBlock = v.ownBlock ∨ (Value.slice ga (n + m) c).ownBlock = some w.heap.size) → K (a.put o.dst (.slice ga (n + m) c)) w') :
    if Region.wanted o (yielded ops a.tmps) = true then Oper.wp P o a w K Q else E := by
  have hw : Region.wanted o (yielded ops a.tmps) = true := by simp [Region.wanted, hgd]
  rw [if_pos hw]
  exact wp_append_rw w s x t u ho e d i z size bytes ht hu hud hi hz hsize hby hzs v n xs hs hv vx m news hvx hx hl h1 hbytes h63 h
end
end Go.Lat
namespace Go.Proofs.YtmfngdjhkpddoaaGreatDoor
open Go.RowKit Go.Lat
theorem ArrAt.dg_take {w : World} {g : Nat} {l : List Nat} (h : ArrAt w g l) (m : Nat) (hm : m ≤ l.length) : DgAt w (.slice (some ⟨g, 0, none⟩) m l.length) (l.take m) := by
  obtain ⟨cs, h1, h2⟩ := h
  have hs : cs.size = l.length := by rw [← Array.length_toList, h2, List.length_map]
  have hl : (l.take m).length = m := by rw [List.length_take, Nat.min_eq_left hm]
  unfold DgAt
  rw [hl]
  refine ⟨by rw [List.length_map, hl, Nat.mul_one], .inr ⟨g, 0, l.length, cs, rfl, h1, hm, by omega, ?_⟩⟩
  rw [h2, List.drop_zero, Nat.mul_one, List.map_take]
end Go.Proofs.YtmfngdjhkpddoaaGreatDoor
namespace Go.Proofs.YtmfngdjhkpddoaaGreatDoor
open Go.RowKit Go.Lat
theorem dg_ge (n : Nat) (h : n ≠ 0) : 10 ^ ((dg n).length - 1) ≤ n := by
  induction n using Nat.strongRecOn with
  | ind n ih =>
    rw [dg_pos h]
    by_cases h3 : n / 10 = 0
    · rw [h3, dg_zero]; simp; omega
    · have := ih (n / 10) (by omega) h3
      have hl : 1 ≤ (dg (n / 10)).length := by rw [dg_pos h3]; simp
      simp only [List.length_cons, Nat.add_sub_cancel]
      have e : 10 ^ (dg (n / 10)).length = 10 * 10 ^ ((dg (n / 10)).length - 1) := by
        rw [← Nat.pow_succ']; congr 1; omega
      omega
theorem norm_ge (l : List Nat) (h : Norm l) (hl : l ≠ []) : 10 ^ (l.length - 1) ≤ val l := by
  have e := norm_dg l h
  have h0 : val l ≠ 0 := by
    intro h0
    rw [h0, dg_zero] at e
    exact hl e
  have := dg_ge (val l) h0
  rw [← e] at this
  exact this
end Go.Proofs.YtmfngdjhkpddoaaGreatDoor
namespace Go.Proofs.YtmfngdjhkpddoaaGreatDoor
open Go.RowKit Go.Lat Go.Lib
theorem stepL_eq : ∀ n : Nat, n ≤ 14 → stepL n = (((10 ^ (4 + n) : Nat) : Int), 0)
  | 0, _ => rfl
  | n + 1, h => by
    have ih := stepL_eq n (by omega)
    rw [stepL]
    have e1 : (10 : Nat) ^ (4 + (n + 1)) = 10 ^ (4 + n) * 10 := by rw [← Nat.pow_succ]; rfl
    have hp : (10 : Nat) ^ (4 + n) ≤ 100000000000000000 := Nat.le_trans (Nat.pow_le_pow_right (by decide) (show 4 + n ≤ 17 by omega)) (by decide)
    rw [e1]
    clear e1
    obtain ⟨P, hP⟩ : ∃ P, (10 : Nat) ^ (4 + n) = P := ⟨_, rfl⟩
    rw [hP] at hp ih ⊢
    rw [ih]
    simp only [if_true]
    have o1 : okNum (P : Int) = true := by simp [okNum]; omega
    have o2 : okNum 100000 = true := by decide
    have s1 : sgn (P : Int) = false := by simp [sgn]
    have s2 : sgn 100000 = false := by decide
    have r1 : rnd (P * 100000) 10000 = P * 10 := by
      have m1 : P * 100000 % 10000 = 0 := by omega
      have m2 : P * 100000 / 10000 = P * 10 := by omega
      unfold rnd
      rw [m1, m2]
      rfl
    have hn : ¬ 9000000000000000000 < P * 10 := by omega
    have hm : mulF (P : Int) 100000 = (numV false (P * 10), numE (P * 10)) := by
      unfold mulF
      rw [o1, o2, s1, s2]
      simp only [Bool.and_self, if_true, Int.natAbs_natCast, bne_self_eq_false]
      rw [show ((100000 : Int).natAbs) = 100000 from rfl, r1]
    rw [hm]
    unfold numV numE
    rw [if_neg hn, if_neg hn]
    simp
theorem stepL_15 : stepL 15 = (0, 5) := by
  have ih := stepL_eq 14 (by omega)
  rw [stepL, ih]
  rfl
theorem stepF_eq {p : Int} (h1 : -15 ≤ p) (h2 : p ≤ 3) : stepF p = if p = -15 then (0, 5) else (((10 ^ (4 - p).toNat : Nat) : Int), 0) := by
  unfold stepF
  by_cases h0 : 0 ≤ p
  · rw [if_pos h0, if_neg (by omega)]
  · rw [if_neg h0]
    obtain ⟨n, hn⟩ : ∃ n : Nat, p = -(n : Int) := ⟨(-p).toNat, by omega⟩
    subst hn
    have e1 : (- -(n : Int)).toNat = n := by omega
    have e2 : (4 - -(n : Int)).toNat = 4 + n := by omega
    rw [e1, e2]
    by_cases h : n = 15
    · subst h
      rw [if_pos (by rfl)]
      exact stepL_15
    · rw [if_neg (by omega)]
      exact stepL_eq n (by omega)
theorem numV_abs (s : Bool) (X : Nat) (h : X ≤ 9000000000000000000) : (numV s X).natAbs = X := by
  unfold numV
  rw [if_neg (by omega)]
  cases s <;> simp
theorem rup_up {a p : Int} (ha : okNum a = true) (h1 : -15 ≤ p) (h2 : p ≤ 15) : rupF a p = upV a p := by
  unfold upV
  by_cases h4 : 4 ≤ p
  · rw [if_pos h4]
    have hr : rndF a p = (a, 0) := by
      unfold rndF
      rw [if_pos ha, if_neg (by omega), if_pos h4]
    unfold rupF
    rw [hr, if_pos (.inr (Nat.le_refl _))]
    rfl
  rw [if_neg h4]
  have hst := stepF_eq h1 (by omega : p ≤ 3)
  have hT : 10 ^ (4 - p).toNat = 10 ^ (4 - p).toNat := rfl
  have hp15 : p = -15 → (10 : Nat) ^ (4 - p).toNat = 10000000000000000000 := fun h => by subst h; decide
  have hp14 : p ≠ -15 → (10 : Nat) ^ (4 - p).toNat ≤ 1000000000000000000 := fun h => by
    have : (10 : Nat) ^ (4 - p).toNat ≤ 10 ^ 18 := Nat.pow_le_pow_right (by decide) (by omega)
    exact Nat.le_trans this (by decide)
  have hT0 : 0 < (10 : Nat) ^ (4 - p).toNat := Nat.pow_pos (by decide)
  have hr : rndF a p = (numV (sgn a) (rnd a.natAbs (10 ^ (4 - p).toNat) * 10 ^ (4 - p).toNat), numE (rnd a.natAbs (10 ^ (4 - p).toNat) * 10 ^ (4 - p).toNat)) := by
    unfold rndF
    rw [if_pos ha, if_neg (by omega), if_neg h4]
  clear hT
  generalize (10 : Nat) ^ (4 - p).toNat = T at *
  have ba := okNum_true ha
  obtain ⟨x, hx⟩ : ∃ x, a.natAbs = x := ⟨_, rfl⟩
  have hxb : x ≤ 9000000000000000000 := by omega
  unfold rupF
  rw [hr]
  simp only [hx]
  rw [hst]
  have hdm := Nat.div_add_mod x T
  have hlt := Nat.mod_lt x hT0
  obtain ⟨q, hq⟩ : ∃ q, x / T = q := ⟨_, rfl⟩
  obtain ⟨m, hm⟩ : ∃ m, x % T = m := ⟨_, rfl⟩
  rw [hq, hm] at hdm
  rw [hm] at hlt
  have eR : rnd x T = q + if 2 * m < T then 0 else 1 := by unfold rnd; rw [hq, hm]
  have eC : ceilN x T = q + if m = 0 then 0 else 1 := by unfold ceilN; rw [hq, hm]
  have hmul : T * q = q * T := Nat.mul_comm _ _
  have hmul1 : (q + 1) * T = q * T + T := Nat.succ_mul q T
  by_cases hup : m = 0 ∨ ¬ 2 * m < T
  · -- what is nearest is not nearer to 0
    have e : rnd x T = ceilN x T := by
      rw [eR, eC]
      rcases hup with h | h
      · rw [if_pos (by omega), if_pos h]
      · rw [if_neg h, if_neg (by omega)]
    rw [← e]
    have hge : x ≤ rnd x T * T := by
      rw [eR]
      split
      · rename_i h2'
        have : m = 0 := hup.elim id (fun h => absurd h2' h)
        simp only [Nat.add_zero]
        omega
      · omega
    by_cases hov : 9000000000000000000 < rnd x T * T
    · have : numE (rnd x T * T) = 5 := by unfold numE; rw [if_pos hov]
      rw [this, if_pos (.inl (by decide))]
    · have hh : x ≤ (numV (sgn a) (rnd x T * T)).natAbs := by
        rw [numV_abs _ _ (by omega)]
        exact hge
      rw [if_pos (.inr hh)]
  · simp only [not_or, Decidable.not_not] at hup
    obtain ⟨m0, m1⟩ := hup
    have e1 : rnd x T = q := by rw [eR, if_pos m1]; rfl
    have e2 : ceilN x T = q + 1 := by rw [eC, if_neg m0]
    rw [e1, e2, hmul1]
    have hqx : q * T < x := by omega
    have hE : numE (q * T) = 0 := by unfold numE; rw [if_neg (by omega)]
    rw [hE, numV_abs _ _ (by omega), if_neg (by simp; omega)]
    by_cases h15 : p = -15
    · rw [if_pos h15]
      simp only [ne_eq, show ¬ (5 : Int) = 0 from by decide, not_false_eq_true, if_true]
      have hTv := hp15 h15
      have hbig : 9000000000000000000 < q * T + T := by omega
      unfold numE
      rw [if_pos hbig]
      rfl
    · rw [if_neg h15]
      have hTv := hp14 h15
      simp only [ne_eq, not_true_eq_false, if_false]
      have key : ∀ s : Bool, sgn a = s → (addV (numV s (q * T)) (if a < 0 then -(T : Int) else T), addE (numV s (q * T)) (if a < 0 then -(T : Int) else T)) = (numV s (q * T + T), numE (q * T + T)) := by
        intro s hs
        have hsa : (a < 0) ↔ s = true := by rw [← hs]; simp [sgn]
        have hv : numV s (q * T) = if s then -((q * T : Nat) : Int) else ((q * T : Nat) : Int) := by
          unfold numV
          rw [if_neg (by omega)]
        rw [hv]
        generalize q * T = Y at *
        have o1 : okNum (if s then -(Y : Int) else (Y : Int)) = true := by cases s <;> simp [okNum] <;> omega
        have o2 : okNum (if a < 0 then -(T : Int) else (T : Int)) = true := by split <;> simp [okNum] <;> omega
        have hsum : (if s then -(Y : Int) else (Y : Int)) + (if a < 0 then -(T : Int) else (T : Int)) = if s then -((Y + T : Nat) : Int) else ((Y + T : Nat) : Int) := by
          cases s with
          | true => rw [if_pos (hsa.2 rfl)]; simp; omega
          | false =>
            rw [if_neg (fun h => Bool.noConfusion (hsa.1 h))]
            simp
        unfold addV addE numV numE
        rw [hsum, o1, o2]
        by_cases hov : 9000000000000000000 < Y + T
        · have o3 : okNum (if s then -((Y + T : Nat) : Int) else ((Y + T : Nat) : Int)) = false := by cases s <;> simp [okNum] <;> omega
          rw [o3, if_pos hov, if_pos hov]
          rfl
        · have o3 : okNum (if s then -((Y + T : Nat) : Int) else ((Y + T : Nat) : Int)) = true := by cases s <;> simp [okNum] <;> omega
          rw [o3, if_neg hov, if_neg hov]
          rfl
      rw [key _ rfl]
end Go.Proofs.YtmfngdjhkpddoaaGreatDoor
namespace Go.Lat
open Go.RowKit
theorem Rw.past {w w' : World} {e e2 size size2 : Nat} {v v2 : Value} {n n2 : Nat} {xs ys : List Value} (h : Rw w e size v n xs) (h2 : Rw w e2 size2 v2 n2 ys) (hne : e ≠ e2) (hg : w.grownBy w' v2.ownBlock) : Rw w' e size v n xs :=
  h.grown hg (h.apart h2 hne)
theorem made2 (W : World) (Y : Obj) (cur : Array Value) (e size n' : Nat) (hs : cur.size = n' * size) : Rw ((W.drew.alloc Y).alloc (.cells cur e)) e size (.slice (some ⟨W.heap.size + 1, 0, none⟩) n' n') n' cur.toList := by
  have h := Rw.made (W.drew.alloc Y) cur e size n' hs
  have e1 : (W.drew.alloc Y).heap.size = W.heap.size + 1 := by
    show (W.heap.push Y).size = _
    simp
  rw [e1] at h
  exact h
end Go.Lat
namespace Go.Proofs.YtmfngdjhkpddoaaGreatDoor
open Go.RowKit Go.Lat Go.Lib
theorem vlCells_app (a b : List Vl) : vlCells (a ++ b) = vlCells a ++ vlCells b := by simp [vlCells]
theorem Tryz.infoVl : (Tryz.prog.info? 26).map (fun i => (i.zero, i.size, i.bytes)) = some (some (.agg #[.int .i64 0, .int .i64 0, .string ⟨#[]⟩, .bool false, .int .i64 0]), 5, 48) := by kernel_rfl
theorem Tryz.infoRl : (Tryz.prog.info? 36).map (fun i => (i.zero, i.size, i.bytes)) = some (some (.agg #[.int .i64 0, .int .i64 0, .string ⟨#[]⟩, .bool false, .int .i64 0]), 5, 48) := by kernel_rfl
theorem Rw.made0 (w : World) (cur : Array Value) (e size n : Nat) (hs : cur.size = n * size) : Rw (w.alloc (.cells cur e)) e size (.slice (some ⟨w.heap.size, 0, none⟩) 0 n) 0 [] :=
  ⟨by simp, .inr ⟨w.heap.size, 0, n, cur, rfl, heap_alloc_new w _, Nat.zero_le _, by omega, by simp⟩⟩
end Go.Proofs.YtmfngdjhkpddoaaGreatDoor
namespace Go.Proofs.YtmfngdjhkpddoaaGreatDoor.Fl
open Go.RowKit Go.Lat
set_option maxHeartbeats 1600000 in
theorem below2_any (w : World) (v1 v2 : Value) (a b : List Nat) (h1 : DgAt w v1 a) (h2 : DgAt w v2 b) (na : Norm a) (nb : Norm b) (hl : a.length ≤ 100000) :
    Calls Tryz.prog 140 #[v1, v2] w fun e w' => e = .returned (.bool (decide (val a < val b))) ∧ ∃ n, w' = w.drewN n := by
  obtain ⟨a1, p1, rfl, -⟩ := Rw.form h1
  obtain ⟨a2, p2, rfl, -⟩ := Rw.form h2
  by_cases hne : a.length = b.length
  · have d0 : ((a.length : Int) != (b.length : Int)) = false := by simp; omega
    have r1 := fun j (hj : j < a.length) => dg_cell h1 j hj
    have r2 := fun j (hj : j < b.length) => dg_cell h2 j hj
    have cmp := fun j hla hlb hd hn => val_cmp a b j na.1 nb.1 hla hlb hd hn
    have CMP := hide cmp
    have HN := hide hne
    obtain ⟨N, hN⟩ : ∃ N, a.length = N := ⟨_, rfl⟩
    obtain ⟨M, hM⟩ : ∃ M, b.length = M := ⟨_, rfl⟩
    have HA := hide hN
    have HB := hide hM
    rw [hN, hM] at d0 ⊢
    rw [hN] at hl
    have hNM : N = M := by omega
    clear h1 h2 na nb cmp hne hN hM
    go_enter Tryz.func140, Tryz.ntmps140
    go_wp2_with fail
    go_loopg [5] N (fun q i wr => ∃ r : Nat, r ≤ q ∧ r ≤ N ∧ i = .int .i64 ((r : Int) - 1) ∧ a.drop r = b.drop r ∧ ∃ n, wr = w.drewN n)
    case atStart => exact ⟨N, Nat.le_refl _, Nat.le_refl _, by first | rfl | go_num, by rw [List.drop_eq_nil_of_le (by rw [HA.out]; exact Nat.le_refl _), List.drop_eq_nil_of_le (by rw [HB.out]; omega)], 0, rfl⟩
    case round =>
      obtain ⟨r, hr, hrN, rfl, hd, n, rfl⟩ := hrel
      cases r with
      | zero =>
        have e : a = b := by simpa using hd
        have hv : decide (val a < val b) = false := by rw [e]; simp
        clear hNM
        go_wp2_with fail
        go_ret
        exact ⟨by rw [hv]; rfl, n, rfl⟩
      | succ j =>
        have ej : ((j + 1 : Nat) : Int) - 1 = (j : Int) := by omega
        rw [ej]
        obtain ⟨b1, o1, rfl, c1⟩ := r1 j (by rw [HA.out]; omega)
        obtain ⟨b2, o2, rfl, c2⟩ := r2 j (by rw [HB.out]; omega)
        have hcmp := CMP.out j (by rw [HA.out]; omega) (by rw [HB.out]; omega) hd
        have hstep : a.getD j 0 = b.getD j 0 → a.drop j = b.drop j := by
          intro he
          rw [drop_getD a j (by rw [HA.out]; omega), drop_getD b j (by rw [HB.out]; omega), hd, he]
        have HC := hide hcmp
        have HS := hide hstep
        clear r1 r2 ej hcmp hstep
        generalize a.getD j 0 = x at c1 HC HS
        generalize b.getD j 0 = y at c2 HC HS
        have hj0 : (0 : Int) ≤ (j : Int) := Int.natCast_nonneg _
        have hjN : (j : Int) < (N : Int) := by omega
        have hjM : (j : Int) < (M : Int) := by omega
        clear hNM
        by_cases hxy : x = y
        · have d1 : ((x : Int) != (y : Int)) = false := by simp; omega
          go_wp2_with fail
          go_quiet (fail)
          go_wp2_with fail
          go_roundg (gk - 1)
          case measure => omega
          case rel => exact ⟨j, by omega, by omega, by first | rfl | go_num, HS.out hxy, _, rfl⟩
        · have d1 : ((x : Int) != (y : Int)) = true := by simp; omega
          have hv : decide (val a < val b) = decide (x < y) := by
            rw [Bool.eq_iff_iff]
            simp only [decide_eq_true_eq]
            exact HC.out hxy
          go_wp2_with fail
          go_quiet (fail)
          go_wp2_with fail
          go_quiet (fail)
          go_wp2_with fail
          go_ret
          exact ⟨by rw [hv]; simp, _, by rw [World.drewN_drewN, World.drewN_drewN]⟩
  · have d0 : ((a.length : Int) != (b.length : Int)) = true := by simp; omega
    have hv : decide (val a < val b) = decide (a.length < b.length) := by
      rw [Bool.eq_iff_iff]
      simp only [decide_eq_true_eq]
      constructor
      · intro h
        rcases Nat.lt_trichotomy a.length b.length with c | c | c
        · exact c
        · exact absurd c hne
        · have := val_len_lt b a nb na c
          omega
      · exact val_len_lt a b na nb
    clear hne
    go_enter Tryz.func140, Tryz.ntmps140
    go_wp2_with fail
    go_ret
    exact ⟨by rw [hv]; simp, 0, rfl⟩
end Go.Proofs.YtmfngdjhkpddoaaGreatDoor.Fl
namespace Go.Proofs.YtmfngdjhkpddoaaGreatDoor.Fl
open Go.RowKit Go.Lat
set_option maxHeartbeats 3200000 in
theorem product2_any (w : World) (v1 v2 : Value) (a b : List Nat) (h1 : DgAt w v1 a) (h2 : DgAt w v2 b) (na : Norm a) (nb : Norm b) (hl1 : a.length ≤ 1000) (hl2 : b.length ≤ 1000) :
    Calls Tryz.prog 139 #[v1, v2] w fun e w' => ∃ v, e = .returned v ∧ DgAt w' v (dg (val a * val b)) ∧ Upd w w' (fun _ => False) ∧ (∀ k, v.ownBlock = some k → w.heap.size ≤ k) := by
  have q1 := h1.lt
  have q2 := h2.lt
  obtain ⟨a1, p1, rfl, -⟩ := Rw.form h1
  obtain ⟨a2, p2, rfl, -⟩ := Rw.form h2
  have r1 := fun j (hj : j < a.length) => dg_cell h1 j hj
  have r2 := fun j (hj : j < b.length) => dg_cell h2 j hj
  obtain ⟨A, hA⟩ : ∃ A, a.length = A := ⟨_, rfl⟩
  obtain ⟨B, hB⟩ : ∃ B, b.length = B := ⟨_, rfl⟩
  obtain ⟨N, hN⟩ : ∃ N, A + B + 1 = N := ⟨_, rfl⟩
  have hNb : N ≤ 5000 := by rw [← hN, ← hA, ← hB]; omega
  have hmk := run_make_row' (P := Tryz.prog) 49 3 (.int .i64 0) 8 Tryz.underlying49 Tryz.info3 rfl .i64 .i64 N (by omega) (by omega)
  have eN : ((A : Int) + (B : Int) + 1) = (N : Int) := by omega
  have HA := hide hA
  have HB := hide hB
  have HN := hide hN
  rw [hA] at hl1 ⊢
  rw [hB] at hl2 ⊢
  clear h1 h2 hA hB
  go_enter Tryz.func139, Tryz.ntmps139
  go_wp2_with fail
  have hM := ArrAt.made w N
  have uM : Upd w (w.alloc (.cells (madeCells #[.int .i64 0] N) 3)) (fun _ => False) := (Upd.refl w _).alloc _
  have hS := Acc.start a b
  rw [HA.out, HB.out, HN.out] at hS
  generalize (w.alloc (.cells (madeCells #[.int .i64 0] N) 3)) = wm at hM uM ⊢
  obtain ⟨G, hG⟩ : ∃ G, w.heap.size = G := ⟨_, rfl⟩
  rw [hG] at hM ⊢
  have HG := hide hG
  clear hG hmk eN
  go_loopg [6] A (fun q v wr => ∃ (i : Nat) (o : List Nat), i + q = A ∧ v = .int .i64 i ∧ ArrAt wr G o ∧ Acc a b o i 0 ∧ Upd w wr (fun _ => False))
  case atStart => exact ⟨0, _, by omega, rfl, hM, hS, uM⟩
  case round =>
    clear hM hS uM
    obtain ⟨i, o, hi, rfl, hO, hC, hu⟩ := hrel
    obtain ⟨ogk, rfl⟩ : ∃ ogk : Nat, ogk = gk := ⟨_, rfl⟩
    by_cases hiA : i < A
    · have d1 : decide (i < A) = true := by simpa using hiA
      obtain ⟨g1, o1, rfl, c1⟩ := r1 i (by rw [HA.out]; exact hiA)
      have hg1 : g1 < w.heap.size := q1 g1 rfl
      have hx9 := dgs_le a na i
      have HX : Hid (∃ x, a.getD i 0 = x) := hide ⟨_, rfl⟩
      obtain ⟨x, hx⟩ := HX.out
      rw [hx] at c1 hx9
      have HX2 := hide hx
      clear hx HX
      obtain ⟨wo, hwo⟩ : ∃ wo : World, wo = wr := ⟨_, rfl⟩
      subst hwo
      go_wp2_with fail
      go_loopg [7] B (fun q v wr => ∃ (k : Nat) (o : List Nat), k + q = B ∧ v = .int .i64 k ∧ ArrAt wr G o ∧ Acc a b o i k ∧ Upd w wr (fun _ => False))
      case atStart => exact ⟨0, o, by omega, rfl, hO, hC, hu⟩
      case round =>
        clear hO hC hu d1
        obtain ⟨k, o, hk, rfl, hO, hC, hu⟩ := hrel
        by_cases hkB : k < B
        · have d2 : decide (k < B) = true := by simpa using hkB
          obtain ⟨g2, o2, rfl, c2⟩ := r2 k (by rw [HB.out]; exact hkB)
          have hg2 : g2 < w.heap.size := q2 g2 rfl
          have k1 := (hu.cell g1 _ hg1 id).trans c1
          have k2 := (hu.cell g2 _ hg2 id).trans c2
          have hlen := hC.len
          rw [HA.out, HB.out, HN.out] at hlen
          obtain ⟨s, hs⟩ : ∃ s, i + k = s := ⟨_, rfl⟩
          have k3 := hO.cell s (by omega)
          have hf := hO.free s
          have hz := hC.le _ (getD_mem o s (by omega))
          rw [HB.out] at hz
          have hiB := Nat.mul_le_mul (show i ≤ 1000 by omega) (show B ≤ 1000 by omega)
          have hy9 := dgs_le b nb k
          obtain ⟨y, hy⟩ : ∃ y, b.getD k 0 = y := ⟨_, rfl⟩
          obtain ⟨z, hzz⟩ : ∃ z, o.getD s 0 = z := ⟨_, rfl⟩
          rw [hy] at k2 hy9
          rw [hzz] at k3 hz
          have hxy := Nat.mul_le_mul hx9 hy9
          obtain ⟨t, ht⟩ : ∃ t, x * y = t := ⟨_, rfl⟩
          rw [ht] at hxy
          have hzb : z ≤ 90000000 := by omega
          obtain ⟨u, hu2⟩ : ∃ u, z + t = u := ⟨_, rfl⟩
          have e1 : (i : Int) + (k : Int) = (s : Int) := by omega
          have e2 : (x : Int) * (y : Int) = (t : Int) := by rw [← ht]; simp
          have e3 : (z : Int) + (t : Int) = (u : Int) := by omega
          have hs0 : (0 : Int) ≤ (s : Int) := Int.natCast_nonneg _
          have hsN : (s : Int) < (N : Int) := by omega
          have hi0 : (0 : Int) ≤ (i : Int) := Int.natCast_nonneg _
          have hiA2 : (i : Int) < (A : Int) := by omega
          have hk0 : (0 : Int) ≤ (k : Int) := Int.natCast_nonneg _
          have hkB2 : (k : Int) < (B : Int) := by omega
          have hstep := hC.step na nb (by rw [HA.out]; exact hiA) (by rw [HB.out]; exact hkB)
          rw [HX2.out, hy, hs, hzz, ht, hu2] at hstep
          have wa : IntKind.i64.wrap (s : Int) = (s : Int) := IntWalk.i64_in _ (by omega)
          have wb : IntKind.i64.wrap (t : Int) = (t : Int) := IntWalk.i64_in _ (by omega)
          have wc : IntKind.i64.wrap (u : Int) = (u : Int) := IntWalk.i64_in _ (by omega)
          have HO := hide hO
          clear hs ht hu2 hy hzz hO hC hz hlen hiB c2 r1 r2
          go_wp2_with fail
          go_still_tail 21, (by kernel_rfl)
          clear wa wb wc
          change wpList _ _ _ _ _ wr.drew
          go_wp2_with fail
          go_roundg (gk - 1)
          case measure => omega
          case rel => exact ⟨k + 1, o.set s u, by omega, by go_num, (HO.out.set s u).upd ((Upd.refl _ (fun _ => False)).drew) id, hstep, (hu.setCell ⟨G, s, none⟩ _ (.inl (by rw [HG.out]; exact Nat.le_refl _))).drew⟩
        · have hke : k = b.length := by rw [HB.out]; omega
          subst hke
          have hrow := hC.row (by rw [HA.out]; exact hiA)
          have d2 : decide (b.length < B) = false := by simp; omega
          clear hk hkB hC r1 r2
          go_wp2_with fail
          go_roundg (ogk - 1)
          case measure => omega
          case rel => exact ⟨i + 1, o, by omega, by go_num, hO, hrow, hu⟩
    · have hie : i = A := by omega
      subst hie
      have d1 : decide (i < i) = false := by simp
      have hV : val o = val a * val b := by
        have := hC.v
        rw [← HA.out, List.take_of_length_le (Nat.le_refl _)] at this
        simpa [val] using this
      obtain ⟨V, eV⟩ : ∃ V, val a * val b = V := ⟨_, rfl⟩
      rw [eV] at hV
      have hVb : V < 10 ^ (i + B) := by
        rw [← eV, Nat.pow_add]
        have v1 := val_lt a na.1
        have v2 := val_lt b nb.1
        rw [HA.out] at v1
        rw [HB.out] at v2
        rcases Nat.eq_zero_or_pos (val a) with e | e
        · rw [e, Nat.zero_mul]; exact Nat.mul_pos (Nat.pow_pos (by omega)) (Nat.pow_pos (by omega))
        · exact Nat.mul_lt_mul_of_lt_of_le v1 (Nat.le_of_lt v2) (Nat.pow_pos (by omega))
      obtain ⟨n, hn⟩ : ∃ n, i + B = n := ⟨_, rfl⟩
      rw [hn] at hVb
      have hcar : Car V n (81 * (i * B) + 1) o 0 := by
        refine ⟨by rw [hC.len, HA.out, HB.out]; omega, hV, by omega, ?_, ?_⟩
        · intro j
          by_cases hj : j < o.length
          · have := hC.le _ (getD_mem o j hj)
            rw [HB.out] at this
            omega
          · rw [List.getD_eq_getElem?_getD, List.getElem?_eq_none (by omega)]; simp
        · intro j _
          by_cases hj : j < o.length
          · have := hC.le _ (getD_mem o j hj)
            rw [HB.out] at this
            omega
          · rw [List.getD_eq_getElem?_getD, List.getElem?_eq_none (by omega)]; simp
      have hAB := Nat.mul_le_mul hl1 hl2
      obtain ⟨T, hT⟩ : ∃ T, 81 * (i * B) + 1 = T := ⟨_, rfl⟩
      rw [hT] at hcar
      have hTb : 1 ≤ T ∧ T ≤ 100000000 := by omega
      have HV := hide eV
      have HVb := hide hVb
      have hnN : n + 1 = N := by omega
      have HNN := hide hnN
      clear hC hV eV hVb r1 r2 hAB hT hiA hi hn hnN hN
      go_wp2_with fail
      go_loopg [8] n (fun q v wr => ∃ (j : Nat) (o : List Nat), j + q = n ∧ v = .int .i64 j ∧ ArrAt wr G o ∧ Car V n T o j ∧ Upd w wr (fun _ => False))
      case atStart => exact ⟨0, o, by omega, rfl, hO, hcar, hu⟩
      case round =>
        clear hO hcar hu d1
        obtain ⟨j, o, hj, rfl, hO, hC, hu⟩ := hrel
        have hlen := hC.len
        obtain ⟨s, hs⟩ : ∃ s, j + 1 = s := ⟨_, rfl⟩
        have e1 : (j : Int) + 1 = (s : Int) := by omega
        by_cases hjn : j < n
        · have hsN : s < N := by have := HNN.out; omega
          have d2 : decide (s < N) = true := by simpa using hsN
          have k1 := hO.cell s (by have := HNN.out; omega)
          have k2 := hO.cell j (by omega)
          have f1 := hO.free s
          have p1 := hC.lt s (by omega)
          have p2 := hC.le j
          have hst := hC.step hjn hTb.1
          rw [hs] at hst
          obtain ⟨p, hp⟩ : ∃ p, o.getD s 0 = p := ⟨_, rfl⟩
          obtain ⟨r, hr⟩ : ∃ r, o.getD j 0 = r := ⟨_, rfl⟩
          obtain ⟨c, hc⟩ : ∃ c, r / 10 = c := ⟨_, rfl⟩
          obtain ⟨m, hm⟩ : ∃ m, r % 10 = m := ⟨_, rfl⟩
          obtain ⟨u, hu2⟩ : ∃ u, p + c = u := ⟨_, rfl⟩
          rw [hp] at k1 p1
          rw [hr] at k2 p2
          rw [hp, hr, hc, hm, hu2] at hst
          have hO1 := hO.set s u
          have k4 := hO1.cell j (by simp; omega)
          rw [getD_set _ s j _ (by have := HNN.out; omega), if_neg (by omega), hr] at k4
          have f4 := hO1.free j
          have hO2 := hO1.set j m
          have e2 : (r : Int).tdiv 10 = (c : Int) := by rw [← hc]; rfl
          have e3 : (r : Int).tmod 10 = (m : Int) := by rw [← hm]; rfl
          have e4 : (p : Int) + (c : Int) = (u : Int) := by omega
          have hs0 : (0 : Int) ≤ (s : Int) := Int.natCast_nonneg _
          have hsN2 : (s : Int) < (N : Int) := by omega
          have hj0 : (0 : Int) ≤ (j : Int) := Int.natCast_nonneg _
          have hjN2 : (j : Int) < (N : Int) := by omega
          have wa : IntKind.i64.wrap (s : Int) = (s : Int) := IntWalk.i64_in _ (by omega)
          have wb : IntKind.i64.wrap (u : Int) = (u : Int) := IntWalk.i64_in _ (by omega)
          have hcb : c ≤ 100000000 := by omega
          have wc : IntKind.i64.wrap (c : Int) = (c : Int) := IntWalk.i64_in _ (by omega)
          have HS := hide hs
          have HO := hide hO2
          clear hs hp hr hc hm hu2 hO hO1 hO2 hC hlen
          go_wp2_with fail
          go_still_tail 15, (by kernel_rfl)
          clear wa wb wc
          change wpList _ _ _ _ _ wr.drew
          go_wp2_with fail
          go_roundg (gk - 1)
          case measure => omega
          case rel => exact ⟨s, _, by have := HS.out; omega, rfl, HO.out.upd ((Upd.refl _ (fun _ => False)).drew) id, hst, ((hu.setCell ⟨G, s, none⟩ _ (.inl (by rw [HG.out]; exact Nat.le_refl _))).setCell ⟨G, j, none⟩ _ (.inl (by rw [HG.out]; exact Nat.le_refl _))).drew⟩
        · have hje : j = n := by omega
          subst hje
          have hsN : s = N := by have := HNN.out; omega
          subst hsN
          have d2 : decide (s < s) = false := by simp
          have h10 := hC.done HVb.out
          have hval := hC.v
          have HO := hide hO
          have HS := hide hs
          have HL : o.length = s := by omega
          have hcells := fun k (hk : k < s) => hO.cell k (by omega)
          have hdg := fun m hm => hO.dg_take m hm
          clear hs hO hC hj hjn hlen hTb
          go_wp2_with fail
          obtain ⟨wo, hwo⟩ : ∃ wo : World, wo = wr := ⟨_, rfl⟩
          rw [← hwo] at HO hu hcells hdg ⊢
          clear hwo
          go_loopg [9] s (fun q v wr => wr = wo ∧ ∃ m : Nat, m ≤ q ∧ m ≤ s ∧ v = .int .i64 m ∧ ∀ k, m ≤ k → k < s → o.getD k 0 = 0)
          case atStart => exact ⟨rfl, s, Nat.le_refl _, Nat.le_refl _, rfl, by omega⟩
          case round =>
            obtain ⟨rfl, m, hm, hms, rfl, hz⟩ := hrel
            -- what is left when the loop is left
            have fin : (m = 0 ∨ o.getD (m - 1) 0 ≠ 0) → DgAt wr (.slice (some ⟨G, 0, none⟩) m s) (dg V) := by
              intro hl
              have e : o.take m = dg V := by
                rw [norm_dg (o.take m) (norm_strike o m (by omega) h10 hl), val_strike o m (by rw [HL]; exact hz), hval]
              rw [← e, ← HL]
              exact hdg m (by omega)
            have FIN := hide fin
            have HZ := hide hz
            clear fin hdg hz
            cases m with
            | zero =>
              clear hcells
              go_wp2_with fail
              go_ret
              refine ⟨_, rfl, ?_, hu, ?_⟩
              · rw [HV.out]; first | exact FIN.out (.inl trivial) | exact FIN.out (.inl rfl)
              · intro k hk
                have hk2 : some G = some k := hk
                cases hk2
                rw [HG.out]
                exact Nat.le_refl _
            | succ j2 =>
              have ej : ((j2 + 1 : Nat) : Int) - 1 = (j2 : Int) := by omega
              have k1 := hcells j2 (by omega)
              obtain ⟨z, hzz⟩ : ∃ z, o.getD j2 0 = z := ⟨_, rfl⟩
              rw [hzz] at k1
              have ZZ := hide hzz
              have d3 : decide (0 < j2 + 1) = true := by simp
              have hj0 : (0 : Int) ≤ (j2 : Int) := Int.natCast_nonneg _
              have hjs : (j2 : Int) < (s : Int) := by omega
              obtain ⟨m2, hm2⟩ : ∃ m2, j2 + 1 = m2 := ⟨_, rfl⟩
              have em : (m2 : Int) - 1 = (j2 : Int) := by omega
              have hmp : decide (0 < m2) = true := by simp; omega
              have hmp2 : 0 < m2 := by omega
              rw [hm2] at hm hms FIN HZ ⊢
              have HM := hide hm2
              clear hzz ej d3 hm2 hcells
              by_cases hz0 : z = 0
              · have d4 : ((z : Int) == 0) = true := by simp; omega
                go_wp2_with fail
                go_roundg (gk - 1)
                case measure => have := HM.out; omega
                case rel =>
                  refine ⟨rfl, j2, by have := HM.out; omega, by omega, by first | rfl | go_num, ?_⟩
                  intro k hk hks
                  by_cases e : k = j2
                  · rw [e, ZZ.out]; exact hz0
                  · exact HZ.out k (by have := HM.out; omega) hks
              · have d4 : ((z : Int) == 0) = false := by simp; omega
                go_wp2_with fail
                go_ret
                refine ⟨_, rfl, ?_, hu, ?_⟩
                · rw [HV.out]
                  exact FIN.out (.inr (by rw [show m2 - 1 = j2 from by have := HM.out; omega, ZZ.out]; exact hz0))
                · intro k hk
                  have hk2 : some G = some k := hk
                  cases hk2
                  rw [HG.out]
                  exact Nat.le_refl _
end Go.Proofs.YtmfngdjhkpddoaaGreatDoor.Fl
namespace Go.Proofs.YtmfngdjhkpddoaaGreatDoor.Fl
open Go.RowKit Go.Lat
theorem RefClass_any (w : World) (b : Nat) (hb : b < 18446744073709551616) : Calls Tryz.prog 142 #[.int .u64 b] w fun e w' => e = .returned (.int .i64 (cls b)) ∧ w' = w := by
  obtain ⟨S, hS⟩ : ∃ S, b / 9223372036854775808 = S := ⟨_, rfl⟩
  obtain ⟨R, hR⟩ : ∃ R, rng b = R := ⟨_, rfl⟩
  have e1 : (b : Int) / 9223372036854775808 = (S : Int) := by omega
  have e2 : (b : Int) % 9223372036854775808 = (R : Int) := by unfold rng at hR; omega
  have hs : Lat.sgn b = (S == 1) := by
    unfold Lat.sgn
    rw [hS, Bool.eq_iff_iff]
    simp
    omega
  have hS2 : S = 0 ∨ S = 1 := by omega
  have hc : cls b = if infR < R then 0 else if (S == 1) then (if R = infR then 1 else if R = 0 then 3 else 2) else (if R = infR then 6 else if R = 0 then 4 else 5) := by
    unfold cls
    rw [hR, hs]
  rw [hc]
  clear hc hs hS hR
  unfold infR
  by_cases h1 : 9218868437227405312 < R
  · have d1 : decide ((9218868437227405312 : Int) < (R : Int)) = true := by simp; omega
    rw [if_pos h1]
    clear h1 hS2
    go_enter Tryz.func142, Tryz.ntmps142
    go_wp2_with fail
    go_ret
    exact ⟨rfl, rfl⟩
  · have d1 : decide ((9218868437227405312 : Int) < (R : Int)) = false := by simp; omega
    rw [if_neg h1]
    clear h1
    by_cases h2 : R = 9218868437227405312
    · have d2 : ((R : Int) == 9218868437227405312) = true := by simp; omega
      have d3 : ((R : Int) == 0) = false := by simp; omega
      rw [if_pos h2, if_pos h2]
      clear h2
      rcases hS2 with rfl | rfl
      · go_enter Tryz.func142, Tryz.ntmps142
        go_wp2_with fail
        go_ret
        exact ⟨rfl, rfl⟩
      · go_enter Tryz.func142, Tryz.ntmps142
        go_wp2_with fail
        go_ret
        exact ⟨rfl, rfl⟩
    · have d2 : ((R : Int) == 9218868437227405312) = false := by simp; omega
      rw [if_neg h2, if_neg h2]
      clear h2
      by_cases h3 : R = 0
      · have d3 : ((R : Int) == 0) = true := by simp; omega
        rw [if_pos h3, if_pos h3]
        clear h3
        rcases hS2 with rfl | rfl
        · go_enter Tryz.func142, Tryz.ntmps142
          go_wp2_with fail
          go_ret
          exact ⟨rfl, rfl⟩
        · go_enter Tryz.func142, Tryz.ntmps142
          go_wp2_with fail
          go_ret
          exact ⟨rfl, rfl⟩
      · have d3 : ((R : Int) == 0) = false := by simp; omega
        rw [if_neg h3, if_neg h3]
        clear h3
        rcases hS2 with rfl | rfl
        · go_enter Tryz.func142, Tryz.ntmps142
          go_wp2_with fail
          go_ret
          exact ⟨rfl, rfl⟩
        · go_enter Tryz.func142, Tryz.ntmps142
          go_wp2_with fail
          go_ret
          exact ⟨rfl, rfl⟩
theorem RefParts_any (w : World) (b : Nat) (hb : b < 18446744073709551616) : Calls Tryz.prog 143 #[.int .u64 b] w fun e w' => e = .returned (.tuple #[.bool (Lat.sgn b), .int .u64 (pm (rng b) : Nat), .int .i64 (pe (rng b))]) ∧ w' = w := by
  obtain ⟨R, hR⟩ : ∃ R, rng b = R := ⟨_, rfl⟩
  obtain ⟨E, hE⟩ : ∃ E, R / 4503599627370496 = E := ⟨_, rfl⟩
  obtain ⟨M, hM⟩ : ∃ M, R % 4503599627370496 = M := ⟨_, rfl⟩
  have lE : E < 2048 := by unfold rng at hR; omega
  have lM : M < 4503599627370496 := by omega
  have e2 : (b : Int) % 9223372036854775808 = (R : Int) := by unfold rng at hR; omega
  have e3 : (R : Int) / 4503599627370496 = (E : Int) := by omega
  have e5 : (R : Int) % 4503599627370496 = (M : Int) := by omega
  have e4 : ((b : Int) / 9223372036854775808 == 1) = Lat.sgn b := by
    unfold Lat.sgn
    rw [Bool.eq_iff_iff]
    simp
    omega
  rw [hR]
  unfold pm pe
  rw [hE, hM]
  clear hE hM hR
  by_cases h1 : E = 2047
  · have d1 : ((E : Int) == 2047) = true := by simp; omega
    rw [if_pos h1, if_pos h1]
    clear h1
    go_enter Tryz.func143, Tryz.ntmps143
    go_wp2_with fail
    go_ret3
    exact ⟨rfl, rfl⟩
  · have d1 : ((E : Int) == 2047) = false := by simp; omega
    rw [if_neg h1, if_neg h1]
    clear h1
    by_cases h2 : E = 0
    · have d2 : ((E : Int) == 0) = true := by simp; omega
      rw [if_pos h2, if_pos h2]
      clear h2
      go_enter Tryz.func143, Tryz.ntmps143
      go_wp2_with fail
      go_ret3
      exact ⟨by rw [← e5]; rfl, rfl⟩
    · have d2 : ((E : Int) == 0) = false := by simp; omega
      rw [if_neg h2, if_neg h2]
      clear h2
      go_enter Tryz.func143, Tryz.ntmps143
      go_wp2_with fail
      go_ret3
      exact ⟨by simp, rfl⟩
end Go.Proofs.YtmfngdjhkpddoaaGreatDoor.Fl
namespace Go.Proofs.YtmfngdjhkpddoaaGreatDoor.Fl
open Go.RowKit Go.Lat
theorem cls_sval (b : Nat) (h : rng b < infR) : cls b ≠ 0 ∧ (cls b = 2 ∨ cls b = 3 ∨ cls b = 4 ∨ cls b = 5) ∧ (cls b = 2 → sval b < 0) ∧ (cls b = 3 → sval b = 0) ∧ (cls b = 4 → sval b = 0) ∧ (cls b = 5 → 0 < sval b) := by
  have a1 : ¬ infR < rng b := by omega
  have a2 : ¬ rng b = infR := by omega
  unfold cls sval
  simp only [a1, a2, if_false]
  by_cases z : rng b = 0 <;> cases Lat.sgn b <;> simp [z] <;> omega
end Go.Proofs.YtmfngdjhkpddoaaGreatDoor.Fl
namespace Go.Proofs.YtmfngdjhkpddoaaGreatDoor.Fl
open Go.RowKit Go.Lat
theorem product_dg (w : World) (v1 v2 : Value) (x : Nat) (l : List Nat) (h1 : DgAt w v1 (dg x)) (h2 : DgAt w v2 l) (nl : Norm l) (hx : x < 10 ^ 100) (hl : l.length ≤ 100) :
    Calls Tryz.prog 139 #[v1, v2] w fun e w' => ∃ v, e = .returned v ∧ DgAt w' v (dg (x * val l)) ∧ Upd w w' (fun _ => False) := by
  have hlx := dg_len x 100 hx
  have h := product2_any w v1 v2 (dg x) l h1 h2 (dg_norm x) nl (by omega) (by omega)
  rw [val_dg] at h
  exact h.mono fun e w' ⟨v, h1, h2, h3, _⟩ => ⟨v, h1, h2, h3⟩
end Go.Proofs.YtmfngdjhkpddoaaGreatDoor.Fl
namespace Go.Proofs.YtmfngdjhkpddoaaGreatDoor.Fl
open Go.RowKit Go.Lat
set_option maxHeartbeats 1600000 in
theorem digits2_any (w : World) (n : Nat) (hn : n < 18446744073709551616) :
    Calls Tryz.prog 144 #[.int .u64 n] w fun e w' => ∃ v, e = .returned v ∧ DgAt w' v (dg n) ∧ Upd w w' (fun _ => False) := by
  obtain ⟨i0, hi, hz0, hz1, hz2⟩ := info_parts Tryz.info3
  have hlen := dg_len n 20 (by omega)
  go_enter Tryz.func144, Tryz.ntmps144
  go_wp2
  go_loopg [0, 3] n (fun q a v wr => ∃ (m : Nat) (l : List Nat), m ≤ q ∧ m ≤ n ∧ a = .int .u64 (m : Nat) ∧ DgAt wr v l ∧ l ++ dg m = dg n ∧ Upd w wr (fun _ => False) ∧ (∀ k, v.ownBlock = some k → w.heap.size ≤ k))
  case atStart => exact ⟨n, [], Nat.le_refl _, Nat.le_refl _, rfl, Rw.nil _ _ _, by simp, Upd.refl _ _, by simp [Value.ownBlock]⟩
  case round =>
    obtain ⟨m, l, hm, hmn, rfl, hv, hl, hu, hob⟩ := hrel
    have hll : l.length ≤ 20 := by
      have := congrArg List.length hl
      rw [List.length_append] at this
      omega
    unfold DgAt at hv
    obtain ⟨k, hk⟩ : ∃ k, m % 10 = k := ⟨_, rfl⟩
    obtain ⟨m2, hm2⟩ : ∃ m2, m / 10 = m2 := ⟨_, rfl⟩
    have hk10 : k < 10 := by omega
    by_cases hm0 : m = 0
    · subst hm0
      rw [dg_zero, List.append_nil] at hl
      have e0 : ((0 : Nat) : Int) = 0 := rfl
      rw [e0]
      go_wp2
      go_ret
      exact ⟨_, rfl, by rw [← hl]; exact hv, hu⟩
    · have hl2 : (l ++ [k]) ++ dg m2 = dg n := by rw [← hl, dg_pos hm0, hk, hm2, List.append_assoc]; rfl
      have e1 : (m : Int) % 10 = (k : Int) := by omega
      have e2 : (m : Int) / 10 = (m2 : Int) := by omega
      have HL := hide hl2
      have hm2b : m2 ≤ gk - 1 ∧ m2 ≤ n ∧ 1 ≤ gk := by omega
      have d1 : ((m : Int) != 0) = true := by simpa using hm0
      clear hk hm2 hl hl2 hm0
      go_wp2_with (at_builtin; go_loud (refine wpList_append_rw _ rfl _ _ 49 49 rfl 3 _ i0 _ 1 8 Tryz.underlying49 Tryz.underlying49 (by simp) hi hz0 hz1 hz2 rfl _ l.length _ rfl (hv.alloc _) _ 1 _ rfl (Rw.made _ _ _ 1 1 rfl).src rfl (by simp [Value.oneCell']) (by omega) (by omega) ?_); intro ga gc w1 hv' hg hob')
      go_roundg (gk - 1)
      case measure => omega
      case rel =>
        refine ⟨m2, l ++ [k], by omega, by omega, by first | rfl | go_num, ?_, HL.out, (hu.alloc _).grown hg (fun i hi => .inl (hob i hi)), ?_⟩
        · unfold DgAt
          simpa using hv'
        · intro i hi
          rcases hob' with e | e
          · exact hob i (Eq.trans (show _ = _ from e.symm) hi)
          · rw [e] at hi; simp at hi; have := hu.size; omega
set_option maxHeartbeats 800000 in
theorem power2_any (w : World) (n : Nat) (hn : n ≤ 200) :
    Calls Tryz.prog 145 #[.int .i64 n] w fun e w' => ∃ v, e = .returned v ∧ DgAt w' v (dg (2 ^ n)) ∧ Upd w w' (fun _ => False) := by
  have hd1 : dg 1 = [1] := by rw [dg_pos (by omega), dg_zero]
  go_enter Tryz.func145, Tryz.ntmps145
  go_wp2_with fail
  go_loopg [3, 4] n (fun q v i wr => ∃ k : Nat, k + q = n ∧ i = .int .i64 k ∧ DgAt wr v (dg (2 ^ k)) ∧ Upd w wr (fun _ => False))
  case atStart =>
    refine ⟨0, by omega, rfl, ?_, (Upd.refl w _).alloc _⟩
    rw [Nat.pow_zero, hd1]
    exact Rw.made w _ _ 1 1 rfl
  case round =>
    obtain ⟨k, hk, rfl, hv, hu⟩ := hrel
    by_cases hkn : k < n
    · have d1 : decide (k < n) = true := by simpa using hkn
      have hb : 2 ^ k < 10 ^ 100 := by
        have a1 : 2 ^ k ≤ 2 ^ 200 := Nat.pow_le_pow_right (by omega) (by omega)
        have a2 : (2 : Nat) ^ 200 < 10 ^ 100 := by
          rw [show (2 : Nat) ^ 200 = (2 ^ 2) ^ 100 from by rw [← Nat.pow_mul]]
          exact Nat.pow_lt_pow_left (by omega) (by omega)
        exact Nat.lt_of_le_of_lt a1 a2
      have P := fun w v1 v2 h1 h2 => product_dg w v1 v2 (2 ^ k) [2] h1 h2 (by unfold Norm; decide) hb (by decide)
      rw [show val [2] = 2 from by decide, show 2 ^ k * 2 = 2 ^ (k + 1) from (Nat.pow_succ ..).symm] at P
      have HB := hide hb
      clear hb
      go_wp2_with fail
      have m2 : DgAt (wr.alloc (.cells #[.int .i64 2] 3)) (.slice (some ⟨wr.heap.size, 0, none⟩) 1 1) [2] := Rw.made wr _ _ 1 1 rfl
      refine Calls.mono (P _ _ _ (hv.upd ((Upd.refl wr _).alloc _)) m2) ?_
      rintro e w2 ⟨v2, rfl, q2, u2⟩
      clear P
      go_wp2_with fail
      go_roundg (gk - 1)
      case measure => omega
      case rel => exact ⟨k + 1, by omega, by go_num, q2, (hu.alloc _).then u2 (fun _ _ => id)⟩
    · have hke : k = n := by omega
      subst hke
      have d1 : decide (k < k) = false := by simp
      go_wp2_with fail
      go_ret
      exact ⟨_, rfl, hv, hu⟩
end Go.Proofs.YtmfngdjhkpddoaaGreatDoor.Fl
namespace Go.Proofs.YtmfngdjhkpddoaaGreatDoor.Fl
open Go.RowKit Go.Lat
/-- The sum's digits are those of what is handed back. -/
theorem Ad.short {a b o : List Nat} {n : Nat} (h : Ad a b o n n 0) (na : Norm a) (nb : Norm b) (hA : a.length ≤ n) (hB : b.length ≤ n) (hn : a.length = n ∨ b.length = n) : o.take n = dg (val a + val b) := by
  have hv := h.v
  rw [Nat.zero_mul, Nat.add_zero, List.take_of_length_le hA, List.take_of_length_le hB] at hv
  have hl : (o.take n).length = n := by rw [List.length_take, h.len]; omega
  have h10 : ∀ d ∈ o.take n, d < 10 := by
    intro d hd
    obtain ⟨j, hj, e⟩ := List.mem_iff_getElem.1 hd
    have := h.ten j (by omega)
    rw [List.getD_eq_getElem?_getD, List.getElem?_eq_getElem (by rw [h.len]; omega)] at this
    rw [← e, List.getElem_take]
    simpa using this
  have hN : Norm (o.take n) := by
    refine ⟨h10, fun hne => ?_⟩
    have hn0 : 0 < n := by
      rcases Nat.eq_zero_or_pos n with e | e
      · rw [e] at hne; simp at hne
      · exact e
    have hge : 10 ^ (n - 1) ≤ val a + val b := by
      rcases hn with e | e
      · have := norm_ge a na (fun h0 => by rw [h0] at e; simp at e; omega)
        rw [e] at this
        omega
      · have := norm_ge b nb (fun h0 => by rw [h0] at e; simp at e; omega)
        rw [e] at this
        omega
    intro hz
    rw [List.getLast_eq_getElem, List.getElem_take] at hz
    simp only [hl] at hz
    have hg : o.getD (n - 1) 0 = 0 := by
      rw [List.getD_eq_getElem?_getD, List.getElem?_eq_getElem (by rw [h.len]; omega)]
      simpa using hz
    have e1 := val_take_succ' o (n - 1)
    rw [hg, Nat.zero_mul, Nat.add_zero, show n - 1 + 1 = n from by omega] at e1
    have := val_lt (o.take (n - 1)) (fun d hd => h10 d (by
      have : o.take (n - 1) = (o.take n).take (n - 1) := by rw [List.take_take]; congr 1; omega
      rw [this] at hd
      exact List.mem_of_mem_take hd))
    rw [List.length_take, h.len] at this
    rw [Nat.min_eq_left (by omega)] at this
    omega
  rw [norm_dg _ hN, hv]
theorem Ad.long {a b o : List Nat} {n c : Nat} (h : Ad a b o n n c) (hc : c ≠ 0) (hA : a.length ≤ n) (hB : b.length ≤ n) : o = dg (val a + val b) := by
  have hv := h.v
  rw [List.take_of_length_le hA, List.take_of_length_le hB] at hv
  have e : val o = val a + val b := by
    have e1 := val_take_succ' o n
    rw [h.cur, List.take_of_length_le (by rw [h.len]; exact Nat.le_refl _)] at e1
    omega
  have hN : Norm o := by
    refine ⟨?_, fun hne => ?_⟩
    · intro d hd
      obtain ⟨j, hj, e⟩ := List.mem_iff_getElem.1 hd
      have hg : o.getD j 0 = d := by
        rw [List.getD_eq_getElem?_getD, List.getElem?_eq_getElem hj, e]; rfl
      rw [← hg]
      by_cases hjn : j < n
      · exact h.ten j hjn
      · have hjn : j = n := by have := h.len; omega
        rw [hjn, h.cur]
        have := h.c1
        omega
    · rw [List.getLast_eq_getElem]
      intro hz
      have hg : o.getD n 0 = 0 := by
        rw [List.getD_eq_getElem?_getD, List.getElem?_eq_getElem (by rw [h.len]; omega)]
        simp only [h.len, Nat.add_sub_cancel] at hz
        simpa using hz
      rw [h.cur] at hg
      exact hc hg
  rw [norm_dg o hN, e]
set_option maxHeartbeats 3200000 in
theorem plus2_any (w : World) (v1 v2 : Value) (a b : List Nat) (h1 : DgAt w v1 a) (h2 : DgAt w v2 b) (na : Norm a) (nb : Norm b) (hl1 : a.length ≤ 1000) (hl2 : b.length ≤ 1000) :
    Calls Tryz.prog 146 #[v1, v2] w fun e w' => ∃ v, e = .returned v ∧ DgAt w' v (dg (val a + val b)) ∧ Upd w w' (fun _ => False) := by
  have q1 := h1.lt
  have q2 := h2.lt
  obtain ⟨a1, p1, rfl, -⟩ := Rw.form h1
  obtain ⟨a2, p2, rfl, -⟩ := Rw.form h2
  have r1 := fun j (hj : j < a.length) => dg_cell h1 j hj
  have r2 := fun j (hj : j < b.length) => dg_cell h2 j hj
  obtain ⟨A, hA⟩ : ∃ A, a.length = A := ⟨_, rfl⟩
  obtain ⟨B, hB⟩ : ∃ B, b.length = B := ⟨_, rfl⟩
  rw [hA] at hl1 ⊢
  rw [hB] at hl2 ⊢
  obtain ⟨n, hn⟩ : ∃ n, max A B = n := ⟨_, rfl⟩
  obtain ⟨N, hN⟩ : ∃ N, n + 1 = N := ⟨_, rfl⟩
  have eN : (n : Int) + 1 = (N : Int) := by omega
  have hmk := run_make_row' (P := Tryz.prog) 49 3 (.int .i64 0) 8 Tryz.underlying49 Tryz.info3 rfl .i64 .i64 N (by omega) (by omega)
  have hAn : A ≤ n ∧ B ≤ n ∧ n ≤ 1000 ∧ (A = n ∨ B = n) := by omega
  have HA := hide hA
  have HB := hide hB
  have HN := hide hN
  have hS := Ad.start a b n
  rw [hN] at hS
  clear h1 h2 hA hB hN
  -- behind the making of the array
  have rest : ∀ (a' : Act), a' = a' → True := fun _ _ => trivial
  clear rest
  by_cases hAB : A < B
  · have d0 : decide (A < B) = true := by simpa using hAB
    have hBn : B = n := by omega
    subst hBn
    clear hn hAB
    go_enter Tryz.func146, Tryz.ntmps146
    go_wp2_with fail
    have hM := ArrAt.made w N
    have uM : Upd w (w.alloc (.cells (madeCells #[.int .i64 0] N) 3)) (fun _ => False) := (Upd.refl w _).alloc _
    generalize (w.alloc (.cells (madeCells #[.int .i64 0] N) 3)) = wm at hM uM ⊢
    obtain ⟨G, hG⟩ : ∃ G, w.heap.size = G := ⟨_, rfl⟩
    rw [hG] at hM ⊢
    have HG := hide hG
    clear hG hmk eN d0
    go_loopg [7] B (fun q v wr => ∃ (i c : Nat) (o : List Nat), i + q = B ∧ v = .int .i64 i ∧ ArrAt wr G o ∧ Ad a b o B i c ∧ Upd w wr (fun _ => False))
    case atStart => exact ⟨0, 0, _, by omega, rfl, hM, hS, uM⟩
    case round =>
      clear hM hS uM
      obtain ⟨i, c, o, hi, rfl, hO, hC, hu⟩ := hrel
      have hlen := hC.len
      have hc1 := hC.c1
      by_cases hin : i < B
      · have d1 : decide (i < B) = true := by simpa using hin
        have hx9 := dgs_le a na i
        have hy9 := dgs_le b nb i
        have hf := hO.free i
        have hf1 := hO.free (i + 1)
        have kc := hO.cell i (by omega)
        have kc1 := hO.cell (i + 1) (by omega)
        rw [hC.cur] at kc
        have hstep := fun o' q r hl hq hr ho hs h10 => hC.step na nb o' q r hl hq hr ho hs h10
        obtain ⟨x, hx⟩ : ∃ x, a.getD i 0 = x := ⟨_, rfl⟩
        obtain ⟨y, hy⟩ : ∃ y, b.getD i 0 = y := ⟨_, rfl⟩
        obtain ⟨i1, hi1⟩ : ∃ i1, i + 1 = i1 := ⟨_, rfl⟩
        rw [hi1] at hf1 kc1
        rw [hx, hy, hi1] at hstep
        have HST := hide hstep
        have HX := hide hx
        have HY := hide hy
        have HI := hide hi1
        have ei : (i : Int) + 1 = (i1 : Int) := by omega
        have hi0 : (0 : Int) ≤ (i : Int) := Int.natCast_nonneg _
        have hiN : (i : Int) < (N : Int) := by have := HN.out; omega
        have hi10 : (0 : Int) ≤ (i1 : Int) := Int.natCast_nonneg _
        have hi1N : (i1 : Int) < (N : Int) := by have := HN.out; omega
        have hi1b : i1 ≤ 1001 := by omega
        have hne : i ≠ i1 := by omega
        have hxb : x ≤ 9 := by omega
        have hyb : y ≤ 9 := by omega
        obtain ⟨s, hs⟩ : ∃ s, c + x + y = s := ⟨_, rfl⟩
        have hsb : s ≤ 19 := by omega
        obtain ⟨q, hq⟩ : ∃ q, s / 10 = q := ⟨_, rfl⟩
        obtain ⟨r, hr⟩ : ∃ r, s % 10 = r := ⟨_, rfl⟩
        have hqb : q ≤ 1 := by omega
        have hqr : s = r + 10 * q ∧ r < 10 := by omega
        have e8 : (s : Int).tdiv 10 = (q : Int) := by rw [← hq]; rfl
        have e9 : (s : Int).tmod 10 = (r : Int) := by rw [← hr]; rfl
        have ws : IntKind.i64.wrap (s : Int) = (s : Int) := IntWalk.i64_in _ (by omega)
        -- what every way comes to
        have fin : ∀ (o2 : List Nat) (w2 : World), o2.length = o.length → (∀ j, j ≠ i → o2.getD j 0 = o.getD j 0) → ArrAt w2 G o2 → Upd w w2 (fun _ => False) →
            (w2.setCell ⟨G, i, none⟩ (.int .i64 (s : Nat))).cell? ⟨G, i, none⟩ = some (.int .i64 (s : Nat)) ∧
            (w2.setCell ⟨G, i, none⟩ (.int .i64 (s : Nat))).frozen? ⟨G, i1, none⟩ = false ∧
            (∃ z, (w2.setCell ⟨G, i, none⟩ (.int .i64 (s : Nat))).cell? ⟨G, i1, none⟩ = some z) ∧
            ((w2.setCell ⟨G, i, none⟩ (.int .i64 (s : Nat))).setCell ⟨G, i1, none⟩ (.int .i64 (q : Nat))).cell? ⟨G, i, none⟩ = some (.int .i64 (s : Nat)) ∧
            ((w2.setCell ⟨G, i, none⟩ (.int .i64 (s : Nat))).setCell ⟨G, i1, none⟩ (.int .i64 (q : Nat))).frozen? ⟨G, i, none⟩ = false ∧
            ∃ o3, ArrAt (((w2.setCell ⟨G, i, none⟩ (.int .i64 (s : Nat))).setCell ⟨G, i1, none⟩ (.int .i64 (q : Nat))).setCell ⟨G, i, none⟩ (.int .i64 (r : Nat))) G o3 ∧ Ad a b o3 B i1 q ∧
              Upd w (((w2.setCell ⟨G, i, none⟩ (.int .i64 (s : Nat))).setCell ⟨G, i1, none⟩ (.int .i64 (q : Nat))).setCell ⟨G, i, none⟩ (.int .i64 (r : Nat))) (fun _ => False) := by
          intro o2 w2 hl2 hg2 hA2 hu2
          have s1 := hA2.set i s
          have s2 := s1.set i1 q
          have s3 := s2.set i r
          have b1 : i < o2.length := by omega
          have b2 : i1 < o2.length := by omega
          have c1 := s1.cell i (by simp; omega)
          rw [getD_set _ i i _ b1, if_pos rfl] at c1
          have c2 := s2.cell i (by simp; omega)
          rw [getD_set _ i1 i _ (by simp; omega), if_neg hne, getD_set _ i i _ b1, if_pos rfl] at c2
          have g := fun j => (by rw [getD_set _ i j _ (by simp; omega), getD_set _ i1 j _ (by simp; omega), getD_set _ i j _ b1] : (((o2.set i s).set i1 q).set i r).getD j 0 = if j = i then r else if j = i1 then q else if j = i then s else o2.getD j 0)
          refine ⟨c1, s1.free i1, ⟨_, s1.cell i1 (by simp; omega)⟩, c2, s2.free i, _, s3, ?_, ((hu2.setCell _ _ (.inl (by rw [HG.out]; exact Nat.le_refl _))).setCell _ _ (.inl (by rw [HG.out]; exact Nat.le_refl _))).setCell _ _ (.inl (by rw [HG.out]; exact Nat.le_refl _))⟩
          refine HST.out _ q r (by simp; omega) ?_ ?_ ?_ (by omega) hqr.2
          · rw [g, if_neg (by omega), if_pos rfl]
          · rw [g, if_pos rfl]
          · intro j h1 h2
            rw [g, if_neg h1, if_neg h2, if_neg h1, hg2 j h1]
        have FIN := hide fin
        have HC := hide hC
        have HS := hide hs
        have HO := hide hO
        clear fin hC hx hy hi1 hstep hq hr hqr hO hlen hs
        by_cases hiA : i < A
        · have d2 : decide (i < A) = true := by simpa using hiA
          obtain ⟨g1, o1, rfl, k1⟩ := r1 i (by rw [HA.out]; exact hiA)
          have hg1 : g1 < w.heap.size := q1 g1 rfl
          have k1' := (hu.cell g1 _ hg1 id).trans k1
          rw [HX.out] at k1'
          have hiA2 : (i : Int) < (A : Int) := by omega
          obtain ⟨u1, hu1⟩ : ∃ u1, c + x = u1 := ⟨_, rfl⟩
          have e1 : (c : Int) + (x : Int) = (u1 : Int) := by omega
          have w1 : IntKind.i64.wrap (u1 : Int) = (u1 : Int) := IntWalk.i64_in _ (by omega)
          by_cases hiB : i < B
          · have d3 : decide (i < B) = true := by simpa using hiB
            obtain ⟨g2, o2, rfl, k2⟩ := r2 i (by rw [HB.out]; exact hiB)
            have hg2 : g2 < w.heap.size := q2 g2 rfl
            have hiB2 : (i : Int) < (B : Int) := by omega
            have e2 : (u1 : Int) + (y : Int) = (s : Int) := by have := HS.out; omega
            have hO1 := HO.out.set i u1
            have uu := hu.setCell ⟨G, i, none⟩ (.int .i64 (u1 : Nat)) (.inl (by rw [HG.out]; exact Nat.le_refl _))
            have HO1 := hide hO1
            have HU1 := hide hu1
            have K2 := hide k2
            clear hO1 hu1 k1 k2 r1 r2
            go_wp2_with fail
            go_still_tail 12, (by kernel_rfl)
            change wpList _ _ _ _ _ wr.drew
            go_wp2_with fail
            clear k1' kc kc1 hf hf1
            have hO2 := HO1.out.upd ((Upd.refl _ (fun _ => False)).drew) id
            have hu2 := uu.drew
            generalize (wr.setCell ⟨G, i, none⟩ (.int .i64 (u1 : Nat))).drew = w2 at hO2 hu2 ⊢
            have k2' := (hu2.cell g2 _ hg2 id).trans K2.out
            rw [HY.out] at k2'
            have kc := hO2.cell i (by simp; have := HC.out.len; omega)
            rw [getD_set _ i i _ (by have := HC.out.len; omega), if_pos rfl] at kc
            have hf := hO2.free i
            obtain ⟨z1, z2, ⟨z, z3⟩, z4, z5, o3, z6, z7, z8⟩ := FIN.out _ w2 (by simp) (fun j hj => by rw [getD_set _ i j _ (by have := HC.out.len; omega), if_neg hj]) hO2 hu2
            clear hO2
            go_still_tail 12, (by kernel_rfl)
            change wpList _ _ _ _ _ w2.drew
            clear w1 ws
            go_wp2_with fail
            go_roundg (gk - 1)
            case measure => omega
            case rel => exact ⟨i1, q, o3, by have := HI.out; omega, by first | rfl | go_num, z6.upd ((Upd.refl _ (fun _ => False)).drew) id, z7, z8.drew⟩
          · exact absurd hin hiB
        · have d2 : decide (i < A) = false := by simpa using hiA
          have hx0 : x = 0 := by rw [← HX.out, List.getD_eq_getElem?_getD, List.getElem?_eq_none (by rw [HA.out]; omega)]; rfl
          have hiB : i < B := by omega
          have d3 : decide (i < B) = true := by simpa using hiB
          obtain ⟨g2, o2, rfl, k2⟩ := r2 i (by rw [HB.out]; exact hiB)
          have hg2 : g2 < w.heap.size := q2 g2 rfl
          have k2' := (hu.cell g2 _ hg2 id).trans k2
          rw [HY.out] at k2'
          have hiB2 : (i : Int) < (B : Int) := by omega
          have e2 : (c : Int) + (y : Int) = (s : Int) := by have := HS.out; omega
          obtain ⟨z1, z2, ⟨z, z3⟩, z4, z5, o3, z6, z7, z8⟩ := FIN.out o wr rfl (fun j hj => rfl) HO.out hu
          clear k2 r1 r2 hx0 hiA
          go_wp2_with fail
          go_still_tail 12, (by kernel_rfl)
          change wpList _ _ _ _ _ wr.drew
          clear ws
          go_wp2_with fail
          go_roundg (gk - 1)
          case measure => omega
          case rel => exact ⟨i1, q, o3, by have := HI.out; omega, by first | rfl | go_num, z6.upd ((Upd.refl _ (fun _ => False)).drew) id, z7, z8.drew⟩
      · have hie : i = B := by omega
        subst hie
        have d1 : decide (i < i) = false := by simp
        have kc := hO.cell i (by omega)
        rw [hC.cur] at kc
        have hi0 : (0 : Int) ≤ (i : Int) := Int.natCast_nonneg _
        have hiN : (i : Int) < (N : Int) := by have := HN.out; omega
        have hlN : o.length = N := by have := HN.out; omega
        have hdg := hO.dg
        have hdt := hO.dg_take i (by omega)
        rw [hlN] at hdg hdt
        by_cases hc0 : c = 0
        · have d4 : ((c : Int) == 0) = true := by simp; omega
          subst hc0
          rw [Ad.short hC na nb (by rw [HA.out]; omega) (by rw [HB.out]; omega) (by rw [HA.out, HB.out]; omega)] at hdt
          have HD := hide hdt
          clear hC hdg hdt hO hlen hin hi r1 r2
          go_wp2_with fail
          go_ret
          exact ⟨_, rfl, HD.out, hu⟩
        · have d4 : ((c : Int) == 0) = false := by simp; omega
          have hlong := Ad.long hC hc0 (by rw [HA.out]; omega) (by rw [HB.out]; omega)
          have HD : Hid (DgAt wr (.slice (some ⟨G, 0, none⟩) N N) (dg (val a + val b))) := hide (by rw [← hlong]; exact hdg)
          clear hC hdg hdt hO hlen hin hi r1 r2 hlong
          go_wp2_with fail
          go_ret
          exact ⟨_, rfl, HD.out, hu⟩
  · have d0 : decide (A < B) = false := by simpa using hAB
    have hBn : A = n := by omega
    subst hBn
    clear hn hAB
    go_enter Tryz.func146, Tryz.ntmps146
    go_wp2_with fail
    have hM := ArrAt.made w N
    have uM : Upd w (w.alloc (.cells (madeCells #[.int .i64 0] N) 3)) (fun _ => False) := (Upd.refl w _).alloc _
    generalize (w.alloc (.cells (madeCells #[.int .i64 0] N) 3)) = wm at hM uM ⊢
    obtain ⟨G, hG⟩ : ∃ G, w.heap.size = G := ⟨_, rfl⟩
    rw [hG] at hM ⊢
    have HG := hide hG
    clear hG hmk eN d0
    go_loopg [7] A (fun q v wr => ∃ (i c : Nat) (o : List Nat), i + q = A ∧ v = .int .i64 i ∧ ArrAt wr G o ∧ Ad a b o A i c ∧ Upd w wr (fun _ => False))
    case atStart => exact ⟨0, 0, _, by omega, rfl, hM, hS, uM⟩
    case round =>
      clear hM hS uM
      obtain ⟨i, c, o, hi, rfl, hO, hC, hu⟩ := hrel
      have hlen := hC.len
      have hc1 := hC.c1
      by_cases hin : i < A
      · have d1 : decide (i < A) = true := by simpa using hin
        have hx9 := dgs_le a na i
        have hy9 := dgs_le b nb i
        have hf := hO.free i
        have hf1 := hO.free (i + 1)
        have kc := hO.cell i (by omega)
        have kc1 := hO.cell (i + 1) (by omega)
        rw [hC.cur] at kc
        have hstep := fun o' q r hl hq hr ho hs h10 => hC.step na nb o' q r hl hq hr ho hs h10
        obtain ⟨x, hx⟩ : ∃ x, a.getD i 0 = x := ⟨_, rfl⟩
        obtain ⟨y, hy⟩ : ∃ y, b.getD i 0 = y := ⟨_, rfl⟩
        obtain ⟨i1, hi1⟩ : ∃ i1, i + 1 = i1 := ⟨_, rfl⟩
        rw [hi1] at hf1 kc1
        rw [hx, hy, hi1] at hstep
        have HST := hide hstep
        have HX := hide hx
        have HY := hide hy
        have HI := hide hi1
        have ei : (i : Int) + 1 = (i1 : Int) := by omega
        have hi0 : (0 : Int) ≤ (i : Int) := Int.natCast_nonneg _
        have hiN : (i : Int) < (N : Int) := by have := HN.out; omega
        have hi10 : (0 : Int) ≤ (i1 : Int) := Int.natCast_nonneg _
        have hi1N : (i1 : Int) < (N : Int) := by have := HN.out; omega
        have hi1b : i1 ≤ 1001 := by omega
        have hne : i ≠ i1 := by omega
        have hxb : x ≤ 9 := by omega
        have hyb : y ≤ 9 := by omega
        obtain ⟨s, hs⟩ : ∃ s, c + x + y = s := ⟨_, rfl⟩
        have hsb : s ≤ 19 := by omega
        obtain ⟨q, hq⟩ : ∃ q, s / 10 = q := ⟨_, rfl⟩
        obtain ⟨r, hr⟩ : ∃ r, s % 10 = r := ⟨_, rfl⟩
        have hqb : q ≤ 1 := by omega
        have hqr : s = r + 10 * q ∧ r < 10 := by omega
        have e8 : (s : Int).tdiv 10 = (q : Int) := by rw [← hq]; rfl
        have e9 : (s : Int).tmod 10 = (r : Int) := by rw [← hr]; rfl
        have ws : IntKind.i64.wrap (s : Int) = (s : Int) := IntWalk.i64_in _ (by omega)
        -- what every way comes to
        have fin : ∀ (o2 : List Nat) (w2 : World), o2.length = o.length → (∀ j, j ≠ i → o2.getD j 0 = o.getD j 0) → ArrAt w2 G o2 → Upd w w2 (fun _ => False) →
            (w2.setCell ⟨G, i, none⟩ (.int .i64 (s : Nat))).cell? ⟨G, i, none⟩ = some (.int .i64 (s : Nat)) ∧
            (w2.setCell ⟨G, i, none⟩ (.int .i64 (s : Nat))).frozen? ⟨G, i1, none⟩ = false ∧
            (∃ z, (w2.setCell ⟨G, i, none⟩ (.int .i64 (s : Nat))).cell? ⟨G, i1, none⟩ = some z) ∧
            ((w2.setCell ⟨G, i, none⟩ (.int .i64 (s : Nat))).setCell ⟨G, i1, none⟩ (.int .i64 (q : Nat))).cell? ⟨G, i, none⟩ = some (.int .i64 (s : Nat)) ∧
            ((w2.setCell ⟨G, i, none⟩ (.int .i64 (s : Nat))).setCell ⟨G, i1, none⟩ (.int .i64 (q : Nat))).frozen? ⟨G, i, none⟩ = false ∧
            ∃ o3, ArrAt (((w2.setCell ⟨G, i, none⟩ (.int .i64 (s : Nat))).setCell ⟨G, i1, none⟩ (.int .i64 (q : Nat))).setCell ⟨G, i, none⟩ (.int .i64 (r : Nat))) G o3 ∧ Ad a b o3 A i1 q ∧
              Upd w (((w2.setCell ⟨G, i, none⟩ (.int .i64 (s : Nat))).setCell ⟨G, i1, none⟩ (.int .i64 (q : Nat))).setCell ⟨G, i, none⟩ (.int .i64 (r : Nat))) (fun _ => False) := by
          intro o2 w2 hl2 hg2 hA2 hu2
          have s1 := hA2.set i s
          have s2 := s1.set i1 q
          have s3 := s2.set i r
          have b1 : i < o2.length := by omega
          have b2 : i1 < o2.length := by omega
          have c1 := s1.cell i (by simp; omega)
          rw [getD_set _ i i _ b1, if_pos rfl] at c1
          have c2 := s2.cell i (by simp; omega)
          rw [getD_set _ i1 i _ (by simp; omega), if_neg hne, getD_set _ i i _ b1, if_pos rfl] at c2
          have g := fun j => (by rw [getD_set _ i j _ (by simp; omega), getD_set _ i1 j _ (by simp; omega), getD_set _ i j _ b1] : (((o2.set i s).set i1 q).set i r).getD j 0 = if j = i then r else if j = i1 then q else if j = i then s else o2.getD j 0)
          refine ⟨c1, s1.free i1, ⟨_, s1.cell i1 (by simp; omega)⟩, c2, s2.free i, _, s3, ?_, ((hu2.setCell _ _ (.inl (by rw [HG.out]; exact Nat.le_refl _))).setCell _ _ (.inl (by rw [HG.out]; exact Nat.le_refl _))).setCell _ _ (.inl (by rw [HG.out]; exact Nat.le_refl _))⟩
          refine HST.out _ q r (by simp; omega) ?_ ?_ ?_ (by omega) hqr.2
          · rw [g, if_neg (by omega), if_pos rfl]
          · rw [g, if_pos rfl]
          · intro j h1 h2
            rw [g, if_neg h1, if_neg h2, if_neg h1, hg2 j h1]
        have FIN := hide fin
        have HC := hide hC
        have HS := hide hs
        have HO := hide hO
        clear fin hC hx hy hi1 hstep hq hr hqr hO hlen hs
        by_cases hiA : i < A
        · have d2 : decide (i < A) = true := by simpa using hiA
          obtain ⟨g1, o1, rfl, k1⟩ := r1 i (by rw [HA.out]; exact hiA)
          have hg1 : g1 < w.heap.size := q1 g1 rfl
          have k1' := (hu.cell g1 _ hg1 id).trans k1
          rw [HX.out] at k1'
          have hiA2 : (i : Int) < (A : Int) := by omega
          obtain ⟨u1, hu1⟩ : ∃ u1, c + x = u1 := ⟨_, rfl⟩
          have e1 : (c : Int) + (x : Int) = (u1 : Int) := by omega
          have w1 : IntKind.i64.wrap (u1 : Int) = (u1 : Int) := IntWalk.i64_in _ (by omega)
          by_cases hiB : i < B
          · have d3 : decide (i < B) = true := by simpa using hiB
            obtain ⟨g2, o2, rfl, k2⟩ := r2 i (by rw [HB.out]; exact hiB)
            have hg2 : g2 < w.heap.size := q2 g2 rfl
            have hiB2 : (i : Int) < (B : Int) := by omega
            have e2 : (u1 : Int) + (y : Int) = (s : Int) := by have := HS.out; omega
            have hO1 := HO.out.set i u1
            have uu := hu.setCell ⟨G, i, none⟩ (.int .i64 (u1 : Nat)) (.inl (by rw [HG.out]; exact Nat.le_refl _))
            have HO1 := hide hO1
            have HU1 := hide hu1
            have K2 := hide k2
            clear hO1 hu1 k1 k2 r1 r2
            go_wp2_with fail
            go_still_tail 12, (by kernel_rfl)
            change wpList _ _ _ _ _ wr.drew
            go_wp2_with fail
            clear k1' kc kc1 hf hf1
            have hO2 := HO1.out.upd ((Upd.refl _ (fun _ => False)).drew) id
            have hu2 := uu.drew
            generalize (wr.setCell ⟨G, i, none⟩ (.int .i64 (u1 : Nat))).drew = w2 at hO2 hu2 ⊢
            have k2' := (hu2.cell g2 _ hg2 id).trans K2.out
            rw [HY.out] at k2'
            have kc := hO2.cell i (by simp; have := HC.out.len; omega)
            rw [getD_set _ i i _ (by have := HC.out.len; omega), if_pos rfl] at kc
            have hf := hO2.free i
            obtain ⟨z1, z2, ⟨z, z3⟩, z4, z5, o3, z6, z7, z8⟩ := FIN.out _ w2 (by simp) (fun j hj => by rw [getD_set _ i j _ (by have := HC.out.len; omega), if_neg hj]) hO2 hu2
            clear hO2
            go_still_tail 12, (by kernel_rfl)
            change wpList _ _ _ _ _ w2.drew
            clear w1 ws
            go_wp2_with fail
            go_roundg (gk - 1)
            case measure => omega
            case rel => exact ⟨i1, q, o3, by have := HI.out; omega, by first | rfl | go_num, z6.upd ((Upd.refl _ (fun _ => False)).drew) id, z7, z8.drew⟩
          · have d3 : decide (i < B) = false := by simpa using hiB
            have hy0 : y = 0 := by rw [← HY.out, List.getD_eq_getElem?_getD, List.getElem?_eq_none (by rw [HB.out]; omega)]; rfl
            have hus : u1 = s := by have := HS.out; omega
            subst hus
            obtain ⟨z1, z2, ⟨z, z3⟩, z4, z5, o3, z6, z7, z8⟩ := FIN.out o wr rfl (fun j hj => rfl) HO.out hu
            clear hu1 k1 r1 r2 hy0 hiB
            go_wp2_with fail
            go_still_tail 12, (by kernel_rfl)
            change wpList _ _ _ _ _ wr.drew
            clear w1 ws
            go_wp2_with fail
            go_roundg (gk - 1)
            case measure => omega
            case rel => exact ⟨i1, q, o3, by have := HI.out; omega, by first | rfl | go_num, z6.upd ((Upd.refl _ (fun _ => False)).drew) id, z7, z8.drew⟩
        · exact absurd hin hiA
      · have hie : i = A := by omega
        subst hie
        have d1 : decide (i < i) = false := by simp
        have kc := hO.cell i (by omega)
        rw [hC.cur] at kc
        have hi0 : (0 : Int) ≤ (i : Int) := Int.natCast_nonneg _
        have hiN : (i : Int) < (N : Int) := by have := HN.out; omega
        have hlN : o.length = N := by have := HN.out; omega
        have hdg := hO.dg
        have hdt := hO.dg_take i (by omega)
        rw [hlN] at hdg hdt
        by_cases hc0 : c = 0
        · have d4 : ((c : Int) == 0) = true := by simp; omega
          subst hc0
          rw [Ad.short hC na nb (by rw [HA.out]; omega) (by rw [HB.out]; omega) (by rw [HA.out, HB.out]; omega)] at hdt
          have HD := hide hdt
          clear hC hdg hdt hO hlen hin hi r1 r2
          go_wp2_with fail
          go_ret
          exact ⟨_, rfl, HD.out, hu⟩
        · have d4 : ((c : Int) == 0) = false := by simp; omega
          have hlong := Ad.long hC hc0 (by rw [HA.out]; omega) (by rw [HB.out]; omega)
          have HD : Hid (DgAt wr (.slice (some ⟨G, 0, none⟩) N N) (dg (val a + val b))) := hide (by rw [← hlong]; exact hdg)
          clear hC hdg hdt hO hlen hin hi r1 r2 hlong
          go_wp2_with fail
          go_ret
          exact ⟨_, rfl, HD.out, hu⟩
end Go.Proofs.YtmfngdjhkpddoaaGreatDoor.Fl
namespace Go.Proofs.YtmfngdjhkpddoaaGreatDoor.Fl
open Go.RowKit Go.Lat
theorem from_small (r : Nat) (h : r < infR) (he : pm r = 0 ∨ pe r < -120) : fromR r = 0 := by
  rcases he with he | he
  · refine mag_zero_from r ?_
    rw [← mag_parts r h, he, Nat.zero_mul]
  · obtain ⟨p1, p2⟩ := pe_range r h
    obtain ⟨k, hk⟩ := Int.eq_ofNat_of_zero_le (show 0 ≤ -pe r by omega)
    rw [fromR_right r k h (by omega) (by omega) (by omega)]
    have hm := pm_range r
    refine Nat.div_eq_of_lt ?_
    have e1 := pow_half k (by omega)
    have e2 : 2 ^ 80 ≤ 2 ^ (k - 1) := Nat.pow_le_pow_right (by omega) (by omega)
    rw [e1]
    generalize 2 ^ (k - 1) = P at *
    omega
theorem pm_great (r : Nat) (h : 0 < pe r) : 4503599627370496 ≤ pm r := by
  unfold pe at h
  unfold pm
  split at h
  · omega
  · split at h
    · omega
    · rename_i h1 h2
      rw [if_neg h1, if_neg h2]
      omega
theorem from_great (r : Nat) (h : r < infR) (he : 70 < pe r) : 9000000000000000000 < fromR r := by
  obtain ⟨e, hE⟩ := Int.eq_ofNat_of_zero_le (show 0 ≤ pe r by omega)
  rw [fromR_left r e h hE]
  have hm := pm_great r (by omega)
  have hp : 2 ^ 10 ≤ 2 ^ e := Nat.pow_le_pow_right (by omega) (by omega)
  have := Nat.mul_le_mul (show 45035996273704960000 ≤ pm r * 10000 by omega) hp
  omega
theorem two_pow_100 (k : Nat) (hk : k ≤ 200) : 2 ^ k * 1000000000000000000000000000000 < 10 ^ 100 := by
  have a1 : 2 ^ k ≤ 2 ^ 200 := Nat.pow_le_pow_right (by omega) hk
  have a2 : (2 : Nat) ^ 200 ≤ 10 ^ 68 := by
    rw [show (2 : Nat) ^ 200 = 2 ^ (10 * 20) from rfl, Nat.pow_mul, show (10 : Nat) ^ 68 = 10 ^ (4 * 17) from rfl, Nat.pow_mul]
    have b1 : (2 ^ 10) ^ 20 < (10 ^ 4) ^ 17 := by decide
    exact Nat.le_of_lt b1
  have a3 : (10 : Nat) ^ 68 * 10 ^ 30 = 10 ^ 98 := by rw [← Nat.pow_add]
  have a4 : (10 : Nat) ^ 98 < 10 ^ 100 := Nat.pow_lt_pow_right (by omega) (by omega)
  have a5 := Nat.mul_le_mul_right (10 ^ 30) (Nat.le_trans a1 a2)
  rw [a3] at a5
  have a6 : (1000000000000000000000000000000 : Nat) = 10 ^ 30 := rfl
  rw [a6]
  omega
set_option maxHeartbeats 1600000 in
theorem RefFrom_fin (w : World) (b : Nat) (hb : b < 18446744073709551616) (hr : rng b < infR) :
    Calls Tryz.prog 108 #[.int .u64 b] w fun e w' => e = .returned (.tuple #[.int .i64 (fromV (Lat.sgn b) (fromR (rng b))), .int .i64 (fromE (fromR (rng b)))]) ∧ Upd w w' (fun _ => False) := by
  have hC := fun w => RefClass_any w b hb
  have hP := fun w => RefParts_any w b hb
  obtain ⟨n0, n1, -⟩ := cls_sval b hr
  have hm := pm_range (rng b)
  obtain ⟨pe1, pe2⟩ := pe_range (rng b) hr
  have sm := from_small (rng b) hr
  have gr := from_great (rng b) hr
  have fl := fun e he => fromR_left (rng b) e hr he
  have fr := fun k h1 h2 he => fromR_right (rng b) k hr h1 h2 he
  have SM := hide sm
  have GR := hide gr
  have FL := hide fl
  have FR := hide fr
  have c0 : ((cls b : Int) == 0) = false := by simp; omega
  have c1 : ((cls b : Int) == 1) = false := by simp; omega
  have c6 : ((cls b : Int) == 6) = false := by simp; omega
  clear sm gr fl fr
  generalize Lat.sgn b = s at *
  obtain ⟨X, hX⟩ : ∃ X, fromR (rng b) = X := ⟨_, rfl⟩
  rw [hX] at SM GR ⊢
  simp only [hX] at FL FR
  clear hX hr
  generalize pm (rng b) = m at *
  generalize pe (rng b) = e at *
  generalize cls b = c at *
  clear n0 n1
  by_cases h1 : m = 0
  · have d1 : ((m : Int) == 0) = true := by simp; omega
    have hX0 := SM.out (.inl h1)
    have ev : fromV s X = 0 ∧ fromE X = 0 := by rw [hX0]; unfold fromV fromE; cases s <;> simp
    rw [ev.1, ev.2]
    clear h1 hX0 ev
    go_enter Tryz.func108, Tryz.ntmps108
    go_wp2_with fail
    refine Calls.mono (hC _) ?_
    rintro e w1 ⟨rfl, rfl⟩
    go_wp2_with fail
    refine Calls.mono (hP _) ?_
    rintro e w1 ⟨rfl, rfl⟩
    go_wp2_with fail
    go_ret2
    exact ⟨rfl, Upd.refl _ _⟩
  · have d1 : ((m : Int) == 0) = false := by simp; omega
    by_cases h2 : e < -120
    · have d2 : decide (e < -120) = true := by simpa using h2
      have hX0 := SM.out (.inr h2)
      have ev : fromV s X = 0 ∧ fromE X = 0 := by rw [hX0]; unfold fromV fromE; cases s <;> simp
      rw [ev.1, ev.2]
      clear h1 h2 hX0 ev
      go_enter Tryz.func108, Tryz.ntmps108
      go_wp2_with fail
      refine Calls.mono (hC _) ?_
      rintro e w1 ⟨rfl, rfl⟩
      go_wp2_with fail
      refine Calls.mono (hP _) ?_
      rintro e w1 ⟨rfl, rfl⟩
      go_wp2_with fail
      go_ret2
      exact ⟨rfl, Upd.refl _ _⟩
    · have d2 : decide (e < -120) = false := by simpa using h2
      by_cases h3 : 70 < e
      · have d3 : decide (70 < e) = true := by simpa using h3
        have hXg := GR.out h3
        have ev : fromV s X = 0 ∧ fromE X = 5 := by unfold fromV fromE; rw [if_pos hXg, if_pos hXg]; exact ⟨rfl, rfl⟩
        rw [ev.1, ev.2]
        clear h1 h2 h3 hXg ev
        go_enter Tryz.func108, Tryz.ntmps108
        go_wp2_with fail
        refine Calls.mono (hC _) ?_
        rintro e w1 ⟨rfl, rfl⟩
        go_wp2_with fail
        refine Calls.mono (hP _) ?_
        rintro e w1 ⟨rfl, rfl⟩
        go_wp2_with fail
        go_ret2
        exact ⟨rfl, Upd.refl _ _⟩
      · have d3 : decide (70 < e) = false := by simpa using h3
        obtain ⟨H, hH⟩ : ∃ H, 10 ^ 100 = H := ⟨_, rfl⟩
        have DG := fun w => digits2_any w m (by omega)
        have b0 := two_pow_100 0 (by omega)
        rw [Nat.pow_zero, hH] at b0
        have P1 := fun w v1 v2 h1 h2 => product_dg w v1 v2 m [0, 0, 0, 0, 1] h1 h2 (by unfold Norm; decide) (by rw [hH]; omega) (by decide)
        rw [show val [0, 0, 0, 0, 1] = 10000 from by decide] at P1
        obtain ⟨n, hn⟩ : ∃ n, m * 10000 = n := ⟨_, rfl⟩
        rw [hn] at P1
        simp only [hn] at FL FR
        have hnb : n < 100000000000000000000 := by omega
        by_cases h4 : 0 ≤ e
        · have d4 : decide (0 ≤ e) = true := by simpa using h4
          obtain ⟨k, rfl⟩ := Int.eq_ofNat_of_zero_le h4
          have hX := FL.out k rfl
          have hk : k ≤ 70 := by omega
          have bk := two_pow_100 k (by omega)
          rw [hH] at bk
          have PW := fun w => power2_any w k (by omega)
          have P2 := fun w v1 v2 h1 h2 => product_dg w v1 v2 n (dg (2 ^ k)) h1 h2 (dg_norm _) (by rw [hH]; omega) (dg_len _ 100 (by rw [hH]; omega))
          rw [val_dg, ← hX] at P2
          have hXH : X < H := by
            rw [hX]
            have := Nat.mul_le_mul_right (2 ^ k) (show n ≤ 1000000000000000000000000000000 by omega)
            rw [Nat.mul_comm 1000000000000000000000000000000] at this
            omega
          have NM := fun w v hv => Number_any w v X s hv (by rw [hH]; exact hXH)
          clear hX bk hXH hn h1 h2 h3 hH b0 h4
          go_enter Tryz.func108, Tryz.ntmps108
          go_wp2_with fail
          refine Calls.mono (hC _) ?_
          rintro e w1 ⟨rfl, rfl⟩
          go_wp2_with fail
          refine Calls.mono (hP _) ?_
          rintro e w1 ⟨rfl, rfl⟩
          go_wp2_with fail
          refine Calls.mono (DG _) ?_
          rintro e w2 ⟨v2, rfl, g2, u2⟩
          go_wp2_with fail
          have m1 : DgAt (w2.alloc (.cells #[.int .i64 0, .int .i64 0, .int .i64 0, .int .i64 0, .int .i64 1] 3)) (.slice (some ⟨w2.heap.size, 0, none⟩) 5 5) [0, 0, 0, 0, 1] := Rw.made w2 _ _ 1 5 rfl
          refine Calls.mono (P1 _ _ _ (g2.upd ((Upd.refl w2 _).alloc _)) m1) ?_
          rintro e w3 ⟨v3, rfl, g3, u3⟩
          go_wp2_with fail
          refine Calls.mono (PW _) ?_
          rintro e w4 ⟨v4, rfl, g4, u4⟩
          go_wp2_with fail
          refine Calls.mono (P2 _ _ _ (g3.upd u4) g4) ?_
          rintro e w5 ⟨v5, rfl, g5, u5⟩
          go_wp2_with fail
          refine Calls.mono (NM _ _ g5) ?_
          rintro e w6 ⟨rfl, u6⟩
          go_wp2_with fail
          go_ret2
          exact ⟨rfl, ((((u2.alloc _).then u3 (fun _ _ => id)).then u4 (fun _ _ => id)).then u5 (fun _ _ => id)).then u6 (fun _ _ => id)⟩
        · have d4 : decide (0 ≤ e) = false := by simpa using h4
          obtain ⟨k, hk⟩ := Int.eq_ofNat_of_zero_le (show 0 ≤ -e by omega)
          obtain rfl : e = -(k : Int) := by omega
          have hk1 : 1 ≤ k ∧ k ≤ 120 := by omega
          have hX := FR.out k (by omega) (by omega) rfl
          have bk := two_pow_100 k (by omega)
          rw [hH] at bk
          have hp := pow_half k (by omega)
          have PW := fun w => power2_any w k (by omega)
          obtain ⟨Q, hQ⟩ : ∃ Q, 2 ^ k = Q := ⟨_, rfl⟩
          obtain ⟨P, hPp⟩ : ∃ P, 2 ^ (k - 1) = P := ⟨_, rfl⟩
          have pP : 0 < P := by rw [← hPp]; exact Nat.two_pow_pos _
          simp only [hQ] at PW
          rw [hQ, hPp] at hX hp
          rw [hQ] at bk
          have T2 := fun w v1 v2 h1 h2 => product_dg w v1 v2 Q [2] h1 h2 (by unfold Norm; decide) (by rw [hH]; omega) (by decide)
          have T3 := fun w v1 v2 h1 h2 => product_dg w v1 v2 n [2] h1 h2 (by unfold Norm; decide) (by rw [hH]; omega) (by decide)
          rw [show val [2] = 2 from by decide] at T2 T3
          have l1 := dg_len (n * 2) 100 (by rw [hH]; omega)
          have l2 := dg_len Q 100 (by rw [hH]; omega)
          have l3 := dg_len (n * 2 + Q) 100 (by rw [hH]; omega)
          have l4 := dg_len (Q * 2) 100 (by rw [hH]; omega)
          have PL := fun w v1 v2 h1 h2 => plus2_any w v1 v2 (dg (n * 2)) (dg Q) h1 h2 (dg_norm _) (dg_norm _) (by omega) (by omega)
          rw [val_dg, val_dg] at PL
          have OV := fun w v1 v2 h1 h2 => Over1_any w v1 v2 (dg (n * 2 + Q)) (dg (Q * 2)) h1 h2 (dg_norm _) (dg_norm _) (by rw [val_dg]; omega) (by omega) (by omega)
          rw [val_dg, val_dg] at OV
          have eX : (n * 2 + Q) / (Q * 2) = X := by
            rw [hX, hp]
            have e3 : n * 2 + 2 * P = 2 * (n + P) := by omega
            have e4 : 2 * P * 2 = 2 * (2 * P) := by omega
            rw [e3, e4, Nat.mul_div_mul_left _ _ (by omega)]
          rw [eX] at OV
          have hXn : X ≤ n + P := by rw [hX]; exact Nat.div_le_self _ _
          have NM := fun w v hv => Number_any w v X s hv (by rw [hH]; omega)
          clear hX bk hn h1 h2 h3 hH b0 h4 eX hXn hp hQ hPp hk l1 l2 l3 l4
          go_enter Tryz.func108, Tryz.ntmps108
          go_wp2_with fail
          refine Calls.mono (hC _) ?_
          rintro e w1 ⟨rfl, rfl⟩
          go_wp2_with fail
          refine Calls.mono (hP _) ?_
          rintro e w1 ⟨rfl, rfl⟩
          go_wp2_with fail
          refine Calls.mono (DG _) ?_
          rintro e w2 ⟨v2, rfl, g2, u2⟩
          go_wp2_with fail
          have m1 : DgAt (w2.alloc (.cells #[.int .i64 0, .int .i64 0, .int .i64 0, .int .i64 0, .int .i64 1] 3)) (.slice (some ⟨w2.heap.size, 0, none⟩) 5 5) [0, 0, 0, 0, 1] := Rw.made w2 _ _ 1 5 rfl
          refine Calls.mono (P1 _ _ _ (g2.upd ((Upd.refl w2 _).alloc _)) m1) ?_
          rintro e w3 ⟨v3, rfl, g3, u3⟩
          go_wp2_with fail
          refine Calls.mono (PW _) ?_
          rintro e w4 ⟨v4, rfl, g4, u4⟩
          go_wp2_with fail
          have m2 : DgAt (w4.alloc (.cells #[.int .i64 2] 3)) (.slice (some ⟨w4.heap.size, 0, none⟩) 1 1) [2] := Rw.made w4 _ _ 1 1 rfl
          have g4a := g4.upd ((Upd.refl w4 (fun _ => False)).alloc (.cells #[.int .i64 2] 3))
          refine Calls.mono (T2 _ _ _ g4a m2) ?_
          rintro e w5 ⟨v5, rfl, g5, u5⟩
          have u45 := ((Upd.refl w4 (fun _ => False)).alloc (.cells #[.int .i64 2] 3)).then u5 (fun _ _ => id)
          have g45 := g4.upd u45
          have g35 := (g3.upd u4).upd u45
          go_wp2_with fail
          have m3 : DgAt (w5.alloc (.cells #[.int .i64 2] 3)) (.slice (some ⟨w5.heap.size, 0, none⟩) 1 1) [2] := Rw.made w5 _ _ 1 1 rfl
          refine Calls.mono (T3 _ _ _ (g35.upd ((Upd.refl w5 (fun _ => False)).alloc (.cells #[.int .i64 2] 3))) m3) ?_
          rintro e w6 ⟨v6, rfl, g6, u6⟩
          have u56 := ((Upd.refl w5 (fun _ => False)).alloc (.cells #[.int .i64 2] 3)).then u6 (fun _ _ => id)
          go_wp2_with fail
          refine Calls.mono (PL _ _ _ g6 (g45.upd u56)) ?_
          rintro e w7 ⟨v7, rfl, g7, u7⟩
          go_wp2_with fail
          refine Calls.mono (OV _ _ _ g7 ((g5.upd u56).upd u7)) ?_
          rintro e w8 ⟨x8, y8, rfl, g8, -, u8⟩
          go_wp2_with fail
          refine Calls.mono (NM _ _ g8) ?_
          rintro e w9 ⟨rfl, u9⟩
          go_wp2_with fail
          go_ret2
          exact ⟨rfl, (((((((u2.alloc _).then u3 (fun _ _ => id)).then u4 (fun _ _ => id)).then u45 (fun _ _ => id)).then u56 (fun _ _ => id)).then u7 (fun _ _ => id)).then u8 (fun _ _ => id)).then u9 (fun _ _ => id)⟩
theorem RefFrom_any (w : World) (b : Nat) (hb : b < 18446744073709551616) :
    Calls Tryz.prog 108 #[.int .u64 b] w fun e w' => e = .returned (.tuple #[.int .i64 (fromVal b), .int .i64 (fromErr b)]) ∧ Upd w w' (fun _ => False) := by
  unfold fromVal fromErr
  have hC := fun w => RefClass_any w b hb
  rcases Nat.lt_trichotomy (rng b) infR with h | h | h
  · rw [if_pos h, if_neg (by omega), if_neg (by omega)]
    exact RefFrom_fin w b hb h
  · rw [if_neg (by omega), if_neg (by omega), if_pos h]
    have hc : cls b = 1 ∨ cls b = 6 := by
      unfold cls
      rw [if_neg (by omega), h]
      cases Lat.sgn b <;> simp
    clear h
    rcases hc with hc | hc <;> rw [hc] at hC
    · go_enter Tryz.func108, Tryz.ntmps108
      go_wp2_with fail
      refine Calls.mono (hC _) ?_
      rintro e w1 ⟨rfl, rfl⟩
      go_wp2_with fail
      go_ret2
      exact ⟨rfl, Upd.refl _ _⟩
    · go_enter Tryz.func108, Tryz.ntmps108
      go_wp2_with fail
      refine Calls.mono (hC _) ?_
      rintro e w1 ⟨rfl, rfl⟩
      go_wp2_with fail
      go_ret2
      exact ⟨rfl, Upd.refl _ _⟩
  · rw [if_neg (by omega), if_pos h]
    have hc : cls b = 0 := by unfold cls; rw [if_pos h]
    clear h
    rw [hc] at hC
    go_enter Tryz.func108, Tryz.ntmps108
    go_wp2_with fail
    refine Calls.mono (hC _) ?_
    rintro e w1 ⟨rfl, rfl⟩
    go_wp2_with fail
    go_ret2
    exact ⟨rfl, Upd.refl _ _⟩
end Go.Proofs.YtmfngdjhkpddoaaGreatDoor.Fl
namespace Go.Proofs.YtmfngdjhkpddoaaGreatDoor
open Go.RowKit Go.Lat Go.Lib
set_option maxHeartbeats 1600000 in
theorem RTakes_any (w : World) (n : List UInt8) : Calls Tryz.prog 22 #[enS n] w fun e w' => e = .returned (.int .i64 (takesN n)) ∧ w' = w := by
  rcases fun_cases n with ⟨hn, b1, b2, b3, b4, b5, b6, b7, b8, b9, b10, b11, b12, b13, b14⟩ | ⟨hn, b1, b2, b3, b4, b5, b6, b7, b8, b9, b10, b11, b12, b13, b14⟩ | ⟨hn, b1, b2, b3, b4, b5, b6, b7, b8, b9, b10, b11, b12, b13, b14⟩ | ⟨hn, b1, b2, b3, b4, b5, b6, b7, b8, b9, b10, b11, b12, b13, b14⟩ | ⟨hn, b1, b2, b3, b4, b5, b6, b7, b8, b9, b10, b11, b12, b13, b14⟩ | ⟨hn, b1, b2, b3, b4, b5, b6, b7, b8, b9, b10, b11, b12, b13, b14⟩ | ⟨hn, b1, b2, b3, b4, b5, b6, b7, b8, b9, b10, b11, b12, b13, b14⟩ | ⟨hn, b1, b2, b3, b4, b5, b6, b7, b8, b9, b10, b11, b12, b13, b14⟩ | ⟨hn, b1, b2, b3, b4, b5, b6, b7, b8, b9, b10, b11, b12, b13, b14⟩ | ⟨hn, b1, b2, b3, b4, b5, b6, b7, b8, b9, b10, b11, b12, b13, b14⟩ | ⟨hn, b1, b2, b3, b4, b5, b6, b7, b8, b9, b10, b11, b12, b13, b14⟩ | ⟨hn, b1, b2, b3, b4, b5, b6, b7, b8, b9, b10, b11, b12, b13, b14⟩ | ⟨hn, b1, b2, b3, b4, b5, b6, b7, b8, b9, b10, b11, b12, b13, b14⟩ | ⟨hn, b1, b2, b3, b4, b5, b6, b7, b8, b9, b10, b11, b12, b13, b14⟩ | ⟨n1, n2, n3, n4, n5, n6, n7, n8, n9, n10, n11, n12, n13, n14, b1, b2, b3, b4, b5, b6, b7, b8, b9, b10, b11, b12, b13, b14⟩
  · have et : takesN n = 1 := by rw [hn]; decide
    rw [et]
    clear hn et
    go_enter Tryz.func22, Tryz.ntmps22
    go_wp2_with fail
    go_ret
    exact ⟨rfl, rfl⟩
  · have et : takesN n = 1 := by rw [hn]; decide
    rw [et]
    clear hn et
    go_enter Tryz.func22, Tryz.ntmps22
    go_wp2_with fail
    go_ret
    exact ⟨rfl, rfl⟩
  · have et : takesN n = 1 := by rw [hn]; decide
    rw [et]
    clear hn et
    go_enter Tryz.func22, Tryz.ntmps22
    go_wp2_with fail
    go_ret
    exact ⟨rfl, rfl⟩
  · have et : takesN n = 1 := by rw [hn]; decide
    rw [et]
    clear hn et
    go_enter Tryz.func22, Tryz.ntmps22
    go_wp2_with fail
    go_ret
    exact ⟨rfl, rfl⟩
  · have et : takesN n = 1 := by rw [hn]; decide
    rw [et]
    clear hn et
    go_enter Tryz.func22, Tryz.ntmps22
    go_wp2_with fail
    go_ret
    exact ⟨rfl, rfl⟩
  · have et : takesN n = 1 := by rw [hn]; decide
    rw [et]
    clear hn et
    go_enter Tryz.func22, Tryz.ntmps22
    go_wp2_with fail
    go_ret
    exact ⟨rfl, rfl⟩
  · have et : takesN n = 1 := by rw [hn]; decide
    rw [et]
    clear hn et
    go_enter Tryz.func22, Tryz.ntmps22
    go_wp2_with fail
    go_ret
    exact ⟨rfl, rfl⟩
  · have et : takesN n = 2 := by rw [hn]; decide
    rw [et]
    clear hn et
    go_enter Tryz.func22, Tryz.ntmps22
    go_wp2_with fail
    go_ret
    exact ⟨rfl, rfl⟩
  · have et : takesN n = 2 := by rw [hn]; decide
    rw [et]
    clear hn et
    go_enter Tryz.func22, Tryz.ntmps22
    go_wp2_with fail
    go_ret
    exact ⟨rfl, rfl⟩
  · have et : takesN n = 2 := by rw [hn]; decide
    rw [et]
    clear hn et
    go_enter Tryz.func22, Tryz.ntmps22
    go_wp2_with fail
    go_ret
    exact ⟨rfl, rfl⟩
  · have et : takesN n = 2 := by rw [hn]; decide
    rw [et]
    clear hn et
    go_enter Tryz.func22, Tryz.ntmps22
    go_wp2_with fail
    go_ret
    exact ⟨rfl, rfl⟩
  · have et : takesN n = 2 := by rw [hn]; decide
    rw [et]
    clear hn et
    go_enter Tryz.func22, Tryz.ntmps22
    go_wp2_with fail
    go_ret
    exact ⟨rfl, rfl⟩
  · have et : takesN n = 2 := by rw [hn]; decide
    rw [et]
    clear hn et
    go_enter Tryz.func22, Tryz.ntmps22
    go_wp2_with fail
    go_ret
    exact ⟨rfl, rfl⟩
  · have et : takesN n = 2 := by rw [hn]; decide
    rw [et]
    clear hn et
    go_enter Tryz.func22, Tryz.ntmps22
    go_wp2_with fail
    go_ret
    exact ⟨rfl, rfl⟩
  · have et : takesN n = 0 := by unfold takesN ones twos; simp [n1, n2, n3, n4, n5, n6, n7, n8, n9, n10, n11, n12, n13, n14]
    rw [et]
    clear n1 n2 n3 n4 n5 n6 n7 n8 n9 n10 n11 n12 n13 n14 et
    go_enter Tryz.func22, Tryz.ntmps22
    go_wp2_with fail
    go_ret
    exact ⟨rfl, rfl⟩
theorem RGcd_any : ∀ (N Y : Nat), Y ≤ N → ∀ (X : Nat) (w : World), X ≤ 9000000000000000000 → Y ≤ 9000000000000000000 → Calls Tryz.prog 106 #[.int .i64 (X : Int), .int .i64 (Y : Int)] w fun e w' => e = .returned (.int .i64 ((Nat.gcd X Y : Nat) : Int)) ∧ w' = w
  | 0, Y, h, X, w, hX, hY => by
    obtain rfl : Y = 0 := by omega
    rw [Nat.gcd_zero_right]
    clear h hY
    go_enter Tryz.func106, Tryz.ntmps106
    go_wp2_with fail
    go_ret
    exact ⟨rfl, rfl⟩
  | N + 1, Y, h, X, w, hX, hY => by
    by_cases h0 : Y = 0
    · subst h0
      rw [Nat.gcd_zero_right]
      clear h hY
      go_enter Tryz.func106, Tryz.ntmps106
      go_wp2_with fail
      go_ret
      exact ⟨rfl, rfl⟩
    · have hlt : X % Y < Y := Nat.mod_lt _ (by omega)
      have IH := RGcd_any N (X % Y) (by omega) Y w hY (by omega)
      have hgr : Nat.gcd Y (X % Y) = Nat.gcd X Y := by rw [Nat.gcd_comm X Y, Nat.gcd_rec Y X, Nat.gcd_comm]
      rw [hgr] at IH
      obtain ⟨G, hG⟩ : ∃ G, Nat.gcd X Y = G := ⟨_, rfl⟩
      rw [hG] at IH ⊢
      have n0 : ((Y : Int) == 0) = false := by simp; omega
      have tm : (X : Int).tmod (Y : Int) = ((X % Y : Nat) : Int) := by rw [Int.tmod_eq_emod_of_nonneg (by omega)]; rfl
      obtain ⟨R, hR⟩ : ∃ R, X % Y = R := ⟨_, rfl⟩
      rw [hR] at tm hlt IH
      have w1 : IntKind.i64.wrap (R : Int) = (R : Int) := by rw [IntWalk.i64_in _ (by omega)]
      clear hgr hG hR hlt h hX hY
      go_enter Tryz.func106, Tryz.ntmps106
      go_wp2_with fail
      with_reducible refine Calls.mono IH ?_
      rintro e w1 ⟨rfl, hw⟩
      obtain rfl := hw.symm
      clear hw
      go_wp2_with fail
      go_ret
      exact ⟨rfl, rfl⟩
end Go.Proofs.YtmfngdjhkpddoaaGreatDoor
namespace Go.Proofs.YtmfngdjhkpddoaaGreatDoor
open Go.RowKit Go.Lat
theorem below_gen (w : World) (v1 v2 : Value) (x y : Nat) (h1 : DgAt w v1 (dg x)) (h2 : DgAt w v2 (dg y)) (hx : x < 10 ^ 100) :
    Calls Tryz.prog 140 #[v1, v2] w fun e w' => e = .returned (.bool (decide (x < y))) ∧ Upd w w' (fun _ => False) := by
  have hlx := dg_len x 100 hx
  have h := Fl.below2_any w v1 v2 (dg x) (dg y) h1 h2 (dg_norm x) (dg_norm y) (by omega)
  rw [val_dg, val_dg] at h
  exact h.mono fun e w' ⟨h1, n, h2⟩ => ⟨h1, by rw [h2]; exact (Upd.refl w _).drewN n⟩
theorem sq_lt {x y : Nat} (h : x * x < y * y) : x < y := by
  rcases Nat.lt_or_ge x y with h1 | h1
  · exact h1
  · have := Nat.mul_le_mul h1 h1
    omega
set_option maxHeartbeats 3200000 in
theorem Root_any (w : World) (a : Int) (ha : okNum a = true) (h0 : 0 ≤ a) : Calls Tryz.prog 102 #[.int .i64 a] w fun e w' => e = .returned (.int .i64 ((sqrtN a : Nat) : Int)) ∧ Upd w w' (fun _ => False) := by
  obtain ⟨x1, x2, x3, -⟩ := sqrtN_spec ha h0
  have ba := okNum_true ha
  obtain ⟨n, rfl⟩ : ∃ n : Nat, a = n := ⟨a.toNat, by omega⟩
  simp only [Int.natAbs_natCast] at x2 x3
  obtain ⟨X, hX⟩ : ∃ X, sqrtN (n : Int) = X := ⟨_, rfl⟩
  rw [hX] at x1 x2 x3 ⊢
  have D := fun w => Digits_nat w n (by omega)
  have P0 := fun w v1 v2 k1 k2 => Fl.product_dg w v1 v2 n [0, 0, 0, 0, 4] k1 k2 (by unfold Norm; decide) (by omega) (by decide)
  rw [show val [0, 0, 0, 0, 4] = 40000 from by decide] at P0
  obtain ⟨T, hT⟩ : ∃ T, n * 40000 = T := ⟨_, rfl⟩
  rw [hT] at P0 x2 x3
  have hT100 : T < 10 ^ 100 := by omega
  have HX2 := hide x2
  have HX3 := hide x3
  obtain ⟨B, hB⟩ : ∃ B, B = 400000000000 := ⟨_, rfl⟩
  have HB := hide hB
  have hXB : X ≤ B := by omega
  clear ha h0 hX ba hT x2 x3 x1 hB
  go_enter Tryz.func102, Tryz.ntmps102
  go_wp2_with fail
  refine Calls.mono (D _) ?_
  rintro e w1 ⟨v1, rfl, q1, u1⟩
  go_wp2_with fail
  have m2 : DgAt (w1.alloc (.cells #[.int .i64 0, .int .i64 0, .int .i64 0, .int .i64 0, .int .i64 4] 3)) (.slice (some ⟨w1.heap.size, 0, none⟩) 5 5) [0, 0, 0, 0, 4] := Rw.made w1 _ _ 1 5 rfl
  refine Calls.mono (P0 _ _ _ (DgAt.upd q1 ((Upd.refl w1 _).alloc _)) m2) ?_
  rintro e w2 ⟨v2, rfl, q2, u2⟩
  have HU2 := hide ((u1.alloc _).then u2 (fun _ _ => id))
  have HQ2 := hide q2
  clear q1 q2 u1 u2 m2 P0 D
  go_wp2_with fail
  go_loopg [5, 6] (B + 1) (fun q lv hv wr => ∃ L H : Nat, lv = .int .i64 (L : Int) ∧ hv = .int .i64 (H : Int) ∧ L ≤ X ∧ X ≤ H ∧ H ≤ B ∧ H - L < q ∧ Upd w2 wr (fun _ => False))
  case atStart => exact ⟨0, B, rfl, by rw [HB.out]; rfl, by omega, hXB, Nat.le_refl _, by omega, Upd.refl _ _⟩
  case round =>
    obtain ⟨L, H, rfl, rfl, hL, hH, hHB, hq, hu⟩ := hrel
    have hB4 := HB.out
    by_cases hlt : L < H
    · have hl : (L : Int) < (H : Int) := by omega
      obtain ⟨M, hM⟩ : ∃ M, (L + H + 1) / 2 = M := ⟨_, rfl⟩
      obtain ⟨S, hS⟩ : ∃ S, L + H = S := ⟨_, rfl⟩
      obtain ⟨S1, hS1⟩ : ∃ S1, S + 1 = S1 := ⟨_, rfl⟩
      have hM1 : L < M := by omega
      have hM2 : M ≤ H := by omega
      obtain ⟨T2, hT2⟩ : ∃ T2, 2 * M = T2 := ⟨_, rfl⟩
      obtain ⟨U, hU⟩ : ∃ U, T2 - 1 = U := ⟨_, rfl⟩
      obtain ⟨M1, hM3⟩ : ∃ M1, M - 1 = M1 := ⟨_, rfl⟩
      have s1 : (L : Int) + (H : Int) = (S : Int) := by omega
      have s2 : (S : Int) + 1 = (S1 : Int) := by omega
      have td : (S1 : Int).tdiv 2 = (M : Int) := by rw [Int.tdiv_eq_ediv_of_nonneg (by omega)]; omega
      have s3 : 2 * (M : Int) = (T2 : Int) := by omega
      have s4 : (T2 : Int) - 1 = (U : Int) := by omega
      have s5 : (M : Int) - 1 = (M1 : Int) := by omega
      have w1' : IntKind.i64.wrap (S : Int) = (S : Int) := by rw [IntWalk.i64_in _ (by omega)]
      have w2' : IntKind.i64.wrap (S1 : Int) = (S1 : Int) := by rw [IntWalk.i64_in _ (by omega)]
      have w3' : IntKind.i64.wrap (M : Int) = (M : Int) := by rw [IntWalk.i64_in _ (by omega)]
      have w4' : IntKind.i64.wrap (T2 : Int) = (T2 : Int) := by rw [IntWalk.i64_in _ (by omega)]
      have w5' : IntKind.i64.wrap (U : Int) = (U : Int) := by rw [IntWalk.i64_in _ (by omega)]
      have w6' : IntKind.i64.wrap (M1 : Int) = (M1 : Int) := by rw [IntWalk.i64_in _ (by omega)]
      have DU := fun w => Digits_nat w U (by omega)
      have hU100 : U < 10 ^ 100 := by omega
      have hUU : U * U < 10 ^ 100 := by
        have := Nat.mul_le_mul (show U ≤ 1000000000000 by omega) (show U ≤ 1000000000000 by omega)
        omega
      have lU := dg_len U 100 hU100
      have PU := fun w v1 v2 k1 k2 => Fl.product_dg w v1 v2 U (dg U) k1 k2 (dg_norm U) hU100 lU
      rw [val_dg] at PU
      have BE := fun w v1 v2 k1 k2 => below_gen w v1 v2 (U * U) T k1 k2 hUU
      have hok : U * U < T → M ≤ X := fun h => by
        have h2 := HX2.out
        have := sq_lt (Nat.lt_trans h h2)
        omega
      have hno : ¬ U * U < T → X ≤ M1 := fun h => by
        rcases HX3.out with h3 | h3
        · omega
        · have := sq_lt (Nat.lt_of_lt_of_le h3 (Nat.le_of_not_lt h))
          omega
      have HOK := hide hok
      have HNO := hide hno
      have HU := hide hu
      have HLS := hide (And.intro (And.intro hL hH) (And.intro hHB hq))
      have HMS := hide (And.intro (And.intro hM1 hM2) (And.intro hM3 hB4))
      obtain ⟨b, hb⟩ : ∃ b, decide (U * U < T) = b := ⟨_, rfl⟩
      rw [hb] at BE
      have HBB := hide hb
      clear hb hok hno hu hUU lU hU100 hM hS hS1 hM1 hM2 hT2 hU hM3 hL hH hHB hq hB4 hlt hXB hT100
      go_wp2_with fail
      refine Calls.mono (DU _) ?_
      rintro e w3 ⟨v3, rfl, q3, u3⟩
      go_wp2_with fail
      refine Calls.mono (PU _ _ _ q3 q3) ?_
      rintro e w4 ⟨v4, rfl, q4, u4⟩
      go_wp2_with fail
      refine Calls.mono (BE _ _ _ q4 (DgAt.upd (DgAt.upd (DgAt.upd HQ2.out HU.out) u3) u4)) ?_
      rintro e w5 ⟨rfl, u5⟩
      have HU5 := hide (((HU.out.then u3 (fun _ _ => id)).then u4 (fun _ _ => id)).then u5 (fun _ _ => id))
      clear q3 q4 u3 u4 u5
      cases b with
      | true =>
        go_wp2_with fail
        have h1 := HOK.out (of_decide_eq_true HBB.out)
        go_roundg (gk - 1)
        case measure => have := HLS.out; have := HMS.out; omega
        case rel => exact ⟨M, H, rfl, rfl, h1, HLS.out.1.2, HLS.out.2.1, by have := HLS.out; have := HMS.out; omega, HU5.out⟩
      | false =>
        go_wp2_with fail
        have h1 := HNO.out (of_decide_eq_false HBB.out)
        go_roundg (gk - 1)
        case measure => have := HLS.out; have := HMS.out; omega
        case rel => exact ⟨L, M1, rfl, rfl, HLS.out.1.1, h1, by have := HLS.out; have := HMS.out; omega, by have := HLS.out; have := HMS.out; omega, HU5.out⟩
    · obtain rfl : L = X := by omega
      have hl : ¬ (L : Int) < (H : Int) := by omega
      have HU := hide hu
      clear hu hL hH hHB hq hlt hB4
      go_wp2_with fail
      go_ret
      exact ⟨rfl, HU2.out.then HU.out (fun _ _ => id)⟩
end Go.Proofs.YtmfngdjhkpddoaaGreatDoor
namespace Go.Proofs.YtmfngdjhkpddoaaGreatDoor
open Go.RowKit Go.Lat Go.Lib
set_option maxHeartbeats 3200000 in
theorem one_any (w : World) (n : List UInt8) (a : Int) (ha : okNum a = true) : Calls Tryz.prog 54 #[enS n, .int .i64 a] w fun e w' => e = .returned (aloneV n a).val ∧ Upd w w' (fun _ => False) := by
  have HU0 : Hid (Upd w (w.alloc (.cells #[.int .i64 0, .int .i64 0, .string ⟨#[]⟩, .bool false, .int .i64 0] 36)) (fun _ => False)) := hide ((Upd.refl w _).alloc _)
  have HV0 : Hid ((w.alloc (.cells #[.int .i64 0, .int .i64 0, .string ⟨#[]⟩, .bool false, .int .i64 0] 36)).heap[w.heap.size]? = some (.cells #[.int .i64 0, .int .i64 0, .string ⟨#[]⟩, .bool false, .int .i64 0] 36 (0, 0))) := hide (Vnew1 w _)
  have hr := okNum_true ha
  rcases one_cases n with ⟨hn, b1, b2, b3, b4, b5, b6⟩ | ⟨hn, b1, b2, b3, b4, b5, b6⟩ | ⟨hn, b1, b2, b3, b4, b5, b6⟩ | ⟨hn, b1, b2, b3, b4, b5, b6⟩ | ⟨hn, b1, b2, b3, b4, b5, b6⟩ | ⟨hn, b1, b2, b3, b4, b5, b6⟩ | ⟨n1, n2, n3, n4, n5, n6, b1, b2, b3, b4, b5, b6⟩
  · have er : aloneV n a = mkN (a.natAbs : Nat) := by rw [hn]; rfl
    rw [er]
    clear er hn
    by_cases h : a < 0
    · have en : ((a.natAbs : Nat) : Int) = -a := by omega
      rw [en]
      have w1 : IntKind.i64.wrap (-a) = -a := by rw [IntWalk.i64_in _ (by omega)]
      have NA := fun w => RN_any w (-a)
      obtain ⟨⟨k0, n0, t0, b0, e0'⟩, hev⟩ : ∃ v, mkN (-a) = v := ⟨_, rfl⟩
      rw [hev] at NA ⊢
      unfold Vl.val at NA
      (try unfold Vl.val)
      simp only at NA ⊢
      clear hev
      clear ha hr en
      go_enter Tryz.func54, Tryz.ntmps54
      go_wp2_with fail
      with_reducible refine Calls.mono (NA _) ?_
      rintro e w9 ⟨rfl, u9⟩
      have HU9 := hide (HU0.out.then u9 (fun _ _ => id))
      have bV := u9.get HV0.out id
      obtain ⟨v0, v1, v2, v3, v4⟩ := cells5 bV
      have vl := lt_at bV
      have fv0 := free_at bV 0
      have fv1 := free_at bV 1
      have fv2 := free_at bV 2
      have fv3 := free_at bV 3
      have fv4 := free_at bV 4
      have HB := hide bV
      clear bV u9
      go_wp2_with fail
      (try simp only [Exit.inBlock, Exit.then])
      refine bodyPost_ret (ret_rv rfl _ _ (w.heap.size) ⟨k0, n0, t0, b0, e0'⟩ rfl (rblock5 (x := vZero) HB.out _ _ _ _ _)) rfl ?_
      exact ⟨rfl, upd5 HU9.out (by omega) _ _ _ _ _⟩
    · have en : ((a.natAbs : Nat) : Int) = a := by omega
      rw [en]
      have NA := fun w => RN_any w a
      obtain ⟨⟨k0, n0, t0, b0, e0'⟩, hev⟩ : ∃ v, mkN a = v := ⟨_, rfl⟩
      rw [hev] at NA ⊢
      unfold Vl.val at NA
      (try unfold Vl.val)
      simp only at NA ⊢
      clear hev
      clear ha hr en
      go_enter Tryz.func54, Tryz.ntmps54
      go_wp2_with fail
      with_reducible refine Calls.mono (NA _) ?_
      rintro e w9 ⟨rfl, u9⟩
      have HU9 := hide (HU0.out.then u9 (fun _ _ => id))
      have bV := u9.get HV0.out id
      obtain ⟨v0, v1, v2, v3, v4⟩ := cells5 bV
      have vl := lt_at bV
      have fv0 := free_at bV 0
      have fv1 := free_at bV 1
      have fv2 := free_at bV 2
      have fv3 := free_at bV 3
      have fv4 := free_at bV 4
      have HB := hide bV
      clear bV u9
      go_wp2_with fail
      (try simp only [Exit.inBlock, Exit.then])
      refine bodyPost_ret (ret_rv rfl _ _ (w.heap.size) ⟨k0, n0, t0, b0, e0'⟩ rfl (rblock5 (x := vZero) HB.out _ _ _ _ _)) rfl ?_
      exact ⟨rfl, upd5 HU9.out (by omega) _ _ _ _ _⟩
  · have er : aloneV n a = mkN (signV a) := by rw [hn]; rfl
    rw [er]
    clear er hn
    unfold signV
    by_cases h : a < 0
    · rw [if_pos h]
      have NA := fun w => RN_any w (-10000)
      obtain ⟨⟨k0, n0, t0, b0, e0'⟩, hev⟩ : ∃ v, mkN (-10000) = v := ⟨_, rfl⟩
      rw [hev] at NA ⊢
      unfold Vl.val at NA
      (try unfold Vl.val)
      simp only at NA ⊢
      clear hev
      clear ha hr
      go_enter Tryz.func54, Tryz.ntmps54
      go_wp2_with fail
      with_reducible refine Calls.mono (NA _) ?_
      rintro e w9 ⟨rfl, u9⟩
      have HU9 := hide (HU0.out.then u9 (fun _ _ => id))
      have bV := u9.get HV0.out id
      obtain ⟨v0, v1, v2, v3, v4⟩ := cells5 bV
      have vl := lt_at bV
      have fv0 := free_at bV 0
      have fv1 := free_at bV 1
      have fv2 := free_at bV 2
      have fv3 := free_at bV 3
      have fv4 := free_at bV 4
      have HB := hide bV
      clear bV u9
      go_wp2_with fail
      (try simp only [Exit.inBlock, Exit.then])
      refine bodyPost_ret (ret_rv rfl _ _ (w.heap.size) ⟨k0, n0, t0, b0, e0'⟩ rfl (rblock5 (x := vZero) HB.out _ _ _ _ _)) rfl ?_
      exact ⟨rfl, upd5 HU9.out (by omega) _ _ _ _ _⟩
    · rw [if_neg h]
      by_cases h2 : 0 < a
      · rw [if_pos h2]
        have NA := fun w => RN_any w 10000
        obtain ⟨⟨k0, n0, t0, b0, e0'⟩, hev⟩ : ∃ v, mkN 10000 = v := ⟨_, rfl⟩
        rw [hev] at NA ⊢
        unfold Vl.val at NA
        (try unfold Vl.val)
        simp only at NA ⊢
        clear hev
        clear ha hr
        go_enter Tryz.func54, Tryz.ntmps54
        go_wp2_with fail
        with_reducible refine Calls.mono (NA _) ?_
        rintro e w9 ⟨rfl, u9⟩
        have HU9 := hide (HU0.out.then u9 (fun _ _ => id))
        have bV := u9.get HV0.out id
        obtain ⟨v0, v1, v2, v3, v4⟩ := cells5 bV
        have vl := lt_at bV
        have fv0 := free_at bV 0
        have fv1 := free_at bV 1
        have fv2 := free_at bV 2
        have fv3 := free_at bV 3
        have fv4 := free_at bV 4
        have HB := hide bV
        clear bV u9
        go_wp2_with fail
        (try simp only [Exit.inBlock, Exit.then])
        refine bodyPost_ret (ret_rv rfl _ _ (w.heap.size) ⟨k0, n0, t0, b0, e0'⟩ rfl (rblock5 (x := vZero) HB.out _ _ _ _ _)) rfl ?_
        exact ⟨rfl, upd5 HU9.out (by omega) _ _ _ _ _⟩
      · rw [if_neg h2]
        have NA := fun w => RN_any w 0
        obtain ⟨⟨k0, n0, t0, b0, e0'⟩, hev⟩ : ∃ v, mkN 0 = v := ⟨_, rfl⟩
        rw [hev] at NA ⊢
        unfold Vl.val at NA
        (try unfold Vl.val)
        simp only at NA ⊢
        clear hev
        clear ha hr
        go_enter Tryz.func54, Tryz.ntmps54
        go_wp2_with fail
        with_reducible refine Calls.mono (NA _) ?_
        rintro e w9 ⟨rfl, u9⟩
        have HU9 := hide (HU0.out.then u9 (fun _ _ => id))
        have bV := u9.get HV0.out id
        obtain ⟨v0, v1, v2, v3, v4⟩ := cells5 bV
        have vl := lt_at bV
        have fv0 := free_at bV 0
        have fv1 := free_at bV 1
        have fv2 := free_at bV 2
        have fv3 := free_at bV 3
        have fv4 := free_at bV 4
        have HB := hide bV
        clear bV u9
        go_wp2_with fail
        (try simp only [Exit.inBlock, Exit.then])
        refine bodyPost_ret (ret_rv rfl _ _ (w.heap.size) ⟨k0, n0, t0, b0, e0'⟩ rfl (rblock5 (x := vZero) HB.out _ _ _ _ _)) rfl ?_
        exact ⟨rfl, upd5 HU9.out (by omega) _ _ _ _ _⟩
  · have er : aloneV n a = mkN (flrF a) := by rw [hn]; rfl
    rw [er]
    clear er hn
    have FA := (flrB a).2
    have NA := fun w => RN_any w (flrF a)
    obtain ⟨s, hs⟩ : ∃ s, flrF a = s := ⟨_, rfl⟩
    rw [hs] at FA NA ⊢
    obtain ⟨⟨k0, n0, t0, b0, e0'⟩, hev⟩ : ∃ v, mkN s = v := ⟨_, rfl⟩
    rw [hev] at NA ⊢
    unfold Vl.val at NA
    (try unfold Vl.val)
    simp only at NA ⊢
    clear hev
    clear ha hr hs
    go_enter Tryz.func54, Tryz.ntmps54
    go_wp2_with fail
    with_reducible refine Calls.mono (FA _) ?_
    rintro e w1 ⟨rfl, u1⟩
    have HU1 := hide (HU0.out.then u1 (fun _ _ => id))
    have HV1 := hide (u1.get HV0.out id)
    clear u1
    go_wp2_with fail
    with_reducible refine Calls.mono (NA _) ?_
    rintro e w9 ⟨rfl, u9⟩
    have HU9 := hide (HU1.out.then u9 (fun _ _ => id))
    have bV := u9.get HV1.out id
    obtain ⟨v0, v1, v2, v3, v4⟩ := cells5 bV
    have vl := lt_at bV
    have fv0 := free_at bV 0
    have fv1 := free_at bV 1
    have fv2 := free_at bV 2
    have fv3 := free_at bV 3
    have fv4 := free_at bV 4
    have HB := hide bV
    clear bV u9
    go_wp2_with fail
    (try simp only [Exit.inBlock, Exit.then])
    refine bodyPost_ret (ret_rv rfl _ _ (w.heap.size) ⟨k0, n0, t0, b0, e0'⟩ rfl (rblock5 (x := vZero) HB.out _ _ _ _ _)) rfl ?_
    exact ⟨rfl, upd5 HU9.out (by omega) _ _ _ _ _⟩
  · have er : aloneV n a = mkN (a.tdiv 10000 * 10000) := by rw [hn]; rfl
    rw [er]
    clear er hn
    have hz := Int.mul_tdiv_add_tmod a 10000
    have hm := tmod_rng a 10000 (by decide)
    obtain ⟨m, hmm⟩ : ∃ m, a.tmod 10000 = m := ⟨_, rfl⟩
    rw [hmm] at hz hm
    obtain ⟨z, hzz⟩ : ∃ z, a.tdiv 10000 * 10000 = z := ⟨_, rfl⟩
    have e1 : a - m = z := by omega
    rw [hzz]
    have w1 : IntKind.i64.wrap m = m := by rw [IntWalk.i64_in _ (by omega)]
    have w2 : IntKind.i64.wrap z = z := by rw [IntWalk.i64_in _ (by omega)]
    have NA := fun w => RN_any w z
    obtain ⟨⟨k0, n0, t0, b0, e0'⟩, hev⟩ : ∃ v, mkN z = v := ⟨_, rfl⟩
    rw [hev] at NA ⊢
    unfold Vl.val at NA
    (try unfold Vl.val)
    simp only at NA ⊢
    clear hev
    clear ha hr hz hm hzz
    go_enter Tryz.func54, Tryz.ntmps54
    go_wp2_with fail
    with_reducible refine Calls.mono (NA _) ?_
    rintro e w9 ⟨rfl, u9⟩
    have HU9 := hide (HU0.out.then u9 (fun _ _ => id))
    have bV := u9.get HV0.out id
    obtain ⟨v0, v1, v2, v3, v4⟩ := cells5 bV
    have vl := lt_at bV
    have fv0 := free_at bV 0
    have fv1 := free_at bV 1
    have fv2 := free_at bV 2
    have fv3 := free_at bV 3
    have fv4 := free_at bV 4
    have HB := hide bV
    clear bV u9
    go_wp2_with fail
    (try simp only [Exit.inBlock, Exit.then])
    refine bodyPost_ret (ret_rv rfl _ _ (w.heap.size) ⟨k0, n0, t0, b0, e0'⟩ rfl (rblock5 (x := vZero) HB.out _ _ _ _ _)) rfl ?_
    exact ⟨rfl, upd5 HU9.out (by omega) _ _ _ _ _⟩
  · have er : aloneV n a = sqrtV a := by rw [hn]; rfl
    rw [er]
    clear er hn
    unfold sqrtV
    by_cases h : a < 0
    · rw [if_pos h]
      have EA := fun w => REk_any w 2 (by decide)
      obtain ⟨⟨k0, n0, t0, b0, e0'⟩, hev⟩ : ∃ v, mkE 2 = v := ⟨_, rfl⟩
      rw [hev] at EA ⊢
      unfold Vl.val at EA
      (try unfold Vl.val)
      simp only at EA ⊢
      clear hev
      clear ha hr
      go_enter Tryz.func54, Tryz.ntmps54
      go_wp2_with fail
      with_reducible refine Calls.mono (EA _) ?_
      rintro e w9 ⟨rfl, u9⟩
      have HU9 := hide (HU0.out.then u9 (fun _ _ => id))
      have bV := u9.get HV0.out id
      obtain ⟨v0, v1, v2, v3, v4⟩ := cells5 bV
      have vl := lt_at bV
      have fv0 := free_at bV 0
      have fv1 := free_at bV 1
      have fv2 := free_at bV 2
      have fv3 := free_at bV 3
      have fv4 := free_at bV 4
      have HB := hide bV
      clear bV u9
      go_wp2_with fail
      (try simp only [Exit.inBlock, Exit.then])
      refine bodyPost_ret (ret_rv rfl _ _ (w.heap.size) ⟨k0, n0, t0, b0, e0'⟩ rfl (rblock5 (x := vZero) HB.out _ _ _ _ _)) rfl ?_
      exact ⟨rfl, upd5 HU9.out (by omega) _ _ _ _ _⟩
    · rw [if_neg h]
      have RA := fun w => Root_any w a ha (by omega)
      have NA := fun w => RN_any w (sqrtN a : Nat)
      obtain ⟨s, hs⟩ : ∃ s, sqrtN a = s := ⟨_, rfl⟩
      rw [hs] at RA NA ⊢
      obtain ⟨⟨k0, n0, t0, b0, e0'⟩, hev⟩ : ∃ v, mkN (s : Nat) = v := ⟨_, rfl⟩
      rw [hev] at NA ⊢
      unfold Vl.val at NA
      (try unfold Vl.val)
      simp only at NA ⊢
      clear hev
      clear ha hr hs
      go_enter Tryz.func54, Tryz.ntmps54
      go_wp2_with fail
      with_reducible refine Calls.mono (RA _) ?_
      rintro e w1 ⟨rfl, u1⟩
      have HU1 := hide (HU0.out.then u1 (fun _ _ => id))
      have HV1 := hide (u1.get HV0.out id)
      clear u1
      go_wp2_with fail
      with_reducible refine Calls.mono (NA _) ?_
      rintro e w9 ⟨rfl, u9⟩
      have HU9 := hide (HU1.out.then u9 (fun _ _ => id))
      have bV := u9.get HV1.out id
      obtain ⟨v0, v1, v2, v3, v4⟩ := cells5 bV
      have vl := lt_at bV
      have fv0 := free_at bV 0
      have fv1 := free_at bV 1
      have fv2 := free_at bV 2
      have fv3 := free_at bV 3
      have fv4 := free_at bV 4
      have HB := hide bV
      clear bV u9
      go_wp2_with fail
      (try simp only [Exit.inBlock, Exit.then])
      refine bodyPost_ret (ret_rv rfl _ _ (w.heap.size) ⟨k0, n0, t0, b0, e0'⟩ rfl (rblock5 (x := vZero) HB.out _ _ _ _ _)) rfl ?_
      exact ⟨rfl, upd5 HU9.out (by omega) _ _ _ _ _⟩
  · have er : aloneV n a = factV a := by rw [hn]; rfl
    rw [er]
    clear er hn
    unfold factV
    have hm := tmod_rng a 10000 (by decide)
    have hwm := fun h : a.tmod 10000 = 0 => whole_mul h
    obtain ⟨m, hmm⟩ : ∃ m, a.tmod 10000 = m := ⟨_, rfl⟩
    obtain ⟨z, hzz⟩ : ∃ z, a.tdiv 10000 = z := ⟨_, rfl⟩
    rw [hmm, hzz] at hwm
    rw [hmm] at hm
    rw [hmm, hzz]
    have wm : IntKind.i64.wrap m = m := by rw [IntWalk.i64_in _ (by omega)]
    by_cases hm0 : m = 0
    · have bm : (m != 0) = false := by simpa using hm0
      have hz := hwm hm0
      by_cases h : a < 0
      · rw [if_pos (.inr h)]
        have EA := fun w => REk_any w 2 (by decide)
        obtain ⟨⟨k0, n0, t0, b0, e0'⟩, hev⟩ : ∃ v, mkE 2 = v := ⟨_, rfl⟩
        rw [hev] at EA ⊢
        unfold Vl.val at EA
        (try unfold Vl.val)
        simp only at EA ⊢
        clear hev
        clear ha hr hm hwm hm0 hz
        go_enter Tryz.func54, Tryz.ntmps54
        go_wp2_with fail
        with_reducible refine Calls.mono (EA _) ?_
        rintro e w9 ⟨rfl, u9⟩
        have HU9 := hide (HU0.out.then u9 (fun _ _ => id))
        have bV := u9.get HV0.out id
        obtain ⟨v0, v1, v2, v3, v4⟩ := cells5 bV
        have vl := lt_at bV
        have fv0 := free_at bV 0
        have fv1 := free_at bV 1
        have fv2 := free_at bV 2
        have fv3 := free_at bV 3
        have fv4 := free_at bV 4
        have HB := hide bV
        clear bV u9
        go_wp2_with fail
        (try simp only [Exit.inBlock, Exit.then])
        refine bodyPost_ret (ret_rv rfl _ _ (w.heap.size) ⟨k0, n0, t0, b0, e0'⟩ rfl (rblock5 (x := vZero) HB.out _ _ _ _ _)) rfl ?_
        exact ⟨rfl, upd5 HU9.out (by omega) _ _ _ _ _⟩
      · rw [if_neg (show ¬ (m ≠ 0 ∨ a < 0) from fun h' => h'.elim (fun h' => h' hm0) h)]
        obtain ⟨N, hN⟩ : ∃ N, z.natAbs = N := ⟨_, rfl⟩
        rw [hN]
        have HAN := hide (show a = (N : Int) * 10000 by omega)
        have HNB := hide (show N ≤ 900000000000000 by omega)
        obtain ⟨⟨k0, n0, t0, b0, e0'⟩, hev⟩ : ∃ v, tldV (prodF (N - 1)) = v := ⟨_, rfl⟩
        rw [hev]
        have HEV := hide hev
        unfold Vl.val
        simp only
        clear ha hr hm hwm hm0 hz hev hN hzz
        go_enter Tryz.func54, Tryz.ntmps54
        go_wp2_with fail
        go_loopg [7, 8] (N + 1) (fun q pv kv wr => ∃ j : Nat, j + q = N + 1 ∧ j ≤ N - 1 ∧ pv = .int .i64 (prodF j).1 ∧ (prodF j).2 = 0 ∧ kv = .int .i64 (((j : Int) + 2) * 10000) ∧ Upd w wr (fun _ => False) ∧ wr.heap[w.heap.size]? = some (.cells #[.int .i64 0, .int .i64 0, .string ⟨#[]⟩, .bool false, .int .i64 0] 36))
        case atStart => exact ⟨0, by omega, by omega, rfl, rfl, by simp, HU0.out, HV0.out⟩
        case round =>
          obtain ⟨j, hj, hjN, rfl, hc, rfl, hu, hv⟩ := hrel
          clear HU0 HV0
          have HU0 := hide hu
          have HV0 := hide hv
          clear hu hv
          have hNb := HNB.out
          obtain ⟨K, hK⟩ : ∃ K : Int, ((j : Int) + 2) * 10000 = K := ⟨_, rfl⟩
          rw [hK]
          by_cases hk : (j : Int) + 2 ≤ (N : Int)
          · have hka : K ≤ a := by have := HAN.out; omega
            have M := (mulB (prodF j).1 K).2
            have e1 : prodF (j + 1) = mulF (prodF j).1 K := by rw [prodF, if_pos hc, hK]
            rw [← e1] at M
            obtain ⟨p, hp⟩ : ∃ p, (prodF j).1 = p := ⟨_, rfl⟩
            rw [hp] at M ⊢
            obtain ⟨⟨p', c'⟩, hp'⟩ : ∃ r, prodF (j + 1) = r := ⟨_, rfl⟩
            rw [hp'] at M
            simp only at M
            have w1 : IntKind.i64.wrap (K + 10000) = K + 10000 := by rw [IntWalk.i64_in _ (by omega)]
            have HK := hide hK
            have HJ := hide hj
            have HKN := hide hk
            have HP := hide hp'
            by_cases hc' : c' = 0
            · subst hc'
              clear hp e1 hc hp' hK hj hjN hk hNb
              go_wp2_with fail
              with_reducible refine Calls.mono (M _) ?_
              rintro e w2 ⟨rfl, u2⟩
              have HU1 := hide (HU0.out.then u2 (fun _ _ => id))
              have HV1 := hide (u2.get HV0.out id)
              clear u2
              go_wp2_with fail
              go_roundg (gk - 1)
              case measure => have := HJ.out; have := HKN.out; omega
              case rel => exact ⟨j + 1, by have := HJ.out; have := HKN.out; omega, by have := HKN.out; omega, by rw [HP.out], by rw [HP.out], by have := HK.out; congr 1; omega, HU1.out, HV1.out⟩
            · have bc : (c' != 0) = true := by simpa using hc'
              have hst : prodF (N - 1) = prodF (j + 1) := by
                have := prodF_stay (n := j + 1) (by rw [hp']; exact hc') (N - 1 - (j + 1))
                rwa [show j + 1 + (N - 1 - (j + 1)) = N - 1 by omega] at this
              have hev := HEV.out
              rw [hst, hp', tld_err (q := 0) hc'] at hev
              have TO := fun w => RTold_any w 0 c'
              rw [hev] at TO
              unfold Vl.val at TO
              simp only at TO
              clear hp e1 hc hp' hK hj hjN hk hc' hst hev hNb
              go_wp2_with fail
              with_reducible refine Calls.mono (M _) ?_
              rintro e w1 ⟨rfl, u1⟩
              have HU1 := hide (HU0.out.then u1 (fun _ _ => id))
              have HV1 := hide (u1.get HV0.out id)
              clear u1
              go_wp2_with fail
              with_reducible refine Calls.mono (TO _) ?_
              rintro e w9 ⟨rfl, u9⟩
              have HU9 := hide (HU1.out.then u9 (fun _ _ => id))
              have bV := u9.get HV1.out id
              obtain ⟨v0, v1, v2, v3, v4⟩ := cells5 bV
              have vl := lt_at bV
              have fv0 := free_at bV 0
              have fv1 := free_at bV 1
              have fv2 := free_at bV 2
              have fv3 := free_at bV 3
              have fv4 := free_at bV 4
              have HB := hide bV
              clear bV u9
              go_wp2_with fail
              (try simp only [Exit.inBlock, Exit.then])
              refine bodyPost_ret (ret_rv rfl _ _ (w.heap.size) ⟨k0, n0, t0, b0, e0'⟩ rfl (rblock5 (x := vZero) HB.out _ _ _ _ _)) rfl ?_
              exact ⟨rfl, upd5 HU9.out (by omega) _ _ _ _ _⟩
          · have hka : ¬ K ≤ a := by have := HAN.out; omega
            have e0 : prodF j = prodF (N - 1) := by have : j = N - 1 := by omega
                                                    rw [this]
            have hev := HEV.out
            rw [← e0] at hev
            obtain ⟨⟨p, c⟩, hp⟩ : ∃ r, prodF j = r := ⟨_, rfl⟩
            rw [hp] at hc hev ⊢
            simp only at hc hev ⊢
            subst hc
            have TO := fun w => RN_any w p
            have et : tldV (p, 0) = mkN p := rfl
            rw [← et, hev] at TO
            unfold Vl.val at TO
            simp only at TO
            clear hev et hp e0 hj hjN hk hNb hK
            go_wp2_with fail
            with_reducible refine Calls.mono (TO _) ?_
            rintro e w9 ⟨rfl, u9⟩
            have HU9 := hide (HU0.out.then u9 (fun _ _ => id))
            have bV := u9.get HV0.out id
            obtain ⟨v0, v1, v2, v3, v4⟩ := cells5 bV
            have vl := lt_at bV
            have fv0 := free_at bV 0
            have fv1 := free_at bV 1
            have fv2 := free_at bV 2
            have fv3 := free_at bV 3
            have fv4 := free_at bV 4
            have HB := hide bV
            clear bV u9
            go_wp2_with fail
            (try simp only [Exit.inBlock, Exit.then])
            refine bodyPost_ret (ret_rv rfl _ _ (w.heap.size) ⟨k0, n0, t0, b0, e0'⟩ rfl (rblock5 (x := vZero) HB.out _ _ _ _ _)) rfl ?_
            exact ⟨rfl, upd5 HU9.out (by omega) _ _ _ _ _⟩
    · have bm : (m != 0) = true := by simpa using hm0
      rw [if_pos (show m ≠ 0 ∨ a < 0 from .inl hm0)]
      have EA := fun w => REk_any w 2 (by decide)
      obtain ⟨⟨k0, n0, t0, b0, e0'⟩, hev⟩ : ∃ v, mkE 2 = v := ⟨_, rfl⟩
      rw [hev] at EA ⊢
      unfold Vl.val at EA
      (try unfold Vl.val)
      simp only at EA ⊢
      clear hev
      clear ha hr hm hwm hm0
      go_enter Tryz.func54, Tryz.ntmps54
      go_wp2_with fail
      with_reducible refine Calls.mono (EA _) ?_
      rintro e w9 ⟨rfl, u9⟩
      have HU9 := hide (HU0.out.then u9 (fun _ _ => id))
      have bV := u9.get HV0.out id
      obtain ⟨v0, v1, v2, v3, v4⟩ := cells5 bV
      have vl := lt_at bV
      have fv0 := free_at bV 0
      have fv1 := free_at bV 1
      have fv2 := free_at bV 2
      have fv3 := free_at bV 3
      have fv4 := free_at bV 4
      have HB := hide bV
      clear bV u9
      go_wp2_with fail
      (try simp only [Exit.inBlock, Exit.then])
      refine bodyPost_ret (ret_rv rfl _ _ (w.heap.size) ⟨k0, n0, t0, b0, e0'⟩ rfl (rblock5 (x := vZero) HB.out _ _ _ _ _)) rfl ?_
      exact ⟨rfl, upd5 HU9.out (by omega) _ _ _ _ _⟩
  · have er : aloneV n a = evenV a := by unfold aloneV; rw [if_neg n1, if_neg n2, if_neg n3, if_neg n4, if_neg n5, if_neg n6]
    rw [er]
    clear er n1 n2 n3 n4 n5 n6
    unfold evenV
    have hm := tmod_rng a 10000 (by decide)
    have hm2 := tmod_rng a 20000 (by decide)
    obtain ⟨m, hmm⟩ : ∃ m, a.tmod 10000 = m := ⟨_, rfl⟩
    obtain ⟨m2, hmm2⟩ : ∃ m, a.tmod 20000 = m := ⟨_, rfl⟩
    rw [hmm] at hm
    rw [hmm2] at hm2
    rw [hmm, hmm2]
    have wm : IntKind.i64.wrap m = m := by rw [IntWalk.i64_in _ (by omega)]
    have wm2 : IntKind.i64.wrap m2 = m2 := by rw [IntWalk.i64_in _ (by omega)]
    by_cases hm0 : m = 0
    · have bm : (m != 0) = false := by simpa using hm0
      rw [if_neg (show ¬ m ≠ 0 from fun h => h hm0), ← beq0]
      have BA := fun w => RB_any w (m2 == 0)
      obtain ⟨⟨k0, n0, t0, b0, e0'⟩, hev⟩ : ∃ v, mkB (m2 == 0) = v := ⟨_, rfl⟩
      rw [hev] at BA ⊢
      unfold Vl.val at BA
      (try unfold Vl.val)
      simp only at BA ⊢
      clear hev
      clear ha hr hm hm2 hm0
      go_enter Tryz.func54, Tryz.ntmps54
      go_wp2_with fail
      with_reducible refine Calls.mono (BA _) ?_
      rintro e w9 ⟨rfl, u9⟩
      have HU9 := hide (HU0.out.then u9 (fun _ _ => id))
      have bV := u9.get HV0.out id
      obtain ⟨v0, v1, v2, v3, v4⟩ := cells5 bV
      have vl := lt_at bV
      have fv0 := free_at bV 0
      have fv1 := free_at bV 1
      have fv2 := free_at bV 2
      have fv3 := free_at bV 3
      have fv4 := free_at bV 4
      have HB := hide bV
      clear bV u9
      go_wp2_with fail
      (try simp only [Exit.inBlock, Exit.then])
      refine bodyPost_ret (ret_rv rfl _ _ (w.heap.size) ⟨k0, n0, t0, b0, e0'⟩ rfl (rblock5 (x := vZero) HB.out _ _ _ _ _)) rfl ?_
      exact ⟨rfl, upd5 HU9.out (by omega) _ _ _ _ _⟩
    · have bm : (m != 0) = true := by simpa using hm0
      rw [if_pos (show m ≠ 0 from hm0)]
      have EA := fun w => REk_any w 2 (by decide)
      obtain ⟨⟨k0, n0, t0, b0, e0'⟩, hev⟩ : ∃ v, mkE 2 = v := ⟨_, rfl⟩
      rw [hev] at EA ⊢
      unfold Vl.val at EA
      (try unfold Vl.val)
      simp only at EA ⊢
      clear hev
      clear ha hr hm hm2 hm0
      go_enter Tryz.func54, Tryz.ntmps54
      go_wp2_with fail
      with_reducible refine Calls.mono (EA _) ?_
      rintro e w9 ⟨rfl, u9⟩
      have HU9 := hide (HU0.out.then u9 (fun _ _ => id))
      have bV := u9.get HV0.out id
      obtain ⟨v0, v1, v2, v3, v4⟩ := cells5 bV
      have vl := lt_at bV
      have fv0 := free_at bV 0
      have fv1 := free_at bV 1
      have fv2 := free_at bV 2
      have fv3 := free_at bV 3
      have fv4 := free_at bV 4
      have HB := hide bV
      clear bV u9
      go_wp2_with fail
      (try simp only [Exit.inBlock, Exit.then])
      refine bodyPost_ret (ret_rv rfl _ _ (w.heap.size) ⟨k0, n0, t0, b0, e0'⟩ rfl (rblock5 (x := vZero) HB.out _ _ _ _ _)) rfl ?_
      exact ⟨rfl, upd5 HU9.out (by omega) _ _ _ _ _⟩
end Go.Proofs.YtmfngdjhkpddoaaGreatDoor
namespace Go.Proofs.YtmfngdjhkpddoaaGreatDoor
open Go.RowKit Go.Lat
theorem cp_set (l : List Nat) (i : Nat) (hi : i < l.length) : (l.take i ++ List.replicate (l.length - i) 0).set i (l.getD i 0) = l.take (i + 1) ++ List.replicate (l.length - (i + 1)) 0 := by
  have hl : (l.take i).length = i := by rw [List.length_take]; omega
  obtain ⟨m, hm⟩ : ∃ m, l.length - i = m + 1 := ⟨l.length - i - 1, by omega⟩
  have e1 : l.length - (i + 1) = m := by omega
  rw [hm, e1, List.replicate_succ, List.set_append_right _ _ (by omega), hl, Nat.sub_self, List.set_cons_zero]
  have e2 : l.take (i + 1) = l.take i ++ [l.getD i 0] := by
    rw [List.take_add_one, List.getElem?_eq_getElem hi, List.getD_eq_getElem?_getD, List.getElem?_eq_getElem hi]
    rfl
  rw [e2]
  simp
theorem inc_set (l : List Nat) (i x : Nat) (hi : i < l.length) : (List.replicate i 0 ++ l.drop i).set i x = List.replicate i 0 ++ x :: l.drop (i + 1) := by
  rw [List.set_append_right _ _ (by simp), List.length_replicate, Nat.sub_self, drop_getD l i hi, List.set_cons_zero]
theorem inc_zero (l : List Nat) (i : Nat) (hi : i < l.length) : (List.replicate i 0 ++ l.drop i).set i 0 = List.replicate (i + 1) 0 ++ l.drop (i + 1) := by
  rw [inc_set l i 0 hi, List.replicate_succ']
  simp
theorem val_nines (i : Nat) : val (List.replicate i 9) + 1 = 10 ^ i := by
  induction i with
  | zero => rfl
  | succ i ih =>
    rw [List.replicate_succ, Nat.pow_succ]
    show 9 + 10 * val (List.replicate i 9) + 1 = _
    omega
theorem val_z (i : Nat) (l : List Nat) : val (List.replicate i 0 ++ l) = 10 ^ i * val l := by
  rw [val_append, val_zeros, List.length_replicate]
  omega
/-- A digit below 9 is one greater, and all ahead of it were 9: the number is one greater. -/
theorem inc_done {n i : Nat} (hi : i < (dg n).length) (h9 : (dg n).take i = List.replicate i 9) (hd : (dg n).getD i 0 < 9) : List.replicate i 0 ++ ((dg n).getD i 0 + 1) :: (dg n).drop (i + 1) = dg (n + 1) := by
  have nl := dg_norm n
  have hs := val_split (dg n) i hi
  rw [val_dg, h9] at hs
  have hn9 := val_nines i
  obtain ⟨d, hdd⟩ : ∃ d, (dg n).getD i 0 = d := ⟨_, rfl⟩
  rw [hdd] at hs hd ⊢
  have hv : val (List.replicate i 0 ++ (d + 1) :: (dg n).drop (i + 1)) = n + 1 := by
    rw [val_z]
    show 10 ^ i * (d + 1 + 10 * val ((dg n).drop (i + 1))) = n + 1
    have e : 10 ^ i * (d + 1 + 10 * val ((dg n).drop (i + 1))) = 10 ^ i * (d + 10 * val ((dg n).drop (i + 1))) + 10 ^ i := by
      rw [← Nat.mul_succ]
      congr 1
      omega
    rw [e]
    omega
  have hN : Norm (List.replicate i 0 ++ (d + 1) :: (dg n).drop (i + 1)) := by
    refine ⟨fun x hx => ?_, fun h => ?_⟩
    · rcases List.mem_append.1 hx with h | h
      · have := List.eq_of_mem_replicate h
        omega
      · rcases List.mem_cons.1 h with h | h
        · omega
        · exact nl.1 x (List.mem_of_mem_drop h)
    · rw [List.getLast_append_of_ne_nil (by simp) (by simp)]
      by_cases he : (dg n).drop (i + 1) = []
      · simp [he]
      · rw [List.getLast_cons he, List.getLast_drop]
        exact nl.2 _
  have := norm_dg _ hN
  rw [hv] at this
  exact this
theorem inc_all {n : Nat} (h9 : (dg n).take (dg n).length = List.replicate (dg n).length 9) : List.replicate (dg n).length 0 ++ [1] = dg (n + 1) := by
  rw [List.take_length] at h9
  have hn9 := val_nines (dg n).length
  rw [← h9, val_dg] at hn9
  have hv : val (List.replicate (dg n).length 0 ++ [1]) = n + 1 := by
    rw [val_z]
    show 10 ^ (dg n).length * (1 + 10 * 0) = n + 1
    omega
  have hN : Norm (List.replicate (dg n).length 0 ++ [1]) := by
    refine ⟨fun x hx => ?_, fun h => by simp⟩
    rcases List.mem_append.1 hx with h | h
    · have := List.eq_of_mem_replicate h
      omega
    · simp at h
      omega
  have := norm_dg _ hN
  rw [hv] at this
  exact this
theorem dg_pow (e : Nat) : List.replicate e 0 ++ [1] = dg (10 ^ e) := by
  have hv : val (List.replicate e 0 ++ [1]) = 10 ^ e := by
    rw [val_z]
    show 10 ^ e * (1 + 10 * 0) = _
    omega
  have hN : Norm (List.replicate e 0 ++ [1]) := by
    refine ⟨fun x hx => ?_, fun h => by simp⟩
    rcases List.mem_append.1 hx with h | h
    · have := List.eq_of_mem_replicate h
      omega
    · simp at h
      omega
  have := norm_dg _ hN
  rw [hv] at this
  exact this
theorem dg_shift (e c : Nat) (hc : c ≠ 0) : List.replicate e 0 ++ dg c = dg (c * 10 ^ e) := by
  have hv : val (List.replicate e 0 ++ dg c) = c * 10 ^ e := by rw [val_z, val_dg, Nat.mul_comm]
  have nl := dg_norm c
  have hne : dg c ≠ [] := fun h => hc (by rw [← val_dg c, h]; rfl)
  have hN : Norm (List.replicate e 0 ++ dg c) := by
    refine ⟨fun x hx => ?_, fun h => ?_⟩
    · rcases List.mem_append.1 hx with h | h
      · have := List.eq_of_mem_replicate h
        omega
      · exact nl.1 x h
    · rw [List.getLast_append_of_ne_nil _ hne]
      exact nl.2 _
  have := norm_dg _ hN
  rw [hv] at this
  exact this
theorem dg_nil (c : Nat) : (dg c).length = 0 ↔ c = 0 := by
  constructor
  · intro h
    rw [← val_dg c, List.eq_nil_of_length_eq_zero h]
    rfl
  · rintro rfl
    rw [dg_zero]
    rfl
set_option maxHeartbeats 1600000 in
theorem Rplus_any (w : World) (v : Value) (n : Nat) (hv : DgAt w v (dg n)) (hn : n < 10 ^ 100) : Calls Tryz.prog 141 #[v] w fun e w' => ∃ v', e = .returned v' ∧ DgAt w' v' (dg (n + 1)) ∧ Upd w w' (fun _ => False) := by
  obtain ⟨i0, hi, hz0, hz1, hz2⟩ := info_parts Tryz.info3
  have q1 := hv.lt
  obtain ⟨a1, p1, rfl, -⟩ := Rw.form hv
  have r1 := fun j (hj : j < (dg n).length) => dg_cell hv j hj
  have hlen := dg_len n 100 hn
  have hD := fun i (h : i < (dg n).length) => @inc_done n i h
  have hAll := @inc_all n
  have h9le := dgs_le (dg n) (dg_norm n)
  obtain ⟨l, hl⟩ : ∃ l, dg n = l := ⟨_, rfl⟩
  rw [hl] at r1 hlen hD hAll h9le q1 ⊢
  obtain ⟨A, hA⟩ : ∃ A, l.length = A := ⟨_, rfl⟩
  have hmk := run_make_row' (P := Tryz.prog) 49 3 (.int .i64 0) 8 Tryz.underlying49 Tryz.info3 rfl .i64 .i64 A (by omega) (by omega)
  rw [hA] at hlen ⊢
  have HA := hide hA
  have HD := hide hD
  have HAll := hide hAll
  clear hv hl hA hD hAll hn
  go_enter Tryz.func141, Tryz.ntmps141
  go_wp2_with fail
  have hM := ArrAt.made w A
  have uM : Upd w (w.alloc (.cells (madeCells #[.int .i64 0] A) 3)) (fun _ => False) := (Upd.refl w _).alloc _
  generalize (w.alloc (.cells (madeCells #[.int .i64 0] A) 3)) = wm at hM uM ⊢
  obtain ⟨G, hG⟩ : ∃ G, w.heap.size = G := ⟨_, rfl⟩
  rw [hG] at hM ⊢
  have HG := hide hG
  clear hG hmk
  go_loopg [4] A (fun q iv wr => ∃ i : Nat, i + q = A ∧ iv = .int .i64 (i : Int) ∧ ArrAt wr G (l.take i ++ List.replicate (A - i) 0) ∧ Upd w wr (fun _ => False))
  case atStart => exact ⟨0, by omega, rfl, by simpa using hM, uM⟩
  case round =>
    clear hM uM
    obtain ⟨i, hiq, rfl, hO, hu⟩ := hrel
    by_cases hiA : i < A
    · obtain ⟨g1, o1, rfl, c1⟩ := r1 i (by rw [HA.out]; exact hiA)
      have hg1 : g1 < w.heap.size := q1 g1 rfl
      have k1 := (hu.cell g1 _ hg1 id).trans c1
      have hf := hO.free i
      have hll : (l.take i ++ List.replicate (A - i) 0).length = A := by rw [List.length_append, List.length_take, List.length_replicate, HA.out]; omega
      have k3 := hO.cell i (by rw [hll]; exact hiA)
      have hcp := cp_set l i (by rw [HA.out]; exact hiA)
      rw [HA.out] at hcp
      obtain ⟨x, hx⟩ : ∃ x, l.getD i 0 = x := ⟨_, rfl⟩
      rw [hx] at k1 hcp
      have hO2 := hO.set i x
      rw [hcp] at hO2
      have HO2 := hide hO2
      have hlt : (i : Int) < (A : Int) := by omega
      have hi0 : (0 : Int) ≤ (i : Int) := by omega
      have HU := hide hu
      clear hO hu hcp hx hO2 c1 hll
      go_wp2_with fail
      go_roundg (gk - 1)
      case measure => omega
      case rel => exact ⟨i + 1, by omega, by go_num, HO2.out, HU.out.setCell ⟨G, i, none⟩ _ (.inl (by rw [HG.out]; exact Nat.le_refl _))⟩
    · obtain rfl : i = A := by omega
      have e0 : l.take i ++ List.replicate (i - i) 0 = l := by rw [Nat.sub_self, List.take_of_length_le (by rw [HA.out]; exact Nat.le_refl _)]; simp
      rw [e0] at hO
      have hlt : ¬ (i : Int) < (i : Int) := by omega
      have HO := hide hO
      have HU := hide hu
      clear hO hu e0 hiA hiq
      go_wp2_with fail
      go_loopg [5] i (fun q jv wr => ∃ j : Nat, j + q = i ∧ jv = .int .i64 (j : Int) ∧ ArrAt wr G (List.replicate j 0 ++ l.drop j) ∧ l.take j = List.replicate j 9 ∧ Upd w wr (fun _ => False))
      case atStart => exact ⟨0, by omega, rfl, by simpa using HO.out, by simp, HU.out⟩
      case round =>
        clear HO HU
        obtain ⟨j, hjq, rfl, hO, h9, hu⟩ := hrel
        by_cases hjA : j < i
        · have hf := hO.free j
          have hll : (List.replicate j 0 ++ l.drop j).length = i := by rw [List.length_append, List.length_drop, List.length_replicate, HA.out]; omega
          have k3 := hO.cell j (by rw [hll]; exact hjA)
          have hjl : j < l.length := by rw [HA.out]; exact hjA
          have e3 : (List.replicate j 0 ++ l.drop j).getD j 0 = l.getD j 0 := by
            rw [drop_getD l j hjl, List.getD_eq_getElem?_getD, List.getElem?_append_right (by simp)]
            simp
          rw [e3] at k3
          have hlt : (j : Int) < (i : Int) := by omega
          have hi0 : (0 : Int) ≤ (j : Int) := by omega
          have hx9 := h9le j
          have hDj := HD.out j hjl h9
          have hz := inc_zero l j hjl
          have hs := inc_set l j (l.getD j 0 + 1) hjl
          have ht : l.getD j 0 = 9 → l.take (j + 1) = List.replicate (j + 1) 9 := fun h => by
            rw [List.take_add_one, List.getElem?_eq_getElem hjl, h9, List.replicate_succ']
            rw [List.getD_eq_getElem?_getD, List.getElem?_eq_getElem hjl] at h
            simp at h
            simp [h]
          obtain ⟨x, hx⟩ : ∃ x, l.getD j 0 = x := ⟨_, rfl⟩
          rw [hx] at k3 hx9 hDj hs ht
          have hfr : ∃ x1, x1 = x + 1 := ⟨_, rfl⟩
          have HU := hide hu
          by_cases hlt9 : x < 9
          · have hO2 := hO.set j (x + 1)
            rw [hs, hDj hlt9] at hO2
            have hdg := hO2.dg
            have hlr : (dg (n + 1)).length = i := by
              rw [← hDj hlt9, List.length_append, List.length_cons, List.length_drop, List.length_replicate, HA.out]
              omega
            rw [hlr] at hdg
            obtain ⟨x1, hx1⟩ : ∃ x1, x + 1 = x1 := ⟨_, rfl⟩
            rw [hx1] at hdg
            have d9 : (x : Int) < 9 := by omega
            have wx : IntKind.i64.wrap ((x : Int) + 1) = (x1 : Int) := by rw [IntWalk.i64_in _ (by omega)]; omega
            have HDG := hide hdg
            clear hO hu hx hO2 hdg hlr hx1 hs hDj hz ht hlt9 e3 hll h9 hjl
            go_wp2_with fail
            go_ret
            exact ⟨_, rfl, HDG.out, HU.out.setCell ⟨G, j, none⟩ _ (.inl (by rw [HG.out]; exact Nat.le_refl _))⟩
          · have hxe : x = 9 := by omega
            have ht2 := ht hxe
            subst hxe
            have hO2 := hO.set j 0
            rw [hz] at hO2
            have HO2 := hide hO2
            have HT := hide ht2
            clear hO hu hx hO2 hs hDj hz ht hlt9 e3 hll h9 hjl ht2 hx9
            go_wp2_with fail
            go_roundg (gk - 1)
            case measure => omega
            case rel => exact ⟨j + 1, by omega, by go_num, HO2.out, HT.out, HU.out.setCell ⟨G, j, none⟩ _ (.inl (by rw [HG.out]; exact Nat.le_refl _))⟩
        · obtain rfl : j = i := by omega
          have e0 : List.replicate j 0 ++ l.drop j = List.replicate j 0 := by rw [List.drop_of_length_le (by rw [HA.out]; exact Nat.le_refl _)]; simp
          rw [e0] at hO
          have hlt : ¬ (j : Int) < (j : Int) := by omega
          have hall := HAll.out (by rw [HA.out]; exact h9)
          rw [HA.out] at hall
          have hdg := hO.dg
          rw [List.length_replicate] at hdg
          unfold DgAt at hdg
          rw [List.length_replicate] at hdg
          have hlr : (dg (n + 1)).length = j + 1 := by rw [← hall]; simp
          have HALL := hide hall
          have HU := hide hu
          have HRW := hide hdg
          have hs1 := hu.size
          clear hO hu e0 hjA hjq hall hdg h9
          go_wp2_with (at_builtin; go_loud (refine wpList_append_rw _ rfl _ _ 49 49 rfl 3 _ i0 _ 1 8 Tryz.underlying49 Tryz.underlying49 (by simp) hi hz0 hz1 hz2 rfl _ j _ rfl (HRW.out.alloc _) _ 1 [.int .i64 1] rfl (Rw.made wr #[.int .i64 1] 3 1 1 rfl).src rfl (by simp [Value.oneCell']) (by omega) (by omega) ?_); intro ga gc w4 hv' hg4 hob')
          go_ret
          refine ⟨_, rfl, ?_, (HU.out.alloc _).grown hg4 (fun k hk => .inl (by have h1 : G = k := Option.some.inj hk; have := HG.out; omega))⟩
          unfold DgAt
          rw [hlr, ← HALL.out]
          have e5 : (List.replicate j 0 ++ [1]).map (fun d : Nat => Value.int .i64 (d : Int)) = (List.replicate j 0).map (fun d : Nat => Value.int .i64 (d : Int)) ++ [.int .i64 1] := by simp
          rw [e5]
          exact hv'
end Go.Proofs.YtmfngdjhkpddoaaGreatDoor
namespace Go.Proofs.YtmfngdjhkpddoaaGreatDoor
open Go.RowKit Go.Lat
theorem mkI40 (w : World) : (Instr.makeSlice 49 (.int .i64 0) (.int .i64 40)).run Tryz.prog w = .ok (.slice (some ⟨w.heap.size, 0, none⟩) 0 40) (w.alloc (.cells (madeCells #[.int .i64 0] 40) 3)) := by
  obtain ⟨i0, hi, hz0, hz1, hz2⟩ := info_parts Tryz.info3
  have h := run_make (P := Tryz.prog) w 49 3 i0 _ Tryz.underlying49 hi hz0 .i64 .i64 0 40 (by omega) (by omega) (by rw [hz2]; omega) (by omega)
  simp only [hz1] at h
  exact h
theorem ints_rep (k : Nat) : List.replicate (k + 1) (Value.int .i64 0) = List.replicate k (Value.int .i64 0) ++ [.int .i64 0] := List.replicate_succ'
theorem ints_dg (e c : Nat) : ints (List.replicate e 0 ++ dg c) = List.replicate e (Value.int .i64 0) ++ ints (dg c) := by
  show List.map _ _ = _
  rw [List.map_append, List.map_replicate]
  rfl
theorem ceil_le (x T : Nat) : ceilN x T ≤ x + 1 := by
  unfold ceilN
  have := Nat.div_le_self x T
  split <;> omega
set_option maxHeartbeats 6400000 in
theorem up_any (w : World) (a p : Int) (ha : okNum a = true) (h1 : -15 ≤ p) (h2 : p ≤ 15) : Calls Tryz.prog 103 #[.int .i64 a, .int .i64 p] w fun e w' => e = .returned (upV a p).val ∧ Upd w w' (fun _ => False) := by
  obtain ⟨i0, hi, hz0, hz1, hz2⟩ := info_parts Tryz.info3
  have HU0 : Hid (Upd w (w.alloc (.cells #[.int .i64 0, .int .i64 0, .string ⟨#[]⟩, .bool false, .int .i64 0] 36)) (fun _ => False)) := hide ((Upd.refl w _).alloc _)
  have HV0 : Hid ((w.alloc (.cells #[.int .i64 0, .int .i64 0, .string ⟨#[]⟩, .bool false, .int .i64 0] 36)).heap[w.heap.size]? = some (.cells #[.int .i64 0, .int .i64 0, .string ⟨#[]⟩, .bool false, .int .i64 0] 36 (0, 0))) := hide (Vnew1 w _)
  unfold upV
  by_cases h4 : 4 ≤ p
  · rw [if_pos h4]
    have g3 : 3 < p := by omega
    have NA := fun w => RN_any w a
    obtain ⟨⟨k0, n0, t0, b0, e0'⟩, hev⟩ : ∃ v, mkN a = v := ⟨_, rfl⟩
    rw [hev] at NA ⊢
    unfold Vl.val at NA
    (try unfold Vl.val)
    simp only at NA ⊢
    clear hev
    clear ha h1 h2 h4 hi hz0 hz1 hz2
    go_enter Tryz.func103, Tryz.ntmps103
    go_wp2_with fail
    with_reducible refine Calls.mono (NA _) ?_
    rintro e w9 ⟨rfl, u9⟩
    have HU9 := hide (HU0.out.then u9 (fun _ _ => id))
    have bV := u9.get HV0.out id
    obtain ⟨v0, v1, v2, v3, v4⟩ := cells5 bV
    have vl := lt_at bV
    have fv0 := free_at bV 0
    have fv1 := free_at bV 1
    have fv2 := free_at bV 2
    have fv3 := free_at bV 3
    have fv4 := free_at bV 4
    have HB := hide bV
    clear bV u9
    go_wp2_with fail
    (try simp only [Exit.inBlock, Exit.then])
    refine bodyPost_ret (ret_rv rfl _ _ (w.heap.size) ⟨k0, n0, t0, b0, e0'⟩ rfl (rblock5 (x := vZero) HB.out _ _ _ _ _)) rfl ?_
    exact ⟨rfl, upd5 HU9.out (by omega) _ _ _ _ _⟩
  · rw [if_neg h4]
    have g3 : ¬ 3 < p := by omega
    obtain ⟨e, he⟩ : ∃ e : Nat, (4 - p).toNat = e := ⟨_, rfl⟩
    rw [he]
    have he2 : p + (e : Int) = 4 := by omega
    have he19 : e ≤ 19 := by omega
    obtain ⟨s, x, ea, h0, hs, hx⟩ := signed a
    have ba := okNum_true ha
    have hx9 : x ≤ 9000000000000000000 := by omega
    have D := fun w => Digits_any w s x (by omega)
    rw [← ea] at D
    have es : sgn a = s := hs
    rw [es, ← hx]
    have TE := pow19 e he19
    have hb100 : (10000000000000000000 : Nat) < 10 ^ 100 := by decide
    have lx := dg_len x 100 (by omega)
    have lt := dg_len (10 ^ e) 100 (by omega)
    have OV := fun w v1 v2 k1 k2 => Over1_any w v1 v2 (dg x) (dg (10 ^ e)) k1 k2 (dg_norm _) (dg_norm _) (by rw [val_dg]; exact Nat.pow_pos (by omega)) (by omega) (by omega)
    simp only [val_dg] at OV
    have hdivx : x / 10 ^ e < 10 ^ 100 := by have := Nat.div_le_self x (10 ^ e); omega
    have PL := fun w v k => Rplus_any w v (x / 10 ^ e) k hdivx
    have hcl := ceil_le x (10 ^ e)
    have hceq : ceilN x (10 ^ e) = x / 10 ^ e + if x % 10 ^ e = 0 then 0 else 1 := rfl
    obtain ⟨c, hc⟩ : ∃ c, ceilN x (10 ^ e) = c := ⟨_, rfl⟩
    rw [hc] at hcl hceq ⊢
    have hm : c * 10 ^ e < 10 ^ 100 := by
      have h1 := Nat.mul_le_mul (show c ≤ 9000000000000000001 by omega) TE
      have h2 : (9000000000000000001 * 10000000000000000000 : Nat) < 10 ^ 100 := by decide
      omega
    have NU := fun w v k => Number_any w v (c * 10 ^ e) s k hm
    obtain ⟨X, hX⟩ : ∃ X, numV s (c * 10 ^ e) = X := ⟨_, rfl⟩
    obtain ⟨Y, hY⟩ : ∃ Y, numE (c * 10 ^ e) = Y := ⟨_, rfl⟩
    rw [hX, hY] at NU ⊢
    have TO := fun w => RTold_any w X Y
    obtain ⟨⟨k0, n0, t0, b0, e0'⟩, hev⟩ : ∃ v, tldV (X, Y) = v := ⟨_, rfl⟩
    rw [hev] at TO ⊢
    unfold Vl.val at TO
    (try unfold Vl.val)
    simp only at TO ⊢
    clear hev
    have hsh := dg_shift e c
    have hnil := dg_nil c
    have hcl2 := dg_len c 100 (by omega)
    have hst := dg_pow e
    have hlst : (dg (10 ^ e)).length = e + 1 := by rw [← hst]; simp
    obtain ⟨m, hmm⟩ : ∃ m, x % 10 ^ e = m := ⟨_, rfl⟩
    obtain ⟨q0, hq0⟩ : ∃ m, x / 10 ^ e = m := ⟨_, rfl⟩
    rw [hmm, hq0] at OV hceq
    rw [hq0] at PL
    have hmn := dg_nil m
    have hml := dg_len m 100 (by rw [← hmm]; have := Nat.mod_le x (10 ^ e); omega)
    have HSH := hide hsh
    have HNIL := hide hnil
    have HST := hide hst
    have HLST := hide hlst
    have HC := hide hceq
    have HE := hide he2
    have HP1 := hide h1
    have HMN := hide hmn
    have hdlt : decide (a < 0) = s := hs
    clear ha h1 h2 h4 he ea h0 hs hx ba hx9 es TE hb100 lx lt hdivx hcl hceq hc hm hX hY hsh hnil hst hlst hmm hq0 hmn
    go_enter Tryz.func103, Tryz.ntmps103
    go_wp2_with fail
    obtain ⟨W, hW⟩ : ∃ W, w.alloc (.cells #[.int .i64 0, .int .i64 0, .string ⟨#[]⟩, .bool false, .int .i64 0] 36) = W := ⟨_, rfl⟩
    have hWs : w.heap.size + 1 = W.heap.size := by rw [← hW]; simp
    rw [hW] at HU0 HV0 ⊢
    rw [hWs]
    clear hW hWs
    have HR0 := hide (Rw.made W #[] 3 1 0 rfl)
    have HUa := hide ((Upd.refl W (fun _ => False)).alloc (.cells #[] 3))
    go_loopg [5, 6] e (fun q sv iv wr => ∃ (k : Nat) (a1 : Option Addr) (c1 : Nat), k + q = e ∧ iv = .int .i64 (p + k) ∧ sv = .slice a1 k c1 ∧ Rw wr 3 1 (.slice a1 k c1) k (List.replicate k (.int .i64 0)) ∧ (∀ j, (Value.slice a1 k c1).ownBlock = some j → W.heap.size ≤ j) ∧ Upd W wr (fun _ => False))
    case atStart => exact ⟨0, _, _, by omega, by simp, rfl, HR0.out, fun j hj => by have h : W.heap.size = j := Option.some.inj hj; omega, HUa.out⟩
    case round =>
      obtain ⟨k, a1, c1, hk, rfl, rfl, hr, ho, hu⟩ := hrel
      clear HR0 HUa
      have HR1 := hide hr
      have HO1 := hide ho
      have HU1 := hide hu
      have hsz1 := hu.size
      obtain ⟨I, hI⟩ : ∃ I : Int, p + k = I := ⟨_, rfl⟩
      rw [hI]
      by_cases hke : k < e
      · have hlt : I < 4 := by have := HE.out; omega
        have hIb : -15 ≤ I := by have := HE.out; have := HP1.out; omega
        have HI := hide hI
        have HK := hide hk
        have HKE := hide hke
        have wI : IntKind.i64.wrap (I + 1) = I + 1 := by rw [IntWalk.i64_in _ (by omega)]
        clear hr ho hu hI hk
        go_wp2_with (at_builtin; go_loud (refine wpList_append_rw _ rfl _ _ 49 49 rfl 3 _ i0 _ 1 8 Tryz.underlying49 Tryz.underlying49 (by simp) hi hz0 hz1 hz2 rfl _ k _ rfl (HR1.out.alloc _) _ 1 [.int .i64 0] rfl (Rw.made wr #[.int .i64 0] 3 1 1 rfl).src rfl (by simp [Value.oneCell']) (by omega) (by omega) ?_); intro ga gc w4 hv' hg4 hob')
        rw [← ints_rep] at hv'
        have ho4 := own_ge HO1.out hob' (HU1.out.alloc _)
        have u4 := (HU1.out.alloc _).grown hg4 (fun j hj => .inl (HO1.out j hj))
        go_roundg (gk - 1)
        case measure => have := HK.out; have := HKE.out; omega
        case rel => exact ⟨k + 1, ga, gc, by have := HK.out; have := HKE.out; omega, by have := HI.out; congr 1; omega, rfl, hv', ho4, u4⟩
      · obtain rfl : k = e := by omega
        have hlt : ¬ I < 4 := by have := HE.out; omega
        clear hr ho hu hI hk hke
        go_wp2_with (at_builtin; go_loud (refine wpList_append_rw _ rfl _ _ 49 49 rfl 3 _ i0 _ 1 8 Tryz.underlying49 Tryz.underlying49 (by simp) hi hz0 hz1 hz2 rfl _ k _ rfl (HR1.out.alloc _) _ 1 [.int .i64 1] rfl (Rw.made wr #[.int .i64 1] 3 1 1 rfl).src rfl (by simp [Value.oneCell']) (by omega) (by omega) ?_); intro ga gc w4 hv' hg4 hob')
        have u4 := (HU1.out.alloc _).grown hg4 (fun j hj => .inl (HO1.out j hj))
        have hdg : DgAt w4 (.slice ga (k + 1) gc) (dg (10 ^ k)) := by
          unfold DgAt
          rw [HLST.out, ← HST.out]
          have e5 : (List.replicate k 0 ++ [1]).map (fun d : Nat => Value.int .i64 (d : Int)) = List.replicate k (Value.int .i64 0) ++ [.int .i64 1] := by simp
          rw [e5]
          exact hv'
        have HD4 := hide hdg
        have HU4 := hide u4
        clear hdg u4 hv' hob' hg4 HR1 HO1 HU1 hlt
        go_wp2_with fail
        refine Calls.mono (D _) ?_
        rintro e' w5 ⟨v5, rfl, q5, u5, -⟩
        go_wp2_with fail
        refine Calls.mono (OV _ _ _ q5 (HD4.out.upd u5)) ?_
        rintro e' w6 ⟨vq, vr, rfl, qq, qr, u6⟩
        obtain ⟨ar, cr, rfl, -⟩ := Rw.form qr
        have HU6 := hide ((HU4.out.then u5 (fun _ _ => id)).then u6 (fun _ _ => id))
        have HQ := hide qq
        have hLM := HMN.out
        have HQR := hide qr
        clear qq qr u5 u6 HD4 HU4 q5
        obtain ⟨LM, hlm⟩ : ∃ n, (dg m).length = n := ⟨_, rfl⟩
        rw [hlm] at hLM hml ⊢
        clear hlm HQR
        by_cases hm0 : m = 0
        · have hl0 : LM = 0 := hLM.2 hm0
          subst hl0
          have hcq : q0 = c := by have := HC.out; rw [if_pos hm0] at this; omega
          subst hcq
          clear hm0 hLM
          go_wp2_with fail
          obtain ⟨aq, cq, rfl, -⟩ := Rw.form HQ.out
          have q1 := Rw.lt HQ.out
          have r1 := fun j (hj : j < (dg q0).length) => dg_cell HQ.out j hj
          have hnl := HNIL.out
          obtain ⟨LQ, hlq⟩ : ∃ n, (dg q0).length = n := ⟨_, rfl⟩
          have HLQ := hide hlq
          have HQQ := HQ
          rw [hlq] at hnl hcl2 q1 ⊢
          clear hlq HQ
          go_wp2_with fail
          rw [mkI40]
          go_wp2_with fail
          have HR2 := hide (Rw.made0 w6 (madeCells #[.int .i64 0] 40) 3 1 40 (by simp [madeCells]))
          have HUb := hide ((Upd.refl w6 (fun _ => False)).alloc (.cells (madeCells #[.int .i64 0] 40) 3))
          go_loopg [10, 11] k (fun q sv iv wr => ∃ (i : Nat) (a1 : Option Addr) (c1 : Nat), i + q = k ∧ iv = .int .i64 (p + i) ∧ sv = .slice a1 i c1 ∧ Rw wr 3 1 (.slice a1 i c1) i (List.replicate i (.int .i64 0)) ∧ (∀ j, (Value.slice a1 i c1).ownBlock = some j → w6.heap.size ≤ j) ∧ Upd w6 wr (fun _ => False))
          case atStart => exact ⟨0, _, _, by omega, by simp, rfl, HR2.out, fun j hj => by have h : w6.heap.size = j := Option.some.inj hj; omega, HUb.out⟩
          case round =>
            obtain ⟨i, a1, c1, hk, rfl, rfl, hr, ho, hu⟩ := hrel
            clear HR2 HUb
            have HR1 := hide hr
            have HO1 := hide ho
            have HU1 := hide hu
            have hsz1 := hu.size
            obtain ⟨J, hJ⟩ : ∃ I : Int, p + i = I := ⟨_, rfl⟩
            rw [hJ]
            by_cases hke : i < k
            · have hlt : J < 4 := by have := HE.out; omega
              have hIb : -15 ≤ J := by have := HE.out; have := HP1.out; omega
              have HI := hide hJ
              have HK := hide hk
              have HKE := hide hke
              have wI : IntKind.i64.wrap (J + 1) = J + 1 := by rw [IntWalk.i64_in _ (by omega)]
              clear hr ho hu hJ hk
              go_wp2_with (at_builtin; go_loud (refine wpList_append_rw _ rfl _ _ 49 49 rfl 3 _ i0 _ 1 8 Tryz.underlying49 Tryz.underlying49 (by simp) hi hz0 hz1 hz2 rfl _ i _ rfl (HR1.out.alloc _) _ 1 [.int .i64 0] rfl (Rw.made wr #[.int .i64 0] 3 1 1 rfl).src rfl (by simp [Value.oneCell']) (by omega) (by omega) ?_); intro ga gc w4 hv' hg4 hob')
              rw [← ints_rep] at hv'
              have ho4 := own_ge HO1.out hob' (HU1.out.alloc _)
              have u4 := (HU1.out.alloc _).grown hg4 (fun j hj => .inl (HO1.out j hj))
              go_roundg (gk - 1)
              case measure => have := HK.out; have := HKE.out; omega
              case rel => exact ⟨i + 1, ga, gc, by have := HK.out; have := HKE.out; omega, by have := HI.out; congr 1; omega, rfl, hv', ho4, u4⟩
            · obtain rfl : i = k := by omega
              have hlt : ¬ J < 4 := by have := HE.out; omega
              clear hr ho hu hJ hk hke
              go_wp2_with fail
              go_loopg [10, 12] LQ (fun q sv iv wr => ∃ (j : Nat) (a1 : Option Addr) (c1 : Nat), j + q = LQ ∧ iv = .int .i64 (j : Int) ∧ sv = .slice a1 (i + j) c1 ∧ Rw wr 3 1 (.slice a1 (i + j) c1) (i + j) (List.replicate i (.int .i64 0) ++ (ints (dg q0)).take j) ∧ (∀ j', (Value.slice a1 (i + j) c1).ownBlock = some j' → w6.heap.size ≤ j') ∧ Upd w6 wr (fun _ => False))
              case atStart => exact ⟨0, _, _, by omega, rfl, rfl, by simpa using HR1.out, HO1.out, HU1.out⟩
              case round =>
                obtain ⟨j, a2, c2, hj, rfl, rfl, hr, ho, hu⟩ := hrel
                clear HR1 HO1 HU1
                have HR2 := hide hr
                have HO2 := hide ho
                have HU2 := hide hu
                have hsz2 := hu.size
                obtain ⟨n, hn⟩ : ∃ n, i + j = n := ⟨_, rfl⟩
                rw [hn] at HR2 HO2 ⊢
                by_cases hjL : j < LQ
                · have hjl : j < (dg q0).length := by rw [HLQ.out]; exact hjL
                  obtain ⟨g1, o1, rfl, cc1⟩ := r1 j hjl
                  have hg1 : g1 < w6.heap.size := q1 g1 rfl
                  have k1 := (hu.cell g1 _ hg1 id).trans cc1
                  have ht : (ints (dg q0)).take (j + 1) = (ints (dg q0)).take j ++ [.int .i64 (((dg q0).getD j 0 : Nat) : Int)] := by
                    rw [List.take_add_one, List.getElem?_map, List.getElem?_eq_getElem hjl, List.getD_eq_getElem?_getD, List.getElem?_eq_getElem hjl]
                    rfl
                  obtain ⟨d, hd⟩ : ∃ d, (dg q0).getD j 0 = d := ⟨_, rfl⟩
                  rw [hd] at k1 ht
                  have HT := hide ht
                  have HN := hide hn
                  have HJ := hide hj
                  have HJL := hide hjL
                  have j0 : (0 : Int) ≤ (j : Int) := by omega
                  have jl : (j : Int) < (LQ : Int) := by omega
                  have hnb : n ≤ 1000 := by omega
                  clear hr ho hu hd ht hn hj cc1 hjl
                  go_wp2_with (at_builtin; go_loud (refine wpList_append_rw _ rfl _ _ 49 49 rfl 3 _ i0 _ 1 8 Tryz.underlying49 Tryz.underlying49 (by simp) hi hz0 hz1 hz2 rfl _ n _ rfl (HR2.out.alloc _) _ 1 [.int .i64 (d : Int)] rfl (Rw.made wr #[.int .i64 (d : Int)] 3 1 1 rfl).src rfl (by simp [Value.oneCell']) (by omega) (by omega) ?_); intro ga gc w4 hv' hg4 hob')
                  rw [List.append_assoc, ← HT.out] at hv'
                  have ho4 := own_ge HO2.out hob' (HU2.out.alloc _)
                  have u4 := (HU2.out.alloc _).grown hg4 (fun j hj => .inl (HO2.out j hj))
                  go_roundg (gk - 1)
                  case measure => have := HJ.out; have := HJL.out; omega
                  case rel => exact ⟨j + 1, ga, gc, by have := HJ.out; have := HJL.out; omega, by go_num, by have := HN.out; rw [← Nat.add_assoc, this], by have := HN.out; rw [← Nat.add_assoc, this]; exact hv', by have := HN.out; rw [← Nat.add_assoc, this]; exact ho4, u4⟩
                · obtain rfl : j = LQ := by omega
                  have jl : ¬ (j : Int) < (j : Int) := by omega
                  have HN := hide hn
                  have HUF := hide (HU0.out.then (HU6.out.then HU2.out (fun _ _ => id)) (fun _ _ => id))
                  have HVF := hide ((HU6.out.then HU2.out (fun _ _ => id)).get HV0.out id)
                  clear hr ho hu hn hj hjL
                  by_cases hj0 : j = 0
                  · have hc0 : q0 = 0 := hnl.1 hj0
                    subst hj0
                    have hdn : DgAt wr (.slice none 0 0) (dg (q0 * 10 ^ i)) := by
                      rw [hc0, Nat.zero_mul, dg_zero]
                      exact Rw.nil _ _ _
                    have HDN := hide hdn
                    clear hc0 hdn hnl
                    go_wp2_with fail
                    refine Calls.mono (NU _ _ HDN.out) ?_
                    rintro e' w8 ⟨rfl, u8⟩
                    have HU9 := hide (HUF.out.then u8 (fun _ _ => id))
                    have HV9 := hide (u8.get HVF.out id)
                    clear u8
                    go_wp2_with fail
                    with_reducible refine Calls.mono (TO _) ?_
                    rintro e w9 ⟨rfl, u9⟩
                    have HU9 := hide (HU9.out.then u9 (fun _ _ => id))
                    have bV := u9.get HV9.out id
                    obtain ⟨v0, v1, v2, v3, v4⟩ := cells5 bV
                    have vl := lt_at bV
                    have fv0 := free_at bV 0
                    have fv1 := free_at bV 1
                    have fv2 := free_at bV 2
                    have fv3 := free_at bV 3
                    have fv4 := free_at bV 4
                    have HB := hide bV
                    clear bV u9
                    go_wp2_with fail
                    (try simp only [Exit.inBlock, Exit.then])
                    refine bodyPost_ret (ret_rv rfl _ _ (w.heap.size) ⟨k0, n0, t0, b0, e0'⟩ rfl (rblock5 (x := vZero) HB.out _ _ _ _ _)) rfl ?_
                    exact ⟨rfl, upd5 HU9.out (by omega) _ _ _ _ _⟩
                  · have hc0 : q0 ≠ 0 := fun h => hj0 (hnl.2 h)
                    have jj0 : ((j : Int) == 0) = false := by simp; omega
                    have hdn : DgAt wr (.slice a2 n c2) (dg (q0 * 10 ^ i)) := by
                      have hsh := HSH.out hc0
                      have hR := HR2.out
                      have e6 : (ints (dg q0)).take j = ints (dg q0) := List.take_of_length_le (by rw [List.length_map, HLQ.out]; exact Nat.le_refl _)
                      rw [e6, ← ints_dg, hsh] at hR
                      have hl6 : (dg (q0 * 10 ^ i)).length = n := by rw [← hsh, List.length_append, List.length_replicate, HLQ.out]; exact HN.out
                      unfold DgAt
                      rw [hl6]
                      exact hR
                    have HDN := hide hdn
                    clear hc0 hdn hnl hj0
                    go_wp2_with fail
                    refine Calls.mono (NU _ _ HDN.out) ?_
                    rintro e' w8 ⟨rfl, u8⟩
                    have HU9 := hide (HUF.out.then u8 (fun _ _ => id))
                    have HV9 := hide (u8.get HVF.out id)
                    clear u8
                    go_wp2_with fail
                    with_reducible refine Calls.mono (TO _) ?_
                    rintro e w9 ⟨rfl, u9⟩
                    have HU9 := hide (HU9.out.then u9 (fun _ _ => id))
                    have bV := u9.get HV9.out id
                    obtain ⟨v0, v1, v2, v3, v4⟩ := cells5 bV
                    have vl := lt_at bV
                    have fv0 := free_at bV 0
                    have fv1 := free_at bV 1
                    have fv2 := free_at bV 2
                    have fv3 := free_at bV 3
                    have fv4 := free_at bV 4
                    have HB := hide bV
                    clear bV u9
                    go_wp2_with fail
                    (try simp only [Exit.inBlock, Exit.then])
                    refine bodyPost_ret (ret_rv rfl _ _ (w.heap.size) ⟨k0, n0, t0, b0, e0'⟩ rfl (rblock5 (x := vZero) HB.out _ _ _ _ _)) rfl ?_
                    exact ⟨rfl, upd5 HU9.out (by omega) _ _ _ _ _⟩
        · have hl0 : 0 < (LM : Int) := by have : ¬ LM = 0 := fun h => hm0 (hLM.1 h); omega
          have hcq : c = q0 + 1 := by have := HC.out; rw [if_neg hm0] at this; exact this
          clear hm0 hLM
          go_wp2_with fail
          refine Calls.mono (PL _ _ HQ.out) ?_
          rintro e' w7 ⟨vq7, rfl, qq7, u7⟩
          rw [← hcq] at qq7
          clear HQ
          have HQ := hide qq7
          have HU7 := hide (HU6.out.then u7 (fun _ _ => id))
          clear qq7 u7 hl0 HU6 hcq
          obtain ⟨aq, cq, rfl, -⟩ := Rw.form HQ.out
          have q1 := Rw.lt HQ.out
          have r1 := fun j (hj : j < (dg c).length) => dg_cell HQ.out j hj
          have hnl := HNIL.out
          obtain ⟨LQ, hlq⟩ : ∃ n, (dg c).length = n := ⟨_, rfl⟩
          have HLQ := hide hlq
          have HQQ := HQ
          rw [hlq] at hnl hcl2 q1 ⊢
          clear hlq HQ
          go_wp2_with fail
          rw [mkI40]
          go_wp2_with fail
          have HR2 := hide (Rw.made0 w7 (madeCells #[.int .i64 0] 40) 3 1 40 (by simp [madeCells]))
          have HUb := hide ((Upd.refl w7 (fun _ => False)).alloc (.cells (madeCells #[.int .i64 0] 40) 3))
          go_loopg [10, 11] k (fun q sv iv wr => ∃ (i : Nat) (a1 : Option Addr) (c1 : Nat), i + q = k ∧ iv = .int .i64 (p + i) ∧ sv = .slice a1 i c1 ∧ Rw wr 3 1 (.slice a1 i c1) i (List.replicate i (.int .i64 0)) ∧ (∀ j, (Value.slice a1 i c1).ownBlock = some j → w7.heap.size ≤ j) ∧ Upd w7 wr (fun _ => False))
          case atStart => exact ⟨0, _, _, by omega, by simp, rfl, HR2.out, fun j hj => by have h : w7.heap.size = j := Option.some.inj hj; omega, HUb.out⟩
          case round =>
            obtain ⟨i, a1, c1, hk, rfl, rfl, hr, ho, hu⟩ := hrel
            clear HR2 HUb
            have HR1 := hide hr
            have HO1 := hide ho
            have HU1 := hide hu
            have hsz1 := hu.size
            obtain ⟨J, hJ⟩ : ∃ I : Int, p + i = I := ⟨_, rfl⟩
            rw [hJ]
            by_cases hke : i < k
            · have hlt : J < 4 := by have := HE.out; omega
              have hIb : -15 ≤ J := by have := HE.out; have := HP1.out; omega
              have HI := hide hJ
              have HK := hide hk
              have HKE := hide hke
              have wI : IntKind.i64.wrap (J + 1) = J + 1 := by rw [IntWalk.i64_in _ (by omega)]
              clear hr ho hu hJ hk
              go_wp2_with (at_builtin; go_loud (refine wpList_append_rw _ rfl _ _ 49 49 rfl 3 _ i0 _ 1 8 Tryz.underlying49 Tryz.underlying49 (by simp) hi hz0 hz1 hz2 rfl _ i _ rfl (HR1.out.alloc _) _ 1 [.int .i64 0] rfl (Rw.made wr #[.int .i64 0] 3 1 1 rfl).src rfl (by simp [Value.oneCell']) (by omega) (by omega) ?_); intro ga gc w4 hv' hg4 hob')
              rw [← ints_rep] at hv'
              have ho4 := own_ge HO1.out hob' (HU1.out.alloc _)
              have u4 := (HU1.out.alloc _).grown hg4 (fun j hj => .inl (HO1.out j hj))
              go_roundg (gk - 1)
              case measure => have := HK.out; have := HKE.out; omega
              case rel => exact ⟨i + 1, ga, gc, by have := HK.out; have := HKE.out; omega, by have := HI.out; congr 1; omega, rfl, hv', ho4, u4⟩
            · obtain rfl : i = k := by omega
              have hlt : ¬ J < 4 := by have := HE.out; omega
              clear hr ho hu hJ hk hke
              go_wp2_with fail
              go_loopg [10, 12] LQ (fun q sv iv wr => ∃ (j : Nat) (a1 : Option Addr) (c1 : Nat), j + q = LQ ∧ iv = .int .i64 (j : Int) ∧ sv = .slice a1 (i + j) c1 ∧ Rw wr 3 1 (.slice a1 (i + j) c1) (i + j) (List.replicate i (.int .i64 0) ++ (ints (dg c)).take j) ∧ (∀ j', (Value.slice a1 (i + j) c1).ownBlock = some j' → w7.heap.size ≤ j') ∧ Upd w7 wr (fun _ => False))
              case atStart => exact ⟨0, _, _, by omega, rfl, rfl, by simpa using HR1.out, HO1.out, HU1.out⟩
              case round =>
                obtain ⟨j, a2, c2, hj, rfl, rfl, hr, ho, hu⟩ := hrel
                clear HR1 HO1 HU1
                have HR2 := hide hr
                have HO2 := hide ho
                have HU2 := hide hu
                have hsz2 := hu.size
                obtain ⟨n, hn⟩ : ∃ n, i + j = n := ⟨_, rfl⟩
                rw [hn] at HR2 HO2 ⊢
                by_cases hjL : j < LQ
                · have hjl : j < (dg c).length := by rw [HLQ.out]; exact hjL
                  obtain ⟨g1, o1, rfl, cc1⟩ := r1 j hjl
                  have hg1 : g1 < w7.heap.size := q1 g1 rfl
                  have k1 := (hu.cell g1 _ hg1 id).trans cc1
                  have ht : (ints (dg c)).take (j + 1) = (ints (dg c)).take j ++ [.int .i64 (((dg c).getD j 0 : Nat) : Int)] := by
                    rw [List.take_add_one, List.getElem?_map, List.getElem?_eq_getElem hjl, List.getD_eq_getElem?_getD, List.getElem?_eq_getElem hjl]
                    rfl
                  obtain ⟨d, hd⟩ : ∃ d, (dg c).getD j 0 = d := ⟨_, rfl⟩
                  rw [hd] at k1 ht
                  have HT := hide ht
                  have HN := hide hn
                  have HJ := hide hj
                  have HJL := hide hjL
                  have j0 : (0 : Int) ≤ (j : Int) := by omega
                  have jl : (j : Int) < (LQ : Int) := by omega
                  have hnb : n ≤ 1000 := by omega
                  clear hr ho hu hd ht hn hj cc1 hjl
                  go_wp2_with (at_builtin; go_loud (refine wpList_append_rw _ rfl _ _ 49 49 rfl 3 _ i0 _ 1 8 Tryz.underlying49 Tryz.underlying49 (by simp) hi hz0 hz1 hz2 rfl _ n _ rfl (HR2.out.alloc _) _ 1 [.int .i64 (d : Int)] rfl (Rw.made wr #[.int .i64 (d : Int)] 3 1 1 rfl).src rfl (by simp [Value.oneCell']) (by omega) (by omega) ?_); intro ga gc w4 hv' hg4 hob')
                  rw [List.append_assoc, ← HT.out] at hv'
                  have ho4 := own_ge HO2.out hob' (HU2.out.alloc _)
                  have u4 := (HU2.out.alloc _).grown hg4 (fun j hj => .inl (HO2.out j hj))
                  go_roundg (gk - 1)
                  case measure => have := HJ.out; have := HJL.out; omega
                  case rel => exact ⟨j + 1, ga, gc, by have := HJ.out; have := HJL.out; omega, by go_num, by have := HN.out; rw [← Nat.add_assoc, this], by have := HN.out; rw [← Nat.add_assoc, this]; exact hv', by have := HN.out; rw [← Nat.add_assoc, this]; exact ho4, u4⟩
                · obtain rfl : j = LQ := by omega
                  have jl : ¬ (j : Int) < (j : Int) := by omega
                  have HN := hide hn
                  have HUF := hide (HU0.out.then (HU7.out.then HU2.out (fun _ _ => id)) (fun _ _ => id))
                  have HVF := hide ((HU7.out.then HU2.out (fun _ _ => id)).get HV0.out id)
                  clear hr ho hu hn hj hjL
                  by_cases hj0 : j = 0
                  · have hc0 : c = 0 := hnl.1 hj0
                    subst hj0
                    have hdn : DgAt wr (.slice none 0 0) (dg (c * 10 ^ i)) := by
                      rw [hc0, Nat.zero_mul, dg_zero]
                      exact Rw.nil _ _ _
                    have HDN := hide hdn
                    clear hc0 hdn hnl
                    go_wp2_with fail
                    refine Calls.mono (NU _ _ HDN.out) ?_
                    rintro e' w8 ⟨rfl, u8⟩
                    have HU9 := hide (HUF.out.then u8 (fun _ _ => id))
                    have HV9 := hide (u8.get HVF.out id)
                    clear u8
                    go_wp2_with fail
                    with_reducible refine Calls.mono (TO _) ?_
                    rintro e w9 ⟨rfl, u9⟩
                    have HU9 := hide (HU9.out.then u9 (fun _ _ => id))
                    have bV := u9.get HV9.out id
                    obtain ⟨v0, v1, v2, v3, v4⟩ := cells5 bV
                    have vl := lt_at bV
                    have fv0 := free_at bV 0
                    have fv1 := free_at bV 1
                    have fv2 := free_at bV 2
                    have fv3 := free_at bV 3
                    have fv4 := free_at bV 4
                    have HB := hide bV
                    clear bV u9
                    go_wp2_with fail
                    (try simp only [Exit.inBlock, Exit.then])
                    refine bodyPost_ret (ret_rv rfl _ _ (w.heap.size) ⟨k0, n0, t0, b0, e0'⟩ rfl (rblock5 (x := vZero) HB.out _ _ _ _ _)) rfl ?_
                    exact ⟨rfl, upd5 HU9.out (by omega) _ _ _ _ _⟩
                  · have hc0 : c ≠ 0 := fun h => hj0 (hnl.2 h)
                    have jj0 : ((j : Int) == 0) = false := by simp; omega
                    have hdn : DgAt wr (.slice a2 n c2) (dg (c * 10 ^ i)) := by
                      have hsh := HSH.out hc0
                      have hR := HR2.out
                      have e6 : (ints (dg c)).take j = ints (dg c) := List.take_of_length_le (by rw [List.length_map, HLQ.out]; exact Nat.le_refl _)
                      rw [e6, ← ints_dg, hsh] at hR
                      have hl6 : (dg (c * 10 ^ i)).length = n := by rw [← hsh, List.length_append, List.length_replicate, HLQ.out]; exact HN.out
                      unfold DgAt
                      rw [hl6]
                      exact hR
                    have HDN := hide hdn
                    clear hc0 hdn hnl hj0
                    go_wp2_with fail
                    refine Calls.mono (NU _ _ HDN.out) ?_
                    rintro e' w8 ⟨rfl, u8⟩
                    have HU9 := hide (HUF.out.then u8 (fun _ _ => id))
                    have HV9 := hide (u8.get HVF.out id)
                    clear u8
                    go_wp2_with fail
                    with_reducible refine Calls.mono (TO _) ?_
                    rintro e w9 ⟨rfl, u9⟩
                    have HU9 := hide (HU9.out.then u9 (fun _ _ => id))
                    have bV := u9.get HV9.out id
                    obtain ⟨v0, v1, v2, v3, v4⟩ := cells5 bV
                    have vl := lt_at bV
                    have fv0 := free_at bV 0
                    have fv1 := free_at bV 1
                    have fv2 := free_at bV 2
                    have fv3 := free_at bV 3
                    have fv4 := free_at bV 4
                    have HB := hide bV
                    clear bV u9
                    go_wp2_with fail
                    (try simp only [Exit.inBlock, Exit.then])
                    refine bodyPost_ret (ret_rv rfl _ _ (w.heap.size) ⟨k0, n0, t0, b0, e0'⟩ rfl (rblock5 (x := vZero) HB.out _ _ _ _ _)) rfl ?_
                    exact ⟨rfl, upd5 HU9.out (by omega) _ _ _ _ _⟩
end Go.Proofs.YtmfngdjhkpddoaaGreatDoor
namespace Go.Proofs.YtmfngdjhkpddoaaGreatDoor
open Go.RowKit Go.Lat Go.Lib
theorem whole_rng {b m z : Int} (hm : b.tmod 10000 = m) (hz : b.tdiv 10000 = z) (h0 : m = 0) : b = z * 10000 := by
  have := Int.mul_tdiv_add_tmod b 10000
  rw [hm, hz] at this
  omega
set_option maxHeartbeats 6400000 in
theorem two_any (w : World) (n : List UInt8) (a b : Int) (ha : okNum a = true) (hb : okNum b = true) : Calls Tryz.prog 55 #[enS n, .int .i64 a, .int .i64 b] w fun e w' => e = .returned (pairV n a b).val ∧ Upd w w' (fun _ => False) := by
  have HU0 : Hid (Upd w (w.alloc (.cells #[.int .i64 0, .int .i64 0, .string ⟨#[]⟩, .bool false, .int .i64 0] 36)) (fun _ => False)) := hide ((Upd.refl w _).alloc _)
  have HV0 : Hid ((w.alloc (.cells #[.int .i64 0, .int .i64 0, .string ⟨#[]⟩, .bool false, .int .i64 0] 36)).heap[w.heap.size]? = some (.cells #[.int .i64 0, .int .i64 0, .string ⟨#[]⟩, .bool false, .int .i64 0] 36 (0, 0))) := hide (Vnew1 w _)
  have hra := okNum_true ha
  have hrb := okNum_true hb
  rcases two_cases n with ⟨hn, b1, b2, b3, b4, b5, b6⟩ | ⟨hn, b1, b2, b3, b4, b5, b6⟩ | ⟨hn, b1, b2, b3, b4, b5, b6⟩ | ⟨hn, b1, b2, b3, b4, b5, b6⟩ | ⟨hn, b1, b2, b3, b4, b5, b6⟩ | ⟨hn, b1, b2, b3, b4, b5, b6⟩ | ⟨n1, n2, n3, n4, n5, n6, b1, b2, b3, b4, b5, b6⟩
  · have er : pairV n a b = rndV a b := by rw [hn]; rfl
    rw [er]
    clear er hn
    have hm := tmod_rng b 10000 (by decide)
    obtain ⟨m, hmm⟩ : ∃ m, b.tmod 10000 = m := ⟨_, rfl⟩
    obtain ⟨z, hzz⟩ : ∃ z, b.tdiv 10000 = z := ⟨_, rfl⟩
    have hwm := fun h : m = 0 => whole_rng hmm hzz h
    rw [hmm] at hm
    have wm : IntKind.i64.wrap m = m := by rw [IntWalk.i64_in _ (by omega)]
    unfold rndV
    rw [hmm, hzz]
    have bw : (if m ≠ 0 ∨ z < -15 ∨ 15 < z then mkE 2 else tldV (rndF a z)) = if m ≠ 0 ∨ b < -150000 ∨ 150000 < b then mkE 2 else tldV (rndF a z) := by
      by_cases h0 : m = 0
      · have := hwm h0
        by_cases h : z < -15 ∨ 15 < z
        · rw [if_pos (.inr h), if_pos (.inr (by omega))]
        · rw [if_neg (fun h' => h'.elim (fun h' => h' h0) h), if_neg (fun h' => h'.elim (fun h' => h' h0) (by omega))]
      · rw [if_pos (.inl h0), if_pos (.inl h0)]
    rw [bw]
    by_cases hbad : m ≠ 0 ∨ b < -150000 ∨ 150000 < b
    · rw [if_pos hbad]
      have EA := fun w => REk_any w 2 (by decide)
      obtain ⟨⟨k0, n0, t0, b0, e0'⟩, hev⟩ : ∃ v, mkE 2 = v := ⟨_, rfl⟩
      rw [hev] at EA ⊢
      unfold Vl.val at EA
      (try unfold Vl.val)
      simp only at EA ⊢
      clear hev
      have hcc : (m != 0) = true ∨ (m != 0) = false ∧ b < -150000 ∨ (m != 0) = false ∧ ¬ b < -150000 ∧ 150000 < b := by
        by_cases h1 : m = 0
        · by_cases h2 : b < -150000
          · exact .inr (.inl ⟨by simpa using h1, h2⟩)
          · exact .inr (.inr ⟨by simpa using h1, h2, hbad.elim (fun h => absurd h1 h) (fun h => h.elim (fun h => absurd h h2) id)⟩)
        · exact .inl (by simpa using h1)
      clear ha hb hra hrb hm hwm hbad bw hzz
      rcases hcc with h1 | ⟨h1, h2⟩ | ⟨h1, h2, h3⟩
      · go_enter Tryz.func55, Tryz.ntmps55
        go_wp2_with fail
        with_reducible refine Calls.mono (EA _) ?_
        rintro e w9 ⟨rfl, u9⟩
        have HU9 := hide (HU0.out.then u9 (fun _ _ => id))
        have bV := u9.get HV0.out id
        obtain ⟨v0, v1, v2, v3, v4⟩ := cells5 bV
        have vl := lt_at bV
        have fv0 := free_at bV 0
        have fv1 := free_at bV 1
        have fv2 := free_at bV 2
        have fv3 := free_at bV 3
        have fv4 := free_at bV 4
        have HB := hide bV
        clear bV u9
        go_wp2_with fail
        (try simp only [Exit.inBlock, Exit.then])
        refine bodyPost_ret (ret_rv rfl _ _ (w.heap.size) ⟨k0, n0, t0, b0, e0'⟩ rfl (rblock5 (x := vZero) HB.out _ _ _ _ _)) rfl ?_
        exact ⟨rfl, upd5 HU9.out (by omega) _ _ _ _ _⟩
      · go_enter Tryz.func55, Tryz.ntmps55
        go_wp2_with fail
        with_reducible refine Calls.mono (EA _) ?_
        rintro e w9 ⟨rfl, u9⟩
        have HU9 := hide (HU0.out.then u9 (fun _ _ => id))
        have bV := u9.get HV0.out id
        obtain ⟨v0, v1, v2, v3, v4⟩ := cells5 bV
        have vl := lt_at bV
        have fv0 := free_at bV 0
        have fv1 := free_at bV 1
        have fv2 := free_at bV 2
        have fv3 := free_at bV 3
        have fv4 := free_at bV 4
        have HB := hide bV
        clear bV u9
        go_wp2_with fail
        (try simp only [Exit.inBlock, Exit.then])
        refine bodyPost_ret (ret_rv rfl _ _ (w.heap.size) ⟨k0, n0, t0, b0, e0'⟩ rfl (rblock5 (x := vZero) HB.out _ _ _ _ _)) rfl ?_
        exact ⟨rfl, upd5 HU9.out (by omega) _ _ _ _ _⟩
      · go_enter Tryz.func55, Tryz.ntmps55
        go_wp2_with fail
        with_reducible refine Calls.mono (EA _) ?_
        rintro e w9 ⟨rfl, u9⟩
        have HU9 := hide (HU0.out.then u9 (fun _ _ => id))
        have bV := u9.get HV0.out id
        obtain ⟨v0, v1, v2, v3, v4⟩ := cells5 bV
        have vl := lt_at bV
        have fv0 := free_at bV 0
        have fv1 := free_at bV 1
        have fv2 := free_at bV 2
        have fv3 := free_at bV 3
        have fv4 := free_at bV 4
        have HB := hide bV
        clear bV u9
        go_wp2_with fail
        (try simp only [Exit.inBlock, Exit.then])
        refine bodyPost_ret (ret_rv rfl _ _ (w.heap.size) ⟨k0, n0, t0, b0, e0'⟩ rfl (rblock5 (x := vZero) HB.out _ _ _ _ _)) rfl ?_
        exact ⟨rfl, upd5 HU9.out (by omega) _ _ _ _ _⟩
    · rw [if_neg hbad]
      have h1 : m = 0 := Decidable.not_not.1 fun h => hbad (.inl h)
      have h2 : ¬ b < -150000 := fun h => hbad (.inr (.inl h))
      have h3 : ¬ 150000 < b := fun h => hbad (.inr (.inr h))
      have e1 := hwm h1
      have bm : (m != 0) = false := by simpa using h1
      have z1 : -15 ≤ z := by omega
      have z2 : z ≤ 15 := by omega
      have wz : IntKind.i64.wrap z = z := by rw [IntWalk.i64_in _ (by omega)]
      have RA := (rndB a z).2
      obtain ⟨⟨p, c⟩, hp⟩ : ∃ r, rndF a z = r := ⟨_, rfl⟩
      rw [hp] at RA ⊢
      simp only at RA
      have TO := fun w => RTold_any w p c
      obtain ⟨⟨k0, n0, t0, b0, e0'⟩, hev⟩ : ∃ v, tldV (p, c) = v := ⟨_, rfl⟩
      rw [hev] at TO ⊢
      unfold Vl.val at TO
      (try unfold Vl.val)
      simp only at TO ⊢
      clear hev
      clear ha hb hra hrb hm hwm hbad bw h1 e1 hp z1 z2
      go_enter Tryz.func55, Tryz.ntmps55
      go_wp2_with fail
      with_reducible refine Calls.mono (RA _) ?_
      rintro e w1 ⟨rfl, u1⟩
      have HU1 := hide (HU0.out.then u1 (fun _ _ => id))
      have HV1 := hide (u1.get HV0.out id)
      clear u1
      go_wp2_with fail
      with_reducible refine Calls.mono (TO _) ?_
      rintro e w9 ⟨rfl, u9⟩
      have HU9 := hide (HU1.out.then u9 (fun _ _ => id))
      have bV := u9.get HV1.out id
      obtain ⟨v0, v1, v2, v3, v4⟩ := cells5 bV
      have vl := lt_at bV
      have fv0 := free_at bV 0
      have fv1 := free_at bV 1
      have fv2 := free_at bV 2
      have fv3 := free_at bV 3
      have fv4 := free_at bV 4
      have HB := hide bV
      clear bV u9
      go_wp2_with fail
      (try simp only [Exit.inBlock, Exit.then])
      refine bodyPost_ret (ret_rv rfl _ _ (w.heap.size) ⟨k0, n0, t0, b0, e0'⟩ rfl (rblock5 (x := vZero) HB.out _ _ _ _ _)) rfl ?_
      exact ⟨rfl, upd5 HU9.out (by omega) _ _ _ _ _⟩
  · have er : pairV n a b = rupV a b := by rw [hn]; rfl
    rw [er]
    clear er hn
    have hm := tmod_rng b 10000 (by decide)
    obtain ⟨m, hmm⟩ : ∃ m, b.tmod 10000 = m := ⟨_, rfl⟩
    obtain ⟨z, hzz⟩ : ∃ z, b.tdiv 10000 = z := ⟨_, rfl⟩
    have hwm := fun h : m = 0 => whole_rng hmm hzz h
    rw [hmm] at hm
    have wm : IntKind.i64.wrap m = m := by rw [IntWalk.i64_in _ (by omega)]
    unfold rupV
    rw [hmm, hzz]
    have bw : (if m ≠ 0 ∨ z < -15 ∨ 15 < z then mkE 2 else rupF a z) = if m ≠ 0 ∨ b < -150000 ∨ 150000 < b then mkE 2 else rupF a z := by
      by_cases h0 : m = 0
      · have := hwm h0
        by_cases h : z < -15 ∨ 15 < z
        · rw [if_pos (.inr h), if_pos (.inr (by omega))]
        · rw [if_neg (fun h' => h'.elim (fun h' => h' h0) h), if_neg (fun h' => h'.elim (fun h' => h' h0) (by omega))]
      · rw [if_pos (.inl h0), if_pos (.inl h0)]
    rw [bw]
    by_cases hbad : m ≠ 0 ∨ b < -150000 ∨ 150000 < b
    · rw [if_pos hbad]
      have EA := fun w => REk_any w 2 (by decide)
      obtain ⟨⟨k0, n0, t0, b0, e0'⟩, hev⟩ : ∃ v, mkE 2 = v := ⟨_, rfl⟩
      rw [hev] at EA ⊢
      unfold Vl.val at EA
      (try unfold Vl.val)
      simp only at EA ⊢
      clear hev
      have hcc : (m != 0) = true ∨ (m != 0) = false ∧ b < -150000 ∨ (m != 0) = false ∧ ¬ b < -150000 ∧ 150000 < b := by
        by_cases h1 : m = 0
        · by_cases h2 : b < -150000
          · exact .inr (.inl ⟨by simpa using h1, h2⟩)
          · exact .inr (.inr ⟨by simpa using h1, h2, hbad.elim (fun h => absurd h1 h) (fun h => h.elim (fun h => absurd h h2) id)⟩)
        · exact .inl (by simpa using h1)
      clear ha hb hra hrb hm hwm hbad bw hzz
      rcases hcc with h1 | ⟨h1, h2⟩ | ⟨h1, h2, h3⟩
      · go_enter Tryz.func55, Tryz.ntmps55
        go_wp2_with fail
        with_reducible refine Calls.mono (EA _) ?_
        rintro e w9 ⟨rfl, u9⟩
        have HU9 := hide (HU0.out.then u9 (fun _ _ => id))
        have bV := u9.get HV0.out id
        obtain ⟨v0, v1, v2, v3, v4⟩ := cells5 bV
        have vl := lt_at bV
        have fv0 := free_at bV 0
        have fv1 := free_at bV 1
        have fv2 := free_at bV 2
        have fv3 := free_at bV 3
        have fv4 := free_at bV 4
        have HB := hide bV
        clear bV u9
        go_wp2_with fail
        (try simp only [Exit.inBlock, Exit.then])
        refine bodyPost_ret (ret_rv rfl _ _ (w.heap.size) ⟨k0, n0, t0, b0, e0'⟩ rfl (rblock5 (x := vZero) HB.out _ _ _ _ _)) rfl ?_
        exact ⟨rfl, upd5 HU9.out (by omega) _ _ _ _ _⟩
      · go_enter Tryz.func55, Tryz.ntmps55
        go_wp2_with fail
        with_reducible refine Calls.mono (EA _) ?_
        rintro e w9 ⟨rfl, u9⟩
        have HU9 := hide (HU0.out.then u9 (fun _ _ => id))
        have bV := u9.get HV0.out id
        obtain ⟨v0, v1, v2, v3, v4⟩ := cells5 bV
        have vl := lt_at bV
        have fv0 := free_at bV 0
        have fv1 := free_at bV 1
        have fv2 := free_at bV 2
        have fv3 := free_at bV 3
        have fv4 := free_at bV 4
        have HB := hide bV
        clear bV u9
        go_wp2_with fail
        (try simp only [Exit.inBlock, Exit.then])
        refine bodyPost_ret (ret_rv rfl _ _ (w.heap.size) ⟨k0, n0, t0, b0, e0'⟩ rfl (rblock5 (x := vZero) HB.out _ _ _ _ _)) rfl ?_
        exact ⟨rfl, upd5 HU9.out (by omega) _ _ _ _ _⟩
      · go_enter Tryz.func55, Tryz.ntmps55
        go_wp2_with fail
        with_reducible refine Calls.mono (EA _) ?_
        rintro e w9 ⟨rfl, u9⟩
        have HU9 := hide (HU0.out.then u9 (fun _ _ => id))
        have bV := u9.get HV0.out id
        obtain ⟨v0, v1, v2, v3, v4⟩ := cells5 bV
        have vl := lt_at bV
        have fv0 := free_at bV 0
        have fv1 := free_at bV 1
        have fv2 := free_at bV 2
        have fv3 := free_at bV 3
        have fv4 := free_at bV 4
        have HB := hide bV
        clear bV u9
        go_wp2_with fail
        (try simp only [Exit.inBlock, Exit.then])
        refine bodyPost_ret (ret_rv rfl _ _ (w.heap.size) ⟨k0, n0, t0, b0, e0'⟩ rfl (rblock5 (x := vZero) HB.out _ _ _ _ _)) rfl ?_
        exact ⟨rfl, upd5 HU9.out (by omega) _ _ _ _ _⟩
    · rw [if_neg hbad]
      have h1 : m = 0 := Decidable.not_not.1 fun h => hbad (.inl h)
      have h2 : ¬ b < -150000 := fun h => hbad (.inr (.inl h))
      have h3 : ¬ 150000 < b := fun h => hbad (.inr (.inr h))
      have e1 := hwm h1
      have bm : (m != 0) = false := by simpa using h1
      have z1 : -15 ≤ z := by omega
      have z2 : z ≤ 15 := by omega
      have wz : IntKind.i64.wrap z = z := by rw [IntWalk.i64_in _ (by omega)]
      have UA := fun w => up_any w a z ha z1 z2
      rw [← rup_up ha z1 z2] at UA
      obtain ⟨⟨k0, n0, t0, b0, e0'⟩, hev⟩ : ∃ v, rupF a z = v := ⟨_, rfl⟩
      rw [hev] at UA ⊢
      unfold Vl.val at UA
      (try unfold Vl.val)
      simp only at UA ⊢
      clear hev
      clear ha hb hra hrb hm hwm hbad bw h1 e1 z1 z2
      go_enter Tryz.func55, Tryz.ntmps55
      go_wp2_with fail
      with_reducible refine Calls.mono (UA _) ?_
      rintro e w9 ⟨rfl, u9⟩
      have HU9 := hide (HU0.out.then u9 (fun _ _ => id))
      have bV := u9.get HV0.out id
      obtain ⟨v0, v1, v2, v3, v4⟩ := cells5 bV
      have vl := lt_at bV
      have fv0 := free_at bV 0
      have fv1 := free_at bV 1
      have fv2 := free_at bV 2
      have fv3 := free_at bV 3
      have fv4 := free_at bV 4
      have HB := hide bV
      clear bV u9
      go_wp2_with fail
      (try simp only [Exit.inBlock, Exit.then])
      refine bodyPost_ret (ret_rv rfl _ _ (w.heap.size) ⟨k0, n0, t0, b0, e0'⟩ rfl (rblock5 (x := vZero) HB.out _ _ _ _ _)) rfl ?_
      exact ⟨rfl, upd5 HU9.out (by omega) _ _ _ _ _⟩
  · have er : pairV n a b = tldV (remF a b) := by rw [hn]; rfl
    rw [er]
    clear er hn
    have MA := (remB a b).2
    obtain ⟨⟨p, c⟩, hp⟩ : ∃ r, remF a b = r := ⟨_, rfl⟩
    rw [hp] at MA ⊢
    simp only at MA
    have TO := fun w => RTold_any w p c
    obtain ⟨⟨k0, n0, t0, b0, e0'⟩, hev⟩ : ∃ v, tldV (p, c) = v := ⟨_, rfl⟩
    rw [hev] at TO ⊢
    unfold Vl.val at TO
    (try unfold Vl.val)
    simp only at TO ⊢
    clear hev
    clear ha hb hra hrb hp
    go_enter Tryz.func55, Tryz.ntmps55
    go_wp2_with fail
    with_reducible refine Calls.mono (MA _) ?_
    rintro e w1 ⟨rfl, u1⟩
    have HU1 := hide (HU0.out.then u1 (fun _ _ => id))
    have HV1 := hide (u1.get HV0.out id)
    clear u1
    go_wp2_with fail
    with_reducible refine Calls.mono (TO _) ?_
    rintro e w9 ⟨rfl, u9⟩
    have HU9 := hide (HU1.out.then u9 (fun _ _ => id))
    have bV := u9.get HV1.out id
    obtain ⟨v0, v1, v2, v3, v4⟩ := cells5 bV
    have vl := lt_at bV
    have fv0 := free_at bV 0
    have fv1 := free_at bV 1
    have fv2 := free_at bV 2
    have fv3 := free_at bV 3
    have fv4 := free_at bV 4
    have HB := hide bV
    clear bV u9
    go_wp2_with fail
    (try simp only [Exit.inBlock, Exit.then])
    refine bodyPost_ret (ret_rv rfl _ _ (w.heap.size) ⟨k0, n0, t0, b0, e0'⟩ rfl (rblock5 (x := vZero) HB.out _ _ _ _ _)) rfl ?_
    exact ⟨rfl, upd5 HU9.out (by omega) _ _ _ _ _⟩
  · have er : pairV n a b = quotV a b := by rw [hn]; rfl
    rw [er]
    clear er hn
    unfold quotV
    by_cases h : b = 0
    · subst h
      rw [if_pos rfl]
      have EA := fun w => REk_any w 1 (by decide)
      obtain ⟨⟨k0, n0, t0, b0, e0'⟩, hev⟩ : ∃ v, mkE 1 = v := ⟨_, rfl⟩
      rw [hev] at EA ⊢
      unfold Vl.val at EA
      (try unfold Vl.val)
      simp only at EA ⊢
      clear hev
      clear ha hb hra hrb
      go_enter Tryz.func55, Tryz.ntmps55
      go_wp2_with fail
      with_reducible refine Calls.mono (EA _) ?_
      rintro e w9 ⟨rfl, u9⟩
      have HU9 := hide (HU0.out.then u9 (fun _ _ => id))
      have bV := u9.get HV0.out id
      obtain ⟨v0, v1, v2, v3, v4⟩ := cells5 bV
      have vl := lt_at bV
      have fv0 := free_at bV 0
      have fv1 := free_at bV 1
      have fv2 := free_at bV 2
      have fv3 := free_at bV 3
      have fv4 := free_at bV 4
      have HB := hide bV
      clear bV u9
      go_wp2_with fail
      (try simp only [Exit.inBlock, Exit.then])
      refine bodyPost_ret (ret_rv rfl _ _ (w.heap.size) ⟨k0, n0, t0, b0, e0'⟩ rfl (rblock5 (x := vZero) HB.out _ _ _ _ _)) rfl ?_
      exact ⟨rfl, upd5 HU9.out (by omega) _ _ _ _ _⟩
    · rw [if_neg h]
      have b1 : (b == 0) = false := by simpa using h
      have hle : (a.tdiv b).natAbs ≤ a.natAbs := by rw [Int.natAbs_tdiv]; exact Nat.div_le_self _ _
      obtain ⟨Q, hQ⟩ : ∃ Q, a.tdiv b = Q := ⟨_, rfl⟩
      rw [hQ] at hle ⊢
      have w1 : IntKind.i64.wrap Q = Q := by rw [IntWalk.i64_in _ (by omega)]
      by_cases hw : wholeOk Q = true
      · rw [if_pos hw]
        simp only [wholeOk, Bool.and_eq_true, decide_eq_true_eq] at hw
        have g1 : ¬ 900000000000000 < Q := by omega
        have g2 : ¬ Q < -900000000000000 := by omega
        obtain ⟨P, hP⟩ : ∃ P, 10000 * Q = P := ⟨_, rfl⟩
        have w2 : IntKind.i64.wrap P = P := by rw [IntWalk.i64_in _ (by omega)]
        have eP : Q * 10000 = P := by omega
        rw [eP]
        have TO := fun w => RTold_any w P 0
        have et : tldV (P, 0) = mkN P := rfl
        rw [et] at TO
        obtain ⟨⟨k0, n0, t0, b0, e0'⟩, hev⟩ : ∃ v, mkN P = v := ⟨_, rfl⟩
        rw [hev] at TO ⊢
        unfold Vl.val at TO
        (try unfold Vl.val)
        simp only at TO ⊢
        clear hev
        clear ha hb hra hrb hle hw eP et
        go_enter Tryz.func55, Tryz.ntmps55
        go_wp2_with fail
        with_reducible refine Calls.mono (TO _) ?_
        rintro e w9 ⟨rfl, u9⟩
        have HU9 := hide (HU0.out.then u9 (fun _ _ => id))
        have bV := u9.get HV0.out id
        obtain ⟨v0, v1, v2, v3, v4⟩ := cells5 bV
        have vl := lt_at bV
        have fv0 := free_at bV 0
        have fv1 := free_at bV 1
        have fv2 := free_at bV 2
        have fv3 := free_at bV 3
        have fv4 := free_at bV 4
        have HB := hide bV
        clear bV u9
        go_wp2_with fail
        (try simp only [Exit.inBlock, Exit.then])
        refine bodyPost_ret (ret_rv rfl _ _ (w.heap.size) ⟨k0, n0, t0, b0, e0'⟩ rfl (rblock5 (x := vZero) HB.out _ _ _ _ _)) rfl ?_
        exact ⟨rfl, upd5 HU9.out (by omega) _ _ _ _ _⟩
      · rw [if_neg hw]
        have EA := fun w => REk_any w 2 (by decide)
        have hcc : 900000000000000 < Q ∨ ¬ 900000000000000 < Q ∧ Q < -900000000000000 := by
          by_cases h1 : 900000000000000 < Q
          · exact .inl h1
          · refine .inr ⟨h1, ?_⟩
            simp only [wholeOk, Bool.and_eq_true, decide_eq_true_eq] at hw
            omega
        obtain ⟨⟨k0, n0, t0, b0, e0'⟩, hev⟩ : ∃ v, mkE 2 = v := ⟨_, rfl⟩
        rw [hev] at EA ⊢
        unfold Vl.val at EA
        (try unfold Vl.val)
        simp only at EA ⊢
        clear hev
        clear ha hb hra hrb hle hw
        rcases hcc with g1 | ⟨g1, g2⟩
        · go_enter Tryz.func55, Tryz.ntmps55
          go_wp2_with fail
          with_reducible refine Calls.mono (EA _) ?_
          rintro e w9 ⟨rfl, u9⟩
          have HU9 := hide (HU0.out.then u9 (fun _ _ => id))
          have bV := u9.get HV0.out id
          obtain ⟨v0, v1, v2, v3, v4⟩ := cells5 bV
          have vl := lt_at bV
          have fv0 := free_at bV 0
          have fv1 := free_at bV 1
          have fv2 := free_at bV 2
          have fv3 := free_at bV 3
          have fv4 := free_at bV 4
          have HB := hide bV
          clear bV u9
          go_wp2_with fail
          (try simp only [Exit.inBlock, Exit.then])
          refine bodyPost_ret (ret_rv rfl _ _ (w.heap.size) ⟨k0, n0, t0, b0, e0'⟩ rfl (rblock5 (x := vZero) HB.out _ _ _ _ _)) rfl ?_
          exact ⟨rfl, upd5 HU9.out (by omega) _ _ _ _ _⟩
        · go_enter Tryz.func55, Tryz.ntmps55
          go_wp2_with fail
          with_reducible refine Calls.mono (EA _) ?_
          rintro e w9 ⟨rfl, u9⟩
          have HU9 := hide (HU0.out.then u9 (fun _ _ => id))
          have bV := u9.get HV0.out id
          obtain ⟨v0, v1, v2, v3, v4⟩ := cells5 bV
          have vl := lt_at bV
          have fv0 := free_at bV 0
          have fv1 := free_at bV 1
          have fv2 := free_at bV 2
          have fv3 := free_at bV 3
          have fv4 := free_at bV 4
          have HB := hide bV
          clear bV u9
          go_wp2_with fail
          (try simp only [Exit.inBlock, Exit.then])
          refine bodyPost_ret (ret_rv rfl _ _ (w.heap.size) ⟨k0, n0, t0, b0, e0'⟩ rfl (rblock5 (x := vZero) HB.out _ _ _ _ _)) rfl ?_
          exact ⟨rfl, upd5 HU9.out (by omega) _ _ _ _ _⟩
  · have er : pairV n a b = powV a b := by rw [hn]; rfl
    rw [er]
    clear er hn
    have PA := fun w => RPower_any w a b hb
    obtain ⟨⟨k0, n0, t0, b0, e0'⟩, hev⟩ : ∃ v, powV a b = v := ⟨_, rfl⟩
    rw [hev] at PA ⊢
    unfold Vl.val at PA
    (try unfold Vl.val)
    simp only at PA ⊢
    clear hev
    clear ha hb hra hrb
    go_enter Tryz.func55, Tryz.ntmps55
    go_wp2_with fail
    with_reducible refine Calls.mono (PA _) ?_
    rintro e w9 ⟨rfl, u9⟩
    have HU9 := hide (HU0.out.then u9 (fun _ _ => id))
    have bV := u9.get HV0.out id
    obtain ⟨v0, v1, v2, v3, v4⟩ := cells5 bV
    have vl := lt_at bV
    have fv0 := free_at bV 0
    have fv1 := free_at bV 1
    have fv2 := free_at bV 2
    have fv3 := free_at bV 3
    have fv4 := free_at bV 4
    have HB := hide bV
    clear bV u9
    go_wp2_with fail
    (try simp only [Exit.inBlock, Exit.then])
    refine bodyPost_ret (ret_rv rfl _ _ (w.heap.size) ⟨k0, n0, t0, b0, e0'⟩ rfl (rblock5 (x := vZero) HB.out _ _ _ _ _)) rfl ?_
    exact ⟨rfl, upd5 HU9.out (by omega) _ _ _ _ _⟩
  · have er : pairV n a b = gcdV a b := by rw [hn]; rfl
    rw [er]
    clear er hn
    unfold gcdV
    have hma := tmod_rng a 10000 (by decide)
    have hmb := tmod_rng b 10000 (by decide)
    obtain ⟨ma, ea⟩ : ∃ m, a.tmod 10000 = m := ⟨_, rfl⟩
    obtain ⟨mb, eb⟩ : ∃ m, b.tmod 10000 = m := ⟨_, rfl⟩
    rw [ea] at hma
    rw [eb] at hmb
    rw [ea, eb]
    have wma : IntKind.i64.wrap ma = ma := by rw [IntWalk.i64_in _ (by omega)]
    have wmb : IntKind.i64.wrap mb = mb := by rw [IntWalk.i64_in _ (by omega)]
    by_cases hbad : ma ≠ 0 ∨ mb ≠ 0 ∨ a < 0 ∨ b < 0
    · rw [if_pos hbad]
      have EA := fun w => REk_any w 2 (by decide)
      obtain ⟨⟨k0, n0, t0, b0, e0'⟩, hev⟩ : ∃ v, mkE 2 = v := ⟨_, rfl⟩
      rw [hev] at EA ⊢
      unfold Vl.val at EA
      (try unfold Vl.val)
      simp only at EA ⊢
      clear hev
      have hcc : (ma != 0) = true ∨ (ma != 0) = false ∧ (mb != 0) = true ∨ (ma != 0) = false ∧ (mb != 0) = false ∧ a < 0 ∨ (ma != 0) = false ∧ (mb != 0) = false ∧ ¬ a < 0 ∧ b < 0 := by
        by_cases h1 : ma = 0
        · by_cases h2 : mb = 0
          · by_cases h3 : a < 0
            · exact .inr (.inr (.inl ⟨by simpa using h1, by simpa using h2, h3⟩))
            · exact .inr (.inr (.inr ⟨by simpa using h1, by simpa using h2, h3, hbad.elim (fun h => absurd h1 h) (fun h => h.elim (fun h => absurd h2 h) (fun h => h.elim (fun h => absurd h h3) id))⟩))
          · exact .inr (.inl ⟨by simpa using h1, by simpa using h2⟩)
        · exact .inl (by simpa using h1)
      clear ha hb hra hrb hma hmb hbad
      rcases hcc with h1 | ⟨h1, h2⟩ | ⟨h1, h2, h3⟩ | ⟨h1, h2, h3, h4⟩
      · go_enter Tryz.func55, Tryz.ntmps55
        go_wp2_with fail
        with_reducible refine Calls.mono (EA _) ?_
        rintro e w9 ⟨rfl, u9⟩
        have HU9 := hide (HU0.out.then u9 (fun _ _ => id))
        have bV := u9.get HV0.out id
        obtain ⟨v0, v1, v2, v3, v4⟩ := cells5 bV
        have vl := lt_at bV
        have fv0 := free_at bV 0
        have fv1 := free_at bV 1
        have fv2 := free_at bV 2
        have fv3 := free_at bV 3
        have fv4 := free_at bV 4
        have HB := hide bV
        clear bV u9
        go_wp2_with fail
        (try simp only [Exit.inBlock, Exit.then])
        refine bodyPost_ret (ret_rv rfl _ _ (w.heap.size) ⟨k0, n0, t0, b0, e0'⟩ rfl (rblock5 (x := vZero) HB.out _ _ _ _ _)) rfl ?_
        exact ⟨rfl, upd5 HU9.out (by omega) _ _ _ _ _⟩
      · go_enter Tryz.func55, Tryz.ntmps55
        go_wp2_with fail
        with_reducible refine Calls.mono (EA _) ?_
        rintro e w9 ⟨rfl, u9⟩
        have HU9 := hide (HU0.out.then u9 (fun _ _ => id))
        have bV := u9.get HV0.out id
        obtain ⟨v0, v1, v2, v3, v4⟩ := cells5 bV
        have vl := lt_at bV
        have fv0 := free_at bV 0
        have fv1 := free_at bV 1
        have fv2 := free_at bV 2
        have fv3 := free_at bV 3
        have fv4 := free_at bV 4
        have HB := hide bV
        clear bV u9
        go_wp2_with fail
        (try simp only [Exit.inBlock, Exit.then])
        refine bodyPost_ret (ret_rv rfl _ _ (w.heap.size) ⟨k0, n0, t0, b0, e0'⟩ rfl (rblock5 (x := vZero) HB.out _ _ _ _ _)) rfl ?_
        exact ⟨rfl, upd5 HU9.out (by omega) _ _ _ _ _⟩
      · go_enter Tryz.func55, Tryz.ntmps55
        go_wp2_with fail
        with_reducible refine Calls.mono (EA _) ?_
        rintro e w9 ⟨rfl, u9⟩
        have HU9 := hide (HU0.out.then u9 (fun _ _ => id))
        have bV := u9.get HV0.out id
        obtain ⟨v0, v1, v2, v3, v4⟩ := cells5 bV
        have vl := lt_at bV
        have fv0 := free_at bV 0
        have fv1 := free_at bV 1
        have fv2 := free_at bV 2
        have fv3 := free_at bV 3
        have fv4 := free_at bV 4
        have HB := hide bV
        clear bV u9
        go_wp2_with fail
        (try simp only [Exit.inBlock, Exit.then])
        refine bodyPost_ret (ret_rv rfl _ _ (w.heap.size) ⟨k0, n0, t0, b0, e0'⟩ rfl (rblock5 (x := vZero) HB.out _ _ _ _ _)) rfl ?_
        exact ⟨rfl, upd5 HU9.out (by omega) _ _ _ _ _⟩
      · go_enter Tryz.func55, Tryz.ntmps55
        go_wp2_with fail
        with_reducible refine Calls.mono (EA _) ?_
        rintro e w9 ⟨rfl, u9⟩
        have HU9 := hide (HU0.out.then u9 (fun _ _ => id))
        have bV := u9.get HV0.out id
        obtain ⟨v0, v1, v2, v3, v4⟩ := cells5 bV
        have vl := lt_at bV
        have fv0 := free_at bV 0
        have fv1 := free_at bV 1
        have fv2 := free_at bV 2
        have fv3 := free_at bV 3
        have fv4 := free_at bV 4
        have HB := hide bV
        clear bV u9
        go_wp2_with fail
        (try simp only [Exit.inBlock, Exit.then])
        refine bodyPost_ret (ret_rv rfl _ _ (w.heap.size) ⟨k0, n0, t0, b0, e0'⟩ rfl (rblock5 (x := vZero) HB.out _ _ _ _ _)) rfl ?_
        exact ⟨rfl, upd5 HU9.out (by omega) _ _ _ _ _⟩
    · rw [if_neg hbad]
      have h1 : (ma != 0) = false := by simpa using (Decidable.not_not.1 fun h => hbad (.inl h) : ma = 0)
      have h2 : (mb != 0) = false := by simpa using (Decidable.not_not.1 fun h => hbad (.inr (.inl h)) : mb = 0)
      have h3 : ¬ a < 0 := fun h => hbad (.inr (.inr (.inl h)))
      have h4 : ¬ b < 0 := fun h => hbad (.inr (.inr (.inr h)))
      obtain ⟨A, rfl⟩ : ∃ A : Nat, a = A := ⟨a.toNat, by omega⟩
      obtain ⟨B, rfl⟩ : ∃ B : Nat, b = B := ⟨b.toNat, by omega⟩
      simp only [Int.natAbs_natCast]
      have GA := fun w => RGcd_any B B (Nat.le_refl _) A w (by omega) (by omega)
      obtain ⟨G, hG⟩ : ∃ G, Nat.gcd A B = G := ⟨_, rfl⟩
      rw [hG] at GA ⊢
      have TO := fun w => RTold_any w (G : Int) 0
      have et : tldV ((G : Int), 0) = mkN (G : Nat) := rfl
      rw [et] at TO
      obtain ⟨⟨k0, n0, t0, b0, e0'⟩, hev⟩ : ∃ v, mkN (G : Nat) = v := ⟨_, rfl⟩
      rw [hev] at TO ⊢
      unfold Vl.val at TO
      (try unfold Vl.val)
      simp only at TO ⊢
      clear hev
      clear ha hb hra hrb hma hmb hbad hG et
      go_enter Tryz.func55, Tryz.ntmps55
      go_wp2_with fail
      with_reducible refine Calls.mono (GA _) ?_
      rintro e w8 ⟨rfl, hw8⟩
      obtain rfl := hw8.symm
      clear hw8
      go_wp2_with fail
      with_reducible refine Calls.mono (TO _) ?_
      rintro e w9 ⟨rfl, u9⟩
      have HU9 := hide (HU0.out.then u9 (fun _ _ => id))
      have bV := u9.get HV0.out id
      obtain ⟨v0, v1, v2, v3, v4⟩ := cells5 bV
      have vl := lt_at bV
      have fv0 := free_at bV 0
      have fv1 := free_at bV 1
      have fv2 := free_at bV 2
      have fv3 := free_at bV 3
      have fv4 := free_at bV 4
      have HB := hide bV
      clear bV u9
      go_wp2_with fail
      (try simp only [Exit.inBlock, Exit.then])
      refine bodyPost_ret (ret_rv rfl _ _ (w.heap.size) ⟨k0, n0, t0, b0, e0'⟩ rfl (rblock5 (x := vZero) HB.out _ _ _ _ _)) rfl ?_
      exact ⟨rfl, upd5 HU9.out (by omega) _ _ _ _ _⟩
  · have er : pairV n a b = ratioV a b := by unfold pairV; rw [if_neg n1, if_neg n2, if_neg n3, if_neg n4, if_neg n5, if_neg n6]
    rw [er]
    clear er n1 n2 n3 n4 n5 n6
    unfold ratioV
    by_cases h : b = 0
    · subst h
      rw [if_pos rfl]
      obtain ⟨p, p1, -, -⟩ := Fl.To_cases a ha
      obtain ⟨q, q1, -, -⟩ := Fl.To_cases 0 hb
      have hp := fun w => run_float_arith (P := Tryz.prog) w .quo 123 .f64 _ _ p p1
      have hq := fun w => run_float_arith (P := Tryz.prog) w .quo 123 .f64 _ _ q q1
      have EA := fun w => REk_any w 1 (by decide)
      obtain ⟨⟨k0, n0, t0, b0, e0'⟩, hev⟩ : ∃ v, mkE 1 = v := ⟨_, rfl⟩
      rw [hev] at EA ⊢
      unfold Vl.val at EA
      (try unfold Vl.val)
      simp only at EA ⊢
      clear hev
      clear ha hb hra hrb p1 q1
      go_enter Tryz.func55, Tryz.ntmps55
      go_wp2_with fail
      with_reducible refine Calls.mono (EA _) ?_
      rintro e w9 ⟨rfl, u9⟩
      have HU9 := hide (HU0.out.then u9 (fun _ _ => id))
      have bV := u9.get HV0.out id
      obtain ⟨v0, v1, v2, v3, v4⟩ := cells5 bV
      have vl := lt_at bV
      have fv0 := free_at bV 0
      have fv1 := free_at bV 1
      have fv2 := free_at bV 2
      have fv3 := free_at bV 3
      have fv4 := free_at bV 4
      have HB := hide bV
      clear bV u9
      go_wp2_with fail
      (try simp only [Exit.inBlock, Exit.then])
      refine bodyPost_ret (ret_rv rfl _ _ (w.heap.size) ⟨k0, n0, t0, b0, e0'⟩ rfl (rblock5 (x := vZero) HB.out _ _ _ _ _)) rfl ?_
      exact ⟨rfl, upd5 HU9.out (by omega) _ _ _ _ _⟩
    · rw [if_neg h]
      have b1 : (b == 0) = false := by simpa using h
      obtain ⟨p, q, p1, q1, r1, hr, -, -⟩ := ratR_spec ha hb h
      obtain ⟨r, hrr⟩ : ∃ r, ratR a b = r := ⟨_, rfl⟩
      rw [hrr] at r1 hr ⊢
      have hp := fun w => run_float_arith (P := Tryz.prog) w .quo 123 .f64 _ _ p p1
      have hq := fun w => run_float_arith (P := Tryz.prog) w .quo 123 .f64 _ _ q q1
      have hrn := fun w => run_float_arith (P := Tryz.prog) w .quo 123 .f64 p q r r1
      have HB := fun w => Fl.bits64 r w
      have FA := fun w => Fl.RefFrom_any w r hr
      obtain ⟨vv, hv⟩ : ∃ p, Fl.fromVal r = p := ⟨_, rfl⟩
      obtain ⟨c, hc⟩ : ∃ c, Fl.fromErr r = c := ⟨_, rfl⟩
      rw [hv, hc] at FA ⊢
      have TO := fun w => RTold_any w vv c
      obtain ⟨⟨k0, n0, t0, b0, e0'⟩, hev⟩ : ∃ v, tldV (vv, c) = v := ⟨_, rfl⟩
      rw [hev] at TO ⊢
      unfold Vl.val at TO
      (try unfold Vl.val)
      simp only at TO ⊢
      clear hev
      clear ha hb hra hrb p1 q1 r1 hr hv hc hrr h
      go_enter Tryz.func55, Tryz.ntmps55
      go_wp2_with fail
      with_reducible refine Calls.mono (FA _) ?_
      rintro e w1 ⟨rfl, u1⟩
      have HU1 := hide (HU0.out.then u1 (fun _ _ => id))
      have HV1 := hide (u1.get HV0.out id)
      clear u1
      go_wp2_with fail
      with_reducible refine Calls.mono (TO _) ?_
      rintro e w9 ⟨rfl, u9⟩
      have HU9 := hide (HU1.out.then u9 (fun _ _ => id))
      have bV := u9.get HV1.out id
      obtain ⟨v0, v1, v2, v3, v4⟩ := cells5 bV
      have vl := lt_at bV
      have fv0 := free_at bV 0
      have fv1 := free_at bV 1
      have fv2 := free_at bV 2
      have fv3 := free_at bV 3
      have fv4 := free_at bV 4
      have HB := hide bV
      clear bV u9
      go_wp2_with fail
      (try simp only [Exit.inBlock, Exit.then])
      refine bodyPost_ret (ret_rv rfl _ _ (w.heap.size) ⟨k0, n0, t0, b0, e0'⟩ rfl (rblock5 (x := vZero) HB.out _ _ _ _ _)) rfl ?_
      exact ⟨rfl, upd5 HU9.out (by omega) _ _ _ _ _⟩
end Go.Proofs.YtmfngdjhkpddoaaGreatDoor
namespace Go.Proofs.YtmfngdjhkpddoaaGreatDoor
open Go.RowKit Go.Lat Go.Lib
theorem Tryz.infoI64 : (Tryz.prog.info? 2).map (fun i => (i.zero, i.size, i.bytes)) = some (some (.int .i64 0), 1, 8) := by kernel_rfl
set_option maxHeartbeats 6400000 in
theorem RCall_any (w : World) (n : List UInt8) (l : List Vl) (p : Option Addr) (pc : Nat) (hr : RdV w p l) (ho : oksV l) (hl : l.length ≤ 1000000) :
    Calls Tryz.prog 20 #[enS n, .slice p l.length pc] w fun e w' => e = .returned (.tuple #[(callN n l).1.val, .bool (callN n l).2]) ∧ Upd w w' (fun _ => False) := by
  obtain ⟨i0, hi, hz0, hz1, hz2⟩ := info_p Tryz.infoI64
  have TK := fun w => RTakes_any w n
  have HU0 : Hid (Upd w (w.alloc (.cells #[.int .i64 0, .int .i64 0, .string ⟨#[]⟩, .bool false, .int .i64 0] 36)) (fun _ => False)) := hide ((Upd.refl w _).alloc _)
  have HV0 : Hid ((w.alloc (.cells #[.int .i64 0, .int .i64 0, .string ⟨#[]⟩, .bool false, .int .i64 0] 36)).heap[w.heap.size]? = some (.cells #[.int .i64 0, .int .i64 0, .string ⟨#[]⟩, .bool false, .int .i64 0] 36 (0, 0))) := hide (Vnew1 w _)
  unfold callN
  by_cases h0 : takesN n = 0
  · rw [if_pos h0]
    rw [h0] at TK
    unfold Vl.val vZero
    simp only
    clear h0 hr ho hi hz0 hz1 hz2
    go_enter Tryz.func20, Tryz.ntmps20
    go_wp2_with fail
    with_reducible refine Calls.mono (TK _) ?_
    rintro e w8 ⟨rfl, hw8⟩
    obtain rfl := hw8.symm
    clear hw8
    go_wp2_with fail
    (try simp only [Exit.inBlock, Exit.then])
    refine bodyPost_ret (ret_rvb rfl _ _ w.heap.size ⟨0, 0, [], false, 0⟩ rfl (Vnew1 w _)) rfl ?_
    exact ⟨rfl, HU0.out⟩
  rw [if_neg h0]
  by_cases hlen : (l.length : Int) ≠ takesN n
  · rw [if_pos hlen]
    have EA := fun w => REk_any w 3 (by decide)
    simp only
    obtain ⟨t, ht⟩ : ∃ t, takesN n = t := ⟨_, rfl⟩
    rw [ht] at TK h0 hlen
    have b1 : (t == 0) = false := by simpa using h0
    have b2 : ((l.length : Int) != t) = true := by simpa using hlen
    obtain ⟨N, hN⟩ : ∃ N, l.length = N := ⟨_, rfl⟩
    rw [hN] at b2 ⊢
    obtain ⟨⟨k0, n0, t0, b0, e0'⟩, hev⟩ : ∃ v, mkE 3 = v := ⟨_, rfl⟩
    rw [hev] at EA ⊢
    unfold Vl.val at EA
    (try unfold Vl.val)
    simp only at EA ⊢
    clear hev
    clear h0 hlen ht hN hr ho hi hz0 hz1 hz2
    go_enter Tryz.func20, Tryz.ntmps20
    go_wp2_with fail
    with_reducible refine Calls.mono (TK _) ?_
    rintro e w8 ⟨rfl, hw8⟩
    obtain rfl := hw8.symm
    clear hw8
    go_wp2_with fail
    with_reducible refine Calls.mono (EA _) ?_
    rintro e w9 ⟨rfl, u9⟩
    have HU9 := hide (HU0.out.then u9 (fun _ _ => id))
    have bV := u9.get HV0.out id
    obtain ⟨v0, v1, v2, v3, v4⟩ := cells5 bV
    have vl := lt_at bV
    have fv0 := free_at bV 0
    have fv1 := free_at bV 1
    have fv2 := free_at bV 2
    have fv3 := free_at bV 3
    have fv4 := free_at bV 4
    have HB := hide bV
    clear bV u9
    go_wp2_with fail
    (try simp only [Exit.inBlock, Exit.then])
    refine bodyPost_ret (ret_rvb rfl _ _ (w.heap.size) ⟨k0, n0, t0, b0, e0'⟩ rfl (rblock5 (x := vZero) HB.out _ _ _ _ _)) rfl ?_
    exact ⟨rfl, upd5 HU9.out (by omega) _ _ _ _ _⟩
  rw [if_neg hlen]
  have hlen' : (l.length : Int) = takesN n := Decidable.not_not.1 hlen
  have ONE := fun a ha => fun w => one_any w n a ha
  have TWO := fun a b ha hb => fun w => two_any w n a b ha hb
  have h012 := takes_012 n
  obtain ⟨⟨⟨k0, n0, t0, b0, e0'⟩, q0⟩, hev⟩ : ∃ v, (if numsE l ≠ 0 then (mkE (numsE l), true) else if takesN n = 1 then (aloneV n ((numsN l).getD 0 0), true) else (pairV n ((numsN l).getD 0 0) ((numsN l).getD 1 0), true)) = v := ⟨_, rfl⟩
  rw [hev]
  unfold Vl.val
  simp only
  have hq0 : q0 = true := by
    have := congrArg Prod.snd hev
    simp only at this
    rw [← this]
    split
    · rfl
    · split <;> rfl
  subst hq0
  obtain ⟨t, ht⟩ : ∃ t, takesN n = t := ⟨_, rfl⟩
  rw [ht] at TK h0 hlen' h012 hev
  have b1 : (t == 0) = false := by simpa using h0
  have b2 : ((l.length : Int) != t) = false := by simpa using hlen'
  obtain ⟨N, hN⟩ : ∃ N, l.length = N := ⟨_, rfl⟩
  rw [hN] at b2 hl hlen' ⊢
  have HN := hide hN
  have HR := hide hr
  have HO := hide ho
  have HEV := hide hev
  have HT := hide (And.intro hlen' (h012.resolve_left h0))
  clear hN hr ho hev hlen hlen' h012 h0 ht
  go_enter Tryz.func20, Tryz.ntmps20
  go_wp2_with fail
  with_reducible refine Calls.mono (TK _) ?_
  rintro e w8 ⟨rfl, hw8⟩
  obtain rfl := hw8.symm
  clear hw8
  go_wp2_with fail
  obtain ⟨W, hW⟩ : ∃ W, w.alloc (.cells #[.int .i64 0, .int .i64 0, .string ⟨#[]⟩, .bool false, .int .i64 0] 36) = W := ⟨_, rfl⟩
  rw [hW] at HU0 HV0 ⊢
  clear hW
  go_loopg [7, 8] N (fun q ov iv wr => ∃ (k : Nat) (a : Option Addr) (c : Nat), k + q = N ∧ iv = .int .i64 k ∧ ov = .slice a k c ∧ numsE (l.take k) = 0 ∧ Rw wr 2 1 (.slice a k c) k (nmCells (numsN (l.take k))) ∧ (∀ j, (Value.slice a k c).ownBlock = some j → W.heap.size ≤ j) ∧ Upd W wr (fun _ => False))
  case atStart => exact ⟨0, none, 0, by omega, rfl, rfl, rfl, Rw.nil _ _ _, by simp [Value.ownBlock], Upd.refl _ _⟩
  case round =>
    obtain ⟨k, a, c, hk, rfl, rfl, hE, hrw, ha, hu⟩ := hrel
    have HUW := hide (HU0.out.then hu (fun _ _ => id))
    have HVW := hide (hu.get HV0.out id)
    by_cases hkN : k < N
    · obtain ⟨x, hx⟩ : ∃ x, l[k]? = some x := ⟨_, List.getElem?_eq_getElem (by rw [HN.out]; exact hkN)⟩
      obtain ⟨g, off, rfl, hg, d0, d1, d2, d3, d4⟩ := rdV_at (HR.out.upd HUW.out) hx
      have hox := HO.out x (List.mem_of_getElem? hx)
      have NA := fun w => numR_any w x hox.2
      have hfk := numF_fok x
      have hk0 : (0 : Int) ≤ (k : Int) := by omega
      have hk1 : (k : Int) < (N : Int) := by omega
      have h1 : (numF x).2 = 0 → numsE (l.take (k + 1)) = 0 := numsE_take hx hE
      have h2 : (numF x).2 ≠ 0 → numsE l = (numF x).2 := numsE_stop hx hE
      have h3 : nmCells (numsN (l.take (k + 1))) = nmCells (numsN (l.take k)) ++ [.int .i64 (numF x).1] := by rw [List.take_add_one, hx]; simp [nmCells, numsN]
      obtain ⟨⟨n', f⟩, hnf⟩ : ∃ r, numF x = r := ⟨_, rfl⟩
      rw [hnf] at NA h1 h2 h3 hfk
      simp only at NA h1 h2 h3 hfk
      have H1 := hide h1
      have H2 := hide h2
      have H3 := hide h3
      have HA := hide ha
      have HU := hide hu
      have HRW := hide hrw
      obtain ⟨xk, xn, xt, xb, xf⟩ := x
      unfold Vl.val at NA
      simp only at NA d0 d1 d2 d3 d4
      clear hu hrw ha hE h1 h2 h3 hnf hox hx
      by_cases hf : f = 0
      · subst hf
        go_wp2_with fail
        refine Calls.mono (NA _) ?_
        rintro e w2 ⟨rfl, u2⟩
        have HR2 := hide (u2.rw HRW.out (fun _ _ => id))
        have HU2 := hide (HU.out.then u2 (fun _ _ => id))
        clear u2
        go_wp2_with (at_builtin; go_loud (refine wpList_append_rw _ rfl _ _ 87 87 rfl 2 _ i0 _ 1 8 Tryz.underlying87 Tryz.underlying87 (by simp) hi hz0 hz1 hz2 rfl _ k _ rfl (HR2.out.alloc _) _ 1 [.int .i64 n'] rfl (Rw.made w2 #[.int .i64 n'] 2 1 1 rfl).src rfl (by simp [Value.oneCell']) (by omega) (by omega) ?_); intro ga gc w4 hv' hg4 hob')
        rw [← H3.out] at hv'
        have ho4 := own_ge HA.out hob' (HU2.out.alloc _)
        have u4 := (HU2.out.alloc _).grown hg4 (fun j hj => .inl (HA.out j hj))
        go_roundg (gk - 1)
        case measure => omega
        case rel => exact ⟨k + 1, ga, gc, by omega, by go_num, rfl, H1.out (by trivial), hv', ho4, u4⟩
      · have bf : (f != 0) = true := by simpa using hf
        have hev := HEV.out
        rw [H2.out hf, if_pos hf] at hev
        have EA := fun w => REk_any w f (hfk.resolve_left hf)
        rw [(Prod.mk.inj hev).1] at EA
        unfold Vl.val at EA
        simp only at EA
        have HUx := HUW
        have HVx := HVW
        clear hev hf hfk HU0 HV0
        have HU0 := HUx
        have HV0 := HVx
        go_wp2_with fail
        with_reducible refine Calls.mono (NA _) ?_
        rintro e w1 ⟨rfl, u1⟩
        have HU1 := hide (HU0.out.then u1 (fun _ _ => id))
        have HV1 := hide (u1.get HV0.out id)
        clear u1
        go_wp2_with fail
        with_reducible refine Calls.mono (EA _) ?_
        rintro e w9 ⟨rfl, u9⟩
        have HU9 := hide (HU1.out.then u9 (fun _ _ => id))
        have bV := u9.get HV1.out id
        obtain ⟨v0, v1, v2, v3, v4⟩ := cells5 bV
        have vl := lt_at bV
        have fv0 := free_at bV 0
        have fv1 := free_at bV 1
        have fv2 := free_at bV 2
        have fv3 := free_at bV 3
        have fv4 := free_at bV 4
        have HB := hide bV
        clear bV u9
        go_wp2_with fail
        (try simp only [Exit.inBlock, Exit.then])
        refine bodyPost_ret (ret_rvb rfl _ _ (w.heap.size) ⟨k0, n0, t0, b0, e0'⟩ rfl (rblock5 (x := vZero) HB.out _ _ _ _ _)) rfl ?_
        exact ⟨rfl, upd5 HU9.out (by omega) _ _ _ _ _⟩
    · obtain rfl : k = N := by omega
      have hlt : ¬ (k : Int) < (k : Int) := by omega
      have e1 : l.take k = l := List.take_of_length_le (by rw [HN.out]; exact Nat.le_refl _)
      rw [e1] at hE hrw
      have hev := HEV.out
      rw [if_neg (fun h => h hE)] at hev
      have HRW := hide hrw
      have hll := HN.out
      have HUx := HUW
      have HVx := HVW
      clear hu hE hrw ha e1 hk hkN HU0 HV0
      have HU0 := HUx
      have HV0 := HVx
      rcases HT.out with ⟨ht1, rfl | rfl⟩
      · have hk1 : k = 1 := by omega
        subst hk1
        obtain ⟨x, rfl⟩ : ∃ x, l = [x] := by
          rcases l with _ | ⟨x, _ | ⟨y, l⟩⟩
          · simp at hll
          · exact ⟨x, rfl⟩
          · simp at hll
        have en : numsN [x] = [(numF x).1] := rfl
        have okx := numF_ok x
        rw [if_pos rfl] at hev
        have e1 : (numsN [x]).getD 0 0 = (numF x).1 := rfl
        rw [e1] at hev
        have hR := HRW.out
        rw [en] at hR
        obtain ⟨z, hz⟩ : ∃ z, (numF x).1 = z := ⟨_, rfl⟩
        rw [hz] at hR okx hev
        have AA := ONE z okx
        rw [(Prod.mk.inj hev).1] at AA
        unfold Vl.val at AA
        simp only at AA
        obtain ⟨g, off, cap, hsl, hgl, d0⟩ := rw_one hR
        obtain ⟨rfl, rfl⟩ : a = some ⟨g, off, none⟩ ∧ c = cap := by
          simp only [Value.slice.injEq, true_and] at hsl
          exact hsl
        clear hsl hR en e1 hev okx hz ONE TWO hi hz0 hz1 hz2 hll ht1 HT HN HEV HR HO HRW
        go_wp2_with fail
        with_reducible refine Calls.mono (AA _) ?_
        rintro e w9 ⟨rfl, u9⟩
        have HU9 := hide (HU0.out.then u9 (fun _ _ => id))
        have bV := u9.get HV0.out id
        obtain ⟨v0, v1, v2, v3, v4⟩ := cells5 bV
        have vl := lt_at bV
        have fv0 := free_at bV 0
        have fv1 := free_at bV 1
        have fv2 := free_at bV 2
        have fv3 := free_at bV 3
        have fv4 := free_at bV 4
        have HB := hide bV
        clear bV u9
        go_wp2_with fail
        (try simp only [Exit.inBlock, Exit.then])
        refine bodyPost_ret (ret_rvb rfl _ _ (w.heap.size) ⟨k0, n0, t0, b0, e0'⟩ rfl (rblock5 (x := vZero) HB.out _ _ _ _ _)) rfl ?_
        exact ⟨rfl, upd5 HU9.out (by omega) _ _ _ _ _⟩
      · have hk1 : k = 2 := by omega
        subst hk1
        obtain ⟨x, y, rfl⟩ : ∃ x y, l = [x, y] := by
          rcases l with _ | ⟨x, _ | ⟨y, _ | ⟨z, l⟩⟩⟩
          · simp at hll
          · simp at hll
          · exact ⟨x, y, rfl⟩
          · simp at hll
        have en : numsN [x, y] = [(numF x).1, (numF y).1] := rfl
        have okx := numF_ok x
        have oky := numF_ok y
        rw [if_neg (by decide)] at hev
        have e1 : (numsN [x, y]).getD 0 0 = (numF x).1 := rfl
        have e2 : (numsN [x, y]).getD 1 0 = (numF y).1 := rfl
        rw [e1, e2] at hev
        have hR := HRW.out
        rw [en] at hR
        obtain ⟨z, hz⟩ : ∃ z, (numF x).1 = z := ⟨_, rfl⟩
        obtain ⟨y', hy⟩ : ∃ z, (numF y).1 = z := ⟨_, rfl⟩
        rw [hz] at hR okx hev
        rw [hy] at hR oky hev
        have PA := TWO z y' okx oky
        rw [(Prod.mk.inj hev).1] at PA
        unfold Vl.val at PA
        simp only at PA
        obtain ⟨g, off, cap, hsl, hgl, d0, d1, hap⟩ := rw_two hR
        obtain ⟨rfl, rfl⟩ : a = some ⟨g, off, none⟩ ∧ c = cap := by
          simp only [Value.slice.injEq, true_and] at hsl
          exact hsl
        have hgV := hap _ _ _ HV0.out (by decide)
        have D0 : wr.drew.cell? ⟨g, off, none⟩ = some (.int .i64 z) := d0
        have HGL : g < wr.drew.heap.size := hgl
        have D1 : wr.drew.cell? ⟨g, off + 1, none⟩ = some (.int .i64 y') := d1
        have hU1 := HU0.out
        clear hsl hR en e1 e2 hev okx oky hz hy ONE TWO hi hz0 hz1 hz2 hll ht1 HT HN HEV HR HO HRW hap
        go_wp2_with fail
        go_region_held3 (fun w' => w'.cell? ⟨g, off, none⟩ = some (.int .i64 z) ∧ w'.cell? ⟨g, off + 1, none⟩ = some (.int .i64 y'))
          (first | (go_keep; done) | (with_reducible exact ⟨(u9.cell g _ HGL id).trans D0, (u9.cell g _ HGL id).trans D1⟩) | (with_reducible exact ⟨(set5_cell hgV (Nat.lt_of_lt_of_le HGL u9.size) _ _ _ _ _).trans ((u9.cell g _ HGL id).trans D0), (set5_cell hgV (Nat.lt_of_lt_of_le HGL u9.size) _ _ _ _ _).trans ((u9.cell g _ HGL id).trans D1)⟩) | (with_reducible exact ⟨D0, D1⟩) | (with_reducible exact ⟨d0, d1⟩))
          (first
            | (go_at_call 55; with_reducible refine Calls.mono (PA _) ?_; rintro e w9 ⟨rfl, u9⟩; have HU9 := hide (HU0.out.drew.then u9 (fun _ _ => id)); have bV := u9.get HV0.out id; obtain ⟨v0, v1, v2, v3, v4⟩ := cells5 bV; have vl := lt_at bV; have fv0 := free_at bV 0; have fv1 := free_at bV 1; have fv2 := free_at bV 2; have fv3 := free_at bV 3; have fv4 := free_at bV 4; have HB := hide bV; clear bV))
        all_goals go_wp2_with fail
        all_goals (try simp only [Exit.inBlock, Exit.then])
        all_goals refine bodyPost_ret (ret_rvb rfl _ _ w.heap.size ⟨k0, n0, t0, b0, e0'⟩ rfl (rblock5 (x := vZero) HB.out _ _ _ _ _)) rfl ?_
        all_goals exact ⟨rfl, upd5 HU9.out (by omega) _ _ _ _ _⟩
end Go.Proofs.YtmfngdjhkpddoaaGreatDoor
