/- The three books' searches tell what the plain law says. -/
import Derived.Test.YtcdimledeomahaaWay
import Derived.Test.YtcdimledeomahaaWhole
set_option maxRecDepth 100000
namespace Go.Proofs.Ytcdimledeomahaa
open Go.RowKit Go.Lat

def bk (k : Nat) : List UInt8 := [UInt8.ofNat (65 + k % 3)]
theorem bk_inj {i k : Nat} : bk i = bk k ↔ i % 3 = k % 3 := by
  constructor
  · intro h
    simp only [bk, List.cons.injEq, and_true] at h
    have := congrArg UInt8.toNat h
    simp at this
    omega
  · intro h
    simp [bk, h]
def lkN (k : Nat) : Lk := ⟨bk k, [83], (k : Int), 0⟩
def pcN (k : Nat) : Pc := ⟨[83], (k : Int), 0⟩
theorem lkN_inj {i k : Nat} (h : lkN i = lkN k) : i = k := by
  have := congrArg Lk.c h
  simp [lkN] at this
  omega
theorem pcN_inj {i k : Nat} (h : pcN i = pcN k) : i = k := by
  have := congrArg Pc.c h
  simp [pcN] at this
  omega

section
variable (rd : Nat → Nat → Bool)
def linkRow (i : Nat) : List Lk := ((List.range 10).filter (fun k => rd i k && decide (i % 3 ≠ k % 3))).map lkN
def linksN (n : Nat) : List Lk := (List.range 10).flatMap fun i => if locV rd n i = true then linkRow rd i else []
def readsN (n : Nat) : List Pc := ((List.range 10).filter (fun i => locV rd n i)).map pcN
def onN (n : Nat) : On := ⟨pcN n, readsN rd n, linksN rd n⟩
def ownsN (b : Nat) : List On := ((List.range 10).filter (fun n => decide (n % 3 = b))).map (onN rd)
def edN (o : On) : Ed := ⟨o.p.s, o.p.c, o.p.r, o.links⟩
def FN (b : Nat) : List UInt8 → Option (Int × List Ed) := fun t =>
  if t = bk 0 ∧ b ≠ 0 then some (1, (ownsN rd 0).map edN) else if t = bk 1 ∧ b ≠ 1 then some (1, (ownsN rd 1).map edN) else if t = bk 2 ∧ b ≠ 2 then some (1, (ownsN rd 2).map edN) else none
def wayN (b n : Nat) : Way := ⟨FN rd b, ownsN rd b, bk b, pcN n⟩

variable {rd}
theorem mem_linksN {n : Nat} (hn : n < 10) {x : Lk} : x ∈ linksN rd n ↔ ∃ m, LinkN rd n m ∧ x = lkN m := by
  simp only [linksN, List.mem_flatMap, List.mem_range]
  constructor
  · rintro ⟨i, hi, hx⟩
    split at hx
    · rename_i hl
      simp only [linkRow, List.mem_map, List.mem_filter, List.mem_range, Bool.and_eq_true, decide_eq_true_eq] at hx
      obtain ⟨m, ⟨hm, hr, hs⟩, rfl⟩ := hx
      exact ⟨m, ⟨i, hi, (locV_iff rd n hn i hi).1 hl, hm, hr, hs⟩, rfl⟩
    · cases hx
  · rintro ⟨m, ⟨i, hi, hl, hm, hr, hs⟩, rfl⟩
    refine ⟨i, hi, ?_⟩
    rw [if_pos ((locV_iff rd n hn i hi).2 hl)]
    simp only [linkRow, List.mem_map, List.mem_filter, List.mem_range, Bool.and_eq_true, decide_eq_true_eq]
    exact ⟨m, ⟨hm, hr, hs⟩, rfl⟩
theorem mem_readsN {m n : Nat} (hm : m < 10) : pcN n ∈ readsN rd m ↔ n < 10 ∧ LocW rd m n := by
  simp only [readsN, List.mem_map, List.mem_filter, List.mem_range]
  constructor
  · rintro ⟨i, ⟨hi, hl⟩, e⟩
    have := pcN_inj e
    subst this
    exact ⟨hi, (locV_iff rd m hm i hi).1 hl⟩
  · rintro ⟨hn, hl⟩
    exact ⟨n, ⟨hn, (locV_iff rd m hm n hn).2 hl⟩, rfl⟩
theorem find_one {α : Type} (p : α → Bool) (x : α) : ∀ (l : List α), x ∈ l → p x = true → (∀ y ∈ l, p y = true → y = x) → l.find? p = some x
  | [], h, _, _ => by cases h
  | y :: l, h, hp, hu => by
    rw [List.find?_cons]
    cases hy : p y with
    | true => rw [hu y (by simp) hy]
    | false =>
      have hx : x ∈ l := by
        simp at h
        rcases h with rfl | h
        · rw [hp] at hy; cases hy
        · exact h
      exact find_one p x l hx hp (fun z hz => hu z (by simp [hz]))
theorem mem_ownsN {b : Nat} {o : On} : o ∈ ownsN rd b ↔ ∃ n, n < 10 ∧ n % 3 = b ∧ o = onN rd n := by
  simp only [ownsN, List.mem_map, List.mem_filter, List.mem_range, decide_eq_true_eq]
  constructor
  · rintro ⟨n, ⟨h1, h2⟩, rfl⟩; exact ⟨n, h1, h2, rfl⟩
  · rintro ⟨n, h1, h2, rfl⟩; exact ⟨n, ⟨h1, h2⟩, rfl⟩
theorem ownAt_N {m : Nat} (hm : m < 10) : ownAt (ownsN rd (m % 3)) (pcN m) = some (onN rd m) := by
  refine find_one _ _ _ (mem_ownsN.2 ⟨m, hm, rfl, rfl⟩) (by simp [onN]) (fun y hy hp => ?_)
  obtain ⟨n, _, _, rfl⟩ := mem_ownsN.1 hy
  rw [pcN_inj (of_decide_eq_true hp)]
theorem FN_other {b m : Nat} (h : m % 3 ≠ b) : FN rd b (bk m) = some (1, (ownsN rd (m % 3)).map edN) := by
  have hm : m % 3 = 0 ∨ m % 3 = 1 ∨ m % 3 = 2 := by omega
  have e0 := bk_inj (i := m) (k := 0)
  have e1 := bk_inj (i := m) (k := 1)
  have e2 := bk_inj (i := m) (k := 2)
  unfold FN
  rcases hm with hm | hm | hm
  · rw [if_pos ⟨e0.2 (by omega), by omega⟩, hm]
  · rw [if_neg (fun q => by have := e0.1 q.1; omega), if_pos ⟨e1.2 (by omega), by omega⟩, hm]
  · rw [if_neg (fun q => by have := e0.1 q.1; omega), if_neg (fun q => by have := e1.1 q.1; omega), if_pos ⟨e2.2 (by omega), by omega⟩, hm]
theorem reads_N {b m : Nat} (hm : m < 10) (h : m % 3 ≠ b) : readsOf (FN rd b) (lkN m) = linksN rd m := by
  unfold readsOf
  have hF : FN rd b (lkN m).b = some (1, (ownsN rd (m % 3)).map edN) := FN_other h
  rw [hF]
  simp only [findEd]
  have : ((ownsN rd (m % 3)).map edN).find? (fun e => e.is (lkN m)) = some (edN (onN rd m)) := by
    refine find_one _ _ _ (List.mem_map.2 ⟨_, mem_ownsN.2 ⟨m, hm, rfl, rfl⟩, rfl⟩) (by simp [Ed.is, edN, onN, pcN, lkN]) (fun y hy hp => ?_)
    obtain ⟨o, ho, rfl⟩ := List.mem_map.1 hy
    obtain ⟨n, _, _, rfl⟩ := mem_ownsN.1 ho
    have : n = m := by
      have hp' : (edN (onN rd n)).is (lkN m) = true := hp
      simp only [Ed.is, edN, onN, pcN, lkN, Bool.and_eq_true, decide_eq_true_eq] at hp'
      exact Int.ofNat_inj.1 (of_decide_eq_true hp'.1.2)
    rw [this]
  rw [this]
  rfl
theorem next_N {b n m : Nat} (hm : m < 10) (hb : b < 3) : (wayN rd b n).next (lkN m) = linksN rd m := by
  unfold Way.next wayN
  simp only
  by_cases h : m % 3 = b
  · have e : (lkN m).b = bk b := bk_inj.2 (by omega)
    rw [if_pos e]
    have := ownAt_N (rd := rd) hm
    rw [h] at this
    have e2 : (⟨(lkN m).s, (lkN m).c, (lkN m).r⟩ : Pc) = pcN m := rfl
    rw [e2, this]
    rfl
  · have e : ¬ (lkN m).b = bk b := fun q => by have := bk_inj.1 q; omega
    rw [if_neg e]
    exact reads_N hm h
theorem stop_N {b n m : Nat} (hm : m < 10) (hb : b < 3) : (wayN rd b n).stop (lkN m) = true ↔ m % 3 = b ∧ n < 10 ∧ LocW rd m n := by
  unfold Way.stop wayN
  simp only
  by_cases h : m % 3 = b
  · have e : (lkN m).b = bk b := bk_inj.2 (by omega)
    have := ownAt_N (rd := rd) hm
    rw [h] at this
    have e2 : (⟨(lkN m).s, (lkN m).c, (lkN m).r⟩ : Pc) = pcN m := rfl
    rw [e2, this]
    have hd : decide ((lkN m).b = bk b) = true := decide_eq_true e
    rw [hd, Bool.true_and]
    show decide (pcN n ∈ readsN rd m) = true ↔ _
    rw [decide_eq_true_iff, mem_readsN hm]
    exact ⟨fun q => ⟨h, q⟩, fun q => q.2⟩
  · have e : ¬ (lkN m).b = bk b := fun q => by have := bk_inj.1 q; omega
    simp [e, h]
theorem reach_N {b n : Nat} (hn : n < 10) (hb : b < 3) (x : Lk) : (wayN rd b n).Reach (linksN rd n) x ↔ ∃ m, RchN rd n m ∧ x = lkN m := by
  constructor
  · intro h
    induction h with
    | base h =>
      obtain ⟨m, h1, h2⟩ := (mem_linksN hn).1 h
      exact ⟨m, .base h1, h2⟩
    | step _ hm ih =>
      obtain ⟨m, h1, rfl⟩ := ih
      rw [next_N h1.lt hb] at hm
      obtain ⟨k, h2, h3⟩ := (mem_linksN h1.lt).1 hm
      exact ⟨k, .step h1 h2, h3⟩
  · rintro ⟨m, h, rfl⟩
    induction h with
    | base h => exact .base ((mem_linksN hn).2 ⟨_, h, rfl⟩)
    | @step m k h1 h2 ih => exact .step ih (by rw [next_N h1.lt hb]; exact (mem_linksN h1.lt).2 ⟨_, h2, rfl⟩)

/-- The search of a cell's book tells whether the cell reads itself by way of another book. -/
theorem goes_N (rd : Nat → Nat → Bool) (n : Nat) (hn : n < 10) : (wayN rd (n % 3) n).goes (10 + 1) (sees [] [] (linksN rd n)) = some (metV rd n (n * 2 + 1)) := by
  have hb : n % 3 < 3 := by omega
  have hU : ∀ (k : Nat), k < 10 → ∀ l ∈ linksN rd k, l ∈ (List.range 10).map lkN := by
    intro k hk l hl
    obtain ⟨m, ⟨_, _, _, h, _⟩, rfl⟩ := (mem_linksN hk).1 hl
    exact List.mem_map.2 ⟨m, by simpa using h, rfl⟩
  obtain ⟨r, h1, h2⟩ := goes_reach (wayN rd (n % 3) n) (linksN rd n) ((List.range 10).map lkN) (hU n hn) (fun l hl => by
    obtain ⟨m, hm, rfl⟩ := List.mem_map.1 hl
    have hm' : m < 10 := by simpa using hm
    rw [next_N hm' hb]
    exact hU m hm') 10 (by simp)
  rw [h1]
  congr 1
  rw [Bool.eq_iff_iff, h2, metV_iff rd n n 1 hn (by omega), ← whole_law rd n hn]
  constructor
  · rintro ⟨x, hx, hs⟩
    obtain ⟨m, hm, rfl⟩ := (reach_N hn hb x).1 hx
    exact ⟨m, hm, ((stop_N hm.lt hb).1 hs).2.2⟩
  · rintro ⟨m, hm, hl⟩
    exact ⟨lkN m, (reach_N hn hb _).2 ⟨m, hm, rfl⟩, (stop_N hm.lt hb).2 ⟨hl.book, hn, hl⟩⟩
end
end Go.Proofs.Ytcdimledeomahaa
