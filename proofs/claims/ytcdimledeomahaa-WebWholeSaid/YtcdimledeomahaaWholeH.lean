/- What the webs are told, what they answer, and what is told: plain laws for WebWhole's walk. -/
import Derived.Test.YtcdimledeomahaaWholeG
import Derived.Test.YtcdimledeomahaaWebQ
set_option maxRecDepth 100000
namespace Go.Proofs.Ytcdimledeomahaa
open Go.RowKit Go.Lat

theorem ownsP_N (rd : Nat → Nat → Bool) (b : Nat) : ownsP rd b 10 = ownsN rd b := rfl
theorem ownsN_len (rd : Nat → Nat → Bool) (b : Nat) : (ownsN rd b).length ≤ 10 := ownsP_len rd b 10

/-- What the web of book x knows after the first y books. -/
def FNp (rd : Nat → Nat → Bool) (x y : Nat) : List UInt8 → Option (Int × List Ed) := fun t =>
  if t = bk 0 ∧ x ≠ 0 ∧ 0 < y then some (1, (ownsN rd 0).map edN) else if t = bk 1 ∧ x ≠ 1 ∧ 1 < y then some (1, (ownsN rd 1).map edN) else if t = bk 2 ∧ x ≠ 2 ∧ 2 < y then some (1, (ownsN rd 2).map edN) else none
theorem FNp_zero (rd : Nat → Nat → Bool) (x : Nat) : FNp rd x 0 = fun _ => none := by
  funext t
  simp [FNp]
theorem FNp_all (rd : Nat → Nat → Bool) (x : Nat) : FNp rd x 3 = FN rd x := by
  funext t
  simp [FNp, FN]
theorem FNp_self (rd : Nat → Nat → Bool) (x : Nat) (hx : x < 3) : FNp rd x (x + 1) = FNp rd x x := by
  have h : x = 0 ∨ x = 1 ∨ x = 2 := by omega
  funext t
  rcases h with rfl | rfl | rfl <;> simp [FNp]
theorem bk01 : bk 0 ≠ bk 1 := by decide
theorem bk02 : bk 0 ≠ bk 2 := by decide
theorem bk12 : bk 1 ≠ bk 2 := by decide
theorem FNp_not (rd : Nat → Nat → Bool) (x y : Nat) (hy : y < 3) : FNp rd x y (bk y) = none := by
  have h : y = 0 ∨ y = 1 ∨ y = 2 := by omega
  rcases h with rfl | rfl | rfl
  · simp [FNp]
  · simp [FNp, bk01.symm]
  · simp [FNp, bk02.symm, bk12.symm]
theorem FNp_next (rd : Nat → Nat → Bool) (x y : Nat) (hy : y < 3) (hxy : x ≠ y) : learnt (FNp rd x y) true (bk y) 1 ((ownsN rd y).map edN) = FNp rd x (y + 1) := by
  have h : y = 0 ∨ y = 1 ∨ y = 2 := by omega
  funext t
  rcases h with rfl | rfl | rfl
  · simp [FNp, learnt, hxy]
  · by_cases e : t = bk 1
    · simp [FNp, learnt, hxy, e, bk01.symm]
    · simp [FNp, learnt, e]
  · by_cases e : t = bk 2
    · simp [FNp, learnt, hxy, e, bk02.symm, bk12.symm]
    · simp [FNp, learnt, e]
theorem counts_not {rd : Nat → Nat → Bool} {x y : Nat} (hy : y < 3) : counts (FNp rd x y) (bk y) 1 = true := by
  simp [counts, FNp_not rd x y hy]

theorem lkN_ok {m : Nat} (h : m < 10) : (lkN m).Ok := by
  have hn' : m = 0 ∨ m = 1 ∨ m = 2 ∨ m = 3 ∨ m = 4 ∨ m = 5 ∨ m = 6 ∨ m = 7 ∨ m = 8 ∨ m = 9 := by omega
  rcases hn' with rfl | rfl | rfl | rfl | rfl | rfl | rfl | rfl | rfl | rfl <;> exact ⟨by decide, by decide, by decide, by decide⟩
theorem linksN_ok (rd : Nat → Nat → Bool) {n : Nat} (hn : n < 10) : ∀ x ∈ linksN rd n, x.Ok := by
  intro x hx
  obtain ⟨m, ⟨_, _, _, h, _⟩, rfl⟩ := (mem_linksN hn).1 hx
  exact lkN_ok h
theorem readsN_len (rd : Nat → Nat → Bool) (n : Nat) : (readsN rd n).length ≤ 10 := readsP_len rd n 10
theorem edN_ok (rd : Nat → Nat → Bool) (b : Nat) : ((ownsN rd b).map edN).length ≤ 1000 ∧ ∀ e ∈ (ownsN rd b).map edN, e.reads.length ≤ 1000 ∧ ∀ x ∈ e.reads, x.Ok := by
  refine ⟨by have := ownsN_len rd b; simp; omega, fun e he => ?_⟩
  obtain ⟨o, ho, rfl⟩ := List.mem_map.1 he
  obtain ⟨n, hn, _, rfl⟩ := mem_ownsN.1 ho
  exact ⟨by have := linksN_len rd n; simp only [edN, onN]; omega, linksN_ok rd hn⟩
theorem wayN_ok (rd : Nat → Nat → Bool) (b : Nat) (p : Pc) : (Way.mk (FN rd b) (ownsN rd b) (bk b) p).Ok := by
  refine ⟨bk_len b, fun t ver es ht => ?_, by have := ownsN_len rd b; simp only; omega, fun o ho => ?_⟩
  · simp only [FN] at ht
    split at ht
    · cases ht; exact edN_ok rd 0
    · split at ht
      · cases ht; exact edN_ok rd 1
      · split at ht
        · cases ht; exact edN_ok rd 2
        · cases ht
  · obtain ⟨n, hn, _, rfl⟩ := mem_ownsN.1 ho
    exact ⟨by have := readsN_len rd n; simp only [onN]; omega, by have := linksN_len rd n; simp only [onN]; omega, linksN_ok rd hn⟩

/-- Whether a cell of the book depends on itself by way of another. -/
def rfN (rd : Nat → Nat → Bool) (o : On) : Bool := metV rd o.p.c.toNat (o.p.c.toNat * 2 + 1)
theorem rfN_on (rd : Nat → Nat → Bool) (n : Nat) : rfN rd (onN rd n) = metV rd n (n * 2 + 1) := rfl
theorem rfN_goes (rd : Nat → Nat → Bool) (b : Nat) : ∀ o ∈ ownsN rd b, (Way.mk (FN rd b) (ownsN rd b) (bk b) o.p).goes (10 + 1) (sees [] [] o.links) = some (rfN rd o) := by
  intro o ho
  obtain ⟨n, hn, rfl, rfl⟩ := mem_ownsN.1 ho
  have := goes_N rd n hn
  unfold wayN at this
  rw [bk_mod] at this ⊢
  exact this

theorem mem_cyc {rf : On → Bool} {p : Pc} : ∀ {os : List On} {out : List Pc}, p ∈ cyc rf out os ↔ p ∈ out ∨ ∃ o ∈ os, o.p = p ∧ rf o = true
  | [], out => by simp [cyc]
  | o :: os, out => by
    rw [cyc, mem_cyc]
    by_cases h : o.p ∉ out ∧ rf o = true
    · rw [if_pos h]
      simp only [List.mem_append, List.mem_cons, List.not_mem_nil, or_false, exists_eq_or_imp]
      constructor
      · rintro ((q | rfl) | q)
        · exact .inl q
        · exact .inr (.inl ⟨rfl, h.2⟩)
        · exact .inr (.inr q)
      · rintro (q | ⟨rfl, _⟩ | q)
        · exact .inl (.inl q)
        · exact .inl (.inr rfl)
        · exact .inr q
    · rw [if_neg h]
      simp only [List.mem_cons, exists_eq_or_imp]
      constructor
      · rintro (q | q)
        · exact .inl q
        · exact .inr (.inr q)
      · rintro (q | ⟨rfl, q⟩ | q)
        · exact .inl q
        · refine .inl (Decidable.byContradiction fun z => h ⟨z, q⟩)
        · exact .inr q
theorem cyc_len {rf : On → Bool} : ∀ {os : List On} {out : List Pc}, (cyc rf out os).length ≤ out.length + os.length
  | [], out => by simp [cyc]
  | o :: os, out => by
    rw [cyc]
    by_cases h : o.p ∉ out ∧ rf o = true
    · rw [if_pos h]
      have := cyc_len (rf := rf) (os := os) (out := out ++ [o.p])
      simp only [List.length_append, List.length_cons, List.length_nil] at *
      omega
    · rw [if_neg h]
      have := cyc_len (rf := rf) (os := os) (out := out)
      simp only [List.length_cons] at *
      omega
def cycN (rd : Nat → Nat → Bool) (x : Nat) : List Pc := cyc (rfN rd) [] (ownsN rd x)
theorem cycN_len (rd : Nat → Nat → Bool) (x : Nat) : (cycN rd x).length ≤ 10 := by
  have h1 := cyc_len (rf := rfN rd) (os := ownsN rd x) (out := [])
  have h2 := ownsN_len rd x
  simp at h1
  unfold cycN
  omega
theorem mem_cycN {rd : Nat → Nat → Bool} {x : Nat} {p : Pc} : p ∈ cycN rd x ↔ ∃ n, n < 10 ∧ n % 3 = x ∧ p = pcN n ∧ metV rd n (n * 2 + 1) = true := by
  unfold cycN
  rw [mem_cyc]
  simp only [List.not_mem_nil, false_or]
  constructor
  · rintro ⟨o, ho, rfl, hr⟩
    obtain ⟨n, h1, h2, rfl⟩ := mem_ownsN.1 ho
    exact ⟨n, h1, h2, rfl, hr⟩
  · rintro ⟨n, h1, h2, rfl, hr⟩
    exact ⟨_, mem_ownsN.2 ⟨n, h1, h2, rfl⟩, rfl, hr⟩
theorem pcN_mem {rd : Nat → Nat → Bool} {x n : Nat} (hn : n < 10) : pcN n ∈ cycN rd x ↔ n % 3 = x ∧ metV rd n (n * 2 + 1) = true := by
  rw [mem_cycN]
  constructor
  · rintro ⟨m, h1, h2, h3, h4⟩
    have := pcN_inj h3
    subst this
    exact ⟨h2, h4⟩
  · rintro ⟨h2, h4⟩
    exact ⟨n, hn, h2, rfl, h4⟩

/-- What is told of the books before x, and of the places ps. -/
def TelV (rd : Nat → Nat → Bool) (x : Nat) (ps : List Pc) (D : DataW Value) : Prop := ∀ n, n < 10 → D.atKey (pcLit (pcN n)) (.held (.bool false)) = .held (.bool ((decide (n % 3 < x) && metV rd n (n * 2 + 1)) || decide (pcN n ∈ ps)))
theorem TelV.start (rd : Nat → Nat → Bool) : TelV rd 0 [] (.map []) := by
  intro n _
  rw [Go.Maps.atKey_of_not_has rfl]
  simp
theorem TelV.put {rd : Nat → Nat → Bool} {x : Nat} {ps : List Pc} {D : DataW Value} (hD : Go.Maps.IsMap D) (h : TelV rd x ps D) {m : Nat} (hm : m < 10) : TelV rd x (ps ++ [pcN m]) (D.put (pcLit (pcN m)) (.held (.bool true))) := by
  intro n hn
  by_cases e : n = m
  · subst e
    rw [Go.Maps.atKey_put_same hD (isKey_pc _)]
    simp
  · have hne : pcN n ≠ pcN m := fun q => e (pcN_inj q)
    rw [Go.Maps.atKey_put_other (fun q => hne (pcLit_inj (pcN_ok hn) (pcN_ok hm) q)), h n hn]
    simp [hne]
theorem TelV.next {rd : Nat → Nat → Bool} {x : Nat} {D : DataW Value} (h : TelV rd x (cycN rd x) D) : TelV rd (x + 1) [] D := by
  intro n hn
  rw [h n hn]
  congr 2
  have := pcN_mem (rd := rd) (x := x) hn
  cases hm : metV rd n (n * 2 + 1) with
  | false =>
    rw [hm] at this
    simp [this]
  | true =>
    rw [hm] at this
    simp [this]
    by_cases q : n % 3 < x
    · simp [q]; omega
    · simp [q]
      omega
theorem TelV.all {rd : Nat → Nat → Bool} {D : DataW Value} (h : TelV rd 3 [] D) : ∀ n, n < 10 → D.atKey (pcLit (pcN n)) (.held (.bool false)) = .held (.bool (metV rd n (n * 2 + 1))) := by
  intro n hn
  rw [h n hn]
  have : n % 3 < 3 := by omega
  simp [this]

/-- The places of a book's cells. -/
def somes (rd : Nat → Nat → Bool) (y j : Nat) : List Pc := ((ownsN rd y).take j).map On.p
theorem somes_next {rd : Nat → Nat → Bool} {y j : Nat} {o : On} (h : (ownsN rd y)[j]? = some o) : somes rd y (j + 1) = somes rd y j ++ [o.p] := by
  simp [somes, List.take_add_one, h]
theorem somes_len {rd : Nat → Nat → Bool} {y j : Nat} : (somes rd y j).length ≤ 10 := by
  have := ownsN_len rd y
  simp [somes]
  omega
theorem linksAt_N {rd : Nat → Nat → Bool} {y : Nat} {o : On} (h : o ∈ ownsN rd y) : linksAt (ownsN rd y) o.p = o.links := by
  obtain ⟨n, hn, rfl, rfl⟩ := mem_ownsN.1 h
  have := ownAt_N (rd := rd) hn
  unfold linksAt
  show (match ownAt (ownsN rd (n % 3)) (pcN n) with | none => [] | some o => o.links) = _
  rw [this]
theorem sums_N (rd : Nat → Nat → Bool) (y j : Nat) (hj : (ownsN rd y).length ≤ j) : (somes rd y j).map (sumE (ownsN rd y)) = (ownsN rd y).map edN := by
  unfold somes
  rw [List.take_of_length_le hj, List.map_map]
  refine List.map_congr_left fun o ho => ?_
  simp only [Function.comp, sumE, edN]
  rw [linksAt_N ho]
theorem sums_small {rd : Nat → Nat → Bool} {y j : Nat} : ∀ p ∈ somes rd y j, (linksAt (ownsN rd y) p).length ≤ 1000 := by
  intro p hp
  simp only [somes, List.mem_map] at hp
  obtain ⟨o, ho, rfl⟩ := hp
  have ho := List.mem_of_mem_take ho
  rw [linksAt_N ho]
  obtain ⟨n, _, _, rfl⟩ := mem_ownsN.1 ho
  have := linksN_len rd n
  simp only [onN]
  omega
end Go.Proofs.Ytcdimledeomahaa
