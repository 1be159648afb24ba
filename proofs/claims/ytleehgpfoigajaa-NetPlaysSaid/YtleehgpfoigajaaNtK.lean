/- The keys of three texts; how often each text of each pair is on its way. -/
import Derived.Test.YtleehgpfoigajaaNtF
set_option maxRecDepth 100000
namespace Go.Proofs.Ytleehgpfoigajaa
open Go.RowKit Go.Lat Go.Sort
open Go.Maps (Keyed)

theorem triLaw : WideMaps.KeyLaw Try.prog 35 := deep_law_laid Try.laidOut (m := 2) (by decide) (of_decide_eq_true (by kernel_rfl)) (by kernel_rfl) (by rw [Try.underlying35])
theorem triK : Keyed Try.prog 35 := Keyed.of_law triLaw
abbrev Tr := List UInt8 × List UInt8 × List UInt8
def trOk (x : Tr) : Prop := x.1.length ≤ maxLen ∧ x.2.1.length ≤ maxLen ∧ x.2.2.length ≤ maxLen
def trVal (x : Tr) : Value := .agg #[encStr x.1, encStr x.2.1, encStr x.2.2]
def trLit (x : Tr) : Lit := .string (keyBytes [.string x.1, .string x.2.1, .string x.2.2])
theorem isKey_tr (x : Tr) : WideAt.IsKeyLit (trLit x) := trivial
theorem tr_key {x : Tr} (h : trOk x) : keyOf Try.prog 35 (trVal x) = some (trLit x) := by
  obtain ⟨f, t, s⟩ := x
  obtain ⟨hf, ht, hs⟩ := h
  have h1 : Try.prog.keyType 35 = true := by kernel_rfl
  have h2 : Try.prog.cellsOf 35 = 3 := by kernel_rfl
  have h3 : Try.prog.cellsOf 9 = 1 := by kernel_rfl
  unfold keyOf trVal
  rw [Try.underlying35]
  simp only [h1, Bool.true_and] at hf ht hs ⊢
  have h4 : (Value.agg #[encStr f, encStr t, encStr s]).formed Try.prog 35 = true := by
    simp [Value.formed, Try.underlying35, h2]
  rw [if_pos h4]
  have h5 : ∀ d, ∀ z : List UInt8, z.length ≤ maxLen → Try.prog.keyLits (d + 1) 9 [encStr z] = some [.string z] := by
    intro d z hz
    have hz' : (⟨z.toArray⟩ : ByteArray).size ≤ maxLen := hz
    simp [Program.keyLits, Try.underlying9, hz']
  have h7 : 0 < Try.prog.types.size := of_decide_eq_true (by kernel_rfl)
  obtain ⟨d, hd⟩ : ∃ d, Try.prog.types.size = d + 1 := ⟨Try.prog.types.size - 1, by omega⟩
  rw [hd]
  unfold Program.keyLits
  rw [Try.underlying35]
  have hr : List.range 3 = [0, 1, 2] := rfl
  simp [h2, h3, h5, hf, ht, hs, hr, Value.cells, trLit]
theorem trLit_inj {x y : Tr} (hx : trOk x) (hy : trOk y) (h : trLit x = trLit y) : x = y := by
  have k1 := tr_key hx
  have k2 := tr_key hy
  rw [← h] at k2
  have := triK.inj k1 k2
  obtain ⟨f, t, s⟩ := x
  obtain ⟨f', t', s'⟩ := y
  simpa [trVal] using this
theorem tri_inv {key : Value} {kl : Lit} (h : keyOf Try.prog 35 key = some kl) : ∃ x : Tr, trOk x ∧ key = trVal x ∧ kl = trLit x := by
  have h1 : Try.prog.keyType 35 = true := by kernel_rfl
  have h2 : Try.prog.cellsOf 35 = 3 := by kernel_rfl
  have h3 : Try.prog.cellsOf 9 = 1 := by kernel_rfl
  have h0 := h
  unfold keyOf at h
  rw [Try.underlying35] at h
  simp only [h1, Bool.true_and] at h
  by_cases hf : key.formed Try.prog 35 = true
  · rw [if_pos hf] at h
    have hag : ∃ cs : Array Value, key = .agg cs ∧ cs.size = 3 := by
      cases key <;> simp [Value.formed, Try.underlying35, h2] at hf
      exact ⟨_, rfl, hf⟩
    obtain ⟨⟨cs⟩, rfl, hcs⟩ := hag
    obtain ⟨a, b, c, rfl⟩ : ∃ a b c, cs = [a, b, c] := by
      match cs, hcs with
      | [a, b, c], _ => exact ⟨a, b, c, rfl⟩
      | [], h => simp at h
      | [_], h => simp at h
      | [_, _], h => simp at h
      | _ :: _ :: _ :: _ :: _, h => simp at h
    have h7 : 0 < Try.prog.types.size := of_decide_eq_true (by kernel_rfl)
    obtain ⟨d, hd⟩ : ∃ d, Try.prog.types.size = d + 1 := ⟨Try.prog.types.size - 1, by omega⟩
    rw [hd] at h
    unfold Program.keyLits at h
    rw [Try.underlying35] at h
    have hr : List.range 3 = [0, 1, 2] := rfl
    have hs : ∀ (d : Nat) (v : Value), (∀ s, v ≠ .string s ∨ ¬ s.size ≤ maxLen) → Try.prog.keyLits (d + 1) 9 [v] = none := by
      intro d v hv
      cases v <;> simp [Program.keyLits, Try.underlying9]
      rename_i s
      rcases hv s with q | q
      · exact absurd rfl q
      · omega
    have hy : ∀ (d : Nat) (s : ByteArray), s.size ≤ maxLen → Try.prog.keyLits (d + 1) 9 [.string s] = some [.string s.data.toList] := by
      intro d s q
      simp [Program.keyLits, Try.underlying9, q]
    have str : ∀ v, (∃ s, v = Value.string s ∧ s.size ≤ maxLen) ∨ (∀ s, v ≠ .string s ∨ ¬ s.size ≤ maxLen) := by
      intro v
      by_cases q : ∃ s, v = Value.string s ∧ s.size ≤ maxLen
      · exact .inl q
      · refine .inr fun s => ?_
        by_cases z : v = .string s
        · exact .inr fun y => q ⟨s, z, y⟩
        · exact .inl z
    rcases str a with ⟨s, rfl, sl⟩ | na
    · rcases str b with ⟨t, rfl, tl⟩ | nb
      · rcases str c with ⟨u, rfl, ul⟩ | nc
        · have e1 : Value.agg #[.string s, .string t, .string u] = trVal (s.data.toList, t.data.toList, u.data.toList) := by
            show Value.agg #[.string s, .string t, .string u] = .agg #[.string ⟨s.data.toList.toArray⟩, .string ⟨t.data.toList.toArray⟩, .string ⟨u.data.toList.toArray⟩]
            simp
          have ok : trOk (s.data.toList, t.data.toList, u.data.toList) := ⟨sl, tl, ul⟩
          refine ⟨_, ok, e1, ?_⟩
          have := tr_key ok
          rw [← e1] at this
          exact Option.some.inj (h0.symm.trans this)
        · simp [h2, h3, hr, hs d c nc, hy d s sl, hy d t tl, Value.cells] at h
      · simp [h2, h3, hr, hs d b nb, hy d s sl, Value.cells] at h
    · simp [h2, h3, hr, hs d a na, Value.cells] at h
  · rw [if_neg hf] at h
    cases h

/-- How often a text of a pair is on its way. -/
def cntM (M : Pr → List (List UInt8)) (x : Tr) : Nat := (M (x.1, x.2.1)).count x.2.2
def LeftV (M : Pr → List (List UInt8)) (D : DataW Value) : Prop := ∀ x, trOk x → D.atKey (trLit x) (.held (.int .i64 0)) = .held (.int .i64 (cntM M x : Nat))
theorem LeftV.start : LeftV (fun _ => []) (.map []) := fun _ _ => Go.Maps.atKey_of_not_has rfl _
theorem LeftV.put {M M' : Pr → List (List UInt8)} {D : DataW Value} (hD : Go.Maps.IsMap D) (h : LeftV M D) {x : Tr} (hx : trOk x) {c : Int} (hc : c = (cntM M' x : Nat)) (ho : ∀ y, y ≠ x → cntM M' y = cntM M y) : LeftV M' (D.put (trLit x) (.held (.int .i64 c))) := by
  intro y hy
  by_cases e : y = x
  · subst e
    rw [Go.Maps.atKey_put_same hD (isKey_tr _), hc]
  · rw [Go.Maps.atKey_put_other (fun q => e (trLit_inj hy hx q)), h y hy, ho y e]
theorem cnt_send {M : Pr → List (List UInt8)} {p : Pr} {s : List UInt8} (h : (M p).length < 256) (x : Tr) : cntM (sendM M p s) x = cntM M x + if x = (p.1, p.2, s) then 1 else 0 := by
  unfold cntM sendM
  rw [if_pos h]
  obtain ⟨f, t, u⟩ := x
  obtain ⟨a, b⟩ := p
  by_cases e : (f, t) = (a, b)
  · cases e
    simp only [setF_same, List.count_append]
    by_cases e2 : u = s
    · subst e2; simp
    · have e3 : ¬ s = u := fun q => e2 q.symm
      simp [e2, e3]
  · rw [setF_other _ _ _ e]
    have : ¬ (f, t, u) = (a, b, s) := fun q => e (by cases q; rfl)
    simp [this]
theorem sendM_full {M : Pr → List (List UInt8)} {p : Pr} {s : List UInt8} (h : ¬ (M p).length < 256) : sendM M p s = M := by simp [sendM, h]
theorem cnt_strike {zs : List (List UInt8)} {k : Nat} {s : List UInt8} (h : zs[k]? = some s) (u : List UInt8) : (zs.take k ++ zs.drop (k + 1)).count u + (if u = s then 1 else 0) = zs.count u := by
  have e : zs = zs.take k ++ s :: zs.drop (k + 1) := by
    obtain ⟨hl, e⟩ := List.getElem?_eq_some_iff.1 h
    rw [← e, ← List.drop_eq_getElem_cons hl, List.take_append_drop]
  conv => rhs; rw [e]
  rw [List.count_append, List.count_append, List.count_cons]
  by_cases q : u = s
  · subst q; simp; omega
  · have q' : ¬ s = u := fun z => q z.symm
    simp [q, q']
theorem cnt_take {M : Pr → List (List UInt8)} {p : Pr} {k : Nat} {s : List UInt8} (h : (M p)[k]? = some s) (x : Tr) : cntM (setF M p ((M p).take k ++ (M p).drop (k + 1))) x + (if x = (p.1, p.2, s) then 1 else 0) = cntM M x := by
  unfold cntM
  obtain ⟨f, t, u⟩ := x
  obtain ⟨a, b⟩ := p
  by_cases e : (f, t) = (a, b)
  · cases e
    simp only [setF_same]
    have := cnt_strike h u
    by_cases e2 : u = s
    · subst e2; simpa using this
    · have e3 : ¬ (f, t, u) = (f, t, s) := fun q => e2 (by cases q; rfl)
      simpa [e2] using this
  · rw [setF_other _ _ _ e]
    have : ¬ (f, t, u) = (a, b, s) := fun q => e (by cases q; rfl)
    simp [this]

/-- All that is on its way, text by text. -/
def allT (M : Pr → List (List UInt8)) (ks : List Pr) : List Tr := ks.flatMap fun p => (M p).map fun s => (p.1, p.2, s)
theorem allT_len (M : Pr → List (List UInt8)) (ks : List Pr) : (allT M ks).length = lenS M ks := by
  simp [allT, lenS, List.length_flatMap]
theorem allT_count {M : Pr → List (List UInt8)} : ∀ {ks : List Pr} (_ : ks.Nodup) (x : Tr), (allT M ks).count x = if (x.1, x.2.1) ∈ ks then cntM M x else 0
  | [], _, x => by simp [allT]
  | p :: ks, h, x => by
    obtain ⟨h1, h2⟩ := List.nodup_cons.1 h
    have ih := allT_count (M := M) h2 x
    have e : allT M (p :: ks) = ((M p).map fun s => (p.1, p.2, s)) ++ allT M ks := by simp [allT]
    rw [e, List.count_append, ih]
    obtain ⟨f, t, u⟩ := x
    obtain ⟨a, b⟩ := p
    by_cases q : (f, t) = (a, b)
    · cases q
      have inj : ((M (f, t)).map fun s => (f, t, s)).count (f, t, u) = (M (f, t)).count u := by
        generalize M (f, t) = zs
        induction zs with
        | nil => rfl
        | cons z zs ih2 =>
          rw [List.map_cons, List.count_cons, List.count_cons, ih2]
          by_cases y : z = u
          · subst y; simp
          · have y' : ¬ (f, t, z) = (f, t, u) := fun w => y (by cases w; rfl)
            simp [y]
      simp only [inj, h1, if_false, List.mem_cons, true_or, if_true]
      simp [cntM]
    · have z : ((M (a, b)).map fun s => (a, b, s)).count (f, t, u) = 0 := by
        rw [List.count_eq_zero]
        intro w
        obtain ⟨s, _, hs⟩ := List.mem_map.1 w
        exact q (by cases hs; rfl)
      rw [z]
      simp [q]
theorem sum_zero (l : List Tr) : (l.map fun _ => 0).sum = 0 := by
  induction l with
  | nil => rfl
  | cons a l ih => simpa using ih
theorem sum_cons (t : Tr) (T vs : List Tr) : (vs.map fun x => (t :: T).count x).sum = (vs.map fun x => T.count x).sum + (vs.map fun x => if t == x then 1 else 0).sum := by
  simp only [List.count_cons]
  induction vs with
  | nil => rfl
  | cons a l ih2 =>
    simp only [List.map_cons, List.sum_cons, ih2]
    omega
theorem sum_not {t : Tr} {l : List Tr} (h : t ∉ l) : (l.map fun x => if t == x then 1 else 0).sum = 0 := by
  have z : (l.map fun x => if t == x then 1 else 0) = l.map fun _ => 0 := by
    refine List.map_congr_left fun x hx => ?_
    have : ¬ t = x := fun y => h (y ▸ hx)
    simp [this]
  rw [z, sum_zero]
theorem sum_one {t : Tr} : ∀ {vs : List Tr}, vs.Nodup → t ∈ vs → (vs.map fun x => if t == x then 1 else 0).sum = 1
  | [], _, ht => by cases ht
  | a :: l, hn, ht => by
    obtain ⟨n1, n2⟩ := List.nodup_cons.1 hn
    simp only [List.map_cons, List.sum_cons]
    by_cases q : t = a
    · subst q
      rw [sum_not n1]
      simp
    · have hl : t ∈ l := by simpa [q] using ht
      rw [sum_one n2 hl]
      simp [q]
theorem sum_le_one {t : Tr} {vs : List Tr} (hn : vs.Nodup) : (vs.map fun x => if t == x then 1 else 0).sum ≤ 1 := by
  by_cases h : t ∈ vs
  · rw [sum_one hn h]
    exact Nat.le_refl _
  · rw [sum_not h]
    omega
/-- The counts of all keys add up to the length. -/
theorem count_sum : ∀ (T : List Tr) (vs : List Tr), vs.Nodup → (∀ t ∈ T, t ∈ vs) → (vs.map fun x => T.count x).sum = T.length
  | [], vs, _, _ => by
    have : (vs.map fun x => ([] : List Tr).count x) = vs.map fun _ => 0 := by simp
    rw [this, sum_zero]
    rfl
  | t :: T, vs, hn, hm => by
    rw [sum_cons, count_sum T vs hn (fun x hx => hm x (by simp [hx])), sum_one hn (hm t (by simp))]
    rfl
theorem count_sum_le : ∀ (T : List Tr) (vs : List Tr), vs.Nodup → (vs.map fun x => T.count x).sum ≤ T.length
  | [], vs, _ => by
    have : (vs.map fun x => ([] : List Tr).count x) = vs.map fun _ => 0 := by simp
    rw [this, sum_zero]
    exact Nat.zero_le _
  | t :: T, vs, hn => by
    rw [sum_cons]
    have := count_sum_le T vs hn
    have := sum_le_one (t := t) hn
    simp only [List.length_cons]
    omega
end Go.Proofs.Ytleehgpfoigajaa
