/- The memory of WebWhole's own walk: the matrix's store; a book's cells, one after another; a cell that is being made; the three books. -/
import Derived.Test.YtcdimledeomahaaWholeF
import Derived.Test.YtcdimledeomahaaWebY
set_option maxRecDepth 100000
namespace Go.Proofs.Ytcdimledeomahaa
open Go.RowKit Go.Lat

theorem MatAt.set {w : World} {g : Nat} {rd : Nat → Nat → Bool} (h : MatAt w g rd) {i k : Nat} (hk : k < 10) : MatAt (w.setCell ⟨g, i * 10 + k, none⟩ (.bool true)) g (fun a b => rd a b || (decide (a = i) && decide (b = k))) := by
  have := block_setCell h (i * 10 + k) (.bool true)
  rw [bool_set] at this
  unfold MatAt
  rw [this, bool_congr 100]
  intro j _
  simp only
  by_cases e : j = i * 10 + k
  · have e1 : j / 10 = i := by omega
    have e2 : j % 10 = k := by omega
    simp [e]
    right
    omega
  · have e1 : ¬ (j / 10 = i ∧ j % 10 = k) := by omega
    rw [if_neg e]
    by_cases e2 : j / 10 = i
    · have e3 : ¬ j % 10 = k := fun q => e1 ⟨e2, q⟩
      simp [e3]
    · simp [e2]
theorem MatAt.free {w : World} {g : Nat} {rd : Nat → Nat → Bool} (h : MatAt w g rd) (j : Nat) : w.frozen? ⟨g, j, none⟩ = false := free_at h j
theorem MatAt.range {w : World} {g : Nat} {rd : Nat → Nat → Bool} (h : MatAt w g rd) : w.rangeAt g 0 (boolCells 100 (fun j => rd (j / 10) (j % 10))).toList := by
  intro j v hv
  rw [Nat.zero_add]
  exact cell_at h j v (by simpa using hv)

theorem Try.info38 : (Try.prog.info? 38).map (fun i => (i.zero, i.size, i.bytes)) = some (some (.agg #[.string ⟨#[]⟩, .int .i64 0, .int .i64 0, .slice none 0 0, .slice none 0 0]), 5, 80) := by kernel_rfl
theorem zeroOwns (w : World) : (zeroValue 41).run Try.prog w = .ok (.slice none 0 0) w := by kernel_rfl

theorem OnsAt.nil (w : World) (B : Nat → Prop) : OnsAt w B (.slice none 0 0) [] := ⟨[], Rw.nil _ _ _, fun i o ho => by simp at ho⟩
theorem OnsAt.past {w w' : World} {B S : Nat → Prop} {v : Value} {os : List On} (h : OnsAt w B v os) (u : Upd w w' S) (hv : ∀ k, v.ownBlock = some k → ¬ S k) (h1 : Free w S 32) (h2 : Free w S 40) : OnsAt w' B v os := by
  obtain ⟨xs, r, rows⟩ := h
  refine ⟨xs, u.rw r hv, fun i o ho => ?_⟩
  obtain ⟨rv, lv, q1, q2, q3, q4⟩ := rows i o ho
  exact ⟨rv, lv, q1, u.rw q2 (Rw.free q2 h1), u.rw q3 (Rw.free q3 h2), q4⟩
theorem OnsAt.now {w : World} {B : Nat → Prop} {v : Value} {os : List On} (h : OnsAt w B v os) : OnsAt w (fun k => k < w.heap.size) v os := by
  obtain ⟨xs, r, rows⟩ := h
  refine ⟨xs, r, fun i o ho => ?_⟩
  obtain ⟨rv, lv, q1, q2, q3, q4⟩ := rows i o ho
  exact ⟨rv, lv, q1, q2, q3, Rw.lt q3⟩
theorem OnsAt.snoc {w w' : World} {B S : Nat → Prop} {v va : Value} {os : List On} {o : On} {xs : List Value} {rv lv : Value} {n : Nat} (hn : n = os.length + 1) (hr : Rw w 38 5 v os.length xs)
    (hrow : ∀ i o, os[i]? = some o → ∃ rv lv, OnRow xs i o rv lv ∧ PcsAt w rv o.reads ∧ LksAt w lv o.links ∧ ∀ k, lv.ownBlock = some k → B k) (u : Upd w w' S) (h1 : Free w S 32) (h2 : Free w S 40)
    (ha : Rw w' 38 5 va n (xs ++ [encStr o.p.s, .int .i64 o.p.c, .int .i64 o.p.r, rv, lv])) (hrv : PcsAt w' rv o.reads) (hlv : LksAt w' lv o.links) (hB : ∀ k, lv.ownBlock = some k → B k) : OnsAt w' B va (os ++ [o]) := by
  subst hn
  have hl : xs.length = os.length * 5 := hr.1
  refine ⟨_, by simpa using ha, fun i o' ho => ?_⟩
  by_cases hi : i < os.length
  · rw [List.getElem?_append_left hi] at ho
    obtain ⟨rv', lv', ⟨r0, r1, r2, r3, r4⟩, q2, q3, q4⟩ := hrow i o' ho
    refine ⟨rv', lv', ⟨?_, ?_, ?_, ?_, ?_⟩, u.rw q2 (Rw.free q2 h1), u.rw q3 (Rw.free q3 h2), q4⟩ <;> rw [List.getElem?_append_left (by omega)] <;> assumption
  · have hie : i = os.length := by
      have := (List.getElem?_eq_some_iff.1 ho).1
      simp at this
      omega
    subst hie
    simp at ho
    subst ho
    refine ⟨rv, lv, ⟨?_, ?_, ?_, ?_, ?_⟩, hrv, hlv, hB⟩ <;> rw [List.getElem?_append_right (by omega), hl] <;> simp

/-- A cell of the own book that is being made, at block ob. -/
structure OAt (w : World) (m ob n : Nat) (ps : List Pc) (ls : List Lk) (rv lv : Value) : Prop where
  c : w.heap[ob]? = some (.cells #[encStr [83], .int .i64 n, .int .i64 0, rv, lv] 38 (0, 0))
  mo : m ≤ ob
  r : PcsAt w rv ps
  l : LksAt w lv ls
  rm : ∀ k, rv.ownBlock = some k → m ≤ k
  lm : ∀ k, lv.ownBlock = some k → m ≤ k
theorem OAt.upd {w w' : World} {m ob n : Nat} {ps : List Pc} {ls : List Lk} {rv lv : Value} (h : OAt w m ob n ps ls rv lv) (u : Upd w w' (fun _ => False)) : OAt w' m ob n ps ls rv lv :=
  ⟨u.get h.c id, h.mo, u.rw h.r (fun _ _ => id), u.rw h.l (fun _ _ => id), h.rm, h.lm⟩
theorem own_at {w : World} {v v' : Value} {m : Nat} (hm : m ≤ w.heap.size) (h : ∀ k, v.ownBlock = some k → m ≤ k) (ho : v'.ownBlock = v.ownBlock ∨ v'.ownBlock = some w.heap.size) : ∀ k, v'.ownBlock = some k → m ≤ k := by
  intro k hk
  rcases ho with e | e
  · exact h k (e.symm.trans hk)
  · have := Option.some.inj (e.symm.trans hk)
    omega
theorem OAt.read {W w w1 : World} {m ob n : Nat} {ps : List Pc} {ls : List Lk} {rv lv rv' : Value} {p : Pc} {q : Nat} (h : OAt w m ob n ps ls rv lv) (hW : m = W.heap.size) (hu : Upd W w (fun _ => False)) (hq : q = ps.length + 1) (g : w.grownBy w1 rv.ownBlock) (hr : Rw w1 32 3 rv' q (pcCells ps ++ p.cells)) (ho : rv'.ownBlock = rv.ownBlock ∨ rv'.ownBlock = some w.heap.size) :
    OAt (w1.setCell ⟨ob, 3, none⟩ rv') m ob n (ps ++ [p]) ls rv' lv ∧ Upd W (w1.setCell ⟨ob, 3, none⟩ rv') (fun _ => False) := by
  subst hq
  have hm : m ≤ w.heap.size := hW ▸ hu.size
  have c1 := block_grown g h.c (Rw.ne_block h.r h.c (by decide))
  have n1 := Rw.ne_block hr c1 (by decide)
  have l1 : Rw w1 40 4 lv ls.length (lkCells ls) := Rw.past h.l h.r (by decide) g
  have n2 := Rw.ne_block l1 c1 (by decide)
  have n1' : rv'.ownBlock ≠ some (Addr.mk ob 3 none).block := n1
  have n2' : lv.ownBlock ≠ some (Addr.mk ob 3 none).block := n2
  refine ⟨⟨block_setCell c1 3 rv', h.mo, ?_, l1.setCell _ _ n2', own_at hm h.rm ho, h.lm⟩, (hu.grown g (fun k e => .inl (hW ▸ h.rm k e))).setCell _ _ (.inl (hW ▸ h.mo))⟩
  have := hr.setCell ⟨ob, 3, none⟩ rv' n1'
  unfold PcsAt
  rw [pcCells_app, List.length_append]
  simpa [pcCells] using this
theorem OAt.link {W w w1 : World} {m ob n : Nat} {ps : List Pc} {ls : List Lk} {rv lv lv' : Value} {p : Lk} {q : Nat} (h : OAt w m ob n ps ls rv lv) (hW : m = W.heap.size) (hu : Upd W w (fun _ => False)) (hq : q = ls.length + 1) (g : w.grownBy w1 lv.ownBlock) (hr : Rw w1 40 4 lv' q (lkCells ls ++ p.cells)) (ho : lv'.ownBlock = lv.ownBlock ∨ lv'.ownBlock = some w.heap.size) :
    OAt (w1.setCell ⟨ob, 4, none⟩ lv') m ob n ps (ls ++ [p]) rv lv' ∧ Upd W (w1.setCell ⟨ob, 4, none⟩ lv') (fun _ => False) := by
  subst hq
  have hm : m ≤ w.heap.size := hW ▸ hu.size
  have c1 := block_grown g h.c (Rw.ne_block h.l h.c (by decide))
  have n1 := Rw.ne_block hr c1 (by decide)
  have l1 : Rw w1 32 3 rv ps.length (pcCells ps) := Rw.past h.r h.l (by decide) g
  have n2 := Rw.ne_block l1 c1 (by decide)
  have n1' : lv'.ownBlock ≠ some (Addr.mk ob 4 none).block := n1
  have n2' : rv.ownBlock ≠ some (Addr.mk ob 4 none).block := n2
  refine ⟨⟨block_setCell c1 4 lv', h.mo, l1.setCell _ _ n2', ?_, h.rm, own_at hm h.lm ho⟩, (hu.grown g (fun k e => .inl (hW ▸ h.lm k e))).setCell _ _ (.inl (hW ▸ h.mo))⟩
  have := hr.setCell ⟨ob, 4, none⟩ lv' n1'
  unfold LksAt
  rw [lkCells_app, List.length_append]
  simpa [lkCells] using this

/-- What stands in a cell after some rounds of its loops. -/
def readsP (rd : Nat → Nat → Bool) (n i : Nat) : List Pc := ((List.range i).filter (fun i => locV rd n i)).map pcN
def rowP (rd : Nat → Nat → Bool) (i k : Nat) : List Lk := ((List.range k).filter (fun k => rd i k && decide (i % 3 ≠ k % 3))).map lkN
def linksP (rd : Nat → Nat → Bool) (n i : Nat) : List Lk := (List.range i).flatMap fun i => if locV rd n i = true then linkRow rd i else []
theorem readsP_yes {rd : Nat → Nat → Bool} {n i : Nat} (h : locV rd n i = true) : readsP rd n (i + 1) = readsP rd n i ++ [pcN i] := by
  simp [readsP, List.range_succ, h]
theorem readsP_no {rd : Nat → Nat → Bool} {n i : Nat} (h : locV rd n i = false) : readsP rd n (i + 1) = readsP rd n i := by
  simp [readsP, List.range_succ, h]
theorem rowP_yes {rd : Nat → Nat → Bool} {i k : Nat} (h : rd i k = true) (h2 : i % 3 ≠ k % 3) : rowP rd i (k + 1) = rowP rd i k ++ [lkN k] := by
  simp [rowP, List.range_succ, h, h2]
theorem rowP_no {rd : Nat → Nat → Bool} {i k : Nat} (h : rd i k = false ∨ i % 3 = k % 3) : rowP rd i (k + 1) = rowP rd i k := by
  rcases h with h | h <;> simp [rowP, List.range_succ, h]
theorem linksP_yes {rd : Nat → Nat → Bool} {n i : Nat} (h : locV rd n i = true) : linksP rd n (i + 1) = linksP rd n i ++ rowP rd i 10 := by
  simp [linksP, List.range_succ, h, linkRow, rowP]
theorem linksP_no {rd : Nat → Nat → Bool} {n i : Nat} (h : locV rd n i = false) : linksP rd n (i + 1) = linksP rd n i := by
  simp [linksP, List.range_succ, h]
theorem readsP_len (rd : Nat → Nat → Bool) (n i : Nat) : (readsP rd n i).length ≤ i := by
  have := List.length_filter_le (fun i => locV rd n i) (List.range i)
  simpa [readsP] using this
theorem rowP_len (rd : Nat → Nat → Bool) (i k : Nat) : (rowP rd i k).length ≤ k := by
  have := List.length_filter_le (fun k => rd i k && decide (i % 3 ≠ k % 3)) (List.range k)
  simpa [rowP] using this
theorem linksP_len (rd : Nat → Nat → Bool) (n i : Nat) : (linksP rd n i).length ≤ i * 10 := by
  induction i with
  | zero => simp [linksP]
  | succ i ih =>
    cases h : locV rd n i with
    | true =>
      rw [linksP_yes h, List.length_append]
      have := rowP_len rd i 10
      omega
    | false =>
      rw [linksP_no h]
      omega
theorem linksN_len (rd : Nat → Nat → Bool) (n : Nat) : (linksN rd n).length ≤ 100 := linksP_len rd n 10

/-- The cells of a book among the first n. -/
def ownsP (rd : Nat → Nat → Bool) (b n : Nat) : List On := ((List.range n).filter (fun n => decide (n % 3 = b))).map (onN rd)
theorem ownsP_yes {rd : Nat → Nat → Bool} {b n : Nat} (h : n % 3 = b) : ownsP rd b (n + 1) = ownsP rd b n ++ [onN rd n] := by
  simp [ownsP, List.range_succ, h]
theorem ownsP_no {rd : Nat → Nat → Bool} {b n : Nat} (h : ¬ n % 3 = b) : ownsP rd b (n + 1) = ownsP rd b n := by
  simp [ownsP, List.range_succ, h]
theorem ownsP_len (rd : Nat → Nat → Bool) (b n : Nat) : (ownsP rd b n).length ≤ n := by
  have := List.length_filter_le (fun n => decide (n % 3 = b)) (List.range n)
  simpa [ownsP] using this
theorem bk_mod (n : Nat) : bk (n % 3) = bk n := bk_inj.2 (by omega)
theorem bk_len (n : Nat) : (bk n).length ≤ maxLen := by show 1 ≤ maxLen; decide
theorem bk_key (n : Nat) : keyOf Try.prog 9 (encStr (bk n)) = some (.string (bk n)) := Go.WideMaps.keyOf_string_mk Try.underlying9 (bk_len n)

/-- The map of the books' cells, after n cells. -/
structure OwnM (w : World) (m0 bo : Nat) (rd : Nat → Nat → Bool) (n nn : Nat) (D : DataW Value) (vs : Nat → Value) : Prop where
  m : w.ownsMap Try.prog 9 heldElem bo nn D
  le : nn ≤ n
  lo : m0 ≤ bo
  key : ∀ b, b < 3 → D.atKey (.string (bk b)) (.held (.slice none 0 0)) = .held (vs b)
  os : ∀ b, b < 3 → OnsAt w (fun _ => True) (vs b) (ownsP rd b n)
  ap : ∀ b c, b < 3 → c < 3 → b ≠ c → (vs b).ownBlock = none ∨ (vs b).ownBlock ≠ (vs c).ownBlock
  vlo : ∀ b, b < 3 → ∀ k, (vs b).ownBlock = some k → m0 ≤ k
theorem OwnM.upd {w w' : World} {m0 bo : Nat} {rd : Nat → Nat → Bool} {n nn : Nat} {D : DataW Value} {vs : Nat → Value} (h : OwnM w m0 bo rd n nn D vs) (u : Upd w w' (fun _ => False)) : OwnM w' m0 bo rd n nn D vs :=
  ⟨own_upd h.m u id, h.le, h.lo, h.key, fun b hb => (h.os b hb).upd u, h.ap, h.vlo⟩
theorem OwnM.start (w : World) (m0 bo : Nat) (rd : Nat → Nat → Bool) (h : w.ownsMap Try.prog 9 heldElem bo 0 (.map [])) (hlo : m0 ≤ bo) : OwnM w m0 bo rd 0 0 (.map []) (fun _ => .slice none 0 0) :=
  ⟨h, Nat.le_refl _, hlo, fun b _ => Go.Maps.atKey_of_not_has rfl _, fun b _ => OnsAt.nil _ _, fun _ _ _ _ _ => .inl rfl, fun _ _ k hk => by cases hk⟩
theorem OwnM.put {w w1 w2 : World} {m0 bo : Nat} {rd : Nat → Nat → Bool} {n nn : Nat} {D : DataW Value} {vs : Nat → Value} (h : OwnM w m0 bo rd n nn D vs) {xs : List Value} {va rv lv : Value} {q : Nat} (hq : q = (ownsP rd (n % 3) n).length + 1) (hm0 : m0 ≤ w.heap.size)
    (hx : Rw w 38 5 (vs (n % 3)) (ownsP rd (n % 3) n).length xs) (hrow : ∀ i o, (ownsP rd (n % 3) n)[i]? = some o → ∃ rv lv, OnRow xs i o rv lv ∧ PcsAt w rv o.reads ∧ LksAt w lv o.links ∧ ∀ k, lv.ownBlock = some k → True)
    (g1 : w.grownBy w1 (vs (n % 3)).ownBlock) (ha : Rw w1 38 5 va q (xs ++ [encStr [83], .int .i64 n, .int .i64 0, rv, lv])) (ho : va.ownBlock = (vs (n % 3)).ownBlock ∨ va.ownBlock = some w.heap.size)
    (hrv : PcsAt w rv (readsN rd n)) (hlv : LksAt w lv (linksN rd n)) (hm : w2.ownsMap Try.prog 9 heldElem bo (nn + 1) (D.put (.string (bk n)) (.held va))) (g2 : w1.grownBy w2 (some bo)) :
    OwnM w2 m0 bo rd (n + 1) (nn + 1) (D.put (.string (bk n)) (.held va)) (fun b => if b = n % 3 then va else vs b) := by
  have hn3 : n % 3 < 3 := by omega
  have u1 : Upd w w1 (fun k => (vs (n % 3)).ownBlock = some k) := (Upd.refl w _).grown g1 (fun k e => .inr e)
  have u2 : Upd w1 w2 (fun k => k = bo) := (Upd.refl w1 _).grown g2 (fun k e => .inr (Option.some.inj e).symm)
  have f1 : ∀ e, 38 ≠ e → Free w (fun k => (vs (n % 3)).ownBlock = some k) e := fun e he => row_free hx he
  have mw1 : w1.ownsMap Try.prog 9 heldElem bo nn D := by
    obtain ⟨es, clock, hb, F⟩ := h.m
    refine ⟨es, clock, u1.get hb (fun e => ?_), F⟩
    rcases hx.2 with ⟨e1, _⟩ | ⟨gg, off, cap, cur, e1, hg, _⟩
    · rw [e1] at e; cases e
    · rw [e1] at e
      have e2 : gg = bo := Option.some.inj e
      subst e2
      rw [hg] at hb
      cases hb
  have f2 : ∀ e, Free w1 (fun k => k = bo) e := fun e => map_free mw1 e
  have hva := own_at hm0 (h.vlo _ hn3) ho
  refine ⟨hm, by have := h.le; omega, h.lo, fun b hb => ?_, fun b hb => ?_, fun b c hb hc hbc => ?_, fun b hb k hk => ?_⟩
  · by_cases e : b = n % 3
    · subst e
      simp only [bk_mod, if_true]
      exact Go.Maps.atKey_put_same (World.ownsMap.isMap h.m) (show WideAt.IsKeyLit (Lit.string (bk n)) from trivial) _ _
    · simp only [e, if_false]
      rw [Go.Maps.atKey_put_other (fun e' => e ?_)]
      · exact h.key b hb
      · have := bk_inj.1 (Lit.string.inj e')
        omega
  · by_cases e : b = n % 3
    · subst e
      simp only [if_true]
      rw [ownsP_yes rfl]
      refine OnsAt.past (OnsAt.snoc (o := onN rd n) hq hx hrow u1 (f1 _ (by decide)) (f1 _ (by decide)) ha (u1.rw hrv (Rw.free hrv (f1 _ (by decide)))) (u1.rw hlv (Rw.free hlv (f1 _ (by decide)))) (fun _ _ => trivial)) u2 (fun k hk => ?_) (f2 _) (f2 _)
      exact Rw.free ha (f2 _) k hk
    · simp only [e, if_false]
      rw [ownsP_no (fun q => e q.symm)]
      refine OnsAt.past (OnsAt.past (h.os b hb) u1 (fun k hk q => ?_) (f1 _ (by decide)) (f1 _ (by decide))) u2 (fun k hk q => ?_) (f2 _) (f2 _)
      · rcases h.ap b _ hb hn3 e with z | z
        · rw [z] at hk; cases hk
        · exact z (hk.trans q.symm)
      · obtain ⟨ys, hy, _⟩ := OnsAt.past (h.os b hb) u1 (fun k hk q => by
          rcases h.ap b _ hb hn3 e with z | z
          · rw [z] at hk; cases hk
          · exact z (hk.trans q.symm)) (f1 _ (by decide)) (f1 _ (by decide))
        exact Rw.free hy (f2 _) k hk q
  · have new : ∀ c, c < 3 → va.ownBlock = some w.heap.size → (vs c).ownBlock ≠ some w.heap.size := fun c hc _ q => by
      obtain ⟨ys, hy, _⟩ := h.os c hc
      have := hy.lt _ q
      omega
    by_cases e : b = n % 3
    · have e' : ¬ c = n % 3 := by omega
      simp only [e, if_true, e', if_false]
      rcases ho with z | z
      · rw [z]
        exact h.ap _ c hn3 hc (by omega)
      · exact .inr (fun q => new c hc z (q.symm.trans z))
    · by_cases e' : c = n % 3
      · simp only [e, if_false, e', if_true]
        rcases ho with z | z
        · rw [z]
          exact h.ap b _ hb hn3 e
        · exact .inr (fun q => new b hb z (q.trans z))
      · simp only [e, e', if_false]
        exact h.ap b c hb hc hbc
  · by_cases e : b = n % 3
    · simp only [e, if_true] at hk
      exact hva k hk
    · simp only [e, if_false] at hk
      exact h.vlo b hb k hk
end Go.Proofs.Ytcdimledeomahaa
