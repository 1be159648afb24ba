/- copied: edges that nobody else has. -/
import Derived.Test.YtcdimledeomahaaWebB
set_option maxRecDepth 100000
namespace Go.Proofs.Ytcdimledeomahaa
open Go.RowKit Go.Lat

theorem Rw.block {w : World} {e size g off n cap : Nat} {xs : List Value} (h : Rw w e size (.slice (some ⟨g, off, none⟩) n cap) n xs) : ∃ cur, w.heap[g]? = some (.cells cur e (0, 0)) ∧ off + n * size ≤ cur.size := by
  rcases h.2 with ⟨he, _⟩ | ⟨g', off', cap', cur, he, hg, hnc, hcs, htake⟩
  · cases he
  · cases he
    have : n * size ≤ cap * size := Nat.mul_le_mul_right _ hnc
    exact ⟨cur, hg, by omega⟩

/-- The row of an edge whose links are laid anew. -/
theorem EdRow.set {xs : List Value} {i : Nat} {e : Ed} {rv : Value} (h : EdRow xs i e rv) (u : Value) : EdRow (xs.set (i * 4 + 3) u) i e u := by
  obtain ⟨h0, h1, h2, h3⟩ := h
  have hl : i * 4 + 3 < xs.length := (List.getElem?_eq_some_iff.1 h3).1
  refine ⟨?_, ?_, ?_, ?_⟩
  · rw [List.getElem?_set_ne (by omega)]; exact h0
  · rw [List.getElem?_set_ne (by omega)]; exact h1
  · rw [List.getElem?_set_ne (by omega)]; exact h2
  · rw [List.getElem?_set_self hl]
theorem EdRow.set_other {xs : List Value} {i j : Nat} {e : Ed} {rv : Value} (h : EdRow xs i e rv) (u : Value) (hij : i ≠ j) : EdRow (xs.set (j * 4 + 3) u) i e rv := by
  obtain ⟨h0, h1, h2, h3⟩ := h
  refine ⟨?_, ?_, ?_, ?_⟩
  · rw [List.getElem?_set_ne (by omega)]; exact h0
  · rw [List.getElem?_set_ne (by omega)]; exact h1
  · rw [List.getElem?_set_ne (by omega)]; exact h2
  · rw [List.getElem?_set_ne (by omega)]; exact h3
theorem slice_one (a : Option Addr) (n c : Nat) : (Value.slice a n c).oneCell' = true := rfl

set_option maxHeartbeats 800000 in
theorem copied_any (w : World) (A : Nat → Prop) (v : Value) (es : List Ed) (h : EdsAt w A v es) (hn : es.length ≤ 1000) (hl : ∀ e ∈ es, e.reads.length ≤ 1000) :
    Calls Try.prog 24 #[v] w fun e w' => ∃ a c, e = .returned (.slice a es.length c) ∧ EdsAt w' (fun k => w.heap.size ≤ k) (.slice a es.length c) es ∧ Upd w w' (fun _ => False) := by
  obtain ⟨hA, xs, hx, hx1, hrow⟩ := h
  obtain ⟨N, hN⟩ : ∃ N, es.length = N := ⟨_, rfl⟩
  rw [hN] at hx hn ⊢
  have HN := hide hN
  clear hN
  have CE := CloneE_any w v N xs hx hx1 (by omega)
  have HX := hide hx
  clear hx
  go_enter Try.func24, Try.ntmps24
  go_wp2_with fail
  refine Calls.mono CE ?_
  rintro e w1 ⟨a, c, rfl, r1, nb, u1⟩
  go_wp2_with fail
  go_loopg [9] N (fun q iv wr => ∃ (i : Nat) (ys : List Value), i + q = N ∧ iv = .int .i64 i ∧ Rw wr 83 4 (.slice a N c) N ys ∧ (∀ u ∈ ys, u.oneCell' = true) ∧
    (∀ k e, es[k]? = some e → ∃ rv, EdRow ys k e rv ∧ LksAt wr rv e.reads ∧ (∀ j, rv.ownBlock = some j → (Value.slice a N c).ownBlock ≠ some j) ∧ (k < i → ∀ j, rv.ownBlock = some j → w.heap.size ≤ j)) ∧ Upd w wr (fun _ => False))
  case atStart =>
    refine ⟨0, xs, by omega, rfl, r1, hx1, fun k e he => ?_, u1⟩
    obtain ⟨rv, q1, q2, q3⟩ := hrow k e he
    exact ⟨rv, q1, u1.rw q2 (fun _ _ => id), fun j hj e => by have := q2.lt j hj; have := nb j e; omega, fun h0 => by omega⟩
  case round =>
    obtain ⟨i, ys, hi, rfl, ry, ry1, hr, hu⟩ := hrel
    by_cases hiN : i < N
    · obtain ⟨e, he⟩ : ∃ e, es[i]? = some e := ⟨_, List.getElem?_eq_getElem (by rw [HN.out]; exact hiN)⟩
      obtain ⟨rv, ⟨z0, z1, z2, z3⟩, q2, q3, q4⟩ := hr i e he
      obtain ⟨g, off, cap, hv, hg, hc⟩ := Rw.pos ry (by omega)
      cases hv
      have c3 := hc _ _ z3
      obtain ⟨la, lc, rfl, -⟩ := Rw.form q2
      have CL := CloneL_any wr (.slice la e.reads.length lc) e.reads.length _ q2 (lkCells_one _) (by have := hl e (List.mem_of_getElem? he); omega)
      rw [← Nat.add_assoc] at c3
      have hi0 : (0 : Int) ≤ (i : Int) := by omega
      have hi1 : (i : Int) < (N : Int) := by omega
      have HY := hide ry
      have HR := hide hr
      have HU := hide hu
      have HQ := hide q2
      clear ry hr hu q2 hc CE
      go_wp2_with fail
      refine Calls.mono CL ?_
      rintro e' w2 ⟨a2, c2, rfl, r2, nb2, u2⟩
      obtain ⟨cur, hb, hsz⟩ := Rw.block (u2.rw HY.out (fun _ _ => id))
      have fr := free_at hb (off + i * 4 + 3)
      have c3' := (u2.cell g (off + i * 4 + 3) hg id).trans c3
      have HR2 := hide r2
      clear r2 hb
      go_wp2_with fail
      go_roundg (gk - 1)
      case measure => omega
      case rel =>
        refine ⟨i + 1, ys.set (i * 4 + 3) (.slice a2 e.reads.length c2), by omega, by go_num, ?_, ?_, fun k e2 he2 => ?_, ?_⟩
        · have k := Rw.set (u2.rw HY.out (fun _ _ => id)) (i * 4 + 3) (.slice a2 e.reads.length c2) (by omega)
          rw [← Nat.add_assoc] at k
          exact k
        · intro u hu
          rcases List.mem_or_eq_of_mem_set hu with h | rfl
          · exact ry1 _ h
          · rfl
        · by_cases hk : k = i
          · subst hk
            have e3 : e2 = e := Option.some.inj (he2.symm.trans he)
            subst e3
            refine ⟨_, EdRow.set ⟨z0, z1, z2, z3⟩ _, Rw.setCell HR2.out _ _ (fun e' => ?_), fun j hj e' => ?_, fun _ j hj => ?_⟩
            · have := nb2 _ e'; simp at this; omega
            · have := nb2 j hj; have := Option.some.inj e'; simp at this; omega
            · have := nb2 j hj; have := HU.out.size; omega
          · obtain ⟨rv2, p1, p2, p3, p4⟩ := HR.out k e2 he2
            exact ⟨rv2, p1.set_other _ hk, Rw.setCell (u2.rw p2 (fun _ _ => id)) _ _ (fun e' => p3 g e' rfl), p3, fun hk' => p4 (by omega)⟩
        · exact (HU.out.then u2 (fun _ _ => id)).setCell _ _ (.inl (nb g rfl))
    · go_wp2_with fail
      go_ret
      have e0 : i = N := by omega
      subst e0
      refine ⟨a, c, rfl, ⟨nb, ys, by rw [HN.out]; exact ry, ry1, fun k e he => ?_⟩, hu⟩
      obtain ⟨rv, q1, q2, q3, q4⟩ := hr k e he
      exact ⟨rv, q1, q2, q4 (by have := (List.getElem?_eq_some_iff.1 he).1; rw [HN.out] at this; exact this)⟩
end Go.Proofs.Ytcdimledeomahaa
