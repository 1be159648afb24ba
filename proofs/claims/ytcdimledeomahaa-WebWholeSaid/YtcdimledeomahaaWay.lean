/- The plain law of the search: it tells whether a way leads to a link at which it stops. -/
import Derived.Test.YtcdimledeomahaaWebM
set_option maxRecDepth 100000
namespace Go.Proofs.Ytcdimledeomahaa
open Go.RowKit Go.Lat

theorem nodup_len {α : Type} [DecidableEq α] : ∀ (M U : List α), M.Nodup → (∀ x ∈ M, x ∈ U) → M.length ≤ U.length
  | [], _, _, _ => Nat.zero_le _
  | a :: M, U, hn, hs => by
    rw [List.nodup_cons] at hn
    have ha : a ∈ U := hs a (by simp)
    have h := nodup_len M (U.erase a) hn.2 (fun x hx => by
      have hne : x ≠ a := fun e => hn.1 (e ▸ hx)
      exact (List.mem_erase_of_ne hne).2 (hs x (by simp [hx])))
    rw [List.length_erase_of_mem ha] at h
    have := List.length_pos_of_mem ha
    simp
    omega

theorem sees_new (xs : List Lk) : ∀ (M L : List Lk), ∃ new, sees M L xs = (M ++ new, L ++ new) ∧ new.Nodup ∧ (∀ x ∈ new, x ∉ M ∧ x ∈ xs) ∧ ∀ x ∈ xs, x ∈ M ∨ x ∈ new := by
  induction xs with
  | nil => intro M L; exact ⟨[], by simp [sees], by simp, by simp, by simp⟩
  | cons y ys ih =>
    intro M L
    unfold sees
    split
    · rename_i hy
      obtain ⟨new, h1, h2, h3, h4⟩ := ih M L
      refine ⟨new, h1, h2, fun x hx => ⟨(h3 x hx).1, by simp [(h3 x hx).2]⟩, fun x hx => ?_⟩
      simp at hx
      rcases hx with rfl | hx
      · exact .inl hy
      · exact h4 x hx
    · rename_i hy
      obtain ⟨new, h1, h2, h3, h4⟩ := ih (M ++ [y]) (L ++ [y])
      refine ⟨y :: new, by rw [h1]; simp, ?_, fun x hx => ?_, fun x hx => ?_⟩
      · rw [List.nodup_cons]
        exact ⟨fun h => (h3 y h).1 (by simp), h2⟩
      · simp at hx
        rcases hx with rfl | hx
        · exact ⟨hy, by simp⟩
        · have := h3 x hx
          simp at this
          exact ⟨this.1.1, by simp [this.2]⟩
      · simp at hx
        rcases hx with rfl | hx
        · exact .inr (by simp)
        · rcases h4 x hx with h | h
          · simp at h
            rcases h with h | rfl
            · exact .inl h
            · exact .inr (by simp)
          · exact .inr (by simp [h])

/-- What a search comes to. -/
inductive Way.Reach (s : Way) (from' : List Lk) : Lk → Prop
  | base {l : Lk} : l ∈ from' → Way.Reach s from' l
  | step {l m : Lk} : Way.Reach s from' l → m ∈ s.next l → Way.Reach s from' m

theorem goes_inv (s : Way) (from' U : List Lk) (hU : ∀ l ∈ U, ∀ m ∈ s.next l, m ∈ U) : ∀ (N : Nat) (M L : List Lk), M.Nodup → (∀ x ∈ L, x ∈ M) → (∀ x ∈ M, x ∈ U ∧ s.Reach from' x) →
    (∀ x ∈ M, x ∉ L → s.stop x = false ∧ ∀ m ∈ s.next x, m ∈ M) → (∀ x ∈ from', x ∈ M) → (U.length - M.length) + L.length < N →
    ∃ r, s.goes N (M, L) = some r ∧ (r = true ↔ ∃ x, s.Reach from' x ∧ s.stop x = true) := by
  intro N
  induction N with
  | zero => intro M L _ _ _ _ _ h; omega
  | succ N ih =>
    intro M L hn hLM hMU hdone hfrom hlt
    rcases List.eq_nil_or_concat L with rfl | ⟨L', l, rfl⟩
    · refine ⟨false, by simp [Way.goes], by simp, ?_⟩
      rintro ⟨x, hx, hst⟩
      have hin : ∀ x, s.Reach from' x → x ∈ M := by
        intro x hx
        induction hx with
        | base h => exact hfrom _ h
        | step _ hm ih => exact (hdone _ ih (by simp)).2 _ hm
      rw [(hdone x (hin x hx) (by simp)).1] at hst
      cases hst
    · have hl : l ∈ M := hLM l (by simp)
      cases hst : s.stop l with
      | true =>
        refine ⟨true, by simp [Way.goes, hst], ?_⟩
        simp only [true_iff]
        exact ⟨l, (hMU l hl).2, hst⟩
      | false =>
        obtain ⟨new, h1, h2, h3, h4⟩ := sees_new (s.next l) M L'
        have hg : s.goes (N + 1) (M, L'.concat l) = s.goes N (M ++ new, L' ++ new) := by
          simp [Way.goes, hst, h1]
        rw [hg]
        have hnd : (M ++ new).Nodup := by
          rw [List.nodup_append]
          exact ⟨hn, h2, fun a ha b hb e => (h3 b hb).1 (e ▸ ha)⟩
        have hsub : ∀ x ∈ M ++ new, x ∈ U ∧ s.Reach from' x := by
          intro x hx
          rw [List.mem_append] at hx
          rcases hx with hx | hx
          · exact hMU x hx
          · exact ⟨hU l (hMU l hl).1 x (h3 x hx).2, .step (hMU l hl).2 (h3 x hx).2⟩
        refine ih (M ++ new) (L' ++ new) hnd (fun x hx => ?_) hsub (fun x hx hnx => ?_) (fun x hx => by simp [hfrom x hx]) ?_
        · rw [List.mem_append] at hx ⊢
          rcases hx with hx | hx
          · exact .inl (hLM x (by simp [hx]))
          · exact .inr hx
        · simp at hnx
          have hxM : x ∈ M := by
            rw [List.mem_append] at hx
            exact hx.elim id (fun h => absurd h hnx.2)
          by_cases hxl : x = l
          · subst hxl
            refine ⟨hst, fun m hm => ?_⟩
            rw [List.mem_append]
            exact h4 m hm
          · have := hdone x hxM (by simp [hnx.1, hxl])
            exact ⟨this.1, fun m hm => by simp [this.2 m hm]⟩
        · have := nodup_len (M ++ new) U hnd (fun x hx => (hsub x hx).1)
          simp at this hlt ⊢
          omega

/-- The search from some links, in a finite world. -/
theorem goes_reach (s : Way) (from' U : List Lk) (hf : ∀ l ∈ from', l ∈ U) (hU : ∀ l ∈ U, ∀ m ∈ s.next l, m ∈ U) (N : Nat) (hN : U.length ≤ N) :
    ∃ r, s.goes (N + 1) (sees [] [] from') = some r ∧ (r = true ↔ ∃ x, s.Reach from' x ∧ s.stop x = true) := by
  obtain ⟨new, h1, h2, h3, h4⟩ := sees_new from' [] []
  rw [h1]
  simp only [List.nil_append]
  refine goes_inv s from' U hU (N + 1) new new h2 (fun _ h => h) (fun x hx => ⟨hf x (h3 x hx).2, .base (h3 x hx).2⟩) (fun x hx hn => absurd hx hn) (fun x hx => ?_) ?_
  · exact (h4 x hx).elim (fun h => by cases h) id
  · have := nodup_len new U h2 (fun x hx => hf x (h3 x hx).2)
    omega
end Go.Proofs.Ytcdimledeomahaa
