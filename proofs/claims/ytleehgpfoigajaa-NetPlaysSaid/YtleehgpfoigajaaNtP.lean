/- The walks of the reference's network: Len, find, Look. -/
import Derived.Test.YtleehgpfoigajaaNtN
set_option maxRecDepth 100000
namespace Go.Proofs.Ytleehgpfoigajaa
open Go.RowKit Go.Lat Go.Sort

/-- The reference's network. -/
structure RefAt (base : Nat) (w : World) (rb : Nat) (v : Value) (L : List On) (lost : Nat) : Prop where
  c : w.heap[rb]? = some (.cells #[v, .int .i64 lost] 45 (0, 0))
  r : Rw w 68 3 v L.length (onCells L)
  o : v.ownBlock ≠ some rb
  bb : base ≤ rb
  bo : ∀ k, v.ownBlock = some k → base ≤ k
theorem RefAt.upd {base : Nat} {w w' : World} {rb : Nat} {v : Value} {L : List On} {lost : Nat} {S : Nat → Prop} (h : RefAt base w rb v L lost) (u : Upd w w' S) (h1 : ¬ S rb) (h2 : ∀ k, v.ownBlock = some k → ¬ S k) : RefAt base w' rb v L lost :=
  ⟨u.get h.c h1, u.rw h.r h2, h.o, h.bb, h.bo⟩
theorem on_at {w : World} {sa : Option Addr} {n c : Nat} {l : List On} (h : Rw w 68 3 (.slice sa n c) n (onCells l)) (j : Nat) (x : On) (hx : l[j]? = some x) (hj : j < n) :
    ∃ g off, sa = some ⟨g, off, none⟩ ∧ g < w.heap.size ∧ w.cell? ⟨g, off + j * 3, none⟩ = some (encStr x.p.1) ∧ w.cell? ⟨g, off + j * 3 + 1, none⟩ = some (encStr x.p.2) ∧ w.cell? ⟨g, off + j * 3 + 2, none⟩ = some (encStr x.s) := by
  obtain ⟨g, off, cap, hv, hg, hc⟩ := Rw.pos h (by omega)
  simp at hv
  obtain ⟨c0, c1, c2⟩ := onCells_get l j x hx
  exact ⟨g, off, hv.1, hg, hc _ _ c0, hc _ _ c1, hc _ _ c2⟩
theorem ofP_next {L : List On} {j : Nat} {x : On} (h : L[j]? = some x) (p : Pr) : (ofP (L.take (j + 1)) p).length = (ofP (L.take j) p).length + if x.p = p then 1 else 0 := by
  rw [List.take_add_one, h, ofP_app]
  simp only [Option.toList_some, List.length_append]
  rw [ofP_cons]
  split <;> simp [ofP]
theorem ofP_le (L : List On) (p : Pr) : (ofP L p).length ≤ L.length := by
  unfold ofP
  rw [List.length_map]
  exact List.length_filter_le _ _

theorem RLen_any (base : Nat) (w : World) (rb : Nat) (v : Value) (L : List On) (lost : Nat) (h : RefAt base w rb v L lost) (hl : L.length ≤ 1000000) (p : Pr) :
    Calls Try.prog 20 #[.pointer (some ⟨rb, 0, none⟩), encStr p.1, encStr p.2] w fun e w' => e = .returned (.int .i64 ((ofP L p).length : Nat)) ∧ w' = w := by
  obtain ⟨sa, sc, rfl, -⟩ := Rw.form h.r
  have c0 := (cells2 h.c).1
  have blt := lt_at h.c
  have HR := hide h.r
  obtain ⟨N, hN⟩ : ∃ N, L.length = N := ⟨_, rfl⟩
  have HN := hide hN
  rw [hN] at hl c0
  clear hN h
  obtain ⟨p1, p2⟩ := p
  go_enter Try.func20, Try.ntmps20
  go_wp2_with fail
  go_loopg [7, 8] N (fun q kv jv wr => wr = w ∧ ∃ j : Nat, j + q = N ∧ jv = .int .i64 j ∧ kv = .int .i64 ((ofP (L.take j) (p1, p2)).length : Nat))
  case atStart => exact ⟨rfl, 0, by omega, rfl, by simp [ofP]⟩
  case round =>
    obtain ⟨hw, j, hj, rfl, rfl⟩ := hrel
    replace hw := hw.symm
    subst hw
    by_cases hjN : j < N
    · obtain ⟨x, hx⟩ : ∃ x, L[j]? = some x := ⟨_, List.getElem?_eq_getElem (by rw [HN.out]; exact hjN)⟩
      have hR := HR.out
      rw [HN.out] at hR
      obtain ⟨g, off, rfl, hg, d0, d1, d2⟩ := on_at hR j x hx hjN
      have hj0 : (0 : Int) ≤ (j : Int) := by omega
      have hj1 : (j : Int) < (N : Int) := by omega
      have hnx := ofP_next hx (p1, p2)
      have hle := ofP_le (L.take j) (p1, p2)
      rw [List.length_take] at hle
      obtain ⟨A, hA⟩ : ∃ A, (ofP (L.take j) (p1, p2)).length = A := ⟨_, rfl⟩
      rw [hA] at hnx hle ⊢
      have hwrap : IntKind.i64.wrap ((A : Int) + 1) = ((A + 1 : Nat) : Int) := by rw [IntWalk.i64_in _ (by omega)]; omega
      obtain ⟨⟨x1, x2⟩, xs⟩ := x
      simp only at d0 d1 d2 hnx
      clear hA hx hR
      by_cases h1 : x1 = p1
      · subst h1
        by_cases h2 : x2 = p2
        · subst h2
          rw [if_pos rfl] at hnx
          have HNX := hide hnx
          clear hnx
          go_wp2_with fail
          go_roundg (gk - 1)
          case measure => omega
          case rel => exact ⟨rfl, j + 1, by omega, by go_num, by rw [HNX.out]; rfl⟩
        · have hb : (x2 == p2) = false := by simpa using h2
          rw [if_neg (by simp [h2])] at hnx
          have HNX := hide hnx
          clear hnx h2
          go_wp2_with fail
          go_roundg (gk - 1)
          case measure => omega
          case rel => exact ⟨rfl, j + 1, by omega, by go_num, by rw [HNX.out]; rfl⟩
      · have hb : (x1 == p1) = false := by simpa using h1
        rw [if_neg (by simp [h1])] at hnx
        have HNX := hide hnx
        clear hnx h1
        go_wp2_with fail
        go_roundg (gk - 1)
        case measure => omega
        case rel => exact ⟨rfl, j + 1, by omega, by go_num, by rw [HNX.out]; rfl⟩
    · have hj1 : ¬ (j : Int) < (N : Int) := by omega
      have htk : L.take j = L := List.take_of_length_le (by rw [HN.out]; omega)
      rw [htk]
      clear htk
      go_wp2_with fail
      go_ret
      exact ⟨rfl, rfl⟩

theorem find_any (base : Nat) (w : World) (rb : Nat) (v : Value) (L : List On) (lost : Nat) (h : RefAt base w rb v L lost) (hl : L.length ≤ 1000000) (p : Pr) (i : Int) :
    Calls Try.prog 38 #[.pointer (some ⟨rb, 0, none⟩), encStr p.1, encStr p.2, .int .i64 i] w fun e w' => e = .returned (.int .i64 (findR L p i)) ∧ w' = w := by
  obtain ⟨sa, sc, rfl, -⟩ := Rw.form h.r
  have c0 := (cells2 h.c).1
  have blt := lt_at h.c
  have HR := hide h.r
  obtain ⟨N, hN⟩ : ∃ N, L.length = N := ⟨_, rfl⟩
  have HN := hide hN
  rw [hN] at hl c0
  clear hN h
  obtain ⟨p1, p2⟩ := p
  obtain ⟨R, hR⟩ : ∃ R, findR L (p1, p2) i = R := ⟨_, rfl⟩
  rw [hR]
  have HRR := hide hR
  clear hR
  go_enter Try.func38, Try.ntmps38
  go_wp2_with fail
  go_loopg [9, 10] N (fun q kv jv wr => wr = w ∧ ∃ j k : Nat, j + q = N ∧ k ≤ j ∧ jv = .int .i64 j ∧ kv = .int .i64 k ∧ findG (p1, p2) i (L.drop j) k j = R)
  case atStart => exact ⟨rfl, 0, 0, by omega, by omega, rfl, rfl, HRR.out⟩
  case round =>
    obtain ⟨hw, j, k, hj, hkj, rfl, rfl, hf⟩ := hrel
    replace hw := hw.symm
    subst hw
    by_cases hjN : j < N
    · obtain ⟨x, hx⟩ : ∃ x, L[j]? = some x := ⟨_, List.getElem?_eq_getElem (by rw [HN.out]; exact hjN)⟩
      have hR := HR.out
      rw [HN.out] at hR
      obtain ⟨g, off, rfl, hg, d0, d1, d2⟩ := on_at hR j x hx hjN
      have hj0 : (0 : Int) ≤ (j : Int) := by omega
      have hj1 : (j : Int) < (N : Int) := by omega
      have hd : L.drop j = x :: L.drop (j + 1) := by
        obtain ⟨hl', e⟩ := List.getElem?_eq_some_iff.1 hx
        rw [← e]
        exact List.drop_eq_getElem_cons hl'
      rw [hd, findG] at hf
      have hwrap : IntKind.i64.wrap ((k : Int) + 1) = ((k + 1 : Nat) : Int) := by rw [IntWalk.i64_in _ (by omega)]; omega
      obtain ⟨⟨x1, x2⟩, xs⟩ := x
      simp only at d0 d1 d2 hf
      clear hx hR hd
      by_cases h1 : x1 = p1
      · subst h1
        by_cases h2 : x2 = p2
        · subst h2
          rw [if_pos rfl] at hf
          by_cases h3 : (k : Int) = i
          · subst h3
            rw [if_pos rfl] at hf
            have HF := hide hf
            clear hf
            go_wp2_with fail
            go_ret
            exact ⟨by rw [← HF.out]; rfl, rfl⟩
          · rw [if_neg h3] at hf
            have hb3 : ((k : Int) == i) = false := by simpa using h3
            have HF := hide hf
            clear hf h3
            go_wp2_with fail
            go_roundg (gk - 1)
            case measure => omega
            case rel => exact ⟨rfl, j + 1, k + 1, by omega, by omega, by go_num, by go_num, HF.out⟩
        · have hb : (x2 == p2) = false := by simpa using h2
          rw [if_neg (by simp [h2])] at hf
          have HF := hide hf
          clear hf h2
          go_wp2_with fail
          go_roundg (gk - 1)
          case measure => omega
          case rel => exact ⟨rfl, j + 1, k, by omega, by omega, by go_num, rfl, HF.out⟩
      · have hb : (x1 == p1) = false := by simpa using h1
        rw [if_neg (by simp [h1])] at hf
        have HF := hide hf
        clear hf h1
        go_wp2_with fail
        go_roundg (gk - 1)
        case measure => omega
        case rel => exact ⟨rfl, j + 1, k, by omega, by omega, by go_num, rfl, HF.out⟩
    · have hj1 : ¬ (j : Int) < (N : Int) := by omega
      have htk : L.drop j = [] := List.drop_eq_nil_of_le (by rw [HN.out]; omega)
      rw [htk] at hf
      have HF := hide (show (-1 : Int) = R from hf)
      clear htk hf
      go_wp2_with fail
      go_ret
      exact ⟨by rw [← HF.out]; rfl, rfl⟩

theorem RLook_any (base : Nat) (w : World) (rb : Nat) (v : Value) (L : List On) (lost : Nat) (h : RefAt base w rb v L lost) (hl : L.length ≤ 1000000) (p : Pr) (i : Int) :
    Calls Try.prog 27 #[.pointer (some ⟨rb, 0, none⟩), encStr p.1, encStr p.2, .int .i64 i] w fun e w' => e = .returned (lookV (ofP L p) i) ∧ w' = w := by
  have FI := find_any base w rb v L lost h hl p i
  cases hlk : lookR (ofP L p) i with
  | none =>
    rw [lookV_none hlk]
    rw [find_none hlk] at FI
    have HFI := hide FI
    clear FI hlk h
    obtain ⟨p1, p2⟩ := p
    go_enter Try.func27, Try.ntmps27
    go_wp2_with (go_at_call 38; refine Calls.mono HFI.out ?_; rintro e w' ⟨rfl, hw⟩; replace hw := hw.symm; subst hw)
    go_ret2
    exact ⟨rfl, rfl⟩
  | some x =>
    rw [lookV_some hlk]
    obtain ⟨d, h1, h2, -⟩ := find_some hlk
    rw [h1] at FI
    have HFI := hide FI
    obtain ⟨sa, sc, rfl, -⟩ := Rw.form h.r
    have c0 := (cells2 h.c).1
    have blt := lt_at h.c
    have hd : d < L.length := (List.getElem?_eq_some_iff.1 h2).1
    obtain ⟨g, off, rfl, hg, d0, d1, d2⟩ := on_at h.r d _ h2 hd
    have hj0 : (0 : Int) ≤ (d : Int) := by omega
    have hj1 : (d : Int) < (L.length : Int) := by omega
    obtain ⟨p1, p2⟩ := p
    simp only at d0 d1 d2
    clear FI hlk h h1 h2
    go_enter Try.func27, Try.ntmps27
    go_wp2_with (go_at_call 38; refine Calls.mono HFI.out ?_; rintro e w' ⟨rfl, hw⟩; replace hw := hw.symm; subst hw)
    go_ret2
    exact ⟨rfl, rfl⟩
end Go.Proofs.Ytleehgpfoigajaa
