/- Take and Drop on a network as a whole. -/
import Derived.Test.YtleehgpfoigajaaNtH
import Derived.Test.YtleehgpfoigajaaNtTk
set_option maxRecDepth 100000
namespace Go.Proofs.Ytleehgpfoigajaa
open Go.RowKit Go.Lat Go.Sort

def takeM (M : Pr → List (List UInt8)) (p : Pr) (i : Int) : Pr → List (List UInt8) := match lookR (M p) i with
  | some _ => setF M p ((M p).take i.toNat ++ (M p).drop (i.toNat + 1))
  | none => M

theorem Take_S (base : Nat) (w : World) (b bm n : Nat) (D : DataW Value) (lost : Nat) (M : Pr → List (List UInt8)) (V : Pr → Value) (h : Nets base w b bm n D lost M V) (hn : n < 1000000) (p : Pr) (hp : prOk p) (hM : (M p).length ≤ 1000) (i : Int) :
    Calls Try.prog 15 #[.pointer (some ⟨b, 0, none⟩), encStr p.1, encStr p.2, .int .i64 i] w fun e w' => e = .returned (lookV (M p) i) ∧
      ∃ n' D' V', n' ≤ n + 1 ∧ Nets base w' b bm n' D' lost (takeM M p i) V' ∧ Upd w w' (Nfr b bm V p) := by
  have LK := Look_S base w b bm n D lost M V h p hp i
  unfold takeM
  cases hlk : lookR (M p) i with
  | none =>
    rw [lookV_none hlk] at LK ⊢
    have HLK := hide LK
    have HN := hide h
    clear LK hlk h
    obtain ⟨p1, p2⟩ := p
    go_enter Try.func15, Try.ntmps15
    go_wp2_with (go_at_call 14; refine Calls.mono HLK.out ?_; rintro e w' ⟨rfl, hw⟩; replace hw := hw.symm; subst hw)
    go_ret2
    exact ⟨rfl, n, D, V, by omega, HN.out, Upd.refl _ _⟩
  | some x =>
    rw [lookV_some hlk]
    obtain ⟨k, rfl, hk⟩ := lookR_some hlk
    have hkl : k < (M p).length := (List.getElem?_eq_some_iff.1 hk).1
    simp only [Int.toNat_natCast]
    obtain ⟨l1, l2, l3, l4, l5, l6⟩ := h.line p hp
    have isM := World.ownsMap.isMap h.net.m
    by_cases h2 : 2 ≤ (M p).length
    · refine Calls.mono (Take_ln w b bm n D lost h.net hn ⟨p.1.toArray⟩ ⟨p.2.toArray⟩ hp.1 hp.2 base (M p) (V p) (h.line p hp) h2 hM k x hk) ?_
      rintro e w' ⟨rfl, v', k1, k2, k3, k4⟩
      refine ⟨rfl, n + 1, _, _, Nat.le_refl _, Nets.set h hp k4 k2 k3 (.inr (.inl k1)) ?_ ?_, k4.weaken fun _ _ e => .inr e⟩
      · rw [show pairLit ⟨p.1.toArray⟩ ⟨p.2.toArray⟩ = prLit p from rfl, Go.Maps.has_put_same isM (isKey_pr p)]
        have : ((M p).take k ++ (M p).drop (k + 1)) ≠ [] := fun e => by
          have h5 : ((M p).take k ++ (M p).drop (k + 1)).length = (M p).length - 1 := by simp; omega
          rw [e] at h5
          simp only [List.length_nil] at h5
          omega
        simp only [this, ne_eq, not_false_eq_true, decide_true]
      · intro kl hkl
        exact ⟨fun z => Go.Maps.atKey_put_other hkl _ _, Go.Maps.has_put_other hkl _⟩
    · have hl1 : (M p).length = 1 := by omega
      have k0 : k = 0 := by omega
      subst k0
      have hMp : M p = [x] := by
        match hm : M p, hl1, hk with
        | [y], _, q => simp at q; rw [q]
      rw [hMp] at l2
      obtain ⟨g, off, c, hv⟩ : ∃ g off c, V p = .slice (some ⟨g, off, none⟩) 1 c := by
        rcases l2.2 with ⟨_, h0⟩ | ⟨g, off, cap, cur, e, _⟩
        · simp at h0
        · exact ⟨g, off, cap, e⟩
      rw [hv] at l1 l2 l3 l4 l5
      refine Calls.mono (Take_last w b bm n D lost h.net hn ⟨p.1.toArray⟩ ⟨p.2.toArray⟩ hp.1 hp.2 g off c x l3 l2 l1 (fun e => l4 (by rw [e]; rfl)) (fun e => l5 (by rw [e]; rfl))) ?_
      rintro e w' ⟨rfl, k2, k4⟩
      have k4' : Upd w w' (fun k => k = bm ∨ some k = (V p).ownBlock) := k4.weaken fun j _ e => by
        rcases e with e | e
        · exact .inl e
        · exact .inr (by rw [hv, e]; rfl)
      have hz : (M p).take 0 ++ (M p).drop (0 + 1) = [] := by rw [hMp]; rfl
      rw [hz]
      refine ⟨rfl, n + 1, _, _, Nat.le_refl _, Nets.set (v := noRow) h hp k4' k2 (LineV.empty base w' b bm _ _ _ (Go.Maps.atKey_del_same _)) (.inl rfl) ?_ ?_, k4'.weaken fun _ _ e => .inr e⟩
      · rw [show pairLit ⟨p.1.toArray⟩ ⟨p.2.toArray⟩ = prLit p from rfl, Go.Maps.has_del_same]
        simp
      · intro kl hkl
        exact ⟨fun z => (Go.Maps.atKey_del_other hkl _).trans (Go.Maps.atKey_put_other hkl _ _), (Go.Maps.has_del_other hkl).trans (Go.Maps.has_put_other hkl _)⟩

/-- What Drop answers. -/
def dropE (zs : List (List UInt8)) (i : Int) : Int := match lookR zs i with
  | some _ => 0
  | none => 3
theorem Drop_S (base : Nat) (w : World) (b bm n : Nat) (D : DataW Value) (lost : Nat) (M : Pr → List (List UInt8)) (V : Pr → Value) (h : Nets base w b bm n D lost M V) (hn : n < 1000000) (p : Pr) (hp : prOk p) (hM : (M p).length ≤ 1000) (i : Int) :
    Calls Try.prog 12 #[.pointer (some ⟨b, 0, none⟩), encStr p.1, encStr p.2, .int .i64 i] w fun e w' => e = .returned (.int .i64 (dropE (M p) i)) ∧
      ∃ n' D' V', n' ≤ n + 1 ∧ Nets base w' b bm n' D' lost (takeM M p i) V' ∧ Upd w w' (Nfr b bm V p) := by
  have TK := Take_S base w b bm n D lost M V h hn p hp hM i
  unfold dropE
  cases hlk : lookR (M p) i with
  | none =>
    rw [lookV_none hlk] at TK
    have HT := hide TK
    clear TK hlk h
    obtain ⟨p1, p2⟩ := p
    go_enter Try.func12, Try.ntmps12
    go_wp2_with (go_at_call 15; refine Calls.mono HT.out ?_; rintro e w5 ⟨rfl, hq⟩)
    go_ret
    exact ⟨rfl, hq⟩
  | some x =>
    rw [lookV_some hlk] at TK
    have HT := hide TK
    clear TK hlk h
    obtain ⟨p1, p2⟩ := p
    go_enter Try.func12, Try.ntmps12
    go_wp2_with (go_at_call 15; refine Calls.mono HT.out ?_; rintro e w5 ⟨rfl, hq⟩)
    go_ret
    exact ⟨rfl, hq⟩
end Go.Proofs.Ytleehgpfoigajaa
