/- The walks of package net's Look, Take, Drop and Twice, at all inputs. -/
import Derived.Test.YtleehgpfoigajaaNtF
set_option maxRecDepth 100000
namespace Go.Proofs.Ytleehgpfoigajaa
open Go.RowKit Go.Lat Go.Sort

def lookR (zs : List (List UInt8)) (i : Int) : Option (List UInt8) := if 0 ≤ i then zs[i.toNat]? else none
theorem lookR_some {zs : List (List UInt8)} {i : Int} {x : List UInt8} (h : lookR zs i = some x) : ∃ k : Nat, i = k ∧ zs[k]? = some x := by
  unfold lookR at h
  split at h
  · exact ⟨i.toNat, by omega, h⟩
  · cases h
theorem lookR_none {zs : List (List UInt8)} {i : Int} (h : lookR zs i = none) : i < 0 ∨ (zs.length : Int) ≤ i := by
  unfold lookR at h
  split at h
  · rw [List.getElem?_eq_none_iff] at h
    omega
  · omega
def lookV (zs : List (List UInt8)) (i : Int) : Value := match lookR zs i with
  | some x => .tuple #[encStr x, .int .i64 0]
  | none => .tuple #[encStr [], .int .i64 3]
theorem lookV_some {zs : List (List UInt8)} {i : Int} {x : List UInt8} (h : lookR zs i = some x) : lookV zs i = .tuple #[encStr x, .int .i64 0] := by simp [lookV, h]
theorem lookV_none {zs : List (List UInt8)} {i : Int} (h : lookR zs i = none) : lookV zs i = .tuple #[encStr [], .int .i64 3] := by simp [lookV, h]

theorem Look_S (base : Nat) (w : World) (b bm n : Nat) (D : DataW Value) (lost : Nat) (M : Pr → List (List UInt8)) (V : Pr → Value) (h : Nets base w b bm n D lost M V) (p : Pr) (hp : prOk p) (i : Int) :
    Calls Try.prog 14 #[.pointer (some ⟨b, 0, none⟩), encStr p.1, encStr p.2, .int .i64 i] w fun e w' => e = .returned (lookV (M p) i) ∧ w' = w := by
  cases hl : lookR (M p) i with
  | some x =>
    rw [lookV_some hl]
    obtain ⟨k, rfl, hk⟩ := lookR_some hl
    exact Look_ln w b bm n D lost h.net ⟨p.1.toArray⟩ ⟨p.2.toArray⟩ hp.1 hp.2 base (M p) (V p) (h.line p hp) k x hk
  | none =>
    rw [lookV_none hl]
    have hr := lookR_none hl
    have LN := Len_S base w b bm n D lost M V h p hp
    obtain ⟨L, hL⟩ : ∃ L, (M p).length = L := ⟨_, rfl⟩
    rw [hL] at LN hr
    have HLN := hide LN
    clear LN hl hL h
    obtain ⟨p1, p2⟩ := p
    by_cases h0 : i < 0
    · have d0 : decide (i < 0) = true := by simpa using h0
      clear hr
      go_enter Try.func14, Try.ntmps14
      go_wp2_with fail
      go_ret2
      exact ⟨rfl, rfl⟩
    · have h1 : (L : Int) ≤ i := by omega
      have d0 : decide (i < 0) = false := by simpa using h0
      have d1 : decide ((L : Int) ≤ i) = true := by simpa using h1
      clear hr
      go_enter Try.func14, Try.ntmps14
      go_wp2_with (go_at_call 13; refine Calls.mono HLN.out ?_; rintro e w' ⟨rfl, hw⟩; replace hw := hw.symm; subst hw)
      go_ret2
      exact ⟨rfl, rfl⟩

/-- What Twice answers. -/
def twiceE (zs : List (List UInt8)) (i : Int) : Int := match lookR zs i with
  | some _ => if zs.length < 256 then 0 else 10
  | none => 3
def twiceM (M : Pr → List (List UInt8)) (p : Pr) (i : Int) : Pr → List (List UInt8) := match lookR (M p) i with
  | some x => sendM M p x
  | none => M
theorem Twice_S (base : Nat) (w : World) (b bm n : Nat) (D : DataW Value) (lost : Nat) (M : Pr → List (List UInt8)) (V : Pr → Value) (h : Nets base w b bm n D lost M V) (hn : n < 1000000) (hl : lost ≤ 1000000) (p : Pr) (hp : prOk p) (i : Int) :
    Calls Try.prog 11 #[.pointer (some ⟨b, 0, none⟩), encStr p.1, encStr p.2, .int .i64 i] w fun e w' => e = .returned (.int .i64 (twiceE (M p) i)) ∧
      ∃ n' D' V', n' ≤ n + 1 ∧ Nets base w' b bm n' D' lost (twiceM M p i) V' ∧ Upd w w' (Nfr b bm V p) := by
  have LK := Look_S base w b bm n D lost M V h p hp i
  have LN := Len_S base w b bm n D lost M V h p hp
  unfold twiceE twiceM
  cases hlk : lookR (M p) i with
  | none =>
    rw [lookV_none hlk] at LK
    have HLK := hide LK
    have HN := hide h
    clear LK LN hlk h
    obtain ⟨p1, p2⟩ := p
    go_enter Try.func11, Try.ntmps11
    go_wp2_with (go_at_call 14; refine Calls.mono HLK.out ?_; rintro e w' ⟨rfl, hw⟩; replace hw := hw.symm; subst hw)
    go_ret
    exact ⟨rfl, n, D, V, by omega, HN.out, Upd.refl _ _⟩
  | some x =>
    rw [lookV_some hlk] at LK
    have SD := Send_S base w b bm n D lost M V h hn hl p hp x
    by_cases h256 : (M p).length < 256
    · simp only [h256, if_true, decide_true] at SD ⊢
      obtain ⟨L, hL⟩ : ∃ L, (M p).length = L := ⟨_, rfl⟩
      rw [hL] at LN h256
      have d1 : decide ((256 : Int) ≤ (L : Int)) = false := by simp; omega
      have d2 : decide (256 ≤ L) = false := by simp; omega
      have HLK := hide LK
      have HLN := hide LN
      have HSD := hide SD
      clear LK LN SD hlk h hL h256
      obtain ⟨p1, p2⟩ := p
      go_enter Try.func11, Try.ntmps11
      go_wp2_with (first
        | (go_at_call 14; refine Calls.mono HLK.out ?_; rintro e w' ⟨rfl, hw⟩; replace hw := hw.symm; subst hw)
        | (go_at_call 13; refine Calls.mono HLN.out ?_; rintro e w' ⟨rfl, hw⟩; replace hw := hw.symm; subst hw)
        | (go_at_call 8; refine Calls.mono HSD.out ?_; rintro e w5 ⟨rfl, hq⟩))
      go_ret
      exact ⟨rfl, hq⟩
    · have e1 : sendM M p x = M := by simp [sendM, h256]
      rw [if_neg h256]
      simp only [e1]
      obtain ⟨L, hL⟩ : ∃ L, (M p).length = L := ⟨_, rfl⟩
      rw [hL] at LN h256
      have d1 : decide ((256 : Int) ≤ (L : Int)) = true := by simp; omega
      have d2 : decide (256 ≤ L) = true := by simp; omega
      have HLK := hide LK
      have HLN := hide LN
      have HN := hide h
      clear LK LN SD hlk h hL h256 e1
      obtain ⟨p1, p2⟩ := p
      go_enter Try.func11, Try.ntmps11
      go_wp2_with (first
        | (go_at_call 14; refine Calls.mono HLK.out ?_; rintro e w' ⟨rfl, hw⟩; replace hw := hw.symm; subst hw)
        | (go_at_call 13; refine Calls.mono HLN.out ?_; rintro e w' ⟨rfl, hw⟩; replace hw := hw.symm; subst hw))
      go_ret
      exact ⟨rfl, n, D, V, by omega, HN.out, Upd.refl _ _⟩

end Go.Proofs.Ytleehgpfoigajaa
