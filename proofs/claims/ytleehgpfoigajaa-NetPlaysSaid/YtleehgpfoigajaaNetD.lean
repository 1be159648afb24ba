/- The walk of the network's wakes. -/
import Derived.Test.YtleehgpfoigajaaNetC
set_option maxRecDepth 100000
namespace Go.Proofs.Ytleehgpfoigajaa
open Go.RowKit Go.Lat

set_option maxHeartbeats 1600000 in
theorem wakes_any (w : World) : Calls Try.prog 9 #[] w fun e w' => e = .returned (.bool true) ∧ Upd w w' (fun _ => False) := by
  have sa : (⟨#[97]⟩ : ByteArray).size ≤ maxLen := by decide
  have sb : (⟨#[98]⟩ : ByteArray).size ≤ maxLen := by decide
  have hne : pairLit ⟨#[98]⟩ ⟨#[97]⟩ ≠ pairLit ⟨#[97]⟩ ⟨#[98]⟩ := fun e => by
    have := (pairLit_inj sb sa sa sb e).1
    revert this
    decide
  go_enter Try.func9, Try.ntmps9
  go_wp2_with fail
  refine Calls.mono (New_any w) ?_
  rintro e w1 ⟨rfl, n1, u1⟩
  have hs1 := u1.size
  have L1 := LineV.empty w.heap.size w1 (w.heap.size + 1) w.heap.size (.map []) ⟨#[97]⟩ ⟨#[98]⟩ (atKey_none _ _)
  go_wp2_with fail
  refine Calls.mono (Send_ln w1 _ _ _ _ _ n1 (by omega) _ _ sa sb _ _ _ L1 hs1 (by decide) [120]) ?_
  rintro e w2 ⟨rfl, v2, n2, L2, u2⟩
  have u2' := u1.then u2 (L1.new (Nat.le_refl _))
  go_wp2_with fail
  refine Calls.mono (Send_ln w2 _ _ _ _ _ n2 (by omega) _ _ sa sb _ _ _ L2 u2'.size (by decide) [121]) ?_
  rintro e w3 ⟨rfl, v3, n3, L3, u3⟩
  have u3' := u2'.then u3 (L2.new (Nat.le_refl _))
  go_wp2_with fail
  refine Calls.mono (Twice_room w3 _ _ _ _ _ n3 (by omega) _ _ sa sb _ _ _ L3 u3'.size (by decide) 0 [120] rfl) ?_
  rintro e w4 ⟨rfl, v4, n4, L4, u4⟩
  have u4' := u3'.then u4 (L3.new (Nat.le_refl _))
  go_wp2_with fail
  refine Calls.mono (Take_ln w4 _ _ _ _ _ n4 (by omega) _ _ sa sb _ _ _ L4 (by decide) (by decide) 1 [121] rfl) ?_
  rintro e w5 ⟨he, v5, ho5, n5, L5, u5⟩
  replace he : e = .returned (.tuple #[.string ⟨#[121]⟩, .int .i64 0]) := he
  subst he
  have u5' := u4'.then u5 (L4.new (Nat.le_refl _))
  have LE := LineV.empty w.heap.size w5 (w.heap.size + 1) w.heap.size (((((DataW.map []).put (pairLit ⟨#[97]⟩ ⟨#[98]⟩) (.held v2)).put (pairLit ⟨#[97]⟩ ⟨#[98]⟩) (.held v3)).put (pairLit ⟨#[97]⟩ ⟨#[98]⟩) (.held v4)).put (pairLit ⟨#[97]⟩ ⟨#[98]⟩) (.held v5)) ⟨#[98]⟩ ⟨#[97]⟩ (by
    rw [Go.Maps.atKey_put_other hne, Go.Maps.atKey_put_other hne, Go.Maps.atKey_put_other hne, Go.Maps.atKey_put_other hne]
    exact atKey_none _ _)
  go_wp2_with fail
  refine Calls.mono (Len_ln w5 _ _ _ _ _ n5 _ _ sa sb _ _ _ L5) ?_
  rintro e w6 ⟨rfl, hw⟩
  replace hw := hw.symm
  subst hw
  go_wp2_with fail
  refine Calls.mono (Len_ln w5 _ _ _ _ _ n5 _ _ sb sa _ _ _ LE) ?_
  rintro e w6 ⟨rfl, hw⟩
  replace hw := hw.symm
  subst hw
  go_wp2_with fail
  go_ret
  exact ⟨rfl, u5'⟩
end Go.Proofs.Ytleehgpfoigajaa
