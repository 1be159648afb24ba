/- The walk of the reference's Parse at every text. -/
import Derived.Test.YtckpomcenkgekaaDoorPsC
import Derived.Test.YtckpomcenkgekaaDoorFRnd
set_option maxRecDepth 100000
namespace Go.Proofs.YtckpomcenkgekaaDoor
open Go.RowKit Go.Lat

theorem byte_digit (t : ByteArray) (l : List UInt8) (k : Nat) (hk : k < t.size) (hl : t.data.toList = l) (ha : l.all dgB = true) : 48 ≤ t[k].toNat ∧ t[k].toNat ≤ 57 ∧ l[k]? = some t[k] := by
  have h := byte_list t k hk
  rw [hl] at h
  have := List.all_eq_true.1 ha _ (List.mem_of_getElem? h)
  simp [dgB] at this
  exact ⟨this.1, this.2, h⟩
theorem drop_get (l : List UInt8) (k : Nat) (b : UInt8) (h : l[k]? = some b) : l.drop k = b :: l.drop (k + 1) := by
  obtain ⟨hk, e⟩ := List.getElem?_eq_some_iff.1 h
  rw [List.drop_eq_getElem_cons hk, e]
end Go.Proofs.YtckpomcenkgekaaDoor
