/- The walk of the reference's Bin. -/
import Derived.Test.YtmfngdjhkpddoaaGreatDoorJ33
import Derived.Test.YtmfngdjhkpddoaaGreatDoorJ14
import Derived.Test.YtmfngdjhkpddoaaGreatDoorJX2
set_option maxRecDepth 100000
namespace Go.Proofs.YtmfngdjhkpddoaaGreatDoor
open Go.RowKit Go.Lat Go.Lib

theorem nums2 (x y : Vl) : numsE [x, y] = if (numF x).2 = 0 then (numF y).2 else (numF x).2 := by
  rw [numsE, numsE, numsE]
  by_cases h : (numF x).2 = 0
  · rw [if_pos h, if_pos h]
    by_cases h2 : (numF y).2 = 0
    · rw [if_pos h2, h2]
    · rw [if_neg h2]
  · rw [if_neg h, if_neg h]
end Go.Proofs.YtmfngdjhkpddoaaGreatDoor
