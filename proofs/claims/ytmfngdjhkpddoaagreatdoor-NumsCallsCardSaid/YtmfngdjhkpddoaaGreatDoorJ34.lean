/- The walk of the reference's Root. -/
import Derived.Test.YtmfngdjhkpddoaaGreatDoorJ33
import Derived.Test.YtmfngdjhkpddoaaGreatDoorJ27
/- The walk of the reference's Root. -/
set_option maxRecDepth 100000
namespace Go.Proofs.YtmfngdjhkpddoaaGreatDoor
open Go.RowKit Go.Lat

end Go.Proofs.YtmfngdjhkpddoaaGreatDoor
/- The walk of the reference's functions of one number. -/
set_option maxRecDepth 100000
namespace Go.Proofs.YtmfngdjhkpddoaaGreatDoor
open Go.RowKit Go.Lat Go.Lib

theorem tmod_rng (a : Int) (b : Int) (hb : 0 < b) : -b < a.tmod b ∧ a.tmod b < b := by
  have h1 := Int.tmod_lt_of_pos a hb
  have h2 := Int.tmod_lt_of_pos (-a) hb
  rw [Int.neg_tmod] at h2
  omega
end Go.Proofs.YtmfngdjhkpddoaaGreatDoor
