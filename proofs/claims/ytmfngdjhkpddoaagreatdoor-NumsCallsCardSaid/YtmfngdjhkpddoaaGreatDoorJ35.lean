/- The walks of the reference's plus1 and up: rounding away from 0, digit by digit. -/
import Derived.Test.YtmfngdjhkpddoaaGreatDoorJ33
import Derived.Test.YtmfngdjhkpddoaaGreatDoorJ06
import Derived.Test.YtmfngdjhkpddoaaGreatDoorJ05
import Derived.Test.YtmfngdjhkpddoaaGreatDoorJ17
import Derived.Test.YtmfngdjhkpddoaaGreatDoorJ29
/- The walks of the reference's plus1 and up: rounding away from 0, digit by digit. -/
set_option maxRecDepth 100000
namespace Go.Proofs.YtmfngdjhkpddoaaGreatDoor
open Go.RowKit Go.Lat

abbrev ints (l : List Nat) : List Value := l.map fun d => .int .i64 (d : Nat)
end Go.Proofs.YtmfngdjhkpddoaaGreatDoor
/- The walk of the reference's up. -/
set_option maxRecDepth 100000
namespace Go.Proofs.YtmfngdjhkpddoaaGreatDoor
open Go.RowKit Go.Lat

end Go.Proofs.YtmfngdjhkpddoaaGreatDoor
