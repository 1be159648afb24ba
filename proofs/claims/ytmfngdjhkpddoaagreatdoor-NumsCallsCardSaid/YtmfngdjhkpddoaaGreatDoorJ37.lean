/- The walk of the reference's Call. -/
import Derived.Test.YtmfngdjhkpddoaaGreatDoorJ36
import Derived.Test.YtmfngdjhkpddoaaGreatDoorJ32
set_option maxRecDepth 100000
namespace Go.Proofs.YtmfngdjhkpddoaaGreatDoor
open Go.RowKit Go.Lat Go.Lib

end Go.Proofs.YtmfngdjhkpddoaaGreatDoor
