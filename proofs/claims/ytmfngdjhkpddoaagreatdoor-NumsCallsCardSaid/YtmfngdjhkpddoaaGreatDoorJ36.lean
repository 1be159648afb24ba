/- The walk of the reference's functions of two numbers. -/
import Derived.Test.YtmfngdjhkpddoaaGreatDoorJ34
import Derived.Test.YtmfngdjhkpddoaaGreatDoorJ35
import Derived.Test.YtmfngdjhkpddoaaGreatDoorJ28
import Derived.Test.YtmfngdjhkpddoaaGreatDoorJ25
import Derived.Test.YtmfngdjhkpddoaaGreatDoorJ29
set_option maxRecDepth 100000
namespace Go.Proofs.YtmfngdjhkpddoaaGreatDoor
open Go.RowKit Go.Lat Go.Lib

end Go.Proofs.YtmfngdjhkpddoaaGreatDoor
