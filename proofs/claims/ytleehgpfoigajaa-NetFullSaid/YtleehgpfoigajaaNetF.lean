/- Small facts for NetFull's walk. -/
import Derived.Test.YtleehgpfoigajaaNetD
set_option maxRecDepth 100000
namespace Go.Proofs.Ytleehgpfoigajaa
open Go.RowKit Go.Lat

theorem line_z (base : Nat) (w : World) (b bm : Nat) (D : DataW Value) (F T U : ByteArray) (HO : Hid (∀ kl, kl ≠ pairLit F T → D.atKey kl (.held noRow) = .held noRow)) (n2 : Hid (pairLit F T ≠ pairLit F U)) : LineV base w b bm D F U [] noRow :=
  LineV.empty base w b bm D F U (HO.out (pairLit F U) (Ne.symm n2.out))
end Go.Proofs.Ytleehgpfoigajaa
