/- The walk of NetFull, joined. -/
import Derived.Test.YtleehgpfoigajaaNetE1
import Derived.Test.YtleehgpfoigajaaNetE2
import Derived.Test.YtleehgpfoigajaaNetE3
import Derived.Test.YtleehgpfoigajaaNetE4
set_option maxRecDepth 100000
namespace Go.Proofs.Ytleehgpfoigajaa
open Go.RowKit Go.Lat

theorem NetFull_any (w : World) (f t : ByteArray) (z : Int) (hz1 : -9223372036854775808 ≤ z) (hz2 : z ≤ 9223372036854775807) :
    Calls Try.prog 3 #[.string f, .string t, .int .i64 z] w fun e w' => e = .returned (.bool true) ∧ Upd w w' (fun _ => False) := by
  by_cases h1 : f.size ≤ 10
  · by_cases h2 : t.size ≤ 10
    · exact NetFull_c1 w f t f t z hz1 hz2 h1 rfl h2 rfl h1 h2
    · exact NetFull_c2 w f t f (t.extract 0 10) z hz1 hz2 h1 rfl (by omega) rfl h1 (by simp; omega)
  · by_cases h2 : t.size ≤ 10
    · exact NetFull_c3 w f t (f.extract 0 10) t z hz1 hz2 (by omega) rfl h2 rfl (by simp; omega) h2
    · exact NetFull_c4 w f t (f.extract 0 10) (t.extract 0 10) z hz1 hz2 (by omega) rfl (by omega) rfl (by simp; omega) (by simp; omega)
end Go.Proofs.Ytleehgpfoigajaa
