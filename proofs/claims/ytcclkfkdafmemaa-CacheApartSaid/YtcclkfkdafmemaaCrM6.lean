/- The law's act at every call. -/
import Derived.Test.YtcclkfkdafmemaaCrM1
import Derived.Test.YtcclkfkdafmemaaCrM2
import Derived.Test.YtcclkfkdafmemaaCrM3
import Derived.Test.YtcclkfkdafmemaaCrM4
import Derived.Test.YtcclkfkdafmemaaCrM5
set_option maxRecDepth 100000
namespace Go.Proofs.Ytcclkfkdafmemaa
open Go.RowKit Go.Lat

theorem act_any (w W : World) (b bm n : Nat) (D : DataW Value) (v : Value) (l : List Rf) (M : Lk → Option En) (h : Both w W b bm n D v l M) (hn : n ≤ 900000) (hl : l.length ≤ 20) (x : AcD) (lv : Value) (hlv : PlArg W lv x.l) (hx : x.ok) :
    Calls Try.prog 16 #[.pointer (some ⟨b, 0, none⟩), v, acVal x lv] W (ActPost w W b bm n v) := by
  obtain ⟨m, hm⟩ : ∃ m, (x.dov.tmod 6 + 6).tmod 6 = m := ⟨_, rfl⟩
  by_cases h0 : m = 0
  · exact act_want w W b bm n D v l M h hn hl x lv hlv hx m hm h0
  · by_cases h3 : m = 3
    · exact act_stale w W b bm n D v l M h hn hl x lv hlv hx m hm h3
    · by_cases h4 : m = 4
      · exact act_lose w W b bm n D v l M h hn hl x lv hlv hx m hm h4
      · by_cases h5 : m = 5
        · exact act_put w W b bm n D v l M h hn hl x lv hlv hx m hm h5
        · exact act_take w W b bm n D v l M h hn hl x lv hlv hx m hm h0 h3 h4 h5
end Go.Proofs.Ytcclkfkdafmemaa
