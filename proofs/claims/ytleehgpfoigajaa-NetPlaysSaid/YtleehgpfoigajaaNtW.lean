/- The walk of the law's act: one call of both networks (three minutes: a region of 27 operations). -/
import Derived.Test.YtleehgpfoigajaaNtWa
import Derived.BigRegion
set_option maxRecDepth 1000000
namespace Go.Proofs.Ytleehgpfoigajaa
open Go.RowKit Go.Lat Go.Sort

set_option maxHeartbeats 6400000 in
theorem act_any (base : Nat) (w : World) (b bm n : Nat) (D : DataW Value) (lost : Nat) (V : Pr → Value) (rb : Nat) (v : Value) (L : List On) (h : Both base w b bm n D lost V rb v L) (hn : n < 1000000) (hl : L.length ≤ 1000) (hlo : lost ≤ 1000000)
    (xd xi : Int) (xf xt xs tf tt ts : List UInt8) (hf : xf.take 10 = tf) (ht : xt.take 10 = tt) (hs : xs.take 10 = ts) :
    Calls Try.prog 17 #[.pointer (some ⟨b, 0, none⟩), .pointer (some ⟨rb, 0, none⟩), .agg #[.int .i64 xd, .int .i64 xi, encStr xf, encStr xt, encStr xs]] w (ActPost base w b bm n lost V rb v L (tf, tt)) := by
  obtain ⟨P, hP⟩ : ∃ P, ActPost base w b bm n lost V rb v L (tf, tt) = P := ⟨_, rfl⟩
  change Calls Try.prog 17 _ w (ActPost base w b bm n lost V rb v L (tf, tt))
  rw [hP]
  have HP := hide hP
  have HF := hide hf
  have HT := hide ht
  have HS := hide hs
  have HH := hide h
  clear hf ht hs h hP
  go_enter Try.func17, Try.ntmps17
  change Code.wp Try.prog ((Code.region 0 _ _).seq ((Code.region 1 _ _).seq actRest)) _ _ _
  go_wp2_with fail
  go_region
  simp only [cut10, HF.out, HT.out, HS.out]
  have pok : prOk (tf, tt) := by
    constructor
    · show tf.length ≤ maxLen
      rw [← HF.out]
      simp [maxLen]
      omega
    · show tt.length ≤ maxLen
      rw [← HT.out]
      simp [maxLen]
      omega
  rename_i hK
  refine hK _ _ ?_
  have bX : ((w.alloc (.cells #[.int .i64 xd, .int .i64 xi, encStr tf, encStr tt, encStr ts] 34)).drew).heap[w.heap.size]? = some (.cells #[.int .i64 xd, .int .i64 xi, encStr tf, encStr tt, encStr ts] 34 (0, 0)) := new1 w _
  have u0 : Upd w ((w.alloc (.cells #[.int .i64 xd, .int .i64 xi, encStr tf, encStr tt, encStr ts] 34)).drew) (fun _ => False) := ((Upd.refl w _).alloc _).drew
  rw [← HP.out]
  exact act_all base w b bm n D lost V rb v L HH.out hn hl hlo xd xi tf tt ts pok _ _ bX u0 rfl _ _ _ _ _ _ _ _ _ _ _ _ _ _ _ _ _ _ _ _ _ _ _ _ _ _ _ _ _ _ _ _ _ _ _ _ _ _ _ _ _ _ _ _ _ _ _ _ _ _ _ _ _ _ _ _ _ _ _ _ _ _ _ _ _ _ _ _ _ _ _ _ _ _ _ _ _ _ _ _ _ _ _ _ _ _ _ _ _ _ _ _ _ _ _ _ _ _ _ _ _ _ _ _ _ _ _ _ _ _ _ _ _ _ _ _ _ _ _ _ _ _ _ _ _ _ _ _ _ _ _ _ _ _ _ _ _ _ _ _ _ _ _ _ _ _ _ _ _ _ _ _ _ _ _ _ _ _ _ _ _ _ _ _ _ _ _ _ _ _ _ _ _
end Go.Proofs.Ytleehgpfoigajaa
