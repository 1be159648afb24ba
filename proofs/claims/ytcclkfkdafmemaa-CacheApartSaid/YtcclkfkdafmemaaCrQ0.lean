/- Fields of an entry. -/
import Derived.Test.YtcclkfkdafmemaaCrN
set_option maxRecDepth 100000
namespace Go.Proofs.Ytcclkfkdafmemaa
open Go.RowKit Go.Lat

theorem fld0 (w : World) (k n : Int) (t : List UInt8) (b : Bool) (f ver inc : Int) (has stale lost : Bool) : (Instr.field 67 (.agg #[.int .i64 k, .int .i64 n, enS t, .bool b, .int .i64 f, .int .i64 ver, .int .i64 inc, .bool has, .bool stale, .bool lost]) 0).run Try.prog w = .ok (.agg #[.int .i64 k, .int .i64 n, enS t, .bool b, .int .i64 f]) w := by kernel_rfl
theorem fld1 (w : World) (k n : Int) (t : List UInt8) (b : Bool) (f ver inc : Int) (has stale lost : Bool) : (Instr.field 67 (.agg #[.int .i64 k, .int .i64 n, enS t, .bool b, .int .i64 f, .int .i64 ver, .int .i64 inc, .bool has, .bool stale, .bool lost]) 1).run Try.prog w = .ok (.int .i64 ver) w := by kernel_rfl
theorem fld5 (w : World) (k n : Int) (t : List UInt8) (b : Bool) (f ver inc : Int) (has stale lost : Bool) : (Instr.field 67 (.agg #[.int .i64 k, .int .i64 n, enS t, .bool b, .int .i64 f, .int .i64 ver, .int .i64 inc, .bool has, .bool stale, .bool lost]) 5).run Try.prog w = .ok (.bool lost) w := by kernel_rfl
end Go.Proofs.Ytcclkfkdafmemaa
