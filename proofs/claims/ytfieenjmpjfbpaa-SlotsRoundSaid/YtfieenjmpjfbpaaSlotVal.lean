/- What a slot's read tells, as a value. -/
import Derived.Test.YtfieenjmpjfbpaaStd
import Derived.Test.YtfieenjmpjfbpaaSlotPure
namespace Go.Proofs.Ytfieenjmpjfbpaa
open Go.RowKit

/-- What a slot's read tells. -/
def slotV (bs : List UInt8) : Value := .agg #[.int .i64 (okI (readE bs) (sEp bs)), .int .i64 (okI (readE bs) (sHd bs)), .int .i64 (okI (readE bs) (sRp bs)), .int .i64 (okI (readE bs) (sEr bs)), .int .i64 (okI (readE bs) (sIo bs)), .int .i64 (okI (readE bs) (sWr bs))]
theorem slotV_no {bs : List UInt8} (h : readE bs ≠ 0) : slotV bs = .agg #[.int .i64 0, .int .i64 0, .int .i64 0, .int .i64 0, .int .i64 0, .int .i64 0] := by simp [slotV, okI, h]
end Go.Proofs.Ytfieenjmpjfbpaa
