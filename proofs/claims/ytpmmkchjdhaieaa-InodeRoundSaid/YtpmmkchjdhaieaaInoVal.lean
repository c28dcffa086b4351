/- What an inode's read tells, as a value. -/
import Derived.Test.YtpmmkchjdhaieaaStd
import Derived.Test.YtpmmkchjdhaieaaInoPure
namespace Go.Proofs.Ytpmmkchjdhaieaa
open Go.RowKit

def okP (p : Bool) (v : Int) : Int := if p then v else 0
def inoW (bs : List UInt8) : Value := .agg #[.int .i64 (okP (readIP bs) (iK bs)), .int .i64 (okP (readIP bs) (iL bs)), .int .i64 (okP (readIP bs) (iS bs)), .int .i64 (okP (readIP bs) (by_ bs 4)), .int .i64 (okP (readIP bs) (by_ bs 5)), .int .i64 (okP (readIP bs) (by_ bs 6)), .int .i64 (okP (readIP bs) (by_ bs 7)), .int .i64 (okP (readIP bs) (by_ bs 8)), .int .i64 (okP (readIP bs) (by_ bs 9)), .int .i64 (okP (readIP bs) (by_ bs 10)), .int .i64 (okP (readIP bs) (by_ bs 11)), .int .i64 (okP (readIP bs) (by_ bs 12)), .int .i64 (okP (readIP bs) (by_ bs 13)), .int .i64 (okP (readIP bs) (by_ bs 14)), .int .i64 (okP (readIP bs) (by_ bs 15))]
theorem inoW_no {bs : List UInt8} (h : readIP bs = false) : inoW bs = .agg #[.int .i64 0, .int .i64 0, .int .i64 0, .int .i64 0, .int .i64 0, .int .i64 0, .int .i64 0, .int .i64 0, .int .i64 0, .int .i64 0, .int .i64 0, .int .i64 0, .int .i64 0, .int .i64 0, .int .i64 0] := by simp [inoW, okP, h]
theorem inoW_yes {bs : List UInt8} (h : readIP bs = true) : inoW bs = .agg #[.int .i64 (iK bs), .int .i64 (iL bs), .int .i64 (iS bs), .int .i64 (by_ bs 4), .int .i64 (by_ bs 5), .int .i64 (by_ bs 6), .int .i64 (by_ bs 7), .int .i64 (by_ bs 8), .int .i64 (by_ bs 9), .int .i64 (by_ bs 10), .int .i64 (by_ bs 11), .int .i64 (by_ bs 12), .int .i64 (by_ bs 13), .int .i64 (by_ bs 14), .int .i64 (by_ bs 15)] := by simp [inoW, okP, h]
theorem readIE_short {bs : List UInt8} (h : bs.length < 64) : readIE bs = 3 ∧ readIP bs = false := by
  have : readIE bs = 3 := by rw [readIE, if_pos h]
  exact ⟨this, by rw [readIP, this]; rfl⟩
theorem readIE_none {bs : List UInt8} (h : 64 ≤ bs.length) (hn : noneB bs = true) : readIE bs = 0 ∧ readIP bs = false := by
  have : readIE bs = 0 := by rw [readIE, if_neg (by omega), if_pos hn]
  exact ⟨this, by rw [readIP, hn, Bool.not_true, Bool.and_false]⟩
theorem readIE_sum {bs : List UInt8} (h : 64 ≤ bs.length) (hn : noneB bs = false) (hs : getN bs 60 4 ≠ (crcN (bs.take 60) : Nat)) : readIE bs = 4 ∧ readIP bs = false := by
  have ho : openE bs = 4 := by rw [openE, if_neg (by omega), if_neg hs]
  have : readIE bs = 4 := by rw [readIE, if_neg (by omega), hn, if_neg (by simp), ho]; rfl
  exact ⟨this, by rw [readIP, this]; rfl⟩
theorem readIE_open {bs : List UInt8} (h : 64 ≤ bs.length) (hn : noneB bs = false) (hs : getN bs 60 4 = (crcN (bs.take 60) : Nat)) : readIE bs = (if sameI bs then 0 else 2) ∧ readIP bs = sameI bs := by
  have ho : openE bs = 0 := by rw [openE, if_neg (by omega), if_pos hs]
  have : readIE bs = if sameI bs then 0 else 2 := by rw [readIE, if_neg (by omega), hn, if_neg (by simp), if_pos ho]
  refine ⟨this, ?_⟩
  rw [readIP, this, hn]
  cases sameI bs <;> rfl
end Go.Proofs.Ytpmmkchjdhaieaa
