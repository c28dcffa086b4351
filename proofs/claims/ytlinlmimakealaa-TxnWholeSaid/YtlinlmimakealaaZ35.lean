/- The walk of the statement TxnWhole. No statement of the seat is proved here. -/
import Derived.Test.YtlinlmimakealaaZ31
import Derived.Test.YtlinlmimakealaaZ32
import Derived.Test.YtlinlmimakealaaZ33
import Derived.Test.YtlinlmimakealaaZ34
namespace Go.Proofs.Ytlinlmimakealaa
open Go.RowKit

theorem law_TxnWhole (A0 : Option Addr) (n c : Nat) (LP : List PT) (st : Int) (Q : Option Addr) (q dq : Nat) (pk : List Int) (W : World) (hr : RQ W A0 n LP) (hw : ∀ p ∈ LP, p.wide) (hs1 : -9223372036854775808 ≤ st) (hs2 : st ≤ 9223372036854775807) (hq : RI W Q q pk) (hdq : q ≤ dq) :
    Calls Try.prog 4 #[.slice A0 n c, .int .i64 st, .slice Q q dq] W fun e w' => e = .returned (.bool true) ∧ Below W.heap.size W w' := by
  have h : ∀ z : Int, z % 5 = 0 ∨ z % 5 = 1 ∨ z % 5 = 2 ∨ z % 5 = 3 ∨ z % 5 = 4 := fun z => by omega
  rcases h (if st < 0 then -(st + 1) else st) with h | h | h | h | h
  · exact law_whole0 A0 n c LP st Q q dq pk W hr hw hs1 hs2 hq hdq h
  · exact law_whole1 A0 n c LP st Q q dq pk W hr hw hs1 hs2 hq hdq h
  · exact law_whole2 A0 n c LP st Q q dq pk W hr hw hs1 hs2 hq hdq h
  · exact law_whole3 A0 n c LP st Q q dq pk W hr hw hs1 hs2 hq hdq h
  · exact law_whole4 A0 n c LP st Q q dq pk W hr hw hs1 hs2 hq hdq h
end Go.Proofs.Ytlinlmimakealaa
