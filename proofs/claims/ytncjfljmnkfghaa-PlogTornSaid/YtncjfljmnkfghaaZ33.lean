/- The walk of the statement PlogTorn. No statement of the seat is proved here. -/
import Derived.Test.YtncjfljmnkfghaaZ27
import Derived.Test.YtncjfljmnkfghaaZ28
import Derived.Test.YtncjfljmnkfghaaZ29
import Derived.Test.YtncjfljmnkfghaaZ30
import Derived.Test.YtncjfljmnkfghaaZ31
import Derived.Test.YtncjfljmnkfghaaZ32
namespace Go.Proofs.Ytncjfljmnkfghaa
open Go.RowKit

theorem law_PlogTorn (A0 : Option Addr) (n c : Nat) (LL : List (List PT)) (A1 : Option Addr) (n1 c1 : Nat) (L1 : List PT) (st : Int) (Q : Option Addr) (q dq : Nat) (pk : List Int) (W : World) (hr : RR2 W A0 LL) (hn : n = LL.length) (hr1 : RQ W A1 n1 L1) (hw1 : ∀ p ∈ L1, p.wide) (hs1 : -9223372036854775808 ≤ st) (hs2 : st ≤ 9223372036854775807) (hq : RI W Q q pk) (hdq : q ≤ dq) :
    Calls Try.prog 11 #[.slice A0 n c, .slice A1 n1 c1, .int .i64 st, .slice Q q dq] W fun e w' => e = .returned (.bool true) ∧ Below W.heap.size W w' := by
  have h : (if st < 0 then -(st + 1) else st) % 7 = 0 ∨ (if st < 0 then -(st + 1) else st) % 7 = 1 ∨ (if st < 0 then -(st + 1) else st) % 7 = 2 ∨ (if st < 0 then -(st + 1) else st) % 7 = 3 ∨ (if st < 0 then -(st + 1) else st) % 7 = 4 ∨ (if st < 0 then -(st + 1) else st) % 7 = 5 ∨ (if st < 0 then -(st + 1) else st) % 7 = 6 := by omega
  rcases h with h | h | h | h | h | h | h
  · exact law_torn0 A0 n c LL A1 n1 c1 L1 st Q q dq pk W hr hn hr1 hw1 hs1 hs2 hq hdq h
  · exact law_torn1 A0 n c LL A1 n1 c1 L1 st Q q dq pk W hr hn hr1 hw1 hs1 hs2 hq hdq h
  · exact law_torn2 A0 n c LL A1 n1 c1 L1 st Q q dq pk W hr hn hr1 hw1 hs1 hs2 hq hdq h
  · exact law_torn3 A0 n c LL A1 n1 c1 L1 st Q q dq pk W hr hn hr1 hw1 hs1 hs2 hq hdq h
  · exact law_torn4 A0 n c LL A1 n1 c1 L1 st Q q dq pk W hr hn hr1 hw1 hs1 hs2 hq hdq h
  · exact law_torn5 A0 n c LL A1 n1 c1 L1 st Q q dq pk W hr hn hr1 hw1 hs1 hs2 hq hdq h
  · exact law_torn6 A0 n c LL A1 n1 c1 L1 st Q q dq pk W hr hn hr1 hw1 hs1 hs2 hq hdq h
end Go.Proofs.Ytncjfljmnkfghaa
