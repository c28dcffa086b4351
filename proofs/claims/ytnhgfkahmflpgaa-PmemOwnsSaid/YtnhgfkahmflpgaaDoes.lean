/- commonslaw03.does. No statement of the seat is proved here. -/
import Derived.Test.YtnhgfkahmflpgaaDoes0
import Derived.Test.YtnhgfkahmflpgaaDoes1
import Derived.Test.YtnhgfkahmflpgaaDoes2
namespace Go.Proofs.Ytnhgfkahmflpgaa
open Go.RowKit

theorem does3 {w : World} {base : Nat} {x y : MB} {N : Nat} {S T : List UInt8} {A : List Bool} (h : Pair w base x y N S T A) (hb : base ≤ w.heap.size) (k a n : Int) (B : Option Addr) (m c : Nat) (Q : Option Addr) (q d : Nat) (bs : List UInt8) (pk : List Int)
    (hn : -9223372036854775808 ≤ n) (hn' : n ≤ 9223372036854775807) (hm : bs.length = m) (hq : pk.length = q) (hc : m ≤ c) (hd : q ≤ d) (hrb : RB w w.heap.size B bs) (hri : RI w Q q pk) (hB : 0 < m → ∀ p, B = some p → ¬ x.F p.block ∧ ¬ y.F p.block) (hQ : 0 < q → ∀ p, Q = some p → ¬ x.F p.block ∧ ¬ y.F p.block)
    (hpk : ∀ p ∈ pk, -9223372036854775808 ≤ p ∧ p ≤ 9223372036854775807) :
    Calls Try.prog 13 #[.pointer (some ⟨x.p, 0, none⟩), .pointer (some ⟨y.p, 0, none⟩), dv k a n B m c Q q d] w fun e w' => e = .returned (.bool true) ∧ Did w w' base x y N := by
  by_cases k0 : k = 0
  · subst k0; exact does3_store h hb a n B m c Q q d bs pk hm hq hc hd hrb hri hB hQ hpk
  by_cases k1 : k = 1
  · subst k1; exact does3_flush h hb a n B m c Q q d bs pk hn hn' hm hq hc hd hrb hri hB hQ hpk
  exact does3_else h hb k a n k0 k1 B m c Q q d bs pk hn hn' hm hq hc hd hrb hri hB hQ hpk
end Go.Proofs.Ytnhgfkahmflpgaa
