/- commonslaw03.does. No statement of the seat is proved here. -/
import Derived.Test.YtnhgfkahmflpgaaUni
import Derived.Test.YtnhgfkahmflpgaaDeed
import Derived.Test.YtnhgfkahmflpgaaRm7
namespace Go.Proofs.Ytnhgfkahmflpgaa
open Go.RowKit

/-- What a deed leaves: both memories still alike. -/
def Did (w w' : World) (base : Nat) (x y : MB) (N : Nat) : Prop := ∃ (x' : MB) (S T : List UInt8) (A : List Bool), x'.p = x.p ∧ Pair w' base x' y N S T A ∧ Below base w w' ∧ w.heap.size ≤ w'.heap.size ∧ ∀ k, k < w.heap.size → ¬ x.F k → ¬ y.F k → w'.heap[k]? = w.heap[k]?

theorem did_of {w w2 w4 w5 : World} {base : Nat} {x y : MB} {N : Nat} {S T : List UInt8} {A : List Bool} (g : Grow w w2) (hb : base ≤ w.heap.size) (hx : ∀ k, x.F k → base ≤ k) (hy : ∀ k, y.F k → base ≤ k) (hxy : ∀ k, x.F k → ¬ y.F k) (t4 : Turn x.F w2 w4) (t5 : Turn y.F w4 w5) (hP : PM w4 x N S T A) (hR : RM w5 y N S T A) : Did w w5 base x y N := by
  have hP5 : PM w5 x N S T A := hP.turn t5 (fun k q q2 => hxy k q2 q)
  refine ⟨x, S, T, A, rfl, ⟨hP5, hR, hxy, hx, hy⟩, ?_, Nat.le_trans g.size (Nat.le_trans t4.size t5.size), ?_⟩
  · exact ((Below.mono g hb).trans (t4.low hx (Nat.le_trans hb g.size))).trans (t5.low hy (Nat.le_trans hb (Nat.le_trans g.size t4.size)))
  · intro k hk h1 h2
    exact ((t5.block k (Nat.lt_of_lt_of_le hk (Nat.le_trans g.size t4.size)) h2).trans (t4.block k (Nat.lt_of_lt_of_le hk g.size) h1)).trans (g.block k hk)

theorem deed_cells {w1 : World} {g : Nat} {v0 v1 v2 v3 v4 u0 u1 u2 u3 u4 : Value} (h : Row w1 g [v0, v1, v2, v3, v4]) : Row (((((w1.setCell ⟨g, 0, none⟩ u0).setCell ⟨g, 1, none⟩ u1).setCell ⟨g, 2, none⟩ u2).setCell ⟨g, 3, none⟩ u3).setCell ⟨g, 4, none⟩ u4) g [u0, u1, u2, u3, u4] :=
  ((((h.set (j := 0) (by simp)).set (j := 1) (by simp)).set (j := 2) (by simp)).set (j := 3) (by simp)).set (j := 4) (by simp)

end Go.Proofs.Ytnhgfkahmflpgaa
