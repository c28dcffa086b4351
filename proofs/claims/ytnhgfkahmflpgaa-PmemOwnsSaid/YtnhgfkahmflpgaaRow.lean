/- Stores into a row of bytes of the call's own. -/
import Derived.Test.YtnhgfkahmflpgaaBase
namespace Go.Proofs.Ytnhgfkahmflpgaa
open Go.RowKit

theorem bvs_set (bs : List UInt8) (j : Nat) (u : UInt8) : (bvs bs).set j (bv u) = bvs (bs.set j u) := by simp [bvs, List.map_set]

theorem OB.stored {w : World} {base g c : Nat} {bs : List UInt8} {n : Nat} (hn : n = bs.length) (h : OB w base (.slice (some ⟨g, 0, none⟩) n c) bs) (j : Nat) (u : UInt8) :
    OB (w.setCell ⟨g, j, none⟩ (bv u)) base (.slice (some ⟨g, 0, none⟩) n c) (bs.set j u) ∧ w.grownBy (w.setCell ⟨g, j, none⟩ (bv u)) (some g) := by
  subst hn
  have := World.ownsRow.stored h j (bv u)
  rw [bvs_set] at this
  refine ⟨?_, this.2⟩
  unfold OB
  rw [List.length_set]
  exact this.1
theorem OB.cellAt {w : World} {base g c : Nat} {bs : List UInt8} {n : Nat} (hn : n = bs.length) (h : OB w base (.slice (some ⟨g, 0, none⟩) n c) bs) (j : Nat) (hj : j < bs.length) : w.cell? ⟨g, j, none⟩ = some (.int .u8 (bs[j].toNat : Int)) := by
  subst hn
  rw [World.ownsRow.cellAt h j (by omega), bvs_get bs j hj]
  rfl
theorem OB.frozenAt {w : World} {base g c : Nat} {bs : List UInt8} {n : Nat} (hn : n = bs.length) (h : OB w base (.slice (some ⟨g, 0, none⟩) n c) bs) (j : Nat) : w.frozen? ⟨g, j, none⟩ = false := by
  subst hn
  exact World.ownsRow.frozenAt h j

theorem OB.rd {w : World} {base c : Nat} {A : Option Addr} {bs : List UInt8} {n : Nat} (hn : n = bs.length) (h : OB w base (.slice A n c) bs) : RB w w.heap.size A bs := by
  subst hn
  exact Rd.of_own h

end Go.Proofs.Ytnhgfkahmflpgaa
