/- Rows of the call's own that are written over, cell by cell. No statement of the seat is proved here. -/
import Derived.Test.YtgjcpchlijpjmaaZ05
import Derived.Deep.Onto
namespace Go.Proofs.Ytgjcpchlijpjmaa
open Go.RowKit

/-- A row of the call's own, whatever stands in it. -/
def AnyRow (w : World) (base : Nat) (e : TypeId) (A : Option Addr) (n c : Nat) : Prop := ∃ xs, w.ownsRow base e 1 (.slice A n c) n xs
/-- The block of an address. -/
def AtB (A : Option Addr) (k : Nat) : Prop := ∃ p, A = some p ∧ p.block = k
section
variable {w w' : World} {base n c : Nat} {e : TypeId} {A : Option Addr} {F : Nat → Prop}
theorem AnyRow.blk (h : AnyRow w base e A n c) : ∀ k, AtB A k → base ≤ k ∧ k < w.heap.size := by
  rintro k ⟨p, rfl, rfl⟩
  obtain ⟨xs, hx⟩ := h
  rcases hx.2 with ⟨q, _⟩ | ⟨g, cap, cur, hv, hb, hg, _⟩
  · cases q
  · injection hv with e1
    injection e1 with e1
    subst e1
    exact ⟨hb, (Array.getElem?_eq_some_iff.1 hg).1⟩
theorem AnyRow.kept (h : AnyRow w base e A n c) (hk : ∀ k, AtB A k → w'.heap[k]? = w.heap[k]?) : AnyRow w' base e A n c := by
  obtain ⟨xs, h1, h2⟩ := h
  refine ⟨xs, h1, ?_⟩
  rcases h2 with h2 | ⟨g, cap, cur, hv, hb, hg, h3⟩
  · exact .inl h2
  · refine .inr ⟨g, cap, cur, hv, hb, (hk g ?_).trans hg, h3⟩
    injection hv with e1
    subst e1
    exact ⟨_, rfl, rfl⟩
theorem AnyRow.turn (h : AnyRow w base e A n c) (t : Turn F w w') (hF : ∀ k, AtB A k → ¬ F k) : AnyRow w' base e A n c := h.kept fun k hk => t.block k (h.blk k hk).2 (hF k hk)
theorem AnyRow.keep (h : AnyRow w base e A n c) (g : Grow w w') : AnyRow w' base e A n c := h.turn (Turn.grow g fun _ => False) fun _ _ q => q
theorem AnyRow.low {b : Nat} (h : AnyRow w base e A n c) (hb : b ≤ base) : AnyRow w b e A n c := by
  obtain ⟨xs, hx⟩ := h
  exact ⟨xs, World.ownsRow.mono hx hb⟩
theorem AnyRow.at_ (h : AnyRow w base e A n c) {j : Nat} (hj : j < n) : ∃ g, A = some ⟨g, 0, none⟩ ∧ base ≤ g ∧ g < w.heap.size ∧ (∃ v, w.cell? ⟨g, j, none⟩ = some v) ∧ w.frozen? ⟨g, j, none⟩ = false ∧ ∀ u, AnyRow (w.setCell ⟨g, j, none⟩ u) base e A n c := by
  obtain ⟨xs, hx⟩ := h
  obtain ⟨h1, h2⟩ := id hx
  rcases h2 with ⟨q, q2⟩ | ⟨g, cap, cur, hv, hb, hg, hn, hm, _, _⟩
  · injection q with _ q; omega
  · injection hv with e1 e2 e3
    subst e1 e3
    refine ⟨g, rfl, hb, (Array.getElem?_eq_some_iff.1 hg).1, ⟨xs[j]'(by omega), ?_⟩, World.ownsRow.frozenAt hx j, fun u => ⟨_, (World.ownsRow.stored hx j u).1⟩⟩
    have := World.ownsRow.cellAt hx j (by omega)
    rw [this]
    simp
theorem AnyRow.of_own {bs : List UInt8} (h : Own w base A n c bs) : AnyRow w base 5 A n c := by
  obtain ⟨h1, h2, h3⟩ := h
  subst h1
  exact ⟨_, h3⟩
end
/-- One row, two rows being written over. -/
def FillInv (w wr : World) (base : Nat) (e : TypeId) (A : Option Addr) (n c : Nat) (t : Value) : Prop := ∃ j : Nat, t = .int .i64 (j : Int) ∧ j ≤ n ∧ AnyRow wr base e A n c ∧ Turn (AtB A) w wr
def Fill2Inv (w wr : World) (base : Nat) (e : TypeId) (A B : Option Addr) (n c d : Nat) (t : Value) : Prop := ∃ j : Nat, t = .int .i64 (j : Int) ∧ j ≤ n ∧ AnyRow wr base e A n c ∧ AnyRow wr base e B n d ∧ Turn (fun k => AtB A k ∨ AtB B k) w wr
end Go.Proofs.Ytgjcpchlijpjmaa
