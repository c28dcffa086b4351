/- A block of one cell. -/
import Derived.Test.YtnbgkkjhmdfmiaaBase
namespace Go.Proofs.Ytnbgkkjhmdfmiaa
open Go.RowKit

/-- Block g is one cell of type t, that holds v; it is not frozen. -/
def One (w : World) (g : Nat) (t : TypeId) (v : Value) : Prop := w.heap[g]? = some (.cells #[v] t (0, 0))
section
variable {w w' : World} {g : Nat} {t : TypeId} {v u : Value}
theorem One.lt (h : One w g t v) : g < w.heap.size := (Array.getElem?_eq_some_iff.1 h).1
theorem One.cell (h : One w g t v) : w.cell? ⟨g, 0, none⟩ = some v := by
  rw [cell_of_row w g 0 #[v] t (0, 0) h]; rfl
theorem One.frozen (h : One w g t v) : w.frozen? ⟨g, 0, none⟩ = false := frozen_of_row w g 0 #[v] t h
theorem One.new (w : World) (t : TypeId) (v : Value) : One (w.alloc (.cells #[v] t)) w.heap.size t v := heap_alloc_new w _
theorem One.set (h : One w g t v) (u : Value) : One (w.setCell ⟨g, 0, none⟩ u) g t u := by
  have := heap_setCell_same w g 0 #[v] t u h
  simpa [One] using this
theorem One.grow (w : World) (g : Nat) (u : Value) : w.grownBy (w.setCell ⟨g, 0, none⟩ u) (some g) :=
  ⟨rfl, rfl, rfl, by simp, fun k _ hk => heap_setCell_other w ⟨g, 0, none⟩ k u (fun e => hk (by simp [e]))⟩
theorem One.below {B : Nat} (h : One w g t v) (hb : Below B w w') (hg : g < B) : One w' g t v := (hb.block g hg).trans h
theorem One.grown {row : Option Nat} (h : One w g t v) (hb : w.grownBy w' row) (hg : some g ≠ row) : One w' g t v := (hb.block g h.lt hg).trans h
theorem One.drewN (h : One w g t v) (n : Nat) : One (w.drewN n) g t v := h
theorem One.alloc (h : One w g t v) (o : Obj) : One (w.alloc o) g t v := (Below.heap_alloc w o g h.lt).trans h
end
theorem RB.grownBy {w w' : World} {B g : Nat} {A : Option Addr} {bs : List UInt8} (h : RB w B A bs) (hg : w.grownBy w' (some g)) (hB : B ≤ w.heap.size) (hne : ∀ a, A = some a → a.block ≠ g) : RB w' B A bs := by
  refine ⟨h.1, fun hn => ?_⟩
  obtain ⟨b, o, e, hb, hc⟩ := h.2 hn
  refine ⟨b, o, e, hb, fun j u hu => ?_⟩
  rw [← hc j u hu]
  exact World.cell?_of_block (hg.block b (by omega) (fun e2 => hne _ e (by injection e2)))
end Go.Proofs.Ytnbgkkjhmdfmiaa
