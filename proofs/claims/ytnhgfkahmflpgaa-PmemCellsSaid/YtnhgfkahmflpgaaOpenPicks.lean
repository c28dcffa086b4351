/- An argument that is a slice of ints. -/
import Derived.Test.YtnhgfkahmflpgaaOpenDeed
namespace Go.Proofs.Ytnhgfkahmflpgaa
open Go.RowKit
open Go.ChangeShapes Go.WideShapes Go.ChangeAt

theorem open_picks {H : Type} {enc : TypeId × Value → H} {W : World} {b0 base : Nat} {v : Value} {d : DataW H} {p : List MemPlace} {spare : Nat → Bool} {held : Bool}
    (hv : Value.okWide Try.prog W .any b0 28 v) (h : DataW.Trod enc Try.prog W base spare held 28 v d p) (hs : ∀ b, spare b = true) :
    ∃ (a : Option Addr) (pk : List Int) (c : Nat), v = .slice a pk.length c ∧ RI W a pk.length pk ∧ pk.length ≤ c := by
  obtain ⟨a, len, cap, rfl⟩ := okWide_slice Try.underlying28 hv
  obtain ⟨fuel, hf⟩ := h
  obtain ⟨a', pk, c, hcs, h1, h2, -⟩ := trod_ints hf hs
  simp [Value.cells] at hcs
  obtain ⟨rfl, rfl, rfl⟩ := hcs
  exact ⟨_, pk, _, rfl, h1, h2⟩
end Go.Proofs.Ytnhgfkahmflpgaa
