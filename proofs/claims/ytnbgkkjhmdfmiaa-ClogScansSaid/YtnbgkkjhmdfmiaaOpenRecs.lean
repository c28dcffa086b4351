/- An argument that is a slice of records. -/
import Derived.Test.YtnbgkkjhmdfmiaaSame16
import Derived.Test.YtnbgkkjhmdfmiaaOpen2
import Derived.DataReads
namespace Go.Proofs.Ytnbgkkjhmdfmiaa
open Go.RowKit
open Go.ChangeShapes Go.WideShapes Go.ChangeAt

theorem trod_rec {H : Type} {enc : TypeId × Value → H} {W : World} {base fuel : Nat} {cs : List Value} {x : DataW H × List MemPlace} {spare : Nat → Bool} {held : Bool}
    (hf : DataW.trod enc Try.prog W base spare held fuel 31 cs = some x) : ∃ r : R5, cs = r.cells := by
  obtain ⟨xs, n, _, -, hl, hlen, hg⟩ := DataW.trod_struct Try.underlying31 hf
  have hC : Try.prog.cellsOf 31 = 5 := by kernel_rfl
  have e3 : Try.prog.cellsOf 3 = 1 := by kernel_rfl
  have e4 : Try.prog.cellsOf 4 = 1 := by kernel_rfl
  have e9 : Try.prog.cellsOf 9 = 1 := by kernel_rfl
  match cs, hl.trans hC with
  | [c0, c1, c2, c3, c4], _ =>
    match xs, hlen with
    | [y0, y1, y2, y3, y4], _ =>
      have g0 : DataW.trod enc Try.prog W base spare held n 3 [c0] = some y0 := by simpa [e3] using hg 0 _ rfl
      have g1 : DataW.trod enc Try.prog W base spare held n 3 [c1] = some y1 := by simpa [e3] using hg 1 _ rfl
      have g2 : DataW.trod enc Try.prog W base spare held n 4 [c2] = some y2 := by simpa [e4] using hg 2 _ rfl
      have g3 : DataW.trod enc Try.prog W base spare held n 3 [c3] = some y3 := by simpa [e3] using hg 3 _ rfl
      have g4 : DataW.trod enc Try.prog W base spare held n 9 [c4] = some y4 := by simpa [e9] using hg 4 _ rfl
      obtain ⟨z0, h0, -, -⟩ := DataW.trod_int Try.underlying3 g0
      obtain ⟨z1, h1, -, -⟩ := DataW.trod_int Try.underlying3 g1
      obtain ⟨z2, h2, -⟩ := DataW.trod_bool Try.underlying4 g2
      obtain ⟨z3, h3, -, -⟩ := DataW.trod_int Try.underlying3 g3
      obtain ⟨z4, h4, -, -⟩ := DataW.trod_string Try.underlying9 g4
      simp only [List.cons.injEq, and_true] at h0 h1 h2 h3 h4
      subst h0 h1 h2 h3 h4
      exact ⟨⟨z0, z1, z2, z3, z4⟩, rfl⟩

theorem open_recs {H : Type} {enc : TypeId × Value → H} {W : World} {b0 base : Nat} {v : Value} {d : DataW H} {p : List MemPlace} {spare : Nat → Bool} {held : Bool} {T : TypeId}
    (hT : Try.prog.underlying T = some (.slice 31)) (hv : Value.okWide Try.prog W .any b0 T v) (h : DataW.Trod enc Try.prog W base spare held T v d p) (hs : ∀ b, spare b = true) :
    ∃ (a : Option Addr) (L : List R5) (c : Nat), v = .slice a L.length c ∧ RR W a L.length L ∧ L.length ≤ c ∧ c ≤ maxLen := by
  have hC : Try.prog.cellsOf 31 = 5 := by kernel_rfl
  obtain ⟨a, len, cap, rfl⟩ := okWide_slice hT hv
  obtain ⟨fuel, hf⟩ := h
  rcases Deep.open_slice hT hf with ⟨hcs, _⟩ | ⟨x, l, c, m, n, D, Pl, hcs, _, hl, hm, hmm, _, hx⟩
  · simp [Value.cells] at hcs
    obtain ⟨rfl, rfl, rfl⟩ := hcs
    exact ⟨none, [], 0, rfl, ⟨rfl, rfl, fun h0 => by simp at h0⟩, Nat.le_refl _, by unfold maxLen; omega⟩
  · simp [Value.cells] at hcs
    obtain ⟨rfl, rfl, rfl⟩ := hcs
    have hmc : m = cap := by rw [hmm, hs]; rfl
    have hel : ∀ i, i < len → ∃ r : R5, ∀ j, j < 5 → W.cell? ((x.add (i * 5)).add j) = (r.cells)[j]? := by
      intro i hi
      obtain ⟨cs', h1, ht⟩ := hx i (by omega)
      rw [hC] at h1
      obtain ⟨r, rfl⟩ := trod_rec ht
      exact ⟨r, (World.cells?_some h1).2.2⟩
    obtain ⟨L, hL, hp⟩ := choose_list hel
    refine ⟨some x, L, cap, by rw [hL], ⟨rfl, rcs_length L, fun h0 => ?_⟩, by omega, hm⟩
    have hc0 := hp 0 h0 0 (by omega)
    obtain ⟨b, off, spot⟩ := x
    have hspot : spot = none := by simpa [Addr.add] using World.cell?_spot hc0
    subst hspot
    have hlt := World.block_lt_of_cell? W _ hc0
    refine ⟨b, off, rfl, by simpa [Addr.add] using hlt, fun j u hj => ?_⟩
    have hj' : j < L.length * 5 := by
      have := (List.getElem?_eq_some_iff.1 hj).1
      rwa [rcs_length] at this
    have hi : j / 5 < L.length := by omega
    have hc := hp (j / 5) hi (j % 5) (by omega)
    rw [← rcs_get L (j / 5) (j % 5) hi (by omega), show j / 5 * 5 + j % 5 = j by omega, hj] at hc
    rw [← hc, Addr.add_lit, Addr.add_lit, show off + j / 5 * 5 + j % 5 = off + j by omega]
end Go.Proofs.Ytnbgkkjhmdfmiaa
