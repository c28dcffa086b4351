/- An argument that is a slice of patches, or a slice of such slices. No statement of the seat is proved here. -/
import Derived.Test.YtlinlmimakealaaZ01
import Derived.Test.YtlinlmimakealaaZ17
import Derived.DataReads
namespace Go.Proofs.Ytlinlmimakealaa
open Go.RowKit
open Go.ChangeShapes Go.WideShapes Go.ChangeAt

set_option maxRecDepth 8000 in
theorem trod_pt {H : Type} {enc : TypeId × Value → H} {W : World} {base fuel : Nat} {cs : List Value} {x : DataW H × List MemPlace} {spare : Nat → Bool} {held : Bool}
    (hf : DataW.trod enc Try.prog W base spare held fuel 37 cs = some x) : ∃ p : PT, cs = p.cells ∧ p.wide := by
  obtain ⟨xs, n, _, -, hl, hlen, hg⟩ := DataW.trod_struct Try.underlying37 hf
  have hC : Try.prog.cellsOf 37 = 2 := by kernel_rfl
  have e3 : Try.prog.cellsOf 3 = 1 := by kernel_rfl
  have e9 : Try.prog.cellsOf 9 = 1 := by kernel_rfl
  match cs, hl.trans hC with
  | [c0, c1], _ =>
    match xs, hlen with
    | [y0, y1], _ =>
      have g0 : DataW.trod enc Try.prog W base spare held n 3 [c0] = some y0 := by simpa [e3] using hg 0 _ rfl
      have g1 : DataW.trod enc Try.prog W base spare held n 9 [c1] = some y1 := by simpa [e9] using hg 1 _ rfl
      obtain ⟨z0, h0, -, b0⟩ := DataW.trod_int Try.underlying3 g0
      obtain ⟨z1, h1, -, -⟩ := DataW.trod_string Try.underlying9 g1
      simp only [List.cons.injEq, and_true] at h0 h1
      subst h0 h1
      exact ⟨⟨z0, z1⟩, rfl, i64_bounds b0⟩

set_option maxRecDepth 8000 in
theorem trod_pats {H : Type} {enc : TypeId × Value → H} {W : World} {base fuel : Nat} {cs : List Value} {x : DataW H × List MemPlace} {spare : Nat → Bool} {held : Bool}
    (hf : DataW.trod enc Try.prog W base spare held fuel 34 cs = some x) (hs : ∀ b, spare b = true) :
    ∃ (a : Option Addr) (L : List PT) (c : Nat), cs = [.slice a L.length c] ∧ RQ W a L.length L ∧ L.length ≤ c ∧ ∀ p ∈ L, p.wide := by
  have hC : Try.prog.cellsOf 37 = 2 := by kernel_rfl
  rcases Deep.open_slice Try.underlying34 hf with ⟨hcs, _⟩ | ⟨x, l, c, m, n, D, Pl, hcs, _, hl, hm, hmm, _, hx⟩
  · exact ⟨none, [], 0, hcs, ⟨rfl, Rd.nil⟩, Nat.le_refl _, fun p hp => by simp at hp⟩
  · have hmc : m = c := by rw [hmm, hs]; rfl
    have hel : ∀ i, i < l → ∃ r : PT, r.wide ∧ ∀ j, j < 2 → W.cell? ((x.add (i * 2)).add j) = (r.cells)[j]? := by
      intro i hi
      obtain ⟨cs', h1, ht⟩ := hx i (by omega)
      rw [hC] at h1
      obtain ⟨r, rfl, hw⟩ := trod_pt ht
      exact ⟨r, hw, (World.cells?_some h1).2.2⟩
    obtain ⟨L, hL, hp⟩ := choose_list hel
    refine ⟨some x, L, c, by rw [hL, hcs], ⟨rfl, pcs_length L, fun h0 => ?_⟩, by omega, fun p hp' => ?_⟩
    · have hc0 := (hp 0 h0).2 0 (by omega)
      obtain ⟨b, off, spot⟩ := x
      have hspot : spot = none := by simpa [Addr.add] using World.cell?_spot hc0
      subst hspot
      have hlt := World.block_lt_of_cell? W _ hc0
      refine ⟨b, off, rfl, by simpa [Addr.add] using hlt, fun j u hj => ?_⟩
      have hj' : j < L.length * 2 := by
        have := (List.getElem?_eq_some_iff.1 hj).1
        rwa [pcs_length] at this
      have hi : j / 2 < L.length := by omega
      have hc := (hp (j / 2) hi).2 (j % 2) (by omega)
      rw [← pcs_get L (j / 2) (j % 2) hi (by omega), show j / 2 * 2 + j % 2 = j by omega, hj] at hc
      rw [← hc, Addr.add_lit, Addr.add_lit, show off + j / 2 * 2 + j % 2 = off + j by omega]
    · obtain ⟨i, hi, rfl⟩ := List.getElem_of_mem hp'
      exact (hp i hi).1

set_option maxRecDepth 8000 in
theorem open_pats {H : Type} {enc : TypeId × Value → H} {W : World} {b0 base : Nat} {v : Value} {d : DataW H} {p : List MemPlace} {spare : Nat → Bool} {held : Bool}
    (hv : Value.okWide Try.prog W .any b0 34 v) (h : DataW.Trod enc Try.prog W base spare held 34 v d p) (hs : ∀ b, spare b = true) :
    ∃ (a : Option Addr) (L : List PT) (c : Nat), v = .slice a L.length c ∧ RQ W a L.length L ∧ L.length ≤ c ∧ ∀ p ∈ L, p.wide := by
  obtain ⟨a, len, cap, rfl⟩ := okWide_slice Try.underlying34 hv
  obtain ⟨fuel, hf⟩ := h
  obtain ⟨a', L, c, e, h1, h2, h3⟩ := trod_pats hf hs
  simp [Value.cells] at e
  obtain ⟨rfl, rfl, rfl⟩ := e
  exact ⟨_, L, _, rfl, h1, h2, h3⟩

/-- A slice of slices of patches that is read. -/
def RR2 (w : World) (A : Option Addr) (LL : List (List PT)) : Prop :=
  (∀ L ∈ LL, ∀ p ∈ L, p.wide) ∧ (0 < LL.length → ∃ b o, A = some ⟨b, o, none⟩ ∧ b < w.heap.size ∧ ∀ k (h : k < LL.length), ∃ Ak ck, w.cell? ⟨b, o + k, none⟩ = some (.slice Ak (LL[k]).length ck) ∧ RQ w Ak (LL[k]).length LL[k] ∧ (LL[k]).length ≤ ck)
set_option maxRecDepth 8000 in
theorem open_rows {H : Type} {enc : TypeId × Value → H} {W : World} {b0 base : Nat} {v : Value} {d : DataW H} {p : List MemPlace} {spare : Nat → Bool} {held : Bool}
    (hv : Value.okWide Try.prog W .any b0 111 v) (h : DataW.Trod enc Try.prog W base spare held 111 v d p) (hs : ∀ b, spare b = true) :
    ∃ (a : Option Addr) (L : List (List PT)) (c : Nat), v = .slice a L.length c ∧ RR2 W a L ∧ L.length ≤ c := by
  obtain ⟨a, len, cap, rfl⟩ := okWide_slice Try.underlying111 hv
  obtain ⟨fuel, hf⟩ := h
  rcases Deep.open_slice1 Try.underlying111 (by kernel_rfl) hf with ⟨hcs, _⟩ | ⟨x, l, c, m, n, V, D, Pl, hcs, _, hl, hm, hmm, _, hx⟩
  · simp [Value.cells] at hcs
    obtain ⟨rfl, rfl, rfl⟩ := hcs
    exact ⟨none, [], 0, rfl, ⟨fun L hL => by simp at hL, fun h0 => by simp at h0⟩, Nat.le_refl _⟩
  · simp [Value.cells] at hcs
    obtain ⟨rfl, rfl, rfl⟩ := hcs
    have hmc : m = cap := by rw [hmm, hs]; rfl
    have hel : ∀ i, i < len → ∃ L : List PT, (∀ p ∈ L, p.wide) ∧ ∃ Ak ck, V i = .slice Ak L.length ck ∧ RQ W Ak L.length L ∧ L.length ≤ ck := by
      intro i hi
      obtain ⟨_, ht⟩ := hx i (by omega)
      obtain ⟨Ak, L, ck, e, h1, h2, h3⟩ := trod_pats ht hs
      injection e with e
      exact ⟨L, h3, Ak, ck, e, h1, h2⟩
    obtain ⟨LL, hL, hp⟩ := choose_list hel
    refine ⟨some x, LL, cap, by rw [hL], ⟨fun L hLm => ?_, fun h0 => ?_⟩, by omega⟩
    · obtain ⟨i, hi, rfl⟩ := List.getElem_of_mem hLm
      exact (hp i hi).1
    · rw [hL] at h0
      obtain ⟨hc0, _⟩ := hx 0 (by omega)
      obtain ⟨b, off, spot⟩ := x
      have hspot : spot = none := by simpa [Addr.add] using World.cell?_spot hc0
      subst hspot
      have hlt := World.block_lt_of_cell? W _ hc0
      refine ⟨b, off, rfl, by simpa [Addr.add] using hlt, fun k hk => ?_⟩
      obtain ⟨-, Ak, ck, e, h1⟩ := hp k hk
      obtain ⟨hck, _⟩ := hx k (by omega)
      rw [Addr.add_lit, e] at hck
      exact ⟨Ak, ck, hck, h1⟩
end Go.Proofs.Ytlinlmimakealaa
