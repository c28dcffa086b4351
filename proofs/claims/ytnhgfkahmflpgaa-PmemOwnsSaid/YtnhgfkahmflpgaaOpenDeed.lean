/- An argument that is a slice of deeds. -/
import Derived.Test.YtnhgfkahmflpgaaOpen2
import Derived.Test.YtnhgfkahmflpgaaDeed
import Derived.DataReads
namespace Go.Proofs.Ytnhgfkahmflpgaa
open Go.RowKit
open Go.ChangeShapes Go.WideShapes Go.ChangeAt

/-- A deed as it came: its numbers, its bytes, its picks. -/
structure Dd where
  k : Int
  a : Int
  n : Int
  B : Option Addr
  bs : List UInt8
  c : Nat
  Q : Option Addr
  pk : List Int
  d : Nat
def Dd.cells (e : Dd) : List Value := [.int .i64 e.k, .int .i64 e.a, .int .i64 e.n, .slice e.B e.bs.length e.c, .slice e.Q e.pk.length e.d]
def Dd.ok (e : Dd) (w : World) : Prop := (-9223372036854775808 ≤ e.a ∧ e.a ≤ 9223372036854775807) ∧ (-9223372036854775808 ≤ e.n ∧ e.n ≤ 9223372036854775807) ∧ RB w w.heap.size e.B e.bs ∧ e.bs.length ≤ e.c ∧ RI w e.Q e.pk.length e.pk ∧ e.pk.length ≤ e.d ∧ ∀ p ∈ e.pk, -9223372036854775808 ≤ p ∧ p ≤ 9223372036854775807

theorem trod_ints {H : Type} {enc : TypeId × Value → H} {W : World} {base fuel : Nat} {cs : List Value} {x : DataW H × List MemPlace} {spare : Nat → Bool} {held : Bool}
    (hf : DataW.trod enc Try.prog W base spare held fuel 28 cs = some x) (hs : ∀ b, spare b = true) :
    ∃ (a : Option Addr) (pk : List Int) (c : Nat), cs = [.slice a pk.length c] ∧ RI W a pk.length pk ∧ pk.length ≤ c ∧ ∀ p ∈ pk, -9223372036854775808 ≤ p ∧ p ≤ 9223372036854775807 := by
  rcases open_ints Try.underlying28 Try.underlying3 (by kernel_rfl) hf with ⟨hcs, _⟩ | ⟨x, l, c, zs, hcs, _, hl, hm, hz, _, hcell, hwz⟩
  · exact ⟨none, [], 0, hcs, ⟨rfl, rfl, fun h => by simp at h⟩, Nat.le_refl _, fun p hp => by simp at hp⟩
  · have hzc : zs.length = c := by simpa [hs] using hz
    have hlen : (zs.take l).length = l := by simp; omega
    refine ⟨some x, zs.take l, c, by rw [hlen, hcs], ⟨rfl, by simp [ics], fun h0 => ?_⟩, by omega, fun p hp => i64_bounds (hwz p (List.mem_of_mem_take hp))⟩
    rw [hlen] at h0
    obtain ⟨b, off, spot⟩ := x
    have hc0 := hcell 0 (by omega)
    have hspot : spot = none := by simpa [Addr.add] using World.cell?_spot hc0
    subst hspot
    have hlt := World.block_lt_of_cell? W _ hc0
    refine ⟨b, off, rfl, by simpa [Addr.add] using hlt, fun j u hu => ?_⟩
    rw [ics, List.getElem?_map] at hu
    by_cases hj : j < l
    · rw [List.getElem?_take, if_pos hj, List.getElem?_eq_getElem (by omega)] at hu
      simp only [Option.map_some, Option.some.injEq] at hu
      have hc := hcell j (by omega)
      rw [Addr.add_lit, List.getD_eq_getElem?_getD, List.getElem?_eq_getElem (by omega)] at hc
      rw [hc, ← hu]
      rfl
    · rw [List.getElem?_eq_none (by rw [List.length_take]; omega)] at hu
      cases hu

theorem trod_deed {H : Type} {enc : TypeId × Value → H} {W : World} {base fuel : Nat} {cs : List Value} {x : DataW H × List MemPlace} {spare : Nat → Bool} {held : Bool}
    (hf : DataW.trod enc Try.prog W base spare held fuel 34 cs = some x) (hs : ∀ b, spare b = true) : ∃ r : Dd, cs = r.cells ∧ r.ok W := by
  obtain ⟨xs, n, _, -, hl, hlen, hg⟩ := DataW.trod_struct Try.underlying34 hf
  have hC : Try.prog.cellsOf 34 = 5 := by kernel_rfl
  have e3 : Try.prog.cellsOf 3 = 1 := by kernel_rfl
  have e4 : Try.prog.cellsOf 32 = 1 := by kernel_rfl
  have e9 : Try.prog.cellsOf 28 = 1 := by kernel_rfl
  match cs, hl.trans hC with
  | [c0, c1, c2, c3, c4], _ =>
    match xs, hlen with
    | [y0, y1, y2, y3, y4], _ =>
      have g0 : DataW.trod enc Try.prog W base spare held n 3 [c0] = some y0 := by simpa [e3] using hg 0 _ rfl
      have g1 : DataW.trod enc Try.prog W base spare held n 3 [c1] = some y1 := by simpa [e3] using hg 1 _ rfl
      have g2 : DataW.trod enc Try.prog W base spare held n 3 [c2] = some y2 := by simpa [e3] using hg 2 _ rfl
      have g3 : DataW.trod enc Try.prog W base spare held n 32 [c3] = some y3 := by simpa [e4] using hg 3 _ rfl
      have g4 : DataW.trod enc Try.prog W base spare held n 28 [c4] = some y4 := by simpa [e9] using hg 4 _ rfl
      obtain ⟨z0, h0, -, -⟩ := DataW.trod_int Try.underlying3 g0
      obtain ⟨z1, h1, -, b1⟩ := DataW.trod_int Try.underlying3 g1
      obtain ⟨z2, h2, -, b2⟩ := DataW.trod_int Try.underlying3 g2
      obtain ⟨B, bs, c, h3, r1, r2, -, -⟩ := trod_bytes g3 hs
      obtain ⟨Q, pk, d, h4, r3, r4, r5⟩ := trod_ints g4 hs
      simp only [List.cons.injEq, and_true] at h0 h1 h2 h3 h4
      subst h0 h1 h2 h3 h4
      exact ⟨⟨z0, z1, z2, B, bs, c, Q, pk, d⟩, rfl, i64_bounds b1, i64_bounds b2, r1, r2, r3, r4, r5⟩

/-- A slice of deeds that is read. -/
def RD (w : World) (A : Option Addr) (n : Nat) (L : List Dd) : Prop := L.length = n ∧ (∀ e ∈ L, e.ok w) ∧ (0 < n → ∃ b o, A = some ⟨b, o, none⟩ ∧ b < w.heap.size ∧ ∀ i (hi : i < L.length) j, j < 5 → w.cell? ⟨b, o + i * 5 + j, none⟩ = (L[i].cells)[j]?)

theorem open_deeds {H : Type} {enc : TypeId × Value → H} {W : World} {b0 base : Nat} {v : Value} {d : DataW H} {p : List MemPlace} {spare : Nat → Bool} {held : Bool} {T : TypeId}
    (hT : Try.prog.underlying T = some (.slice 34)) (hv : Value.okWide Try.prog W .any b0 T v) (h : DataW.Trod enc Try.prog W base spare held T v d p) (hs : ∀ b, spare b = true) :
    ∃ (a : Option Addr) (L : List Dd) (c : Nat), v = .slice a L.length c ∧ RD W a L.length L ∧ L.length ≤ c ∧ c ≤ maxLen := by
  have hC : Try.prog.cellsOf 34 = 5 := by kernel_rfl
  obtain ⟨a, len, cap, rfl⟩ := okWide_slice hT hv
  obtain ⟨fuel, hf⟩ := h
  rcases Deep.open_slice hT hf with ⟨hcs, _⟩ | ⟨x, l, c, m, n, D, Pl, hcs, _, hl, hm, hmm, _, hx⟩
  · simp [Value.cells] at hcs
    obtain ⟨rfl, rfl, rfl⟩ := hcs
    exact ⟨none, [], 0, rfl, ⟨rfl, fun e he => by simp at he, fun h0 => by simp at h0⟩, Nat.le_refl _, by unfold maxLen; omega⟩
  · simp [Value.cells] at hcs
    obtain ⟨rfl, rfl, rfl⟩ := hcs
    have hmc : m = cap := by rw [hmm, hs]; rfl
    have hel : ∀ i, i < len → ∃ r : Dd, r.ok W ∧ ∀ j, j < 5 → W.cell? ((x.add (i * 5)).add j) = (r.cells)[j]? := by
      intro i hi
      obtain ⟨cs', h1, ht⟩ := hx i (by omega)
      rw [hC] at h1
      obtain ⟨r, rfl, hok⟩ := trod_deed ht hs
      exact ⟨r, hok, (World.cells?_some h1).2.2⟩
    obtain ⟨L, hL, hp⟩ := choose_list hel
    refine ⟨some x, L, cap, by rw [hL], ⟨rfl, fun e he => ?_, fun h0 => ?_⟩, by omega, hm⟩
    · obtain ⟨i, hi, rfl⟩ := List.getElem_of_mem he
      exact (hp i hi).1
    · have hc0 := (hp 0 h0).2 0 (by omega)
      obtain ⟨b, off, spot⟩ := x
      have hspot : spot = none := by simpa [Addr.add] using World.cell?_spot hc0
      subst hspot
      have hlt := World.block_lt_of_cell? W _ hc0
      refine ⟨b, off, rfl, by simpa [Addr.add] using hlt, fun i hi j hj => ?_⟩
      have := (hp i hi).2 j hj
      rwa [Addr.add_lit, Addr.add_lit] at this
end Go.Proofs.Ytnhgfkahmflpgaa
