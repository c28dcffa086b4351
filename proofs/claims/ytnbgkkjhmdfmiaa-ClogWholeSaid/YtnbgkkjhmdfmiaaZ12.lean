/- From a row's arguments to our words: bytes, bounds. An argument that is a slice of slices of bytes. An argument that is a slice of records. No statement of the seat is proved here. -/
import Derived.Test.YtnbgkkjhmdfmiaaZ01
import Derived.ProofKit
import Derived.OpenShut
import Derived.Deep.Slices
import Derived.Test.YtnbgkkjhmdfmiaaZ09
import Derived.DataReads
namespace Go.Proofs.Ytnbgkkjhmdfmiaa
open Go.RowKit

theorem i64_bounds {n : Int} (h : (Lit.int .i64 n).wf = true) : -9223372036854775808 ≤ n ∧ n ≤ 9223372036854775807 := by
  simp [Lit.wf, IntKind.min, IntKind.max, IntKind.signed, IntKind.bits] at h
  exact ⟨by omega, by omega⟩
theorem u32_bounds {n : Int} (h : (Lit.int .u32 n).wf = true) : ∃ X : Nat, n = X ∧ X < 4294967296 := by
  simp [Lit.wf, IntKind.min, IntKind.max, IntKind.signed, IntKind.bits] at h
  exact ⟨n.toNat, by omega, by omega⟩
theorem u8_bounds {n : Int} (h : (Lit.int .u8 n).wf = true) : 0 ≤ n ∧ n < 256 := by
  simp [Lit.wf, IntKind.min, IntKind.max, IntKind.signed, IntKind.bits] at h
  exact ⟨by omega, by omega⟩

/-- A slice of bytes that came in reads as a list of bytes. -/
theorem rb_of_row {w : World} {a : Option Addr} {len cap : Nat} {zs : List Int}
    (h : (a = none ∧ len = 0 ∧ cap = 0 ∧ zs = []) ∨
      ∃ x, a = some x ∧ len ≤ cap ∧ cap ≤ maxLen ∧ zs.length = cap ∧ (∀ i, i < zs.length → w.cell? (x.add i) = some (.int .u8 (zs.getD i 0))) ∧ ∀ n ∈ zs, (Lit.int .u8 n).wf = true) :
    ∃ bs : List UInt8, len = bs.length ∧ RB w w.heap.size a bs ∧ bs.length ≤ cap ∧ cap ≤ maxLen ∧ (a = none → cap = 0) := by
  rcases h with ⟨rfl, rfl, rfl, rfl⟩ | ⟨x, rfl, hl, hm, hz, hcell, hwf⟩
  · exact ⟨[], rfl, RB.nil_, Nat.le_refl _, by unfold maxLen; omega, fun _ => rfl⟩
  · have hlen : ((zs.take len).map fun z => UInt8.ofNat z.toNat).length = len := by simp; omega
    refine ⟨(zs.take len).map fun z => UInt8.ofNat z.toNat, hlen.symm, ⟨by simp [bvs], fun h0 => ?_⟩, by omega, hm, fun h => by cases h⟩
    rw [hlen] at h0
    obtain ⟨b, off, spot⟩ := x
    have hc0 := hcell 0 (by omega)
    have hspot : spot = none := by simpa [Addr.add] using World.cell?_spot hc0
    subst hspot
    have hlt := World.block_lt_of_cell? w _ hc0
    refine ⟨b, off, rfl, by simpa [Addr.add] using hlt, fun j u hu => ?_⟩
    rw [bvs, List.map_map, List.getElem?_map] at hu
    by_cases hj : j < len
    · rw [List.getElem?_take, if_pos hj, List.getElem?_eq_getElem (by omega)] at hu
      simp only [Option.map_some, Option.some.injEq, Function.comp] at hu
      have hc := hcell j (by omega)
      rw [Addr.add_lit, List.getD_eq_getElem?_getD, List.getElem?_eq_getElem (by omega)] at hc
      rw [hc, ← hu]
      have hb := u8_bounds (hwf zs[j] (List.getElem_mem _))
      simp only [Option.getD_some, bv, Option.some.injEq, Value.int.injEq, true_and]
      rw [UInt8.toNat_ofNat', Nat.mod_eq_of_lt (by omega)]
      omega
    · rw [List.getElem?_eq_none (by rw [List.length_take]; omega)] at hu
      cases hu

open Go.ChangeShapes Go.WideShapes Go.ChangeAt
set_option maxRecDepth 8000 in
/-- An argument that is a slice of bytes. -/
theorem open_bytes {H : Type} {enc : TypeId × Value → H} {W : World} {b0 base : Nat} {v : Value} {d : DataW H} {p : List MemPlace} {spare : Nat → Bool} {held : Bool}
    (hv : Value.okWide Try.prog W .any b0 33 v) (h : DataW.Trod enc Try.prog W base spare held 33 v d p) (hs : ∀ b, spare b = true) :
    ∃ (a : Option Addr) (bs : List UInt8) (c : Nat), v = .slice a bs.length c ∧ RB W W.heap.size a bs ∧ bs.length ≤ c ∧ c ≤ maxLen ∧ (a = none → c = 0) := by
  obtain ⟨a, len, cap, rfl⟩ := okWide_slice Try.underlying33 hv
  obtain ⟨fuel, hf⟩ := h
  have hrow : ∃ zs, (a = none ∧ len = 0 ∧ cap = 0 ∧ zs = []) ∨
      ∃ x, a = some x ∧ len ≤ cap ∧ cap ≤ maxLen ∧ zs.length = cap ∧ (∀ i, i < zs.length → W.cell? (x.add i) = some (.int .u8 (zs.getD i 0))) ∧ ∀ n ∈ zs, (Lit.int .u8 n).wf = true := by
    rcases open_ints Try.underlying33 Try.underlying5 (by kernel_rfl) hf with ⟨hcs, _⟩ | ⟨x, l, c, zs, hcs, _, hl, hm, hz, _, hcell, hwz⟩
    · simp [Value.cells] at hcs
      obtain ⟨rfl, rfl, rfl⟩ := hcs
      exact ⟨[], .inl ⟨rfl, rfl, rfl, rfl⟩⟩
    · simp [Value.cells] at hcs
      obtain ⟨rfl, rfl, rfl⟩ := hcs
      exact ⟨zs, .inr ⟨_, rfl, hl, hm, by simpa [hs] using hz, hcell, hwz⟩⟩
  obtain ⟨zs, hz⟩ := hrow
  obtain ⟨bs, rfl, hr, hc, hm, hn⟩ := rb_of_row hz
  exact ⟨a, bs, cap, rfl, hr, hc, hm, hn⟩
theorem u8_nat {n : Int} (h : (Lit.int .u8 n).wf = true) : ∃ X : UInt8, n = (X.toNat : Int) := by
  have := u8_bounds h
  refine ⟨UInt8.ofNat n.toNat, ?_⟩
  rw [UInt8.toNat_ofNat', Nat.mod_eq_of_lt (by omega)]
  omega

end Go.Proofs.Ytnbgkkjhmdfmiaa

namespace Go.Proofs.Ytnbgkkjhmdfmiaa
open Go.RowKit
open Go.ChangeShapes Go.WideShapes Go.ChangeAt

set_option maxRecDepth 8000 in
theorem trod_bytes {H : Type} {enc : TypeId × Value → H} {W : World} {base fuel : Nat} {cs : List Value} {x : DataW H × List MemPlace} {spare : Nat → Bool} {held : Bool}
    (hf : DataW.trod enc Try.prog W base spare held fuel 33 cs = some x) (hs : ∀ b, spare b = true) :
    ∃ (a : Option Addr) (bs : List UInt8) (c : Nat), cs = [.slice a bs.length c] ∧ RB W W.heap.size a bs ∧ bs.length ≤ c ∧ c ≤ maxLen ∧ (a = none → c = 0) := by
  rcases open_ints Try.underlying33 Try.underlying5 (by kernel_rfl) hf with ⟨hcs, _⟩ | ⟨x, l, c, zs, hcs, _, hl, hm, hz, _, hcell, hwz⟩
  · obtain ⟨bs, hb, h1, h2, h3, h4⟩ := rb_of_row (w := W) (a := none) (len := 0) (cap := 0) (zs := []) (.inl ⟨rfl, rfl, rfl, rfl⟩)
    exact ⟨none, bs, 0, by rw [hcs, ← hb], h1, h2, h3, h4⟩
  · obtain ⟨bs, hb, h1, h2, h3, h4⟩ := rb_of_row (w := W) (a := some x) (len := l) (cap := c) (zs := zs) (.inr ⟨x, rfl, hl, hm, by simpa [hs] using hz, hcell, hwz⟩)
    exact ⟨some x, bs, c, by rw [hcs, ← hb], h1, h2, h3, h4⟩

/-- A slice of slices of bytes that is read. -/
def Parts (w : World) (B : Nat) (A : Option Addr) (L : List (List UInt8)) : Prop :=
  0 < L.length → ∃ b o, A = some ⟨b, o, none⟩ ∧ b < B ∧ ∀ k (h : k < L.length), ∃ Ak ck, w.cell? ⟨b, o + k, none⟩ = some (.slice Ak (L[k]).length ck) ∧ RB w B Ak L[k] ∧ (L[k]).length ≤ ck ∧ ck ≤ maxLen ∧ (Ak = none → ck = 0)
theorem Parts.below {w w' : World} {B : Nat} {A : Option Addr} {L : List (List UInt8)} (h : Parts w B A L) (hb : Below B w w') : Parts w' B A L := by
  intro h0
  obtain ⟨b, o, e, hlt, hk⟩ := h h0
  refine ⟨b, o, e, hlt, fun k hk2 => ?_⟩
  obtain ⟨Ak, ck, h1, h2, h3⟩ := hk k hk2
  exact ⟨Ak, ck, (hb.cell (p := ⟨b, o + k, none⟩) hlt).trans h1, h2.below hb, h3⟩

theorem choose_list {α : Type} {n : Nat} {p : Nat → α → Prop} (h : ∀ i, i < n → ∃ a, p i a) : ∃ L : List α, L.length = n ∧ ∀ i (hi : i < L.length), p i L[i] := by
  induction n with
  | zero => exact ⟨[], rfl, fun i hi => by simp at hi⟩
  | succ n ih =>
    obtain ⟨L, hL, hp⟩ := ih (fun i hi => h i (by omega))
    obtain ⟨a, ha⟩ := h n (by omega)
    refine ⟨L ++ [a], by simp [hL], fun i hi => ?_⟩
    by_cases hi2 : i < L.length
    · rw [List.getElem_append_left hi2]; exact hp i hi2
    · have e : i = n := by simp at hi; omega
      subst e
      rw [List.getElem_append_right (by omega)]
      simpa [hL] using ha

set_option maxRecDepth 8000 in
theorem open_parts {H : Type} {enc : TypeId × Value → H} {W : World} {b0 base : Nat} {v : Value} {d : DataW H} {p : List MemPlace} {spare : Nat → Bool} {held : Bool} {T : TypeId}
    (hT : Try.prog.underlying T = some (.slice 33)) (hv : Value.okWide Try.prog W .any b0 T v) (h : DataW.Trod enc Try.prog W base spare held T v d p) (hs : ∀ b, spare b = true) :
    ∃ (a : Option Addr) (L : List (List UInt8)) (c : Nat), v = .slice a L.length c ∧ Parts W W.heap.size a L ∧ L.length ≤ c ∧ c ≤ maxLen := by
  obtain ⟨a, len, cap, rfl⟩ := okWide_slice hT hv
  obtain ⟨fuel, hf⟩ := h
  rcases Deep.open_slice1 hT (by kernel_rfl) hf with ⟨hcs, _⟩ | ⟨x, l, c, m, n, V, D, Pl, hcs, _, hl, hm, hmm, _, hx⟩
  · simp [Value.cells] at hcs
    obtain ⟨rfl, rfl, rfl⟩ := hcs
    exact ⟨none, [], 0, rfl, fun h0 => by simp at h0, Nat.le_refl _, by unfold maxLen; omega⟩
  · simp [Value.cells] at hcs
    obtain ⟨rfl, rfl, rfl⟩ := hcs
    have hmc : m = cap := by rw [hmm, hs]; rfl
    have hel : ∀ i, i < len → ∃ bs : List UInt8, ∃ Ak ck, V i = .slice Ak bs.length ck ∧ RB W W.heap.size Ak bs ∧ bs.length ≤ ck ∧ ck ≤ maxLen ∧ (Ak = none → ck = 0) := by
      intro i hi
      obtain ⟨_, ht⟩ := hx i (by omega)
      obtain ⟨Ak, bs, ck, e, h1, h2, h3, h4⟩ := trod_bytes ht hs
      injection e with e
      exact ⟨bs, Ak, ck, e, h1, h2, h3, h4⟩
    obtain ⟨L, hL, hp⟩ := choose_list hel
    refine ⟨some x, L, cap, by rw [hL], fun h0 => ?_, by omega, hm⟩
    rw [hL] at h0
    obtain ⟨hc0, _⟩ := hx 0 (by omega)
    obtain ⟨b, off, spot⟩ := x
    have hspot : spot = none := by simpa [Addr.add] using World.cell?_spot hc0
    subst hspot
    have hlt := World.block_lt_of_cell? W _ hc0
    refine ⟨b, off, rfl, by simpa [Addr.add] using hlt, fun k hk => ?_⟩
    obtain ⟨Ak, ck, e, h1⟩ := hp k hk
    obtain ⟨hck, _⟩ := hx k (by omega)
    rw [Addr.add_lit, e] at hck
    exact ⟨Ak, ck, hck, h1⟩
end Go.Proofs.Ytnbgkkjhmdfmiaa

namespace Go.Proofs.Ytnbgkkjhmdfmiaa
open Go.RowKit
open Go.ChangeShapes Go.WideShapes Go.ChangeAt

theorem trod_rec {H : Type} {enc : TypeId × Value → H} {W : World} {base fuel : Nat} {cs : List Value} {x : DataW H × List MemPlace} {spare : Nat → Bool} {held : Bool}
    (hf : DataW.trod enc Try.prog W base spare held fuel 31 cs = some x) : ∃ r : R5, cs = r.cells := by
  obtain ⟨xs, n, _, -, hl, hlen, hg⟩ := DataW.trod_struct Try.underlying31 hf
  have hC : Try.prog.cellsOf 31 = 5 := by kernel_rfl
  have e3 : Try.prog.cellsOf 3 = 1 := by kernel_rfl
  have e4 : Try.prog.cellsOf 4 = 1 := by kernel_rfl
  have e9 : Try.prog.cellsOf 9 = 1 := by kernel_rfl
  match cs, hl.trans hC with
  | [c0, c1, c2, c3, c4], _ =>
    match xs, hlen with
    | [y0, y1, y2, y3, y4], _ =>
      have g0 : DataW.trod enc Try.prog W base spare held n 3 [c0] = some y0 := by simpa [e3] using hg 0 _ rfl
      have g1 : DataW.trod enc Try.prog W base spare held n 3 [c1] = some y1 := by simpa [e3] using hg 1 _ rfl
      have g2 : DataW.trod enc Try.prog W base spare held n 4 [c2] = some y2 := by simpa [e4] using hg 2 _ rfl
      have g3 : DataW.trod enc Try.prog W base spare held n 3 [c3] = some y3 := by simpa [e3] using hg 3 _ rfl
      have g4 : DataW.trod enc Try.prog W base spare held n 9 [c4] = some y4 := by simpa [e9] using hg 4 _ rfl
      obtain ⟨z0, h0, -, -⟩ := DataW.trod_int Try.underlying3 g0
      obtain ⟨z1, h1, -, -⟩ := DataW.trod_int Try.underlying3 g1
      obtain ⟨z2, h2, -⟩ := DataW.trod_bool Try.underlying4 g2
      obtain ⟨z3, h3, -, -⟩ := DataW.trod_int Try.underlying3 g3
      obtain ⟨z4, h4, -, -⟩ := DataW.trod_string Try.underlying9 g4
      simp only [List.cons.injEq, and_true] at h0 h1 h2 h3 h4
      subst h0 h1 h2 h3 h4
      exact ⟨⟨z0, z1, z2, z3, z4⟩, rfl⟩

theorem open_recs {H : Type} {enc : TypeId × Value → H} {W : World} {b0 base : Nat} {v : Value} {d : DataW H} {p : List MemPlace} {spare : Nat → Bool} {held : Bool} {T : TypeId}
    (hT : Try.prog.underlying T = some (.slice 31)) (hv : Value.okWide Try.prog W .any b0 T v) (h : DataW.Trod enc Try.prog W base spare held T v d p) (hs : ∀ b, spare b = true) :
    ∃ (a : Option Addr) (L : List R5) (c : Nat), v = .slice a L.length c ∧ RR W a L.length L ∧ L.length ≤ c ∧ c ≤ maxLen := by
  have hC : Try.prog.cellsOf 31 = 5 := by kernel_rfl
  obtain ⟨a, len, cap, rfl⟩ := okWide_slice hT hv
  obtain ⟨fuel, hf⟩ := h
  rcases Deep.open_slice hT hf with ⟨hcs, _⟩ | ⟨x, l, c, m, n, D, Pl, hcs, _, hl, hm, hmm, _, hx⟩
  · simp [Value.cells] at hcs
    obtain ⟨rfl, rfl, rfl⟩ := hcs
    exact ⟨none, [], 0, rfl, ⟨rfl, rfl, fun h0 => by simp at h0⟩, Nat.le_refl _, by unfold maxLen; omega⟩
  · simp [Value.cells] at hcs
    obtain ⟨rfl, rfl, rfl⟩ := hcs
    have hmc : m = cap := by rw [hmm, hs]; rfl
    have hel : ∀ i, i < len → ∃ r : R5, ∀ j, j < 5 → W.cell? ((x.add (i * 5)).add j) = (r.cells)[j]? := by
      intro i hi
      obtain ⟨cs', h1, ht⟩ := hx i (by omega)
      rw [hC] at h1
      obtain ⟨r, rfl⟩ := trod_rec ht
      exact ⟨r, (World.cells?_some h1).2.2⟩
    obtain ⟨L, hL, hp⟩ := choose_list hel
    refine ⟨some x, L, cap, by rw [hL], ⟨rfl, rcs_length L, fun h0 => ?_⟩, by omega, hm⟩
    have hc0 := hp 0 h0 0 (by omega)
    obtain ⟨b, off, spot⟩ := x
    have hspot : spot = none := by simpa [Addr.add] using World.cell?_spot hc0
    subst hspot
    have hlt := World.block_lt_of_cell? W _ hc0
    refine ⟨b, off, rfl, by simpa [Addr.add] using hlt, fun j u hj => ?_⟩
    have hj' : j < L.length * 5 := by
      have := (List.getElem?_eq_some_iff.1 hj).1
      rwa [rcs_length] at this
    have hi : j / 5 < L.length := by omega
    have hc := hp (j / 5) hi (j % 5) (by omega)
    rw [← rcs_get L (j / 5) (j % 5) hi (by omega), show j / 5 * 5 + j % 5 = j by omega, hj] at hc
    rw [← hc, Addr.add_lit, Addr.add_lit, show off + j / 5 * 5 + j % 5 = off + j by omega]
end Go.Proofs.Ytnbgkkjhmdfmiaa
