/- The deeds of an argument, and the reach of their bytes. No statement of the seat is proved here. -/
import Derived.Test.YtlinlmimakealaaZ21
import Derived.SizedLaws
namespace Go.Proofs.Ytlinlmimakealaa
open Go.RowKit
open Go.ChangeShapes Go.WideShapes Go.ChangeAt

theorem weightsAll_mem {H : Type} {P : Program} {e : TypeId} : ∀ {ds : List (DataW H)} {d : DataW H}, d ∈ ds → ∀ n ∈ d.weights P e, n ∈ DataW.weightsAll P e ds
  | d0 :: ds, d, hd, n, hn => by
    simp only [DataW.weightsAll, List.mem_append]
    rcases List.mem_cons.1 hd with rfl | h
    · exact Or.inl hn
    · exact Or.inr (weightsAll_mem h n hn)
theorem lits_length (k : IntKind) (zs : List Int) {H : Type} : (lits (H := H) k zs).length = zs.length := by simp [lits]
set_option maxRecDepth 8000 in
theorem reach_bytes {H : Type} {enc : TypeId × Value → H} {W : World} {base fuel : Nat} {a : Option Addr} {l c : Nat} {x : DataW H × List MemPlace} {spare : Nat → Bool} {held : Bool}
    (hf : DataW.trod enc Try.prog W base spare held fuel 22 [.slice a l c] = some x) {R : Nat} (h : ∀ n ∈ x.1.weights Try.prog 22, n ≤ R) (hR : 0 ≤ R) : l ≤ R := by
  have hb : Try.prog.bytesOf 5 = 1 := by kernel_rfl
  rcases open_ints Try.underlying22 Try.underlying5 (by kernel_rfl) hf with ⟨hcs, _⟩ | ⟨ad, len, cap, zs, hcs, _, hl, hm, hz, rfl, -, -⟩
  · simp at hcs
    omega
  · simp at hcs
    obtain ⟨-, rfl, -⟩ := hcs
    have hl2 : l ≤ zs.length := by rw [hz]; split <;> omega
    have := h ((zs.take l).length + (zs.drop l).length) (by
      simp only [DataW.weights, Try.underlying22, List.mem_cons]
      left
      rw [lits_length, lits_length, hb, Nat.mul_one])
    rw [List.length_take, List.length_drop] at this
    omega
set_option maxRecDepth 8000 in
theorem trod_deedZ {H : Type} {enc : TypeId × Value → H} {W : World} {base fuel : Nat} {cs : List Value} {x : DataW H × List MemPlace} {spare : Nat → Bool} {held : Bool}
    (hf : DataW.trod enc Try.prog W base spare held fuel 54 cs = some x) (hs : ∀ b, spare b = true) {R : Nat} (h : ∀ n ∈ x.1.weights Try.prog 54, n ≤ R) : ∃ r : Dd, cs = r.cells ∧ r.ok W ∧ r.bs.length ≤ R := by
  obtain ⟨r, rfl, hok⟩ := trod_deed hf hs
  refine ⟨r, rfl, hok, ?_⟩
  obtain ⟨xs, n, _, hx, hl, hlen, hg⟩ := DataW.trod_struct Try.underlying54 hf
  have e4 : Try.prog.cellsOf 22 = 1 := by kernel_rfl
  match xs, hlen with
  | [y0, y1, y2, y3, y4], _ =>
    have g3 : DataW.trod enc Try.prog W base spare held n 22 [.slice r.B r.bs.length r.c] = some y3 := by simpa [e4, Dd.cells] using hg 3 _ rfl
    refine reach_bytes g3 (fun k hk => h k ?_) (Nat.zero_le _)
    rw [hx]
    simp only [DataW.weights, Try.underlying54]
    exact DataW.weights_mem_each (j := 3) rfl rfl k hk
set_option maxRecDepth 8000 in
theorem open_deedsZ {H : Type} {enc : TypeId × Value → H} {W : World} {b0 base : Nat} {v : Value} {d : DataW H} {p : List MemPlace} {spare : Nat → Bool} {held : Bool} {T : TypeId} {R : Nat}
    (hT : Try.prog.underlying T = some (.slice 54)) (hv : Value.okWide Try.prog W .any b0 T v) (h : DataW.Trod enc Try.prog W base spare held T v d p) (hs : ∀ b, spare b = true) (hw : ∀ n ∈ d.weights Try.prog T, n ≤ R) :
    ∃ (a : Option Addr) (L : List Dd) (c : Nat), v = .slice a L.length c ∧ RD W a L.length L ∧ L.length ≤ c ∧ ∀ e ∈ L, e.bs.length ≤ R := by
  have hC : Try.prog.cellsOf 54 = 5 := by kernel_rfl
  obtain ⟨a, len, cap, rfl⟩ := okWide_slice hT hv
  obtain ⟨fuel, hf⟩ := h
  rcases Deep.open_slice hT hf with ⟨hcs, _⟩ | ⟨x, l, c, m, n, D, Pl, hcs, _, hl, hm, hmm, hxx, hx⟩
  · simp [Value.cells] at hcs
    obtain ⟨rfl, rfl, rfl⟩ := hcs
    exact ⟨none, [], 0, rfl, ⟨rfl, fun e he => by simp at he, fun h0 => by simp at h0⟩, Nat.le_refl _, fun e he => by simp at he⟩
  · simp [Value.cells] at hcs
    obtain ⟨rfl, rfl, rfl⟩ := hcs
    have hmc : m = cap := by rw [hmm, hs]; rfl
    injection hxx with hd hp
    subst hd
    have hel : ∀ i, i < len → ∃ r : Dd, (r.ok W ∧ r.bs.length ≤ R) ∧ ∀ j, j < 5 → W.cell? ((x.add (i * 5)).add j) = (r.cells)[j]? := by
      intro i hi
      obtain ⟨cs', h1, ht⟩ := hx i (by omega)
      rw [hC] at h1
      obtain ⟨r, rfl, hok, hR⟩ := trod_deedZ ht hs (R := R) (fun k hk => hw k (by
        simp only [DataW.weights, hT, List.mem_cons, List.mem_append]
        exact Or.inr (Or.inl (weightsAll_mem (List.mem_map.2 ⟨i, by simpa using hi, rfl⟩) k hk))))
      exact ⟨r, ⟨hok, hR⟩, (World.cells?_some h1).2.2⟩
    obtain ⟨L, hL, hp⟩ := choose_list hel
    refine ⟨some x, L, cap, by rw [hL], ⟨rfl, fun e he => ?_, fun h0 => ?_⟩, by omega, fun e he => ?_⟩
    · obtain ⟨i, hi, rfl⟩ := List.getElem_of_mem he
      exact (hp i hi).1.1
    · have hc0 := (hp 0 h0).2 0 (by omega)
      obtain ⟨b, off, spot⟩ := x
      have hspot : spot = none := by simpa [Addr.add] using World.cell?_spot hc0
      subst hspot
      have hlt := World.block_lt_of_cell? W _ hc0
      refine ⟨b, off, rfl, by simpa [Addr.add] using hlt, fun i hi j hj => ?_⟩
      have := (hp i hi).2 j hj
      rwa [Addr.add_lit, Addr.add_lit] at this
    · obtain ⟨i, hi, rfl⟩ := List.getElem_of_mem he
      exact (hp i hi).1.2
end Go.Proofs.Ytlinlmimakealaa
