/- An argument that is an inode. -/
import Derived.Test.YtpmmkchjdhaieaaBase
import Derived.ProofKit
import Derived.OpenShut
import Derived.ChangeSame
namespace Go.Proofs.Ytpmmkchjdhaieaa
open Go.RowKit
open Go.ChangeShapes Go.WideShapes Go.ChangeAt

theorem open_ino {H : Type} {enc : TypeId × Value → H} {W : World} {b0 base : Nat} {v : Value} {d : DataW H} {p : List MemPlace} {spare : Nat → Bool} {held : Bool}
    (hv : Value.okWide Try.prog W .any b0 25 v) (h : DataW.Trod enc Try.prog W base spare held 25 v d p) :
    ∃ (z0 z1 z2 z3 z4 z5 z6 z7 z8 z9 z10 z11 z12 z13 z14 : Int), v = .agg #[.int .i64 z0, .int .i64 z1, .int .i64 z2, .int .i64 z3, .int .i64 z4, .int .i64 z5, .int .i64 z6, .int .i64 z7, .int .i64 z8, .int .i64 z9, .int .i64 z10, .int .i64 z11, .int .i64 z12, .int .i64 z13, .int .i64 z14] := by
  obtain ⟨cs, rfl, hsz⟩ := okWide_struct Try.underlying25 hv
  obtain ⟨fuel, hf⟩ := h
  obtain ⟨xs, n, _, -, hl, hlen, hg⟩ := DataW.trod_struct Try.underlying25 hf
  have hC : Try.prog.cellsOf 25 = 15 := by kernel_rfl
  have e3 : Try.prog.cellsOf 3 = 1 := by kernel_rfl
  have e4 : Try.prog.cellsOf 22 = 4 := by kernel_rfl
  have e8 : Try.prog.cellsOf 23 = 8 := by kernel_rfl
  obtain ⟨l⟩ := cs
  match l, hsz.trans hC with
  | [c0, c1, c2, c3, c4, c5, c6, c7, c8, c9, c10, c11, c12, c13, c14], _ =>
    match xs, hlen with
    | [y0, y1, y2, y3, y4], _ =>
      have g0 : DataW.trod enc Try.prog W base spare held n 3 [c0] = some y0 := by simpa [Value.cells, e3] using hg 0 _ rfl
      have g1 : DataW.trod enc Try.prog W base spare held n 3 [c1] = some y1 := by simpa [Value.cells, e3] using hg 1 _ rfl
      have g2 : DataW.trod enc Try.prog W base spare held n 3 [c2] = some y2 := by simpa [Value.cells, e3] using hg 2 _ rfl
      have g3 : DataW.trod enc Try.prog W base spare held n 22 [c3, c4, c5, c6] = some y3 := by simpa [Value.cells, e4] using hg 3 _ rfl
      have g4 : DataW.trod enc Try.prog W base spare held n 23 [c7, c8, c9, c10, c11, c12, c13, c14] = some y4 := by simpa [Value.cells, e8] using hg 4 _ rfl
      obtain ⟨z0, h0, -, -⟩ := DataW.trod_int Try.underlying3 g0
      obtain ⟨z1, h1, -, -⟩ := DataW.trod_int Try.underlying3 g1
      obtain ⟨z2, h2, -, -⟩ := DataW.trod_int Try.underlying3 g2
      obtain ⟨xsa, ma, _, -, -, hla, hga⟩ := DataW.trod_array Try.underlying22 g3
      obtain ⟨z3, h3⟩ : ∃ z, [c3] = [Value.int .i64 z] := by
        have hi := hga 0 (by omega)
        rw [e3] at hi
        cases hx : xsa[0]? with
        | none => rw [List.getElem?_eq_none_iff] at hx; omega
        | some q =>
          rw [hx] at hi
          obtain ⟨z, hz, -, -⟩ := DataW.trod_int Try.underlying3 hi
          exact ⟨z, by simpa using hz⟩
      obtain ⟨z4, h4⟩ : ∃ z, [c4] = [Value.int .i64 z] := by
        have hi := hga 1 (by omega)
        rw [e3] at hi
        cases hx : xsa[1]? with
        | none => rw [List.getElem?_eq_none_iff] at hx; omega
        | some q =>
          rw [hx] at hi
          obtain ⟨z, hz, -, -⟩ := DataW.trod_int Try.underlying3 hi
          exact ⟨z, by simpa using hz⟩
      obtain ⟨z5, h5⟩ : ∃ z, [c5] = [Value.int .i64 z] := by
        have hi := hga 2 (by omega)
        rw [e3] at hi
        cases hx : xsa[2]? with
        | none => rw [List.getElem?_eq_none_iff] at hx; omega
        | some q =>
          rw [hx] at hi
          obtain ⟨z, hz, -, -⟩ := DataW.trod_int Try.underlying3 hi
          exact ⟨z, by simpa using hz⟩
      obtain ⟨z6, h6⟩ : ∃ z, [c6] = [Value.int .i64 z] := by
        have hi := hga 3 (by omega)
        rw [e3] at hi
        cases hx : xsa[3]? with
        | none => rw [List.getElem?_eq_none_iff] at hx; omega
        | some q =>
          rw [hx] at hi
          obtain ⟨z, hz, -, -⟩ := DataW.trod_int Try.underlying3 hi
          exact ⟨z, by simpa using hz⟩
      obtain ⟨xsb, mb, _, -, -, hlb, hgb⟩ := DataW.trod_array Try.underlying23 g4
      obtain ⟨z7, h7⟩ : ∃ z, [c7] = [Value.int .i64 z] := by
        have hi := hgb 0 (by omega)
        rw [e3] at hi
        cases hx : xsb[0]? with
        | none => rw [List.getElem?_eq_none_iff] at hx; omega
        | some q =>
          rw [hx] at hi
          obtain ⟨z, hz, -, -⟩ := DataW.trod_int Try.underlying3 hi
          exact ⟨z, by simpa using hz⟩
      obtain ⟨z8, h8⟩ : ∃ z, [c8] = [Value.int .i64 z] := by
        have hi := hgb 1 (by omega)
        rw [e3] at hi
        cases hx : xsb[1]? with
        | none => rw [List.getElem?_eq_none_iff] at hx; omega
        | some q =>
          rw [hx] at hi
          obtain ⟨z, hz, -, -⟩ := DataW.trod_int Try.underlying3 hi
          exact ⟨z, by simpa using hz⟩
      obtain ⟨z9, h9⟩ : ∃ z, [c9] = [Value.int .i64 z] := by
        have hi := hgb 2 (by omega)
        rw [e3] at hi
        cases hx : xsb[2]? with
        | none => rw [List.getElem?_eq_none_iff] at hx; omega
        | some q =>
          rw [hx] at hi
          obtain ⟨z, hz, -, -⟩ := DataW.trod_int Try.underlying3 hi
          exact ⟨z, by simpa using hz⟩
      obtain ⟨z10, h10⟩ : ∃ z, [c10] = [Value.int .i64 z] := by
        have hi := hgb 3 (by omega)
        rw [e3] at hi
        cases hx : xsb[3]? with
        | none => rw [List.getElem?_eq_none_iff] at hx; omega
        | some q =>
          rw [hx] at hi
          obtain ⟨z, hz, -, -⟩ := DataW.trod_int Try.underlying3 hi
          exact ⟨z, by simpa using hz⟩
      obtain ⟨z11, h11⟩ : ∃ z, [c11] = [Value.int .i64 z] := by
        have hi := hgb 4 (by omega)
        rw [e3] at hi
        cases hx : xsb[4]? with
        | none => rw [List.getElem?_eq_none_iff] at hx; omega
        | some q =>
          rw [hx] at hi
          obtain ⟨z, hz, -, -⟩ := DataW.trod_int Try.underlying3 hi
          exact ⟨z, by simpa using hz⟩
      obtain ⟨z12, h12⟩ : ∃ z, [c12] = [Value.int .i64 z] := by
        have hi := hgb 5 (by omega)
        rw [e3] at hi
        cases hx : xsb[5]? with
        | none => rw [List.getElem?_eq_none_iff] at hx; omega
        | some q =>
          rw [hx] at hi
          obtain ⟨z, hz, -, -⟩ := DataW.trod_int Try.underlying3 hi
          exact ⟨z, by simpa using hz⟩
      obtain ⟨z13, h13⟩ : ∃ z, [c13] = [Value.int .i64 z] := by
        have hi := hgb 6 (by omega)
        rw [e3] at hi
        cases hx : xsb[6]? with
        | none => rw [List.getElem?_eq_none_iff] at hx; omega
        | some q =>
          rw [hx] at hi
          obtain ⟨z, hz, -, -⟩ := DataW.trod_int Try.underlying3 hi
          exact ⟨z, by simpa using hz⟩
      obtain ⟨z14, h14⟩ : ∃ z, [c14] = [Value.int .i64 z] := by
        have hi := hgb 7 (by omega)
        rw [e3] at hi
        cases hx : xsb[7]? with
        | none => rw [List.getElem?_eq_none_iff] at hx; omega
        | some q =>
          rw [hx] at hi
          obtain ⟨z, hz, -, -⟩ := DataW.trod_int Try.underlying3 hi
          exact ⟨z, by simpa using hz⟩
      simp only [List.cons.injEq, and_true] at h0 h1 h2 h3 h4 h5 h6 h7 h8 h9 h10 h11 h12 h13 h14
      subst h0 h1 h2 h3 h4 h5 h6 h7 h8 h9 h10 h11 h12 h13 h14
      exact ⟨z0, z1, z2, z3, z4, z5, z6, z7, z8, z9, z10, z11, z12, z13, z14, rfl⟩
end Go.Proofs.Ytpmmkchjdhaieaa
