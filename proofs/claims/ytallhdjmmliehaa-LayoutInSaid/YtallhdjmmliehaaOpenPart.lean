/- An argument that is a part. -/
import Derived.Test.YtallhdjmmliehaaOpenI
import Derived.ChangeSame
namespace Go.Proofs.Ytallhdjmmliehaa
open Go.RowKit
open Go.ChangeShapes Go.WideShapes Go.ChangeAt

theorem open_part {H : Type} {enc : TypeId × Value → H} {W : World} {b0 base : Nat} {v : Value} {d : DataW H} {p : List MemPlace} {spare : Nat → Bool} {held : Bool}
    (hv : Value.okWide Try.prog W .any b0 23 v) (h : DataW.Trod enc Try.prog W base spare held 23 v d p) :
    ∃ (k n a s : Int), v = .agg #[.int .i64 k, .int .i64 n, .int .i64 a, .int .i64 s] := by
  obtain ⟨cs, rfl, hsz⟩ := okWide_struct Try.underlying23 hv
  obtain ⟨fuel, hf⟩ := h
  obtain ⟨xs, n, _, -, hl, hlen, hg⟩ := DataW.trod_struct Try.underlying23 hf
  have hC : Try.prog.cellsOf 23 = 4 := by kernel_rfl
  have e3 : Try.prog.cellsOf 3 = 1 := by kernel_rfl
  obtain ⟨l⟩ := cs
  match l, hsz.trans hC with
  | [c0, c1, c2, c3], _ =>
    match xs, hlen with
    | [y0, y1, y2, y3], _ =>
      have g0 : DataW.trod enc Try.prog W base spare held n 3 [c0] = some y0 := by simpa [Value.cells, e3] using hg 0 _ rfl
      have g1 : DataW.trod enc Try.prog W base spare held n 3 [c1] = some y1 := by simpa [Value.cells, e3] using hg 1 _ rfl
      have g2 : DataW.trod enc Try.prog W base spare held n 3 [c2] = some y2 := by simpa [Value.cells, e3] using hg 2 _ rfl
      have g3 : DataW.trod enc Try.prog W base spare held n 3 [c3] = some y3 := by simpa [Value.cells, e3] using hg 3 _ rfl
      obtain ⟨z0, h0, -, -⟩ := DataW.trod_int Try.underlying3 g0
      obtain ⟨z1, h1, -, -⟩ := DataW.trod_int Try.underlying3 g1
      obtain ⟨z2, h2, -, -⟩ := DataW.trod_int Try.underlying3 g2
      obtain ⟨z3, h3, -, -⟩ := DataW.trod_int Try.underlying3 g3
      simp only [List.cons.injEq, and_true] at h0 h1 h2 h3
      subst h0 h1 h2 h3
      exact ⟨z0, z1, z2, z3, rfl⟩
end Go.Proofs.Ytallhdjmmliehaa
