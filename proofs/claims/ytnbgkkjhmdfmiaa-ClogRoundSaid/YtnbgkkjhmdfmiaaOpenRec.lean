/- An argument that is a record. -/
import Derived.Test.YtnbgkkjhmdfmiaaBase
import Derived.ProofKit
import Derived.OpenShut
import Derived.ChangeSame
namespace Go.Proofs.Ytnbgkkjhmdfmiaa
open Go.RowKit
open Go.ChangeShapes Go.WideShapes Go.ChangeAt

theorem open_rec {H : Type} {enc : TypeId × Value → H} {W : World} {b0 base : Nat} {v : Value} {d : DataW H} {p : List MemPlace} {spare : Nat → Bool} {held : Bool}
    (hv : Value.okWide Try.prog W .any b0 31 v) (h : DataW.Trod enc Try.prog W base spare held 31 v d p) :
    ∃ (call inode off : Int) (tr : Bool) (s : ByteArray), v = .agg #[.int .i64 call, .int .i64 inode, .bool tr, .int .i64 off, .string s] := by
  obtain ⟨cs, rfl, hsz⟩ := okWide_struct Try.underlying31 hv
  obtain ⟨fuel, hf⟩ := h
  obtain ⟨xs, n, _, -, hl, hlen, hg⟩ := DataW.trod_struct Try.underlying31 hf
  have hC : Try.prog.cellsOf 31 = 5 := by kernel_rfl
  have e3 : Try.prog.cellsOf 3 = 1 := by kernel_rfl
  have e4 : Try.prog.cellsOf 4 = 1 := by kernel_rfl
  have e9 : Try.prog.cellsOf 9 = 1 := by kernel_rfl
  obtain ⟨l⟩ := cs
  match l, hsz.trans hC with
  | [c0, c1, c2, c3, c4], _ =>
    match xs, hlen with
    | [y0, y1, y2, y3, y4], _ =>
      have g0 : DataW.trod enc Try.prog W base spare held n 3 [c0] = some y0 := by simpa [Value.cells, e3] using hg 0 _ rfl
      have g1 : DataW.trod enc Try.prog W base spare held n 3 [c1] = some y1 := by simpa [Value.cells, e3] using hg 1 _ rfl
      have g2 : DataW.trod enc Try.prog W base spare held n 4 [c2] = some y2 := by simpa [Value.cells, e4] using hg 2 _ rfl
      have g3 : DataW.trod enc Try.prog W base spare held n 3 [c3] = some y3 := by simpa [Value.cells, e3] using hg 3 _ rfl
      have g4 : DataW.trod enc Try.prog W base spare held n 9 [c4] = some y4 := by simpa [Value.cells, e9] using hg 4 _ rfl
      obtain ⟨z0, h0, -, -⟩ := DataW.trod_int Try.underlying3 g0
      obtain ⟨z1, h1, -, -⟩ := DataW.trod_int Try.underlying3 g1
      obtain ⟨z2, h2, -⟩ := DataW.trod_bool Try.underlying4 g2
      obtain ⟨z3, h3, -, -⟩ := DataW.trod_int Try.underlying3 g3
      obtain ⟨z4, h4, -, -⟩ := DataW.trod_string Try.underlying9 g4
      simp only [List.cons.injEq, and_true] at h0 h1 h2 h3 h4
      subst h0 h1 h2 h3 h4
      exact ⟨z0, z1, z3, z2, z4, rfl⟩
end Go.Proofs.Ytnbgkkjhmdfmiaa
