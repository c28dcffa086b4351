/- An argument that is a slot. -/
import Derived.Test.YtfieenjmpjfbpaaBase
import Derived.ProofKit
import Derived.OpenShut
import Derived.ChangeSame
namespace Go.Proofs.Ytfieenjmpjfbpaa
open Go.RowKit
open Go.ChangeShapes Go.WideShapes Go.ChangeAt

theorem open_slot {H : Type} {enc : TypeId × Value → H} {W : World} {b0 base : Nat} {v : Value} {d : DataW H} {p : List MemPlace} {spare : Nat → Bool} {held : Bool}
    (hv : Value.okWide Try.prog W .any b0 26 v) (h : DataW.Trod enc Try.prog W base spare held 26 v d p) :
    ∃ (ep hd rp er io wr : Int), v = .agg #[.int .i64 ep, .int .i64 hd, .int .i64 rp, .int .i64 er, .int .i64 io, .int .i64 wr] := by
  obtain ⟨cs, rfl, hsz⟩ := okWide_struct Try.underlying26 hv
  obtain ⟨fuel, hf⟩ := h
  obtain ⟨xs, n, _, -, hl, hlen, hg⟩ := DataW.trod_struct Try.underlying26 hf
  have hC : Try.prog.cellsOf 26 = 6 := by kernel_rfl
  have e3 : Try.prog.cellsOf 3 = 1 := by kernel_rfl
  have e22 : Try.prog.cellsOf 22 = 1 := by kernel_rfl
  have e24 : Try.prog.cellsOf 24 = 2 := by kernel_rfl
  obtain ⟨l⟩ := cs
  match l, hsz.trans hC with
  | [c0, c1, c2, c3, c4, c5], _ =>
    match xs, hlen with
    | [y0, y1, y2, y3, y4], _ =>
      have g0 : DataW.trod enc Try.prog W base spare held n 3 [c0] = some y0 := by simpa [Value.cells, e3] using hg 0 _ rfl
      have g1 : DataW.trod enc Try.prog W base spare held n 3 [c1] = some y1 := by simpa [Value.cells, e3] using hg 1 _ rfl
      have g2 : DataW.trod enc Try.prog W base spare held n 3 [c2] = some y2 := by simpa [Value.cells, e3] using hg 2 _ rfl
      have g3 : DataW.trod enc Try.prog W base spare held n 24 [c3, c4] = some y3 := by simpa [Value.cells, e24] using hg 3 _ rfl
      have g4 : DataW.trod enc Try.prog W base spare held n 3 [c5] = some y4 := by simpa [Value.cells, e3] using hg 4 _ rfl
      obtain ⟨zs, m, _, -, _, hlen2, hg2⟩ := DataW.trod_struct Try.underlying24 g3
      match zs, hlen2 with
      | [u0, u1], _ =>
        have q0 : DataW.trod enc Try.prog W base spare held m 22 [c3] = some u0 := by simpa [e22] using hg2 0 _ rfl
        have q1 : DataW.trod enc Try.prog W base spare held m 3 [c4] = some u1 := by simpa [e3] using hg2 1 _ rfl
        obtain ⟨z0, h0, -, -⟩ := DataW.trod_int Try.underlying3 g0
        obtain ⟨z1, h1, -, -⟩ := DataW.trod_int Try.underlying3 g1
        obtain ⟨z2, h2, -, -⟩ := DataW.trod_int Try.underlying3 g2
        obtain ⟨z3, h3, -, -⟩ := DataW.trod_int Try.underlying22 q0
        obtain ⟨z4, h4, -, -⟩ := DataW.trod_int Try.underlying3 q1
        obtain ⟨z5, h5, -, -⟩ := DataW.trod_int Try.underlying3 g4
        simp only [List.cons.injEq, and_true] at h0 h1 h2 h3 h4 h5
        subst h0 h1 h2 h3 h4 h5
        exact ⟨z0, z1, z2, z3, z4, z5, rfl⟩
end Go.Proofs.Ytfieenjmpjfbpaa
