/- '==' at inodes. -/
import Derived.Test.YtpmmkchjdhaieaaInoMay
import Derived.ChangeKeysEq
namespace Go.Proofs.Ytpmmkchjdhaieaa
open Go.RowKit

theorem int_info : (Try.prog.info? 3).map (fun i => (i.zero, i.size, i.bytes)) = some (some (.int .i64 0), 1, 8) := by kernel_rfl
theorem cells_int : Try.prog.cellsOf 3 = 1 := by kernel_rfl

theorem eqItems_ints (d : Nat) (w : World) (xs ys : Array Value) (is : List Nat) (X Y : Nat → Int) (hX : ∀ i, i ∈ is → (part 3 xs (i * 1)).run Try.prog w = .ok (.int .i64 (X i)) w) (hY : ∀ i, i ∈ is → (part 3 ys (i * 1)).run Try.prog w = .ok (.int .i64 (Y i)) w) :
    (Op.eqItems (d + 1) 3 1 xs ys is).run Try.prog w = .ok (is.all fun i => X i == Y i) w := by
  induction is with
  | nil => simp [Op.eqItems]
  | cons j js ih =>
    have e1 := hX j (by simp)
    have e2 := hY j (by simp)
    have e3 := ih (fun i hi => hX i (by simp [hi])) (fun i hi => hY i (by simp [hi]))
    simp only [Op.eqItems, Sem.run_bind, e1, e2, Result.andThen_ok, run_equalIn_int w d 3 .i64 .i64 (X j) (Y j) Try.underlying3]
    cases h : (X j == Y j) <;> simp [h, e3]

theorem eql4 (d : Nat) (w : World) (a0 a1 a2 a3 c0 c1 c2 c3 : Int) : (Op.equalIn (d + 2) 22 (.agg #[.int .i64 a0, .int .i64 a1, .int .i64 a2, .int .i64 a3]) (.agg #[.int .i64 c0, .int .i64 c1, .int .i64 c2, .int .i64 c3])).run Try.prog w = .ok (a0 == c0 && a1 == c1 && a2 == c2 && a3 == c3) w := by
  obtain ⟨i0, hi, hz, h1, h2⟩ := info_parts int_info
  rw [run_equalIn_array w (d + 1) _ _ Try.underlying22 hi, cells_int]
  rw [eqItems_ints d w _ _ _ (fun i => [a0, a1, a2, a3].getD i 0) (fun i => [c0, c1, c2, c3].getD i 0)]
  · simp [List.range, List.range.loop, Bool.and_assoc]
  · intro i hi
    have : i = 0 ∨ i = 1 ∨ i = 2 ∨ i = 3 := by simp at hi; omega
    rcases this with rfl | rfl | rfl | rfl <;> rfl
  · intro i hi
    have : i = 0 ∨ i = 1 ∨ i = 2 ∨ i = 3 := by simp at hi; omega
    rcases this with rfl | rfl | rfl | rfl <;> rfl

theorem eql8 (d : Nat) (w : World) (a0 a1 a2 a3 a4 a5 a6 a7 c0 c1 c2 c3 c4 c5 c6 c7 : Int) : (Op.equalIn (d + 2) 23 (.agg #[.int .i64 a0, .int .i64 a1, .int .i64 a2, .int .i64 a3, .int .i64 a4, .int .i64 a5, .int .i64 a6, .int .i64 a7]) (.agg #[.int .i64 c0, .int .i64 c1, .int .i64 c2, .int .i64 c3, .int .i64 c4, .int .i64 c5, .int .i64 c6, .int .i64 c7])).run Try.prog w = .ok (a0 == c0 && a1 == c1 && a2 == c2 && a3 == c3 && a4 == c4 && a5 == c5 && a6 == c6 && a7 == c7) w := by
  obtain ⟨i0, hi, hz, h1, h2⟩ := info_parts int_info
  rw [run_equalIn_array w (d + 1) _ _ Try.underlying23 hi, cells_int]
  rw [eqItems_ints d w _ _ _ (fun i => [a0, a1, a2, a3, a4, a5, a6, a7].getD i 0) (fun i => [c0, c1, c2, c3, c4, c5, c6, c7].getD i 0)]
  · simp [List.range, List.range.loop, Bool.and_assoc]
  · intro i hi
    have : i = 0 ∨ i = 1 ∨ i = 2 ∨ i = 3 ∨ i = 4 ∨ i = 5 ∨ i = 6 ∨ i = 7 := by simp at hi; omega
    rcases this with rfl | rfl | rfl | rfl | rfl | rfl | rfl | rfl <;> rfl
  · intro i hi
    have : i = 0 ∨ i = 1 ∨ i = 2 ∨ i = 3 ∨ i = 4 ∨ i = 5 ∨ i = 6 ∨ i = 7 := by simp at hi; omega
    rcases this with rfl | rfl | rfl | rfl | rfl | rfl | rfl | rfl <;> rfl
end Go.Proofs.Ytpmmkchjdhaieaa
