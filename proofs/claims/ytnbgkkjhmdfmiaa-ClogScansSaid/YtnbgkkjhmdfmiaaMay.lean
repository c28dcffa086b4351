/- files.May and the document's. -/
import Derived.Test.YtnbgkkjhmdfmiaaRec
namespace Go.Proofs.Ytnbgkkjhmdfmiaa
open Go.RowKit

theorem empty_size (s : ByteArray) : s.toList.isEmpty = decide (s.size = 0) := by
  rw [Bool.eq_iff_iff, ByteArray.toList_eq, List.isEmpty_iff_length_eq_zero, decide_eq_true_iff, Array.length_toList]
  rfl

theorem files_may (call inode off : Int) (tr : Bool) (s : ByteArray) (w : World) :
    Calls Try.prog 25 #[.agg #[.int .i64 call, .int .i64 inode, .bool tr, .int .i64 off, .string s]] w fun e w' => e = .returned (.bool (mayR call inode tr off s.size)) ∧ Below w.heap.size w w' := by
  go_enter Try.func25, Try.ntmps25
  go_wp2_with (go_at_call 37; refine (files_in _ _ _ _).mono ?_; rintro e w' ⟨rfl, rfl⟩)
  all_goals (go_ret; refine ⟨ret_bool ?_, (Below.refl _ _).alloc (Nat.le_refl _) _⟩)
  all_goals (rw [Bool.eq_iff_iff, mayR_iff]; simp only [empty_size, decide_eq_true_iff, Bool.false_eq_true, true_iff, false_iff])
  all_goals (first | omega | (simp_all; done) | (simp_all; omega))

theorem ref15_may (call inode off : Int) (tr : Bool) (s : ByteArray) (w : World) :
    Calls Try.prog 31 #[.agg #[.int .i64 call, .int .i64 inode, .bool tr, .int .i64 off, .string s]] w fun e w' => e = .returned (.bool (mayR call inode tr off s.size)) ∧ Below w.heap.size w w' := by
  go_enter Try.func31, Try.ntmps31
  go_wp2
  all_goals (go_ret; refine ⟨ret_bool ?_, (Below.refl _ _).alloc (Nat.le_refl _) _⟩)
  all_goals (rw [Bool.eq_iff_iff, mayR_iff]; simp only [empty_size, decide_eq_true_iff, Bool.false_eq_true, true_iff, false_iff])
  all_goals (first | omega | (simp_all; done) | (simp_all; omega))
end Go.Proofs.Ytnbgkkjhmdfmiaa
