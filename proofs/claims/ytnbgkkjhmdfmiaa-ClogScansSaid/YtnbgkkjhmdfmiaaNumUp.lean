/- num.may and num.Up. -/
import Derived.Test.YtnbgkkjhmdfmiaaNum
namespace Go.Proofs.Ytnbgkkjhmdfmiaa
open Go.RowKit

/-- num.may, num.Up, num.Down. -/
theorem num_may (n to : Int) (w : World) : Calls Try.prog 43 #[.int .i64 n, .int .i64 to] w fun e w' => e = .returned (.bool (mayB n to)) ∧ w = w' := by
  go_enter Try.func43, Try.ntmps43
  go_wp2
  all_goals (go_ret; refine ⟨ret_bool ?_, rfl⟩)
  all_goals (rw [Bool.eq_iff_iff]; simp [mayB])
  all_goals omega

theorem num_up (n to : Int) (w : World) : Calls Try.prog 30 #[.int .i64 n, .int .i64 to] w fun e w' => e = .returned (.int .i64 (upN n to)) ∧ w = w' := by
  by_cases hm : mayB n to = true
  · obtain ⟨h1, h2, h3, h4⟩ := may_iff.1 hm
    have hu := up_bounds (n := n) h1
    have e : wrap64 ((n + to - 1) / to * to) = upN n to := by
      rw [IntWalk.wrap64_in _ ⟨by omega, by omega⟩]; simp [upN, hm]
    have HE := Lib.hid e
    clear e hu
    go_enter Try.func30, Try.ntmps30
    go_wp2_with (go_at_call 43; refine (num_may _ _ _).mono ?_; rintro e w' ⟨rfl, rfl⟩)
    go_ret
    exact ⟨ret_int HE.out, rfl⟩
  · have hm : mayB n to = false := by simpa using hm
    go_enter Try.func30, Try.ntmps30
    go_wp2_with (go_at_call 43; refine (num_may _ _ _).mono ?_; rintro e w' ⟨rfl, rfl⟩)
    go_ret
    exact ⟨ret_int (by simp [upN, hm]), rfl⟩
end Go.Proofs.Ytnbgkkjhmdfmiaa
