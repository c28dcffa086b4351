/- The reference's Needs. -/
import Derived.Test.YtpmmkchjdhaieaaInoMay
namespace Go.Proofs.Ytpmmkchjdhaieaa
open Go.RowKit

theorem ref11_needs (n : Int) (h : n ≤ 60000000) (h0 : -9223372036854775808 ≤ n) (w : World) : Calls Try.prog 15 #[.int .i64 n] w fun e w' => e = .returned (.int .i64 (needN n)) ∧ w = w' := by
  go_enter Try.func15, Try.ntmps15
  obtain ⟨M, hM⟩ : ∃ M : Nat, Hid (M = 1000000) := ⟨_, Lib.hid rfl⟩
  go_wp2_with fail
  go_loop [3] (fun i => ∃ m : Nat, i = .int .i64 m ∧ m ≤ 937500 ∧ (m = 0 ∨ 64 * ((m : Int) - 1) < n)) (fun i => M - (intOf i).toNat)
  case atStart => exact ⟨0, rfl, by omega, .inl rfl⟩
  case round =>
    obtain ⟨m, rfl, hm, hr⟩ := hrel
    have HR := Lib.hid hr
    have HM := Lib.hid hm
    have hmi : (m : Int) < 1000000 := by omega
    clear hr hm
    by_cases hlt : 64 * (m : Int) < n
    · go_wp2_with fail
      go_round
      case rel => exact ⟨m + 1, by go_num, by have := HM.out; omega, .inr (by omega)⟩
      case measure => have := hM.out; simp only [intOf]; omega
    · go_wp2
      go_ret
      refine ⟨ret_int ?_, rfl⟩
      have := HR.out
      have := HM.out
      unfold needN
      split <;> omega

end Go.Proofs.Ytpmmkchjdhaieaa
