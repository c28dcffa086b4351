/- The walk of the statement PmemSizes. -/
import Derived.Test.YtnhgfkahmflpgaaLives3
namespace Go.Proofs.Ytnhgfkahmflpgaa
open Go.RowKit

theorem law_PmemSizes (n : Int) (W : World) :
    Calls Try.prog 3 #[.int .i64 n] W fun e w' => e = .returned (.bool true) ∧ Below W.heap.size W w' := by
  cases hs : sizeB n with
  | true =>
    obtain ⟨h1, h2, h3⟩ := sizeB_iff.1 hs
    obtain ⟨m, rfl⟩ : ∃ m : Nat, n = (m : Int) := ⟨n.toNat, by omega⟩
    obtain ⟨N, hn⟩ : ∃ N, m = 8 * N := ⟨m / 8, by omega⟩
    have hnew := pm_new_yes N (by omega) W
    rw [← hn] at hnew
    have HNEW := Lib.hid hnew
    have z1 : decide (64 ≤ (m : Int)) = true := decide_eq_true (by omega)
    have z1' : decide (64 ≤ m) = true := decide_eq_true (by omega)
    have z2 : decide ((m : Int) ≤ 1048576) = true := decide_eq_true (by omega)
    have z2' : decide (m ≤ 1048576) = true := decide_eq_true (by omega)
    have z3 : (Int.tmod (m : Int) 64 == 0) = true := by rw [Int.tmod_eq_emod_of_nonneg (by omega), h3]; rfl
    have z4 : ((m : Int) % 64 == 0) = true := by rw [h3]; rfl
    have z5 : ((N : Int) * 8 == (m : Int)) = true := by rw [beq_iff_eq]; omega
    clear hs h1 h2 h3 hn hnew
    go_enter Try.func3, Try.ntmps3
    go_wp2_with fail
    refine HNEW.out.mono ?_
    rintro e w1 ⟨x, rfl, hP, -, G⟩
    have HP := Lib.hid hP
    clear hP HNEW
    go_wp2_with fail
    refine (pm_size HP.out).mono ?_
    rintro e w2 ⟨rfl, rfl⟩
    go_wp2_with fail
    refine (lives3 _).mono ?_
    rintro e w3 ⟨rfl, g3⟩
    go_wp2_with fail
    go_ret
    exact ⟨rfl, G.trans g3⟩
  | false =>
    have HNEW := Lib.hid (pm_new_no n hs W)
    have h0 : ¬ (64 ≤ n ∧ n ≤ 1048576 ∧ n % 64 = 0) := fun q => by rw [sizeB_iff.2 q] at hs; cases hs
    by_cases h1 : n < 64
    · have z1 : decide (64 ≤ n) = false := decide_eq_false (by omega)
      clear hs h0 h1
      go_enter Try.func3, Try.ntmps3
      go_wp2_with fail
      refine HNEW.out.mono ?_
      rintro e w1 ⟨rfl, rfl⟩
      go_wp2_with fail
      refine (lives3 _).mono ?_
      rintro e w3 ⟨rfl, g3⟩
      go_wp2_with fail
      go_ret
      exact ⟨rfl, g3⟩
    · have z1 : decide (64 ≤ n) = true := decide_eq_true (by omega)
      by_cases h2 : 1048576 < n
      · have z2 : decide (n ≤ 1048576) = false := decide_eq_false (by omega)
        clear hs h0 h1 h2
        go_enter Try.func3, Try.ntmps3
        go_wp2_with fail
        refine HNEW.out.mono ?_
        rintro e w1 ⟨rfl, rfl⟩
        go_wp2_with fail
        refine (lives3 _).mono ?_
        rintro e w3 ⟨rfl, g3⟩
        go_wp2_with fail
        go_ret
        exact ⟨rfl, g3⟩
      · have z2 : decide (n ≤ 1048576) = true := decide_eq_true (by omega)
        have z3 : (Int.tmod n 64 == 0) = false := by rw [Int.tmod_eq_emod_of_nonneg (by omega), beq_eq_false_iff_ne]; omega
        clear hs h0 h1 h2
        go_enter Try.func3, Try.ntmps3
        go_wp2_with fail
        refine HNEW.out.mono ?_
        rintro e w1 ⟨rfl, rfl⟩
        go_wp2_with fail
        refine (lives3 _).mono ?_
        rintro e w3 ⟨rfl, g3⟩
        go_wp2_with fail
        go_ret
        exact ⟨rfl, g3⟩
end Go.Proofs.Ytnhgfkahmflpgaa
