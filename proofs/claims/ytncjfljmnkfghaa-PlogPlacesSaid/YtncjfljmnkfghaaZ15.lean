/- The walk of the statement PlogPlaces. No statement of the seat is proved here. -/
import Derived.Test.YtncjfljmnkfghaaZ14
import Derived.Test.YtncjfljmnkfghaaZ02
namespace Go.Proofs.Ytncjfljmnkfghaa
open Go.RowKit

set_option maxHeartbeats 4000000 in
theorem law_PlogPlaces (n a s : Int) (hn0 : -9223372036854775808 ≤ n) (w : World) :
    Calls Try.prog 6 #[.int .i64 n, .int .i64 a, .int .i64 s] w fun e w' => e = .returned (.bool true) ∧ Below w.heap.size w w' := by
  by_cases h0 : 4096 < n
  · have z0 : decide (4096 < n) = true := decide_eq_true h0
    obtain ⟨M, hM⟩ : ∃ M, M = n % 4097 := ⟨_, rfl⟩
    have z1 : Int.tmod n 4097 = M := by rw [Int.tmod_eq_emod_of_nonneg (by omega)]; exact hM.symm
    have z2 : n % 4097 = M := hM.symm
    have b1 : 0 ≤ M := by omega
    have b2 : M ≤ 4096 := by omega
    clear hM h0
    go_enter Try.func6, Try.ntmps6
    cases hz : sizeB M with
    | false =>
      have HZ := Lib.hid hz
      clear hz
      go_wp2_with fail
      refine (pm_new_no M HZ.out _).mono ?_
      rintro e w1 ⟨rfl, rfl⟩
      go_wp2_with fail
      refine (pl_new_nil a s _).mono ?_
      rintro e w2 ⟨rfl, rfl⟩
      go_wp2_with fail
      refine (pl_new_nil 0 128 _).mono ?_
      rintro e w3 ⟨rfl, rfl⟩
      go_wp2_with fail
      refine (lives8 _).mono ?_
      rintro e w4 ⟨rfl, g4⟩
      have G := Lib.hid g4
      clear g4
      go_wp2_with fail
      go_ret
      exact ⟨rfl, G.out⟩
    | true =>
      obtain ⟨q1, q2, q3⟩ := sizeB_iff.1 hz
      obtain ⟨N, hN⟩ : ∃ N : Nat, M = ((8 * N : Nat) : Int) := ⟨(M / 8).toNat, by omega⟩
      have hNb : N % 8 = 0 ∧ 8 ≤ N ∧ N ≤ 131072 := by omega
      have HNE := Lib.hid (show (N : Int) * 8 = M by omega)
      have HPN := Lib.hid (show Calls Try.prog 20 #[.int .i64 M] w fun e w' => ∃ x : MB, e = .returned (.pointer (some ⟨x.p, 0, none⟩)) ∧ PM w' x N (List.replicate (8 * N) 0) (List.replicate (8 * N) 0) (List.replicate N false) ∧ (∀ k, x.F k → w.heap.size ≤ k) ∧ Grow w w' by rw [hN]; exact pm_new_yes N hNb w)
      have hM1 : M ≤ 10000000 := by omega
      have hM2 : -9223372036854775808 ≤ M := by omega
      clear hz q1 q2 q3 hN hNb
      go_wp2_with fail
      refine HPN.out.mono ?_
      rintro e w1 ⟨x, rfl, hP, hx, g1⟩
      have HP := Lib.hid hP
      have G1 := Lib.hid g1
      clear hP hx g1 HPN
      go_wp2_with fail
      refine (pl_new HP.out a s).mono ?_
      rw [HNE.out]
      rintro e w2 (⟨hm, rfl, rfl⟩ | ⟨hm, l, rfl, -, -, g2⟩)
      · have HM := Lib.hid hm
        clear hm
        go_wp2_with fail
        refine (rl_may M a s hM1 hM2 _).mono ?_
        rintro e w3 ⟨rfl, rfl⟩
        rw [HM.out]
        go_wp2_with fail
        refine (pl_new_nil 0 128 _).mono ?_
        rintro e w3 ⟨rfl, rfl⟩
        go_wp2_with fail
        refine (lives8 _).mono ?_
        rintro e w4 ⟨rfl, g4⟩
        have G := Lib.hid (G1.out.trans g4)
        clear g4
        go_wp2_with fail
        go_ret
        exact ⟨rfl, G.out⟩
      · have HM := Lib.hid hm
        have G2 := Lib.hid (G1.out.trans g2)
        clear hm g2
        go_wp2_with fail
        refine (rl_may M a s hM1 hM2 _).mono ?_
        rintro e w3 ⟨rfl, rfl⟩
        rw [HM.out]
        go_wp2_with fail
        refine (pl_new_nil 0 128 _).mono ?_
        rintro e w3 ⟨rfl, rfl⟩
        go_wp2_with fail
        refine (lives8 _).mono ?_
        rintro e w4 ⟨rfl, g4⟩
        have G := Lib.hid (G2.out.trans g4)
        clear g4
        go_wp2_with fail
        go_ret
        exact ⟨rfl, G.out⟩
  · have z0 : decide (4096 < n) = false := decide_eq_false h0
    go_enter Try.func6, Try.ntmps6
    cases hz : sizeB n with
    | false =>
      have HZ := Lib.hid hz
      clear hz
      go_wp2_with fail
      refine (pm_new_no n HZ.out _).mono ?_
      rintro e w1 ⟨rfl, rfl⟩
      go_wp2_with fail
      refine (pl_new_nil a s _).mono ?_
      rintro e w2 ⟨rfl, rfl⟩
      go_wp2_with fail
      refine (pl_new_nil 0 128 _).mono ?_
      rintro e w3 ⟨rfl, rfl⟩
      go_wp2_with fail
      refine (lives8 _).mono ?_
      rintro e w4 ⟨rfl, g4⟩
      have G := Lib.hid g4
      clear g4
      go_wp2_with fail
      go_ret
      exact ⟨rfl, G.out⟩
    | true =>
      obtain ⟨q1, q2, q3⟩ := sizeB_iff.1 hz
      obtain ⟨N, hN⟩ : ∃ N : Nat, n = ((8 * N : Nat) : Int) := ⟨(n / 8).toNat, by omega⟩
      have hNb : N % 8 = 0 ∧ 8 ≤ N ∧ N ≤ 131072 := by omega
      have HNE := Lib.hid (show (N : Int) * 8 = n by omega)
      have HPN := Lib.hid (show Calls Try.prog 20 #[.int .i64 n] w fun e w' => ∃ x : MB, e = .returned (.pointer (some ⟨x.p, 0, none⟩)) ∧ PM w' x N (List.replicate (8 * N) 0) (List.replicate (8 * N) 0) (List.replicate N false) ∧ (∀ k, x.F k → w.heap.size ≤ k) ∧ Grow w w' by rw [hN]; exact pm_new_yes N hNb w)
      have hM1 : n ≤ 10000000 := by omega
      have hM2 : -9223372036854775808 ≤ n := by omega
      clear hz q1 q2 q3 hN hNb
      go_wp2_with fail
      refine HPN.out.mono ?_
      rintro e w1 ⟨x, rfl, hP, hx, g1⟩
      have HP := Lib.hid hP
      have G1 := Lib.hid g1
      clear hP hx g1 HPN
      go_wp2_with fail
      refine (pl_new HP.out a s).mono ?_
      rw [HNE.out]
      rintro e w2 (⟨hm, rfl, rfl⟩ | ⟨hm, l, rfl, -, -, g2⟩)
      · have HM := Lib.hid hm
        clear hm
        go_wp2_with fail
        refine (rl_may n a s hM1 hM2 _).mono ?_
        rintro e w3 ⟨rfl, rfl⟩
        rw [HM.out]
        go_wp2_with fail
        refine (pl_new_nil 0 128 _).mono ?_
        rintro e w3 ⟨rfl, rfl⟩
        go_wp2_with fail
        refine (lives8 _).mono ?_
        rintro e w4 ⟨rfl, g4⟩
        have G := Lib.hid (G1.out.trans g4)
        clear g4
        go_wp2_with fail
        go_ret
        exact ⟨rfl, G.out⟩
      · have HM := Lib.hid hm
        have G2 := Lib.hid (G1.out.trans g2)
        clear hm g2
        go_wp2_with fail
        refine (rl_may n a s hM1 hM2 _).mono ?_
        rintro e w3 ⟨rfl, rfl⟩
        rw [HM.out]
        go_wp2_with fail
        refine (pl_new_nil 0 128 _).mono ?_
        rintro e w3 ⟨rfl, rfl⟩
        go_wp2_with fail
        refine (lives8 _).mono ?_
        rintro e w4 ⟨rfl, g4⟩
        have G := Lib.hid (G2.out.trans g4)
        clear g4
        go_wp2_with fail
        go_ret
        exact ⟨rfl, G.out⟩
end Go.Proofs.Ytncjfljmnkfghaa
