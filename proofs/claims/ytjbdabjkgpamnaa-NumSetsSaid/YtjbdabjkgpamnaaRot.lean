/- The walks of Rotate, the program's and the reference's; and the reference's rounding. -/
import Derived.Test.YtjbdabjkgpamnaaBits
import Derived.Test.YtjbdabjkgpamnaaRotPure
namespace Go.Proofs.Ytjbdabjkgpamnaa
open Go.RowKit

theorem rot_or (X k : Nat) (hX : X < 4294967296) (hk : k < 32) : bits .or .u32 ((X : Int) * 2 ^ k % 4294967296) ((X : Int) / 2 ^ (32 - k)) = ((rotI X k : Nat) : Int) := by
  have e1 : ((X : Int) * 2 ^ k % 4294967296) = ((X * 2 ^ k % 4294967296 : Nat) : Int) := by simp
  have e2 : ((X : Int) / 2 ^ (32 - k)) = ((X / 2 ^ (32 - k) : Nat) : Int) := by simp
  have hpq : 2 ^ (32 - k) * 2 ^ k = 4294967296 := by
    rw [← Nat.pow_add, show 32 - k + k = 32 by omega]
  have hlt : X / 2 ^ (32 - k) < 2 ^ k := by
    rw [Nat.div_lt_iff_lt_mul (Nat.pow_pos (by omega)), Nat.mul_comm, hpq]; exact hX
  have hdv : X * 2 ^ k % 4294967296 % 2 ^ k = 0 := by
    rw [← hpq, Nat.mul_comm (2 ^ (32 - k)), Nat.mod_mul_right_mod]; simp
  have hb : X / 2 ^ (32 - k) ≤ X := Nat.div_le_self _ _
  rw [e1, e2, u32_or_nat _ _ (Nat.mod_lt _ (by omega)) (by omega), nat_join k _ _ hdv hlt, rotI_closed X k hX (by omega)]

theorem num_rot_nat (X : Nat) (hX : X < 4294967296) (n : Nat) (hn : n ≤ 9223372036854775807) (w : World) :
    Calls Try.prog 25 #[.int .u32 X, .int .i64 n] w fun e w' => e = .returned (.int .u32 ((rotI X n : Nat) : Int)) ∧ w = w' := by
  have hand : bits .and .u64 (n : Int) 31 = ((n % 32 : Nat) : Int) := by
    have := u64_and_nat n 31 (by omega) (by omega)
    rw [show ((31 : Nat) : Int) = 31 from rfl, nat_mask5] at this
    exact this
  obtain ⟨k, hk⟩ : ∃ k, k = n % 32 := ⟨_, rfl⟩
  have hk32 : k < 32 := by omega
  have hor := rot_or X k hX hk32
  have hfin : rotI X k = rotI X n := by rw [hk, rotI_mod X n hX]
  rw [hfin] at hor
  rw [← hk] at hand
  have HK := Lib.hid hor
  clear hk hfin hor
  go_enter Try.func25, Try.ntmps25
  go_wp2
  go_ret
  exact ⟨ret_int HK.out, rfl⟩

theorem num_rot_neg (X : Nat) (hX : X < 4294967296) (n : Nat) (hn : n ≤ 9223372036854775807) (w : World) :
    Calls Try.prog 25 #[.int .u32 X, .int .i64 (-(n : Int) - 1)] w fun e w' => e = .returned (.int .u32 ((rotI X n : Nat) : Int)) ∧ w = w' := by
  have hand : bits .and .u64 (n : Int) 31 = ((n % 32 : Nat) : Int) := by
    have := u64_and_nat n 31 (by omega) (by omega)
    rw [show ((31 : Nat) : Int) = 31 from rfl, nat_mask5] at this
    exact this
  obtain ⟨k, hk⟩ : ∃ k, k = n % 32 := ⟨_, rfl⟩
  have hk32 : k < 32 := by omega
  have hor := rot_or X k hX hk32
  have hfin : rotI X k = rotI X n := by rw [hk, rotI_mod X n hX]
  rw [hfin] at hor
  rw [← hk] at hand
  have HK := Lib.hid hor
  clear hk hfin hor
  have hneg : -(-(n : Int) - 1 + 1) = n := by omega
  go_enter Try.func25, Try.ntmps25
  go_wp2
  go_ret
  exact ⟨ret_int HK.out, rfl⟩

/-- num.Rotate. -/
theorem num_rot (X : Nat) (hX : X < 4294967296) (n : Int) (h0 : -9223372036854775808 ≤ n) (h1 : n ≤ 9223372036854775807) (w : World) :
    Calls Try.prog 25 #[.int .u32 X, .int .i64 n] w fun e w' => e = .returned (.int .u32 ((rotI X (rcount n) : Nat) : Int)) ∧ w = w' := by
  by_cases hn : n < 0
  · obtain ⟨m, hm⟩ := Int.eq_ofNat_of_zero_le (show 0 ≤ -(n + 1) by omega)
    have e : n = -(m : Int) - 1 := by omega
    have e2 : rcount n = m := by unfold rcount; rw [if_pos hn, hm]; simp
    rw [e2, e]
    exact num_rot_neg X hX m (by omega) w
  · obtain ⟨m, rfl⟩ := Int.eq_ofNat_of_zero_le (show 0 ≤ n by omega)
    have e2 : rcount (m : Int) = m := by unfold rcount; rw [if_neg hn]; simp
    rw [e2]
    exact num_rot_nat X hX m (by omega) w

theorem ref1_rot_nat (X : Nat) (hX : X < 4294967296) (n : Nat) (hn : n ≤ 9223372036854775807) (w : World) :
    Calls Try.prog 26 #[.int .u32 X, .int .i64 n] w fun e w' => e = .returned (.int .u32 ((rotI X n : Nat) : Int)) ∧ w = w' := by
  have hfin : rotI X (n % 32) = rotI X n := rotI_mod X n hX
  have HF := Lib.hid hfin
  clear hfin
  go_enter Try.func26, Try.ntmps26
  go_wp2
  go_loop [0, 5] (fun y i => ∃ k : Nat, k ≤ n % 32 ∧ i = .int .i64 k ∧ y = .int .u32 (rotI X k : Nat)) (fun _ i => n % 32 - (intOf i).toNat)
  case atStart => exact ⟨0, Nat.zero_le _, rfl, rfl⟩
  case round =>
    obtain ⟨k, hk, rfl, rfl⟩ := hrel
    have hy := rotI_lt hX k
    by_cases hlt : k < n % 32
    · have hsucc : rotI X (k + 1) = rotI X k * 2 % 4294967296 + rotI X k / 2147483648 := rfl
      obtain ⟨y, hy2⟩ : ∃ y, y = rotI X k := ⟨_, rfl⟩
      rw [← hy2] at hy hsucc ⊢
      have HS := Lib.hid hsucc
      clear hy2 hsucc
      go_wp2
      go_round
      case rel => exact ⟨k + 1, by omega, by go_num, by rw [HS.out]; go_num⟩
      case measure => simp [intOf]; omega
    · obtain rfl : k = n % 32 := by omega
      go_wp2
      go_ret
      exact ⟨ret_int (by rw [HF.out]), rfl⟩
theorem ref1_rot_neg (X : Nat) (hX : X < 4294967296) (n : Nat) (hn : n ≤ 9223372036854775807) (w : World) :
    Calls Try.prog 26 #[.int .u32 X, .int .i64 (-(n : Int) - 1)] w fun e w' => e = .returned (.int .u32 ((rotI X n : Nat) : Int)) ∧ w = w' := by
  have hfin : rotI X (n % 32) = rotI X n := rotI_mod X n hX
  have HF := Lib.hid hfin
  clear hfin
  have hneg : -(-(n : Int) - 1 + 1) = n := by omega
  go_enter Try.func26, Try.ntmps26
  go_wp2
  go_loop [0, 5] (fun y i => ∃ k : Nat, k ≤ n % 32 ∧ i = .int .i64 k ∧ y = .int .u32 (rotI X k : Nat)) (fun _ i => n % 32 - (intOf i).toNat)
  case atStart => exact ⟨0, Nat.zero_le _, rfl, rfl⟩
  case round =>
    obtain ⟨k, hk, rfl, rfl⟩ := hrel
    have hy := rotI_lt hX k
    by_cases hlt : k < n % 32
    · have hsucc : rotI X (k + 1) = rotI X k * 2 % 4294967296 + rotI X k / 2147483648 := rfl
      obtain ⟨y, hy2⟩ : ∃ y, y = rotI X k := ⟨_, rfl⟩
      rw [← hy2] at hy hsucc ⊢
      have HS := Lib.hid hsucc
      clear hy2 hsucc
      go_wp2
      go_round
      case rel => exact ⟨k + 1, by omega, by go_num, by rw [HS.out]; go_num⟩
      case measure => simp [intOf]; omega
    · obtain rfl : k = n % 32 := by omega
      go_wp2
      go_ret
      exact ⟨ret_int (by rw [HF.out]), rfl⟩

theorem ref1_rot (X : Nat) (hX : X < 4294967296) (n : Int) (h0 : -9223372036854775808 ≤ n) (h1 : n ≤ 9223372036854775807) (w : World) :
    Calls Try.prog 26 #[.int .u32 X, .int .i64 n] w fun e w' => e = .returned (.int .u32 ((rotI X (rcount n) : Nat) : Int)) ∧ w = w' := by
  by_cases hn : n < 0
  · obtain ⟨m, hm⟩ := Int.eq_ofNat_of_zero_le (show 0 ≤ -(n + 1) by omega)
    have e : n = -(m : Int) - 1 := by omega
    have e2 : rcount n = m := by unfold rcount; rw [if_pos hn, hm]; simp
    rw [e2, e]
    exact ref1_rot_neg X hX m (by omega) w
  · obtain ⟨m, rfl⟩ := Int.eq_ofNat_of_zero_le (show 0 ≤ n by omega)
    have e2 : rcount (m : Int) = m := by unfold rcount; rw [if_neg hn]; simp
    rw [e2]
    exact ref1_rot_nat X hX m (by omega) w

theorem ref1_up_no (n to : Int) (hm : mayB n to = false) (w : World) : Calls Try.prog 22 #[.int .i64 n, .int .i64 to] w fun e w' => e = .returned (.int .i64 n) ∧ w = w' := by
  simp only [mayB, decide_eq_false_iff_not] at hm
  have HM := Lib.hid hm
  clear hm
  by_cases h1 : to < 1
  · go_enter Try.func22, Try.ntmps22
    go_wp2; go_ret; exact ⟨rfl, rfl⟩
  by_cases h2 : 1073741824 < to
  · go_enter Try.func22, Try.ntmps22
    go_wp2; go_ret; exact ⟨rfl, rfl⟩
  by_cases h3 : n < 0
  · go_enter Try.func22, Try.ntmps22
    go_wp2; go_ret; exact ⟨rfl, rfl⟩
  have h4 : 1152921504606846976 < n := by
    by_cases h : 1152921504606846976 < n
    · exact h
    · exact absurd ⟨by omega, by omega, by omega, by omega⟩ HM.out
  go_enter Try.func22, Try.ntmps22
  go_wp2; go_ret; exact ⟨rfl, rfl⟩

theorem ref1_up (n to : Int) (w : World) : Calls Try.prog 22 #[.int .i64 n, .int .i64 to] w fun e w' => e = .returned (.int .i64 (upN n to)) ∧ w = w' := by
  by_cases hm : mayB n to = true
  · obtain ⟨h1, h2, h3, h4⟩ := may_iff.1 hm
    have hu := up_bounds (n := n) h1
    have e : upN n to = if n % to = 0 then n else n - n % to + to := by
      unfold upN; rw [if_pos hm, up_ref h1]
    have hr0 := Int.emod_nonneg n (show to ≠ 0 by omega)
    have hr1 := Int.emod_lt_of_pos n (show 0 < to by omega)
    by_cases hz : n % to = 0
    · rw [if_pos hz] at e
      have hz' : (n % to == 0) = true := by simp [hz]
      rw [e]
      clear e hz hu hm
      go_enter Try.func22, Try.ntmps22
      go_wp2
      go_ret
      exact ⟨rfl, rfl⟩
    · rw [if_neg hz] at e
      have hz' : (n % to == 0) = false := by simp [hz]
      rw [e]
      clear e hu hm
      go_enter Try.func22, Try.ntmps22
      go_wp2
      go_ret
      exact ⟨rfl, rfl⟩
  · have hm : mayB n to = false := by simpa using hm
    refine (ref1_up_no n to hm w).mono ?_
    rintro e w' ⟨rfl, rfl⟩
    exact ⟨ret_int (by simp [upN, hm]), rfl⟩

theorem ref1_down_no (n to : Int) (hm : mayB n to = false) (w : World) : Calls Try.prog 24 #[.int .i64 n, .int .i64 to] w fun e w' => e = .returned (.int .i64 n) ∧ w = w' := by
  simp only [mayB, decide_eq_false_iff_not] at hm
  have HM := Lib.hid hm
  clear hm
  by_cases h1 : to < 1
  · go_enter Try.func24, Try.ntmps24
    go_wp2; go_ret; exact ⟨rfl, rfl⟩
  by_cases h2 : 1073741824 < to
  · go_enter Try.func24, Try.ntmps24
    go_wp2; go_ret; exact ⟨rfl, rfl⟩
  by_cases h3 : n < 0
  · go_enter Try.func24, Try.ntmps24
    go_wp2; go_ret; exact ⟨rfl, rfl⟩
  have h4 : 1152921504606846976 < n := by
    by_cases h : 1152921504606846976 < n
    · exact h
    · exact absurd ⟨by omega, by omega, by omega, by omega⟩ HM.out
  go_enter Try.func24, Try.ntmps24
  go_wp2; go_ret; exact ⟨rfl, rfl⟩

theorem ref1_down (n to : Int) (w : World) : Calls Try.prog 24 #[.int .i64 n, .int .i64 to] w fun e w' => e = .returned (.int .i64 (downN n to)) ∧ w = w' := by
  by_cases hm : mayB n to = true
  · obtain ⟨h1, h2, h3, h4⟩ := may_iff.1 hm
    have e : downN n to = n - n % to := by
      unfold downN; rw [if_pos hm, down_ref]
    have hr0 := Int.emod_nonneg n (show to ≠ 0 by omega)
    have hr1 := Int.emod_lt_of_pos n (show 0 < to by omega)
    rw [e]
    clear e hm
    go_enter Try.func24, Try.ntmps24
    go_wp2
    go_ret
    exact ⟨rfl, rfl⟩
  · have hm : mayB n to = false := by simpa using hm
    refine (ref1_down_no n to hm w).mono ?_
    rintro e w' ⟨rfl, rfl⟩
    exact ⟨ret_int (by simp [downN, hm]), rfl⟩
end Go.Proofs.Ytjbdabjkgpamnaa
