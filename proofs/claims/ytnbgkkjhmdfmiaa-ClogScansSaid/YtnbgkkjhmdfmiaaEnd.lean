/- The walks of clog.End and clog.Split, and of the reference's End. -/
import Derived.Test.YtnbgkkjhmdfmiaaBase
namespace Go.Proofs.Ytnbgkkjhmdfmiaa
open Go.RowKit

theorem ofInt_toNat64 (x : Int) : (BitVec.ofInt 64 x).toNat = (x % 18446744073709551616).toNat := by
  rw [BitVec.toNat_ofInt]
  rfl
theorem i64_mask32 (x : Int) : bits .and .i64 x 4294967295 = x % 4294967296 := by
  show IntKind.i64.wrap ((BitVec.ofInt 64 x &&& BitVec.ofInt 64 4294967295).toNat : Int) = _
  have e : (BitVec.ofInt 64 4294967295).toNat = 2 ^ 32 - 1 := by decide
  rw [BitVec.toNat_and, e, Nat.and_two_pow_sub_one_eq_mod, ofInt_toNat64, IntKind.wrap_i64]
  omega
theorem i64_join32 (a b : Nat) (ha : a ≤ 1073741824) (hb : b < 4294967296) : bits .or .i64 ((a : Int) * 4294967296) (b : Int) = (a : Int) * 4294967296 + b := by
  show IntKind.i64.wrap ((BitVec.ofInt 64 ((a : Int) * 4294967296) ||| BitVec.ofInt 64 (b : Int)).toNat : Int) = _
  have e1 : (((a : Int) * 4294967296) % 18446744073709551616).toNat = a * 4294967296 := by omega
  have e2 : ((b : Int) % 18446744073709551616).toNat = b := by omega
  rw [BitVec.toNat_or, ofInt_toNat64, ofInt_toNat64, e1, e2, nat_join 32 _ _ (by omega) (by omega), IntKind.wrap_i64]
  omega

/-- An end that may be. -/
def endB (e n : Int) : Bool := decide (0 ≤ e ∧ e ≤ 1073741824 ∧ 0 ≤ n ∧ n ≤ 1016 ∧ n % 8 = 0)
theorem endB_iff {e n : Int} : endB e n = true ↔ 0 ≤ e ∧ e ≤ 1073741824 ∧ 0 ≤ n ∧ n ≤ 1016 ∧ n % 8 = 0 := by simp [endB]

theorem clog_end_yes (e n : Int) (h : endB e n = true) (w : World) :
    Calls Try.prog 9 #[.int .i64 e, .int .i64 n] w fun r w' => r = .returned (.tuple #[.int .i64 (e * 4294967296 + n), .int .i64 0]) ∧ w = w' := by
  obtain ⟨h1, h2, h3, h4, h5⟩ := endB_iff.1 h
  obtain ⟨a, rfl⟩ := Int.eq_ofNat_of_zero_le h1
  obtain ⟨b, rfl⟩ := Int.eq_ofNat_of_zero_le h3
  have hj := i64_join32 a b (by omega) (by omega)
  have h5' : ((b : Int) % 8 != 0) = false := by simp [h5]
  have HJ := Lib.hid hj
  clear hj h5 h
  go_enter Try.func9, Try.ntmps9
  go_wp2
  go_ret2
  exact ⟨by rw [← HJ.out]; rfl, rfl⟩

theorem clog_end_no (e n : Int) (h : endB e n = false) (w : World) :
    Calls Try.prog 9 #[.int .i64 e, .int .i64 n] w fun r w' => r = .returned (.tuple #[.int .i64 0, .int .i64 1]) ∧ w = w' := by
  simp only [endB, decide_eq_false_iff_not] at h
  have HH := Lib.hid h
  clear h
  by_cases h1 : e < 0
  · go_enter Try.func9, Try.ntmps9
    go_wp2; go_ret2; exact ⟨rfl, rfl⟩
  by_cases h2 : 1073741824 < e
  · go_enter Try.func9, Try.ntmps9
    go_wp2; go_ret2; exact ⟨rfl, rfl⟩
  by_cases h3 : n < 0
  · go_enter Try.func9, Try.ntmps9
    go_wp2; go_ret2; exact ⟨rfl, rfl⟩
  by_cases h4 : 1016 < n
  · go_enter Try.func9, Try.ntmps9
    go_wp2; go_ret2; exact ⟨rfl, rfl⟩
  have h5 : (n % 8 != 0) = true := by
    by_cases h : n % 8 = 0
    · exact absurd ⟨by omega, by omega, by omega, by omega, h⟩ HH.out
    · simp [h]
  go_enter Try.func9, Try.ntmps9
  go_wp2; go_ret2; exact ⟨rfl, rfl⟩

theorem ref16_end_yes (e n : Int) (h : endB e n = true) (w : World) :
    Calls Try.prog 10 #[.int .i64 e, .int .i64 n] w fun r w' => r = .returned (.int .i64 (e * 4294967296 + n)) ∧ w = w' := by
  obtain ⟨h1, h2, h3, h4, h5⟩ := endB_iff.1 h
  have h5' : (n % 8 != 0) = false := by simp [h5]
  clear h5 h
  go_enter Try.func10, Try.ntmps10
  go_wp2
  go_ret
  exact ⟨rfl, rfl⟩

theorem ref16_end_no (e n : Int) (h : endB e n = false) (w : World) :
    Calls Try.prog 10 #[.int .i64 e, .int .i64 n] w fun r w' => r = .returned (.int .i64 (-1)) ∧ w = w' := by
  simp only [endB, decide_eq_false_iff_not] at h
  have HH := Lib.hid h
  clear h
  by_cases h1 : e < 0
  · go_enter Try.func10, Try.ntmps10
    go_wp2; go_ret; exact ⟨rfl, rfl⟩
  by_cases h2 : 1073741824 < e
  · go_enter Try.func10, Try.ntmps10
    go_wp2; go_ret; exact ⟨rfl, rfl⟩
  by_cases h3 : n < 0
  · go_enter Try.func10, Try.ntmps10
    go_wp2; go_ret; exact ⟨rfl, rfl⟩
  by_cases h4 : 1016 < n
  · go_enter Try.func10, Try.ntmps10
    go_wp2; go_ret; exact ⟨rfl, rfl⟩
  have h5 : (n % 8 != 0) = true := by
    by_cases h : n % 8 = 0
    · exact absurd ⟨by omega, by omega, by omega, by omega, h⟩ HH.out
    · simp [h]
  go_enter Try.func10, Try.ntmps10
  go_wp2; go_ret; exact ⟨rfl, rfl⟩

theorem clog_split_yes (x : Int) (h : endB (x / 4294967296) (x % 4294967296) = true) (w : World) :
    Calls Try.prog 11 #[.int .i64 x] w fun r w' => r = .returned (.tuple #[.int .i64 (x / 4294967296), .int .i64 (x % 4294967296), .bool true]) ∧ w = w' := by
  have hm := i64_mask32 x
  obtain ⟨p, hp⟩ : ∃ p, p = x / 4294967296 := ⟨_, rfl⟩
  obtain ⟨n, hn⟩ : ∃ n, n = x % 4294967296 := ⟨_, rfl⟩
  rw [← hp, ← hn] at h ⊢
  rw [← hn] at hm
  have hp' : x / 4294967296 = p := hp.symm
  have HP := Lib.hid hp
  clear hp hn
  go_enter Try.func11, Try.ntmps11
  go_wp2_with fail
  refine (clog_end_yes p n h _).mono ?_
  rintro e w1 ⟨rfl, rfl⟩
  go_wp2_with fail
  go_ret3
  exact ⟨rfl, rfl⟩

theorem clog_split_no (x : Int) (h : endB (x / 4294967296) (x % 4294967296) = false) (w : World) :
    Calls Try.prog 11 #[.int .i64 x] w fun r w' => r = .returned (.tuple #[.int .i64 0, .int .i64 0, .bool false]) ∧ w = w' := by
  have hm := i64_mask32 x
  obtain ⟨p, hp⟩ : ∃ p, p = x / 4294967296 := ⟨_, rfl⟩
  obtain ⟨n, hn⟩ : ∃ n, n = x % 4294967296 := ⟨_, rfl⟩
  rw [← hp, ← hn] at h
  rw [← hn] at hm
  have hp' : x / 4294967296 = p := hp.symm
  have HP := Lib.hid hp
  clear hp hn
  go_enter Try.func11, Try.ntmps11
  go_wp2_with fail
  refine (clog_end_no p n h _).mono ?_
  rintro e w1 ⟨rfl, rfl⟩
  go_wp2_with fail
  go_ret3
  exact ⟨rfl, rfl⟩
end Go.Proofs.Ytnbgkkjhmdfmiaa
