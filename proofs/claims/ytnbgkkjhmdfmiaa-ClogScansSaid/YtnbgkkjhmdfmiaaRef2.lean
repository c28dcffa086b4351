/- The walks of the reference of layer 2. -/
import Derived.Test.YtnbgkkjhmdfmiaaOne
import Derived.Test.YtnbgkkjhmdfmiaaCrcPure
namespace Go.Proofs.Ytnbgkkjhmdfmiaa
open Go.RowKit

theorem plus_step (x a b k : Nat) (hx : x = a ^^^ b) : x % 2 ^ (k + 1) = x % 2 ^ k + 2 ^ k * ((a / 2 ^ k % 2 + b / 2 ^ k % 2) % 2) := by
  subst hx
  rw [Nat.mod_pow_succ, Nat.xor_div_two_pow, xor_mod2]

theorem ref2_plus (a b : Nat) (ha : a < 2 ^ 32) (hb : b < 2 ^ 32) (w : World) :
    Calls Try.prog 51 #[.int .i64 (a : Int), .int .i64 (b : Int)] w fun e w' => e = .returned (.int .i64 ((a ^^^ b : Nat) : Int)) ∧ w = w' := by
  have hlt := Nat.xor_lt_two_pow ha hb
  obtain ⟨x, hx⟩ : ∃ x, x = a ^^^ b := ⟨_, rfl⟩
  rw [← hx] at hlt ⊢
  have HX := Lib.hid hx
  clear hx
  go_enter Try.func51, Try.ntmps51
  go_wp2
  go_loop [0, 1, 5, 6, 7] (fun p q n r i => ∃ k : Nat, k ≤ 32 ∧ i = .int .i64 k ∧ p = .int .i64 ((a / 2 ^ k : Nat) : Int) ∧ q = .int .i64 ((b / 2 ^ k : Nat) : Int) ∧ n = .int .i64 ((x % 2 ^ k : Nat) : Int) ∧ r = .int .i64 ((2 ^ k : Nat) : Int)) (fun _ _ _ _ i => 32 - (intOf i).toNat)
  case atStart => exact ⟨0, by omega, rfl, by simp, by simp, by simp [Nat.mod_one], rfl⟩
  case round =>
    obtain ⟨k, hk, rfl, rfl, rfl, rfl, rfl⟩ := hrel
    by_cases hlt32 : k < 32
    · have hst := plus_step x a b k HX.out
      have ha1 : a / 2 ^ (k + 1) = a / 2 ^ k / 2 := by rw [Nat.pow_succ, Nat.div_div_eq_div_mul]
      have hb1 : b / 2 ^ (k + 1) = b / 2 ^ k / 2 := by rw [Nat.pow_succ, Nat.div_div_eq_div_mul]
      have hp1 : 2 ^ (k + 1) = 2 ^ k * 2 := Nat.pow_succ ..
      have hp : 2 ^ k ≤ 2 ^ 31 := Nat.pow_le_pow_right (by omega) (by omega)
      have hpa : a / 2 ^ k ≤ a := Nat.div_le_self _ _
      have hpb : b / 2 ^ k ≤ b := Nat.div_le_self _ _
      have hn : x % 2 ^ k < 2 ^ k := Nat.mod_lt _ (Nat.pow_pos (by omega))
      obtain ⟨p, hpe⟩ : ∃ p, p = a / 2 ^ k := ⟨_, rfl⟩
      obtain ⟨q, hqe⟩ : ∃ q, q = b / 2 ^ k := ⟨_, rfl⟩
      obtain ⟨n, hne⟩ : ∃ n, n = x % 2 ^ k := ⟨_, rfl⟩
      obtain ⟨r, hre⟩ : ∃ r, r = 2 ^ k := ⟨_, rfl⟩
      rw [← hpe] at hst ha1 hpa
      rw [← hqe] at hst hb1 hpb
      rw [← hne] at hst hn
      rw [← hre] at hst hp1 hp hn
      rw [← hpe, ← hqe, ← hne, ← hre]
      have HA := Lib.hid ha1
      have HB := Lib.hid hb1
      have HP := Lib.hid hp1
      clear hpe hqe hne hre ha1 hb1 hp1
      by_cases he : p % 2 = q % 2
      · have heq : ((p : Int) % 2 != (q : Int) % 2) = false := by simp; omega
        have hst2 : x % 2 ^ (k + 1) = n := by have h2 : (p % 2 + q % 2) % 2 = 0 := by { omega }; rw [hst, h2]; simp
        have HS := Lib.hid hst2
        clear hst hst2 he
        go_wp2
        go_round
        case rel => exact ⟨k + 1, by omega, by go_num, by rw [HA.out]; go_num, by rw [HB.out]; go_num, by rw [HS.out], by rw [HP.out]; go_num⟩
        case measure => simp [intOf]; omega
      · have heq : ((p : Int) % 2 != (q : Int) % 2) = true := by simp; omega
        have hst2 : x % 2 ^ (k + 1) = n + r := by have h2 : (p % 2 + q % 2) % 2 = 1 := by { omega }; rw [hst, h2]; simp
        have HS := Lib.hid hst2
        clear hst hst2 he
        go_wp2
        go_round
        case rel => exact ⟨k + 1, by omega, by go_num, by rw [HA.out]; go_num, by rw [HB.out]; go_num, by rw [HS.out]; go_num, by rw [HP.out]; go_num⟩
        case measure => simp [intOf]; omega
    · obtain rfl : k = 32 := by omega
      have hm : x % 2 ^ 32 = x := Nat.mod_eq_of_lt hlt
      rw [hm]
      clear hm
      go_wp2
      go_ret
      exact ⟨rfl, rfl⟩

theorem ref2_more (r : Nat) (hr : r < 2 ^ 32) (A : Option Addr) (bs : List UInt8) (n c : Nat) (hn : n = bs.length) (B : Nat) (w : World) (hb : RB w B A bs) (hl : bs.length ≤ 1073741824) :
    Calls Try.prog 45 #[.int .i64 (r : Int), .slice A n c] w fun e w' => e = .returned (.int .i64 (crcMore r bs : Nat)) ∧ w = w' := by
  subst hn
  go_enter Try.func45, Try.ntmps45
  go_wp2_with fail
  go_loop [0, 5] (fun q i => ∃ k : Nat, k ≤ bs.length ∧ i = .int .i64 k ∧ q = .int .i64 ((crcMore r (bs.take k) : Nat) : Int)) (fun _ i => bs.length - (intOf i).toNat)
  case atStart => exact ⟨0, Nat.zero_le _, rfl, by rw [List.take_zero]; rfl⟩
  case round =>
    obtain ⟨k, hk, rfl, rfl⟩ := hrel
    have hq := crcMore_lt hr (bs.take k)
    by_cases hlt : k < bs.length
    · obtain ⟨b, o, rfl, -, hc⟩ := hb.at_ hlt
      have hsn : crcMore r (bs.take (k + 1)) = crcBits (crcMore r (bs.take k)) (bs[k]'hlt).toNat 8 := by
        rw [List.take_succ_eq_append_getElem hlt, crcMore_snoc, crcByte_bits]
      obtain ⟨u, hu⟩ : ∃ u, u = (bs[k]'hlt).toNat := ⟨_, rfl⟩
      have hul : u < 256 := by rw [hu]; exact (bs[k]'hlt).toNat_lt
      obtain ⟨q, hqe⟩ : ∃ q, q = crcMore r (bs.take k) := ⟨_, rfl⟩
      rw [← hu] at hc hsn
      rw [← hqe] at hsn hq
      rw [← hqe]
      have HS := Lib.hid hsn
      clear hsn hu hqe
      go_wp2_with fail
      go_loop [0, 6, 7] (fun q' c' j => ∃ t : Nat, t ≤ 8 ∧ j = .int .i64 t ∧ q' = .int .i64 ((crcBits q u t : Nat) : Int) ∧ c' = .int .i64 ((u / 2 ^ t : Nat) : Int)) (fun _ _ j => 8 - (intOf j).toNat)
      case atStart => exact ⟨0, by omega, rfl, rfl, by simp⟩
      case round =>
        obtain ⟨t, ht, rfl, rfl, rfl⟩ := hrel
        have hql := crcBits_lt hq u t
        by_cases h8 : t < 8
        · have hst : crcBits q u (t + 1) = crcBit (crcBits q u t) (u / 2 ^ t % 2) := rfl
          have hu1 : u / 2 ^ (t + 1) = u / 2 ^ t / 2 := by rw [Nat.pow_succ, Nat.div_div_eq_div_mul]
          have hu2 : u / 2 ^ t ≤ u := Nat.div_le_self _ _
          obtain ⟨y, hy⟩ : ∃ y, y = crcBits q u t := ⟨_, rfl⟩
          obtain ⟨v, hv⟩ : ∃ v, v = u / 2 ^ t := ⟨_, rfl⟩
          rw [← hy, ← hv] at hst
          rw [← hy] at hql
          rw [← hv] at hu1 hu2
          rw [← hy, ← hv]
          have HU := Lib.hid hu1
          clear hy hv hu1
          by_cases he : y % 2 = v % 2
          · have heq : ((y : Int) % 2 != (v : Int) % 2) = false := by simp; omega
            have hst2 : crcBits q u (t + 1) = y / 2 := by rw [hst]; unfold crcBit; rw [if_neg (by omega)]
            have HT := Lib.hid hst2
            clear hst hst2 he
            go_wp2_with fail
            go_round
            case rel => exact ⟨t + 1, by omega, by go_num, by rw [HT.out]; go_num, by rw [HU.out]; go_num⟩
            case measure => simp [intOf]; omega
          · have heq : ((y : Int) % 2 != (v : Int) % 2) = true := by simp; omega
            have hst2 : crcBits q u (t + 1) = (y / 2) ^^^ 3988292384 := by rw [hst]; unfold crcBit; rw [if_pos he]; rfl
            have HT := Lib.hid hst2
            clear hst hst2 he
            go_wp2_with fail
            refine (ref2_plus (y / 2) 3988292384 (by omega) (by omega) _).mono ?_
            rintro e w2 ⟨rfl, rfl⟩
            go_wp2_with fail
            go_round
            case rel => exact ⟨t + 1, by omega, by go_num, by rw [HT.out], by rw [HU.out]; go_num⟩
            case measure => simp [intOf]; omega
        · obtain rfl : t = 8 := by omega
          go_wp2_with fail
          go_round
          case rel => exact ⟨k + 1, by omega, by go_num, by rw [HS.out]⟩
          case measure => simp [intOf]; omega
    · obtain rfl : k = bs.length := by omega
      rw [List.take_of_length_le (Nat.le_refl _)]
      go_wp2
      go_ret
      exact ⟨rfl, rfl⟩
end Go.Proofs.Ytnbgkkjhmdfmiaa
