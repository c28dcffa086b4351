/- The walk of crc.Sum. The walks of the reference of layer 2. commonsref02.Sum, and a constant text's block. Steps over slices of bytes: what is handed out and what is read, in words that last from call to call. No statement of the seat is proved here. -/
import Derived.Test.YtncjfljmnkfghaaZ09
import Derived.Test.YtncjfljmnkfghaaZ01
import Derived.Test.YtncjfljmnkfghaaZ02
import Derived.Test.YtncjfljmnkfghaaZ08
import Derived.Deep.Onto
namespace Go.Proofs.Ytncjfljmnkfghaa
open Go.RowKit

/-- crc.Sum. -/
theorem crc_sum (A : Option Addr) (bs : List UInt8) (n c : Nat) (hn : n = bs.length) (w : World) (hb : RB w w.heap.size A bs) (hl : bs.length ≤ 1073741824) :
    Calls Try.prog 42 #[.slice A n c] w fun e w' => e = .returned (.int .u32 (crcN bs : Nat)) ∧ Below w.heap.size w w' := by
  subst hn
  have hne : ∀ a, A = some a → 0 < bs.length → a.block ≠ w.heap.size := by
    intro a ha h0
    obtain ⟨b, o, e, hlt, -⟩ := hb.all h0
    rw [ha] at e
    injection e with e
    subst e
    show b ≠ _
    omega
  have HNE := Lib.hid hne
  clear hne
  go_enter Try.func42, Try.ntmps42
  go_wp2_with fail
  refine (crc_new w).mono ?_
  rintro e w1 ⟨rfl, hone, hb1, -⟩
  have hz := hb1.size
  have hrd : RB w1 w.heap.size A bs := hb.below hb1
  obtain ⟨r0, hr0⟩ : ∃ r0 : Nat, r0 = 4294967295 := ⟨_, rfl⟩
  have hr0l : r0 < 2 ^ 32 := by omega
  have hone0 : One w1 w.heap.size 114 (.int .u32 (r0 : Int)) := by
    have e : (r0 : Int) = 4294967295 := by omega
    rw [e]; exact hone
  have hfin : 4294967295 - crcMore r0 bs = crcN bs := by rw [hr0, crcN]
  have hmr := crcMore_lt hr0l bs
  have HF := Lib.hid hfin
  clear hfin hr0 hone
  go_wp2_with fail
  refine (crc_add' w.heap.size r0 A bs bs.length c rfl w.heap.size w1 hone0 hr0l hrd hz HNE.out hl).mono ?_
  rintro e w2 ⟨rfl, hone2, hg2⟩
  clear hone0
  go_wp2_with fail
  refine (crc_hsum w.heap.size _ w2 hone2 hmr).mono ?_
  rintro e w3 ⟨rfl, rfl⟩
  rw [HF.out]
  clear hone2 hmr
  go_wp2_with fail
  go_ret
  exact ⟨rfl, hb1.grown hg2 hz (fun k hk => by injection hk with hk; omega)⟩
end Go.Proofs.Ytncjfljmnkfghaa

namespace Go.Proofs.Ytncjfljmnkfghaa
open Go.RowKit

theorem plus_step (x a b k : Nat) (hx : x = a ^^^ b) : x % 2 ^ (k + 1) = x % 2 ^ k + 2 ^ k * ((a / 2 ^ k % 2 + b / 2 ^ k % 2) % 2) := by
  subst hx
  rw [Nat.mod_pow_succ, Nat.xor_div_two_pow, xor_mod2]

theorem ref2_plus (a b : Nat) (ha : a < 2 ^ 32) (hb : b < 2 ^ 32) (w : World) :
    Calls Try.prog 87 #[.int .i64 (a : Int), .int .i64 (b : Int)] w fun e w' => e = .returned (.int .i64 ((a ^^^ b : Nat) : Int)) ∧ w = w' := by
  have hlt := Nat.xor_lt_two_pow ha hb
  obtain ⟨x, hx⟩ : ∃ x, x = a ^^^ b := ⟨_, rfl⟩
  rw [← hx] at hlt ⊢
  have HX := Lib.hid hx
  clear hx
  go_enter Try.func87, Try.ntmps87
  go_wp2
  go_loop [0, 1, 5, 6, 7] (fun p q n r i => ∃ k : Nat, k ≤ 32 ∧ i = .int .i64 k ∧ p = .int .i64 ((a / 2 ^ k : Nat) : Int) ∧ q = .int .i64 ((b / 2 ^ k : Nat) : Int) ∧ n = .int .i64 ((x % 2 ^ k : Nat) : Int) ∧ r = .int .i64 ((2 ^ k : Nat) : Int)) (fun _ _ _ _ i => 32 - (intOf i).toNat)
  case atStart => exact ⟨0, by omega, rfl, by simp, by simp, by simp [Nat.mod_one], rfl⟩
  case round =>
    obtain ⟨k, hk, rfl, rfl, rfl, rfl, rfl⟩ := hrel
    by_cases hlt32 : k < 32
    · have hst := plus_step x a b k HX.out
      have ha1 : a / 2 ^ (k + 1) = a / 2 ^ k / 2 := by rw [Nat.pow_succ, Nat.div_div_eq_div_mul]
      have hb1 : b / 2 ^ (k + 1) = b / 2 ^ k / 2 := by rw [Nat.pow_succ, Nat.div_div_eq_div_mul]
      have hp1 : 2 ^ (k + 1) = 2 ^ k * 2 := Nat.pow_succ ..
      have hp : 2 ^ k ≤ 2 ^ 31 := Nat.pow_le_pow_right (by omega) (by omega)
      have hpa : a / 2 ^ k ≤ a := Nat.div_le_self _ _
      have hpb : b / 2 ^ k ≤ b := Nat.div_le_self _ _
      have hn : x % 2 ^ k < 2 ^ k := Nat.mod_lt _ (Nat.pow_pos (by omega))
      obtain ⟨p, hpe⟩ : ∃ p, p = a / 2 ^ k := ⟨_, rfl⟩
      obtain ⟨q, hqe⟩ : ∃ q, q = b / 2 ^ k := ⟨_, rfl⟩
      obtain ⟨n, hne⟩ : ∃ n, n = x % 2 ^ k := ⟨_, rfl⟩
      obtain ⟨r, hre⟩ : ∃ r, r = 2 ^ k := ⟨_, rfl⟩
      rw [← hpe] at hst ha1 hpa
      rw [← hqe] at hst hb1 hpb
      rw [← hne] at hst hn
      rw [← hre] at hst hp1 hp hn
      rw [← hpe, ← hqe, ← hne, ← hre]
      have HA := Lib.hid ha1
      have HB := Lib.hid hb1
      have HP := Lib.hid hp1
      clear hpe hqe hne hre ha1 hb1 hp1
      by_cases he : p % 2 = q % 2
      · have heq : ((p : Int) % 2 != (q : Int) % 2) = false := by simp; omega
        have hst2 : x % 2 ^ (k + 1) = n := by have h2 : (p % 2 + q % 2) % 2 = 0 := by { omega }; rw [hst, h2]; simp
        have HS := Lib.hid hst2
        clear hst hst2 he
        go_wp2
        go_round
        case rel => exact ⟨k + 1, by omega, by go_num, by rw [HA.out]; go_num, by rw [HB.out]; go_num, by rw [HS.out], by rw [HP.out]; go_num⟩
        case measure => simp [intOf]; omega
      · have heq : ((p : Int) % 2 != (q : Int) % 2) = true := by simp; omega
        have hst2 : x % 2 ^ (k + 1) = n + r := by have h2 : (p % 2 + q % 2) % 2 = 1 := by { omega }; rw [hst, h2]; simp
        have HS := Lib.hid hst2
        clear hst hst2 he
        go_wp2
        go_round
        case rel => exact ⟨k + 1, by omega, by go_num, by rw [HA.out]; go_num, by rw [HB.out]; go_num, by rw [HS.out]; go_num, by rw [HP.out]; go_num⟩
        case measure => simp [intOf]; omega
    · obtain rfl : k = 32 := by omega
      have hm : x % 2 ^ 32 = x := Nat.mod_eq_of_lt hlt
      rw [hm]
      clear hm
      go_wp2
      go_ret
      exact ⟨rfl, rfl⟩

theorem ref2_more (r : Nat) (hr : r < 2 ^ 32) (A : Option Addr) (bs : List UInt8) (n c : Nat) (hn : n = bs.length) (B : Nat) (w : World) (hb : RB w B A bs) (hl : bs.length ≤ 1073741824) :
    Calls Try.prog 80 #[.int .i64 (r : Int), .slice A n c] w fun e w' => e = .returned (.int .i64 (crcMore r bs : Nat)) ∧ w = w' := by
  subst hn
  go_enter Try.func80, Try.ntmps80
  go_wp2_with fail
  go_loop [0, 5] (fun q i => ∃ k : Nat, k ≤ bs.length ∧ i = .int .i64 k ∧ q = .int .i64 ((crcMore r (bs.take k) : Nat) : Int)) (fun _ i => bs.length - (intOf i).toNat)
  case atStart => exact ⟨0, Nat.zero_le _, rfl, by rw [List.take_zero]; rfl⟩
  case round =>
    obtain ⟨k, hk, rfl, rfl⟩ := hrel
    have hq := crcMore_lt hr (bs.take k)
    by_cases hlt : k < bs.length
    · obtain ⟨b, o, rfl, -, hc⟩ := hb.at_ hlt
      have hsn : crcMore r (bs.take (k + 1)) = crcBits (crcMore r (bs.take k)) (bs[k]'hlt).toNat 8 := by
        rw [List.take_succ_eq_append_getElem hlt, crcMore_snoc, crcByte_bits]
      obtain ⟨u, hu⟩ : ∃ u, u = (bs[k]'hlt).toNat := ⟨_, rfl⟩
      have hul : u < 256 := by rw [hu]; exact (bs[k]'hlt).toNat_lt
      obtain ⟨q, hqe⟩ : ∃ q, q = crcMore r (bs.take k) := ⟨_, rfl⟩
      rw [← hu] at hc hsn
      rw [← hqe] at hsn hq
      rw [← hqe]
      have HS := Lib.hid hsn
      clear hsn hu hqe
      go_wp2_with fail
      go_loop [0, 6, 7] (fun q' c' j => ∃ t : Nat, t ≤ 8 ∧ j = .int .i64 t ∧ q' = .int .i64 ((crcBits q u t : Nat) : Int) ∧ c' = .int .i64 ((u / 2 ^ t : Nat) : Int)) (fun _ _ j => 8 - (intOf j).toNat)
      case atStart => exact ⟨0, by omega, rfl, rfl, by simp⟩
      case round =>
        obtain ⟨t, ht, rfl, rfl, rfl⟩ := hrel
        have hql := crcBits_lt hq u t
        by_cases h8 : t < 8
        · have hst : crcBits q u (t + 1) = crcBit (crcBits q u t) (u / 2 ^ t % 2) := rfl
          have hu1 : u / 2 ^ (t + 1) = u / 2 ^ t / 2 := by rw [Nat.pow_succ, Nat.div_div_eq_div_mul]
          have hu2 : u / 2 ^ t ≤ u := Nat.div_le_self _ _
          obtain ⟨y, hy⟩ : ∃ y, y = crcBits q u t := ⟨_, rfl⟩
          obtain ⟨v, hv⟩ : ∃ v, v = u / 2 ^ t := ⟨_, rfl⟩
          rw [← hy, ← hv] at hst
          rw [← hy] at hql
          rw [← hv] at hu1 hu2
          rw [← hy, ← hv]
          have HU := Lib.hid hu1
          clear hy hv hu1
          by_cases he : y % 2 = v % 2
          · have heq : ((y : Int) % 2 != (v : Int) % 2) = false := by simp; omega
            have hst2 : crcBits q u (t + 1) = y / 2 := by rw [hst]; unfold crcBit; rw [if_neg (by omega)]
            have HT := Lib.hid hst2
            clear hst hst2 he
            go_wp2_with fail
            go_round
            case rel => exact ⟨t + 1, by omega, by go_num, by rw [HT.out]; go_num, by rw [HU.out]; go_num⟩
            case measure => simp [intOf]; omega
          · have heq : ((y : Int) % 2 != (v : Int) % 2) = true := by simp; omega
            have hst2 : crcBits q u (t + 1) = (y / 2) ^^^ 3988292384 := by rw [hst]; unfold crcBit; rw [if_pos he]; rfl
            have HT := Lib.hid hst2
            clear hst hst2 he
            go_wp2_with fail
            refine (ref2_plus (y / 2) 3988292384 (by omega) (by omega) _).mono ?_
            rintro e w2 ⟨rfl, rfl⟩
            go_wp2_with fail
            go_round
            case rel => exact ⟨t + 1, by omega, by go_num, by rw [HT.out], by rw [HU.out]; go_num⟩
            case measure => simp [intOf]; omega
        · obtain rfl : t = 8 := by omega
          go_wp2_with fail
          go_round
          case rel => exact ⟨k + 1, by omega, by go_num, by rw [HS.out]⟩
          case measure => simp [intOf]; omega
    · obtain rfl : k = bs.length := by omega
      rw [List.take_of_length_le (Nat.le_refl _)]
      go_wp2
      go_ret
      exact ⟨rfl, rfl⟩
end Go.Proofs.Ytncjfljmnkfghaa

namespace Go.Proofs.Ytncjfljmnkfghaa
open Go.RowKit
theorem ref2_sum (A : Option Addr) (bs : List UInt8) (n c : Nat) (hn : n = bs.length) (B : Nat) (w : World) (hb : RB w B A bs) (hl : bs.length ≤ 1073741824) :
    Calls Try.prog 45 #[.slice A n c] w fun e w' => e = .returned (.int .i64 (crcN bs : Nat)) ∧ w = w' := by
  subst hn
  obtain ⟨r0, hr0⟩ : ∃ r0 : Nat, r0 = 4294967295 := ⟨_, rfl⟩
  have hr0l : r0 < 2 ^ 32 := by omega
  have hr0i : (4294967295 : Int) = (r0 : Int) := by omega
  have hfin : (r0 : Int) - ((crcMore r0 bs : Nat) : Int) = ((crcN bs : Nat) : Int) := by
    have := crcMore_lt hr0l bs
    unfold crcN
    rw [← hr0]
    omega
  have hmr := crcMore_lt hr0l bs
  have HF := Lib.hid hfin
  have HR := Lib.hid hr0i
  clear hfin hr0 hr0i
  go_enter Try.func45, Try.ntmps45
  go_wp2_with fail
  rw [HR.out]
  refine (ref2_more r0 hr0l A bs bs.length c rfl B w hb hl).mono ?_
  rintro e w1 ⟨rfl, rfl⟩
  obtain ⟨q, hq⟩ : ∃ q, q = crcMore r0 bs := ⟨_, rfl⟩
  rw [← hq] at hmr HF ⊢
  clear hq
  go_wp2_with fail
  go_ret
  refine ⟨ret_int ?_, rfl⟩
  rw [← HF.out, ← HR.out]

end Go.Proofs.Ytncjfljmnkfghaa

namespace Go.Proofs.Ytncjfljmnkfghaa
open Go.RowKit

/-- num.Put where the number fits. -/
theorem put_s {A : Option Addr} {n c : Nat} {bs : List UInt8} (m : Nat) {k x : Int} {w : World} (hs : Sl w A n bs) (hf : fitsB k x = true) (hk : k ≤ 9223372036854775807) (hm : n + x.toNat = m) (hl : m ≤ 1073741000) :
    Calls Try.prog 40 #[.slice A n c, .int .i64 k, .int .i64 x] w fun e w' => ∃ A' c', e = .returned (.slice A' m c') ∧ Own w' w.heap.size A' m c' (bs ++ leB k.toNat x.toNat) ∧ Grow w w' := by
  obtain ⟨rfl, hn, hr⟩ := hs
  have h0 := fits_nat hf
  refine (num_put A bs c k x (by omega) hk w hr (by omega)).mono ?_
  rintro e w' ⟨v, rfl, hown, hb⟩
  rw [putB, if_pos hf] at hown
  obtain ⟨A', c', rfl, h⟩ := Own.ofOB hown m (by rw [List.length_append, leB_length]; exact hm) hl
  exact ⟨A', c', rfl, h, hb⟩

/-- num.Get. -/
theorem get_s {A : Option Addr} {n c : Nat} {bs : List UInt8} {at_ x : Int} {w : World} (hs : Sl w A n bs) (h0 : -9223372036854775808 ≤ at_) (h1 : at_ ≤ 9223372036854775807) :
    Calls Try.prog 47 #[.slice A n c, .int .i64 at_, .int .i64 x] w fun e w' => e = .returned (.tuple #[.int .i64 (getN bs at_ x), .bool (getK bs at_ x)]) ∧ w = w' := by
  obtain ⟨rfl, hn, hr⟩ := hs
  exact num_get A bs c at_ x h0 h1 _ w hr (by omega)

/-- crc.Sum. -/
theorem sum_s {A : Option Addr} {n c : Nat} {bs : List UInt8} {w : World} (hs : Sl w A n bs) :
    Calls Try.prog 42 #[.slice A n c] w fun e w' => ∃ q : Nat, e = .returned (.int .u32 (q : Int)) ∧ Hid (q = crcN bs) ∧ q < 4294967296 ∧ Grow w w' := by
  obtain ⟨hn, hl, hr⟩ := hs
  refine (crc_sum A bs n c hn.symm w hr (by omega)).mono ?_
  rintro e w' ⟨rfl, hb⟩
  exact ⟨_, rfl, Lib.hid rfl, crcN_lt bs, hb⟩

/-- The reference's. -/
theorem rput_s {A : Option Addr} {n c : Nat} {bs : List UInt8} (m : Nat) {k x : Int} {w : World} (hs : Sl w A n bs) (hf : fitsB k x = true) (hk : k ≤ 9223372036854775807) (hm : n + x.toNat = m) (hl : m ≤ 1073741000) :
    Calls Try.prog 39 #[.slice A n c, .int .i64 k, .int .i64 x] w fun e w' => ∃ A' c', e = .returned (.slice A' m c') ∧ Own w' w.heap.size A' m c' (bs ++ leB k.toNat x.toNat) ∧ Grow w w' := by
  obtain ⟨rfl, hn, hr⟩ := hs
  refine (ref1_put A bs c k x w hr (by omega) hk).mono ?_
  rintro e w' ⟨v, rfl, hown, hb⟩
  rw [putB, if_pos hf] at hown
  obtain ⟨A', c', rfl, h⟩ := Own.ofOB hown m (by rw [List.length_append, leB_length]; exact hm) hl
  exact ⟨A', c', rfl, h, hb⟩
theorem rget_s {A : Option Addr} {n c : Nat} {bs : List UInt8} {at_ x : Int} {w : World} (hs : Sl w A n bs) (h0 : -9223372036854775808 ≤ at_) (h1 : at_ ≤ 9223372036854775807) :
    Calls Try.prog 48 #[.slice A n c, .int .i64 at_, .int .i64 x] w fun e w' => e = .returned (.tuple #[.int .i64 (getN bs at_ x), .bool (getK bs at_ x)]) ∧ w = w' := by
  obtain ⟨rfl, hn, hr⟩ := hs
  exact ref1_get A bs c at_ x h0 h1 _ w hr (by omega)
theorem rsum_s {A : Option Addr} {n c : Nat} {bs : List UInt8} {w : World} (hs : Sl w A n bs) :
    Calls Try.prog 45 #[.slice A n c] w fun e w' => ∃ q : Nat, e = .returned (.int .i64 (q : Int)) ∧ Hid (q = crcN bs) ∧ q < 4294967296 ∧ w = w' := by
  obtain ⟨hn, hl, hr⟩ := hs
  refine (ref2_sum A bs n c hn.symm _ w hr (by omega)).mono ?_
  rintro e w' ⟨rfl, rfl⟩
  exact ⟨_, rfl, Lib.hid rfl, crcN_lt bs, rfl⟩
theorem same_s {A A' : Option Addr} {n n' c c' : Nat} {xs ys : List UInt8} {w : World} (hx : Sl w A n xs) (hy : Sl w A' n' ys) :
    Calls Try.prog 15 #[.slice A n c, .slice A' n' c'] w fun e w' => ∃ s, e = .returned (.bool s) ∧ Hid (s = decide (xs = ys)) ∧ ∃ k, w' = w.drewN k := by
  obtain ⟨rfl, hn, hr⟩ := hx
  obtain ⟨rfl, hn', hr'⟩ := hy
  refine (ref1_same A A' xs ys c c' _ _ w hr hr' (by omega) (by omega)).mono ?_
  rintro e w' ⟨rfl, k, rfl⟩
  exact ⟨_, rfl, Lib.hid rfl, k, rfl⟩
/-- Two slices of the same bytes are the same. -/
theorem same_yes {A A' : Option Addr} {n n' c c' : Nat} {xs ys : List UInt8} {w : World} (hx : Sl w A n xs) (hy : Sl w A' n' ys) (he : xs = ys) :
    Calls Try.prog 15 #[.slice A n c, .slice A' n' c'] w fun e w' => e = .returned (.bool true) ∧ ∃ k, w' = w.drewN k := by
  refine (same_s hx hy).mono ?_
  rintro e w' ⟨s, rfl, hs, k, rfl⟩
  rw [hs.out, decide_eq_true he]
  exact ⟨rfl, k, rfl⟩
end Go.Proofs.Ytncjfljmnkfghaa
