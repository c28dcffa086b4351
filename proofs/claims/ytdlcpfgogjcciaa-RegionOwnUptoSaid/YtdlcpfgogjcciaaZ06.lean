/- The walk of crc.Sum. The walks of the reference of layer 2. commonsref02.Sum, and a constant text's block. Numbers within bytes, and sums behind bytes: plain words. No statement of the seat is proved here. -/
import Derived.Test.YtdlcpfgogjcciaaZ05
import Derived.Test.YtdlcpfgogjcciaaZ02
import Derived.Test.YtdlcpfgogjcciaaZ04
namespace Go.Proofs.Ytdlcpfgogjcciaa
open Go.RowKit

/-- crc.Sum. -/
theorem crc_sum (A : Option Addr) (bs : List UInt8) (n c : Nat) (hn : n = bs.length) (w : World) (hb : RB w w.heap.size A bs) (hl : bs.length ≤ 17592186044416) :
    Calls Try.prog 52 #[.slice A n c] w fun e w' => e = .returned (.int .u32 (crcN bs : Nat)) ∧ Below w.heap.size w w' := by
  subst hn
  have hne : ∀ a, A = some a → 0 < bs.length → a.block ≠ w.heap.size := by
    intro a ha h0
    obtain ⟨b, o, e, hlt, -⟩ := hb.all h0
    rw [ha] at e
    injection e with e
    subst e
    show b ≠ _
    omega
  have HNE := Lib.hid hne
  clear hne
  go_enter Try.func52, Try.ntmps52
  go_wp2_with fail
  refine (crc_new w).mono ?_
  rintro e w1 ⟨rfl, hone, hb1, -⟩
  have hz := hb1.size
  have hrd : RB w1 w.heap.size A bs := hb.below hb1
  obtain ⟨r0, hr0⟩ : ∃ r0 : Nat, r0 = 4294967295 := ⟨_, rfl⟩
  have hr0l : r0 < 2 ^ 32 := by omega
  have hone0 : One w1 w.heap.size 151 (.int .u32 (r0 : Int)) := by
    have e : (r0 : Int) = 4294967295 := by omega
    rw [e]; exact hone
  have hfin : 4294967295 - crcMore r0 bs = crcN bs := by rw [hr0, crcN]
  have hmr := crcMore_lt hr0l bs
  have HF := Lib.hid hfin
  clear hfin hr0 hone
  go_wp2_with fail
  refine (crc_add' w.heap.size r0 A bs bs.length c rfl w.heap.size w1 hone0 hr0l hrd hz HNE.out hl).mono ?_
  rintro e w2 ⟨rfl, hone2, hg2⟩
  clear hone0
  go_wp2_with fail
  refine (crc_hsum w.heap.size _ w2 hone2 hmr).mono ?_
  rintro e w3 ⟨rfl, rfl⟩
  rw [HF.out]
  clear hone2 hmr
  go_wp2_with fail
  go_ret
  exact ⟨rfl, hb1.grown hg2 hz (fun k hk => by injection hk with hk; omega)⟩
end Go.Proofs.Ytdlcpfgogjcciaa

namespace Go.Proofs.Ytdlcpfgogjcciaa
open Go.RowKit

theorem plus_step (x a b k : Nat) (hx : x = a ^^^ b) : x % 2 ^ (k + 1) = x % 2 ^ k + 2 ^ k * ((a / 2 ^ k % 2 + b / 2 ^ k % 2) % 2) := by
  subst hx
  rw [Nat.mod_pow_succ, Nat.xor_div_two_pow, xor_mod2]

theorem ref2_plus (a b : Nat) (ha : a < 2 ^ 32) (hb : b < 2 ^ 32) (w : World) :
    Calls Try.prog 100 #[.int .i64 (a : Int), .int .i64 (b : Int)] w fun e w' => e = .returned (.int .i64 ((a ^^^ b : Nat) : Int)) ∧ w = w' := by
  have hlt := Nat.xor_lt_two_pow ha hb
  obtain ⟨x, hx⟩ : ∃ x, x = a ^^^ b := ⟨_, rfl⟩
  rw [← hx] at hlt ⊢
  have HX := Lib.hid hx
  clear hx
  go_enter Try.func100, Try.ntmps100
  go_wp2
  go_loop [0, 1, 5, 6, 7] (fun p q n r i => ∃ k : Nat, k ≤ 32 ∧ i = .int .i64 k ∧ p = .int .i64 ((a / 2 ^ k : Nat) : Int) ∧ q = .int .i64 ((b / 2 ^ k : Nat) : Int) ∧ n = .int .i64 ((x % 2 ^ k : Nat) : Int) ∧ r = .int .i64 ((2 ^ k : Nat) : Int)) (fun _ _ _ _ i => 32 - (intOf i).toNat)
  case atStart => exact ⟨0, by omega, rfl, by simp, by simp, by simp [Nat.mod_one], rfl⟩
  case round =>
    obtain ⟨k, hk, rfl, rfl, rfl, rfl, rfl⟩ := hrel
    by_cases hlt32 : k < 32
    · have hst := plus_step x a b k HX.out
      have ha1 : a / 2 ^ (k + 1) = a / 2 ^ k / 2 := by rw [Nat.pow_succ, Nat.div_div_eq_div_mul]
      have hb1 : b / 2 ^ (k + 1) = b / 2 ^ k / 2 := by rw [Nat.pow_succ, Nat.div_div_eq_div_mul]
      have hp1 : 2 ^ (k + 1) = 2 ^ k * 2 := Nat.pow_succ ..
      have hp : 2 ^ k ≤ 2 ^ 31 := Nat.pow_le_pow_right (by omega) (by omega)
      have hpa : a / 2 ^ k ≤ a := Nat.div_le_self _ _
      have hpb : b / 2 ^ k ≤ b := Nat.div_le_self _ _
      have hn : x % 2 ^ k < 2 ^ k := Nat.mod_lt _ (Nat.pow_pos (by omega))
      obtain ⟨p, hpe⟩ : ∃ p, p = a / 2 ^ k := ⟨_, rfl⟩
      obtain ⟨q, hqe⟩ : ∃ q, q = b / 2 ^ k := ⟨_, rfl⟩
      obtain ⟨n, hne⟩ : ∃ n, n = x % 2 ^ k := ⟨_, rfl⟩
      obtain ⟨r, hre⟩ : ∃ r, r = 2 ^ k := ⟨_, rfl⟩
      rw [← hpe] at hst ha1 hpa
      rw [← hqe] at hst hb1 hpb
      rw [← hne] at hst hn
      rw [← hre] at hst hp1 hp hn
      rw [← hpe, ← hqe, ← hne, ← hre]
      have HA := Lib.hid ha1
      have HB := Lib.hid hb1
      have HP := Lib.hid hp1
      clear hpe hqe hne hre ha1 hb1 hp1
      by_cases he : p % 2 = q % 2
      · have heq : ((p : Int) % 2 != (q : Int) % 2) = false := by simp; omega
        have hst2 : x % 2 ^ (k + 1) = n := by have h2 : (p % 2 + q % 2) % 2 = 0 := by { omega }; rw [hst, h2]; simp
        have HS := Lib.hid hst2
        clear hst hst2 he
        go_wp2
        go_round
        case rel => exact ⟨k + 1, by omega, by go_num, by rw [HA.out]; go_num, by rw [HB.out]; go_num, by rw [HS.out], by rw [HP.out]; go_num⟩
        case measure => simp [intOf]; omega
      · have heq : ((p : Int) % 2 != (q : Int) % 2) = true := by simp; omega
        have hst2 : x % 2 ^ (k + 1) = n + r := by have h2 : (p % 2 + q % 2) % 2 = 1 := by { omega }; rw [hst, h2]; simp
        have HS := Lib.hid hst2
        clear hst hst2 he
        go_wp2
        go_round
        case rel => exact ⟨k + 1, by omega, by go_num, by rw [HA.out]; go_num, by rw [HB.out]; go_num, by rw [HS.out]; go_num, by rw [HP.out]; go_num⟩
        case measure => simp [intOf]; omega
    · obtain rfl : k = 32 := by omega
      have hm : x % 2 ^ 32 = x := Nat.mod_eq_of_lt hlt
      rw [hm]
      clear hm
      go_wp2
      go_ret
      exact ⟨rfl, rfl⟩

theorem ref2_more (r : Nat) (hr : r < 2 ^ 32) (A : Option Addr) (bs : List UInt8) (n c : Nat) (hn : n = bs.length) (B : Nat) (w : World) (hb : RB w B A bs) (hl : bs.length ≤ 17592186044416) :
    Calls Try.prog 99 #[.int .i64 (r : Int), .slice A n c] w fun e w' => e = .returned (.int .i64 (crcMore r bs : Nat)) ∧ w = w' := by
  subst hn
  go_enter Try.func99, Try.ntmps99
  go_wp2_with fail
  go_loop [0, 5] (fun q i => ∃ k : Nat, k ≤ bs.length ∧ i = .int .i64 k ∧ q = .int .i64 ((crcMore r (bs.take k) : Nat) : Int)) (fun _ i => bs.length - (intOf i).toNat)
  case atStart => exact ⟨0, Nat.zero_le _, rfl, by rw [List.take_zero]; rfl⟩
  case round =>
    obtain ⟨k, hk, rfl, rfl⟩ := hrel
    have hq := crcMore_lt hr (bs.take k)
    by_cases hlt : k < bs.length
    · obtain ⟨b, o, rfl, -, hc⟩ := hb.at_ hlt
      have hsn : crcMore r (bs.take (k + 1)) = crcBits (crcMore r (bs.take k)) (bs[k]'hlt).toNat 8 := by
        rw [List.take_succ_eq_append_getElem hlt, crcMore_snoc, crcByte_bits]
      obtain ⟨u, hu⟩ : ∃ u, u = (bs[k]'hlt).toNat := ⟨_, rfl⟩
      have hul : u < 256 := by rw [hu]; exact (bs[k]'hlt).toNat_lt
      obtain ⟨q, hqe⟩ : ∃ q, q = crcMore r (bs.take k) := ⟨_, rfl⟩
      rw [← hu] at hc hsn
      rw [← hqe] at hsn hq
      rw [← hqe]
      have HS := Lib.hid hsn
      clear hsn hu hqe
      go_wp2_with fail
      go_loop [0, 6, 7] (fun q' c' j => ∃ t : Nat, t ≤ 8 ∧ j = .int .i64 t ∧ q' = .int .i64 ((crcBits q u t : Nat) : Int) ∧ c' = .int .i64 ((u / 2 ^ t : Nat) : Int)) (fun _ _ j => 8 - (intOf j).toNat)
      case atStart => exact ⟨0, by omega, rfl, rfl, by simp⟩
      case round =>
        obtain ⟨t, ht, rfl, rfl, rfl⟩ := hrel
        have hql := crcBits_lt hq u t
        by_cases h8 : t < 8
        · have hst : crcBits q u (t + 1) = crcBit (crcBits q u t) (u / 2 ^ t % 2) := rfl
          have hu1 : u / 2 ^ (t + 1) = u / 2 ^ t / 2 := by rw [Nat.pow_succ, Nat.div_div_eq_div_mul]
          have hu2 : u / 2 ^ t ≤ u := Nat.div_le_self _ _
          obtain ⟨y, hy⟩ : ∃ y, y = crcBits q u t := ⟨_, rfl⟩
          obtain ⟨v, hv⟩ : ∃ v, v = u / 2 ^ t := ⟨_, rfl⟩
          rw [← hy, ← hv] at hst
          rw [← hy] at hql
          rw [← hv] at hu1 hu2
          rw [← hy, ← hv]
          have HU := Lib.hid hu1
          clear hy hv hu1
          by_cases he : y % 2 = v % 2
          · have heq : ((y : Int) % 2 != (v : Int) % 2) = false := by simp; omega
            have hst2 : crcBits q u (t + 1) = y / 2 := by rw [hst]; unfold crcBit; rw [if_neg (by omega)]
            have HT := Lib.hid hst2
            clear hst hst2 he
            go_wp2_with fail
            go_round
            case rel => exact ⟨t + 1, by omega, by go_num, by rw [HT.out]; go_num, by rw [HU.out]; go_num⟩
            case measure => simp [intOf]; omega
          · have heq : ((y : Int) % 2 != (v : Int) % 2) = true := by simp; omega
            have hst2 : crcBits q u (t + 1) = (y / 2) ^^^ 3988292384 := by rw [hst]; unfold crcBit; rw [if_pos he]; rfl
            have HT := Lib.hid hst2
            clear hst hst2 he
            go_wp2_with fail
            refine (ref2_plus (y / 2) 3988292384 (by omega) (by omega) _).mono ?_
            rintro e w2 ⟨rfl, rfl⟩
            go_wp2_with fail
            go_round
            case rel => exact ⟨t + 1, by omega, by go_num, by rw [HT.out], by rw [HU.out]; go_num⟩
            case measure => simp [intOf]; omega
        · obtain rfl : t = 8 := by omega
          go_wp2_with fail
          go_round
          case rel => exact ⟨k + 1, by omega, by go_num, by rw [HS.out]⟩
          case measure => simp [intOf]; omega
    · obtain rfl : k = bs.length := by omega
      rw [List.take_of_length_le (Nat.le_refl _)]
      go_wp2
      go_ret
      exact ⟨rfl, rfl⟩
end Go.Proofs.Ytdlcpfgogjcciaa

namespace Go.Proofs.Ytdlcpfgogjcciaa
open Go.RowKit
theorem ref2_sum (A : Option Addr) (bs : List UInt8) (n c : Nat) (hn : n = bs.length) (B : Nat) (w : World) (hb : RB w B A bs) (hl : bs.length ≤ 17592186044416) :
    Calls Try.prog 92 #[.slice A n c] w fun e w' => e = .returned (.int .i64 (crcN bs : Nat)) ∧ w = w' := by
  subst hn
  obtain ⟨r0, hr0⟩ : ∃ r0 : Nat, r0 = 4294967295 := ⟨_, rfl⟩
  have hr0l : r0 < 2 ^ 32 := by omega
  have hr0i : (4294967295 : Int) = (r0 : Int) := by omega
  have hfin : (r0 : Int) - ((crcMore r0 bs : Nat) : Int) = ((crcN bs : Nat) : Int) := by
    have := crcMore_lt hr0l bs
    unfold crcN
    rw [← hr0]
    omega
  have hmr := crcMore_lt hr0l bs
  have HF := Lib.hid hfin
  have HR := Lib.hid hr0i
  clear hfin hr0 hr0i
  go_enter Try.func92, Try.ntmps92
  go_wp2_with fail
  rw [HR.out]
  refine (ref2_more r0 hr0l A bs bs.length c rfl B w hb hl).mono ?_
  rintro e w1 ⟨rfl, rfl⟩
  obtain ⟨q, hq⟩ : ∃ q, q = crcMore r0 bs := ⟨_, rfl⟩
  rw [← hq] at hmr HF ⊢
  clear hq
  go_wp2_with fail
  go_ret
  refine ⟨ret_int ?_, rfl⟩
  rw [← HF.out, ← HR.out]

end Go.Proofs.Ytdlcpfgogjcciaa

namespace Go.Proofs.Ytdlcpfgogjcciaa

theorem cut_next {α : Type} (c : List α) (a k : Nat) : c.drop a = (c.drop a).take k ++ c.drop (a + k) := by
  rw [← List.drop_drop]
  exact (List.take_append_drop k _).symm

/-- A number within bytes. -/
theorem get_mid {bs p q : List UInt8} {n : Int} {a wd : Nat} (hb : bs = p ++ (leB n.toNat wd ++ q)) (hp : p.length = a) (h : fitsB n wd = true) (h1 : n ≤ 9223372036854775807) : getN bs a wd = n ∧ getK bs a wd = true := by
  have hw := fits_width h
  have hpw := fits_pow h h1
  have h0 := fits_nat h
  subst hb hp
  have := get_small (bs := p ++ (leB n.toNat wd ++ q)) (a := p.length) (k := wd) (m := n.toNat) (by simp [isW]; omega) (by simp [leB_length])
    (by rw [List.drop_left, List.take_left' (leB_length _ _), leVal_leB, Nat.mod_eq_of_lt hpw]) (by omega)
  refine ⟨?_, this.2⟩
  rw [this.1]
  omega

theorem getO_congr {b c : List UInt8} {a wd : Nat} (hb : a + wd ≤ b.length) (hc : a + wd ≤ c.length) (h : (b.drop a).take wd = (c.drop a).take wd) : getO b a wd = getO c a wd := by
  unfold getO
  simp only [Int.toNat_natCast]
  rw [h]
  by_cases hw : isW (wd : Int) = true
  · have c1 : isW (wd : Int) = true ∧ 0 ≤ (a : Int) ∧ (a : Int) + wd ≤ b.length := ⟨hw, by omega, by omega⟩
    have c2 : isW (wd : Int) = true ∧ 0 ≤ (a : Int) ∧ (a : Int) + wd ≤ c.length := ⟨hw, by omega, by omega⟩
    rw [if_pos c1, if_pos c2]
  · have c1 : ¬ (isW (wd : Int) = true ∧ 0 ≤ (a : Int) ∧ (a : Int) + wd ≤ b.length) := fun h => hw h.1
    have c2 : ¬ (isW (wd : Int) = true ∧ 0 ≤ (a : Int) ∧ (a : Int) + wd ≤ c.length) := fun h => hw h.1
    rw [if_neg c1, if_neg c2]
theorem getO_take {b : List UInt8} {a wd m : Nat} (h : a + wd ≤ m) (hb : m ≤ b.length) : getO (b.take m) a wd = getO b a wd := by
  refine getO_congr (by simp; omega) (by omega) ?_
  rw [List.drop_take, List.take_take, Nat.min_eq_left (by omega)]
theorem getN_take {b : List UInt8} {a wd m : Nat} (h : a + wd ≤ m) (hb : m ≤ b.length) : getN (b.take m) a wd = getN b a wd := by unfold getN; rw [getO_take h hb]
theorem getK_take {b : List UInt8} {a wd m : Nat} (h : a + wd ≤ m) (hb : m ≤ b.length) : getK (b.take m) a wd = getK b a wd := by unfold getK; rw [getO_take h hb]

/-- A number of 4 bytes or fewer is always one. -/
theorem getK_small {b : List UInt8} {a wd : Nat} (hw : wd = 1 ∨ wd = 2 ∨ wd = 4) (h : a + wd ≤ b.length) : getK b a wd = true := by
  have hlt := leVal_lt ((b.drop a).take wd)
  rw [List.length_take, List.length_drop, Nat.min_eq_left (by omega)] at hlt
  refine (get_small (bs := b) (a := a) (k := wd) (by simp [isW]; omega) (by omega) rfl ?_).2
  rcases hw with rfl | rfl | rfl <;> simp at hlt <;> omega
theorem getK_range {b : List UInt8} {a wd : Nat} (h : getK b a wd = true) : a + wd ≤ b.length := by
  obtain ⟨a', wd', e1, e2, -, -, h3, -⟩ := put_get h
  omega
/-- The bytes of a number that is got. -/
theorem get_piece {b : List UInt8} {a wd : Nat} (h : getK b a wd = true) : (b.drop a).take wd = leB (getN b a wd).toNat wd := by
  obtain ⟨a', wd', e1, e2, -, -, -, -, h3, -⟩ := put_get h
  obtain rfl : a = a' := by omega
  obtain rfl : wd = wd' := by omega
  exact h3.symm
theorem get_range {b : List UInt8} {a wd : Nat} (h : getK b a wd = true) : fitsB (getN b a wd) wd = true ∧ 0 ≤ getN b a wd ∧ getN b a wd ≤ 9223372036854775807 := by
  obtain ⟨a', wd', e1, e2, -, -, -, h2, -, h4, h5⟩ := put_get h
  exact ⟨h2, h4, h5⟩
theorem get_any (b : List UInt8) (a wd : Int) : 0 ≤ getN b a wd ∧ getN b a wd ≤ 9223372036854775807 := by
  cases h : getK b a wd with
  | true => obtain ⟨a', wd', e1, e2, -, -, -, h2, -, h4, h5⟩ := put_get h; exact ⟨h4, h5⟩
  | false => rw [get_no h]; omega
theorem get_byte {b : List UInt8} {a : Nat} (h : a < b.length) : getN b a 1 = (b[a].toNat : Int) := by
  have e : (b.drop a).take 1 = [b[a]] := by
    rw [List.drop_eq_getElem_cons h]; rfl
  have := (get_small (bs := b) (a := a) (k := 1) (m := b[a].toNat) (by decide) (by omega) (by rw [e]; simp [leVal]) (by have := b[a].toNat_lt; omega)).1
  simpa using this
theorem get_lt {b : List UInt8} {a wd : Nat} (hw : wd = 1 ∨ wd = 2 ∨ wd = 4) : getN b a wd < 256 ^ wd := by
  cases h : getK b a wd with
  | true =>
    have := (get_range h).1
    obtain ⟨z, hz⟩ : ∃ z, z = getN b a wd := ⟨_, rfl⟩
    rw [← hz] at this ⊢
    simp only [fitsB, decide_eq_true_eq] at this
    rcases hw with rfl | rfl | rfl <;> simp <;> omega
  | false => rw [get_no h]; rcases hw with rfl | rfl | rfl <;> simp

/-- Bytes and their sum behind them. -/
def sumB (p : List UInt8) : List UInt8 := p ++ leB (crcN p) 4
theorem sumB_length (p : List UInt8) : (sumB p).length = p.length + 4 := by simp [sumB, leB_length]
theorem fits_crc (p : List UInt8) : fitsB ((crcN p : Nat) : Int) 4 = true := by
  have := crcN_lt p
  simp [fitsB]; omega
theorem sumB_get (p q : List UInt8) : getN (sumB p ++ q) p.length 4 = (crcN p : Nat) := by
  have := crcN_lt p
  refine (get_mid (p := p) (q := q) (n := ((crcN p : Nat) : Int)) (wd := 4) ?_ rfl (fits_crc p) (by omega)).1
  simp [sumB]
theorem sumB_get' (p : List UInt8) : getN (sumB p) p.length 4 = (crcN p : Nat) := by simpa using sumB_get p []
theorem sumB_take (p q : List UInt8) : (sumB p ++ q).take p.length = p := by simp [sumB]
/-- Bytes whose sum is right are a sealed text. -/
theorem sum_right {b : List UInt8} {m : Nat} (h : m + 4 ≤ b.length) (hs : getN b m 4 = (crcN (b.take m) : Nat)) : b.take (m + 4) = sumB (b.take m) := by
  have hp := get_piece (getK_small (b := b) (a := m) (wd := 4) (.inr (.inr rfl)) h)
  rw [sumB, List.take_add, hp, show getN b m ((4 : Nat) : Int) = getN b m 4 from rfl, hs]
  simp

theorem set_split {α : Type} {l : List α} {k : Nat} (h : k < l.length) (x : α) : l.set k x = l.take k ++ x :: l.drop (k + 1) := List.set_eq_take_append_cons_drop.trans (by rw [if_pos h])
theorem leVal_inj {a b : List UInt8} (hl : a.length = b.length) (h : leVal a = leVal b) : a = b := by rw [← leB_leVal a, ← leB_leVal b, h, hl]
theorem crcN_set {p : List UInt8} {k : Nat} (h : k < p.length) {x : UInt8} (hx : x ≠ p[k]) : crcN (p.set k x) ≠ crcN p := by
  intro e
  have hp : p = p.take k ++ p[k] :: p.drop (k + 1) := by
    rw [← List.drop_eq_getElem_cons h, List.take_append_drop]
  rw [set_split h] at e
  have e2 : crcN (p.take k ++ x :: p.drop (k + 1)) = crcN (p.take k ++ p[k] :: p.drop (k + 1)) := by rw [← hp]; exact e
  exact hx (crcN_turned _ _ _ _ e2)
/-- A sealed text of which one byte is turned has no right sum. -/
theorem sum_turned {p : List UInt8} {k : Nat} (hk : k < (sumB p).length) {x : UInt8} (hx : x ≠ (sumB p)[k]) :
    getN ((sumB p).set k x) p.length 4 ≠ (crcN (((sumB p).set k x).take p.length) : Nat) := by
  intro e
  have hlen : ((sumB p).set k x).length = p.length + 4 := by rw [List.length_set, sumB_length]
  have hpc := get_piece (getK_small (b := (sumB p).set k x) (a := p.length) (wd := 4) (.inr (.inr rfl)) (by omega))
  rw [show getN ((sumB p).set k x) p.length ((4 : Nat) : Int) = getN ((sumB p).set k x) p.length 4 from rfl, e] at hpc
  by_cases h : k < p.length
  · have e1 : ((sumB p).set k x).take p.length = p.set k x := by
      rw [sumB, List.set_append_left _ _ h, List.take_left' (by simp)]
    have e2 : (((sumB p).set k x).drop p.length).take 4 = leB (crcN p) 4 := by
      rw [sumB, List.set_append_left _ _ h, List.drop_left' (by simp), List.take_of_length_le (by simp [leB_length])]
    rw [e1, e2] at hpc
    have h1 := crcN_lt p
    have h2 := crcN_lt (p.set k x)
    have := (leB_inj (n := ((crcN p : Nat) : Int)) (m := ((crcN (p.set k x) : Nat) : Int)) (wd := 4) (fits_crc _) (fits_crc _) (by omega) (by omega)).1 (by simpa using hpc)
    refine crcN_set h (x := x) ?_ (by omega)
    intro e3
    exact hx (by rw [e3]; simp [sumB, h])
  · have e1 : ((sumB p).set k x).take p.length = p := by
      rw [sumB, List.set_append_right _ _ (by omega), List.take_left]
    have e2 : (((sumB p).set k x).drop p.length).take 4 = (leB (crcN p) 4).set (k - p.length) x := by
      rw [sumB, List.set_append_right _ _ (by omega), List.drop_left, List.take_of_length_le (by simp [leB_length])]
    rw [e1, e2] at hpc
    rw [sumB_length] at hk
    have h4 : k - p.length < (leB (crcN p) 4).length := by rw [leB_length]; omega
    have := congrArg (fun l => l[k - p.length]?) hpc
    simp only [List.getElem?_set, h4, if_true, Int.toNat_natCast, List.getElem?_eq_getElem h4, Option.some.injEq] at this
    apply hx
    rw [this]
    simp only [sumB]
    rw [List.getElem_append_right (by omega)]
theorem xor_ne {a b : UInt8} (h : b ≠ 0) : a ^^^ b ≠ a := by
  intro e
  apply h
  have : a ^^^ (a ^^^ b) = a ^^^ a := by rw [e]
  rwa [← UInt8.xor_assoc, UInt8.xor_self, UInt8.zero_xor] at this

/-- Noughts within bytes. -/
def zerosB (b : List UInt8) (lo hi : Nat) : Bool := decide ((b.drop lo).take (hi - lo) = List.replicate (hi - lo) 0)
theorem zeros_iff {b : List UInt8} {lo hi : Nat} (h : hi ≤ b.length) : zerosB b lo hi = true ↔ ∀ i, lo ≤ i → (hi' : i < hi) → b[i] = 0 := by
  rw [zerosB, decide_eq_true_iff]
  constructor
  · intro e i h1 h2
    have := congrArg (fun l => l[i - lo]?) e
    simp only [List.getElem?_take, List.getElem?_drop, List.getElem?_replicate] at this
    rw [if_pos (by omega), if_pos (by omega), show lo + (i - lo) = i by omega, List.getElem?_eq_getElem (by omega)] at this
    simpa using this
  · intro e
    apply List.ext_getElem
    · simp; omega
    · intro j h1 h2
      simp only [List.getElem_take, List.getElem_drop, List.getElem_replicate]
      simp at h2
      exact e (lo + j) (by omega) (by omega)
end Go.Proofs.Ytdlcpfgogjcciaa
