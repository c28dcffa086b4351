/- A burst of at most 32 bits turns the sum. No program in sight. -/
import Derived.Test.YthpjmffdilkcfaaCrcPure
namespace Go.Proofs.Ythpjmffdilkcfaa

/-- n bits taken in. -/
def crcF (r : Nat) (f : Nat → Bool) : Nat → Nat
  | 0 => r
  | n + 1 => crcBit (crcF r f n) (f n).toNat
theorem toNat_lt (b : Bool) : b.toNat < 2 := by cases b <;> decide
theorem crcF_lt {r : Nat} (h : r < 2 ^ 32) (f : Nat → Bool) (n : Nat) : crcF r f n < 2 ^ 32 := by
  induction n with
  | zero => exact h
  | succ n ih =>
    rw [crcF, crcBit_eq _ _ (toNat_lt _)]
    have := toNat_lt (f n)
    exact crc1_lt (Nat.xor_lt_two_pow ih (by omega))
theorem crcF_congr (r : Nat) (f g : Nat → Bool) (n : Nat) (h : ∀ k, k < n → f k = g k) : crcF r f n = crcF r g n := by
  induction n with
  | zero => rfl
  | succ n ih => rw [crcF, crcF, ih (fun k hk => h k (by omega)), h n (by omega)]
theorem crcF_xor (r s : Nat) (f g : Nat → Bool) (n : Nat) : crcF r f n ^^^ crcF s g n = crcF (r ^^^ s) (fun k => f k ^^ g k) n := by
  induction n with
  | zero => rfl
  | succ n ih =>
    rw [crcF, crcF, crcF, ← ih, crcBit_eq _ _ (toNat_lt _), crcBit_eq _ _ (toNat_lt _), crcBit_eq _ _ (toNat_lt _), ← crc1_xor]
    congr 1
    have e : (f n ^^ g n).toNat = (f n).toNat ^^^ (g n).toNat := by cases f n <;> cases g n <;> rfl
    rw [e, Nat.xor_assoc, Nat.xor_assoc]
    congr 1
    rw [← Nat.xor_assoc, Nat.xor_comm (f n).toNat, Nat.xor_assoc]

theorem crcI_shift (d i : Nat) : crcI (d * 2 ^ i) i = d := by
  induction i generalizing d with
  | zero => simp [crcI]
  | succ i ih =>
    have e : d * 2 ^ (i + 1) = (2 * d) * 2 ^ i := by rw [Nat.pow_succ]; rw [Nat.mul_comm 2 d, Nat.mul_assoc, Nat.mul_comm 2]
    rw [crcI, e, ih]
    unfold crc1
    rw [if_neg (by omega)]
    omega
/-- The number that the bits from a place on are. -/
def burst (f : Nat → Bool) (at_ : Nat) : Nat → Nat
  | 0 => 0
  | i + 1 => burst f at_ i ^^^ ((f (at_ + i)).toNat * 2 ^ i)
theorem burst_lt (f : Nat → Bool) (at_ i : Nat) : burst f at_ i < 2 ^ i := by
  induction i with
  | zero => simp [burst]
  | succ i ih =>
    have h := toNat_lt (f (at_ + i))
    have hp : 2 ^ (i + 1) = 2 * 2 ^ i := by rw [Nat.pow_succ, Nat.mul_comm]
    have : (f (at_ + i)).toNat = 0 ∨ (f (at_ + i)).toNat = 1 := by omega
    exact Nat.xor_lt_two_pow (by omega) (by rcases this with e | e <;> rw [e] <;> omega)
theorem burst_bit (f : Nat → Bool) (at_ i j : Nat) (hj : j < i) : (burst f at_ i).testBit j = f (at_ + j) := by
  induction i with
  | zero => omega
  | succ i ih =>
    rw [burst, Nat.testBit_xor]
    have e : ((f (at_ + i)).toNat * 2 ^ i).testBit j = (decide (i = j) && f (at_ + i)) := by
      cases f (at_ + i)
      · simp
      · simp [Nat.testBit_two_pow]
    rw [e]
    by_cases h : j = i
    · subst h
      rw [Nat.testBit_lt_two_pow (burst_lt f at_ j)]
      simp
    · rw [ih (by omega)]
      simp [Ne.symm h]
theorem crcF_burst (f : Nat → Bool) (at_ i : Nat) (h0 : crcF 0 f at_ = 0) : crcF 0 f (at_ + i) = crcI (burst f at_ i) i := by
  induction i with
  | zero => rw [Nat.add_zero, h0]; rfl
  | succ i ih =>
    rw [← Nat.add_assoc, crcF, ih, crcBit_eq _ _ (toNat_lt _), crcI, burst, crcI_xor, crcI_shift]
theorem crcF_zeros (f : Nat → Bool) (n : Nat) (h : ∀ k, k < n → f k = false) : crcF 0 f n = 0 := by
  induction n with
  | zero => rfl
  | succ n ih =>
    rw [crcF, ih (fun k hk => h k (by omega)), h n (by omega)]
    decide
theorem crcF_on (f : Nat → Bool) (m i : Nat) (h : ∀ k, m ≤ k → f k = false) (h0 : crcF 0 f m ≠ 0) : crcF 0 f (m + i) ≠ 0 := by
  induction i with
  | zero => exact h0
  | succ i ih =>
    rw [← Nat.add_assoc, crcF, h (m + i) (by omega), crcBit_eq _ _ (by decide)]
    intro h1
    have h2 := crc1_zero (Nat.xor_lt_two_pow (crcF_lt (by omega) f (m + i)) (by decide)) h1
    exact ih (xor_eq_zero' h2)
/-- A burst that is not nothing leaves something. -/
theorem crcF_ne (f : Nat → Bool) (at_ n k : Nat) (hk : k < n) (hf : f k = true) (hin : ∀ j, f j = true → at_ ≤ j ∧ j < at_ + 32) : crcF 0 f n ≠ 0 := by
  have hno : ∀ j, ¬ (at_ ≤ j ∧ j < at_ + 32) → f j = false := by
    intro j hj
    cases hfj : f j with
    | false => rfl
    | true => exact absurd (hin j hfj) hj
  have h0 : crcF 0 f at_ = 0 := crcF_zeros f at_ (fun j hj => hno j (by omega))
  have hk2 := hin k hf
  have part : ∀ i, i ≤ 32 → k - at_ < i → crcF 0 f (at_ + i) ≠ 0 := by
    intro i hi hki hz
    rw [crcF_burst f at_ i h0] at hz
    have hlt := burst_lt f at_ i
    have hp : 2 ^ i ≤ 2 ^ 32 := Nat.pow_le_pow_right (by omega) hi
    have hz2 := crcI_zero (by omega) i hz
    have hb := burst_bit f at_ i (k - at_) hki
    rw [hz2, show at_ + (k - at_) = k by omega, hf] at hb
    simp at hb
  by_cases hn : n ≤ at_ + 32
  · have := part (n - at_) (by omega) (by omega)
    rwa [show at_ + (n - at_) = n by omega] at this
  · have := crcF_on f (at_ + 32) (n - (at_ + 32)) (fun j hj => hno j (by omega)) (part 32 (by omega) (by omega))
    rwa [show at_ + 32 + (n - (at_ + 32)) = n by omega] at this

/-! ### the bits of bytes -/
def bitT (bs : List UInt8) (k : Nat) : Bool := (bs.getD (k / 8) 0).toNat.testBit (k % 8)
theorem bitT_append (a b : List UInt8) (k : Nat) (h : k < 8 * a.length) : bitT (a ++ b) k = bitT a k := by
  unfold bitT
  rw [List.getD_eq_getElem?_getD, List.getD_eq_getElem?_getD, List.getElem?_append_left (by omega)]
theorem testBit_toNat (c i : Nat) : (c.testBit i).toNat = c / 2 ^ i % 2 := by
  rw [Nat.testBit_eq_decide_div_mod_eq]
  have : c / 2 ^ i % 2 = 0 ∨ c / 2 ^ i % 2 = 1 := by omega
  rcases this with h | h <;> rw [h] <;> rfl
theorem snoc_ind {α : Type} {p : List α → Prop} (h0 : p []) (h1 : ∀ a c, p a → p (a ++ [c])) (l : List α) : p l := by
  have h : ∀ (n : Nat) (l : List α), l.length = n → p l := by
    intro n
    induction n with
    | zero => intro l hl; rw [List.eq_nil_of_length_eq_zero hl]; exact h0
    | succ n ih =>
      intro l hl
      have hne : l ≠ [] := by intro e; rw [e] at hl; simp at hl
      rw [← List.dropLast_concat_getLast hne]
      exact h1 _ _ (ih _ (by simp; omega))
  exact h l.length l rfl
theorem crcMore_F (r : Nat) (bs : List UInt8) : crcMore r bs = crcF r (bitT bs) (8 * bs.length) := by
  refine snoc_ind (p := fun bs => crcMore r bs = crcF r (bitT bs) (8 * bs.length)) rfl ?_ bs
  intro a c ih
  · rw [crcMore_snoc, ih, List.length_append, List.length_singleton, Nat.mul_add]
    rw [crcF_congr r (bitT a) (bitT (a ++ [c])) (8 * a.length) (fun k hk => (bitT_append a [c] k hk).symm)]
    obtain ⟨s, hs⟩ : ∃ s, s = crcF r (bitT (a ++ [c])) (8 * a.length) := ⟨_, rfl⟩
    have step : ∀ i, i ≤ 8 → crcF r (bitT (a ++ [c])) (8 * a.length + i) = crcBits s c.toNat i := by
      intro i
      induction i with
      | zero => intro _; rw [Nat.add_zero, ← hs]; rfl
      | succ i ihi =>
        intro hi
        rw [← Nat.add_assoc, crcF, ihi (by omega), crcBits]
        have e : bitT (a ++ [c]) (8 * a.length + i) = c.toNat.testBit i := by
          unfold bitT
          rw [show (8 * a.length + i) / 8 = a.length by omega, show (8 * a.length + i) % 8 = i by omega]
          simp
        rw [e, testBit_toNat]
    rw [← hs, crcByte_bits]
    exact (step 8 (by omega)).symm

/-- Two texts of one length that differ within 32 bits side by side have unlike sums. -/
theorem crcN_burst (x y : List UInt8) (hl : x.length = y.length) (at_ k : Nat) (hk : k < 8 * x.length) (hd : bitT x k ≠ bitT y k) (hin : ∀ j, bitT x j ≠ bitT y j → at_ ≤ j ∧ j < at_ + 32) : crcN x ≠ crcN y := by
  have h1 := crcMore_lt (r := 4294967295) (by omega) x
  have h2 := crcMore_lt (r := 4294967295) (by omega) y
  intro h
  unfold crcN at h
  have h3 : crcMore 4294967295 x = crcMore 4294967295 y := by omega
  rw [crcMore_F, crcMore_F, ← hl] at h3
  have h4 := crcF_xor 4294967295 4294967295 (bitT x) (bitT y) (8 * x.length)
  rw [h3, Nat.xor_self, Nat.xor_self] at h4
  refine crcF_ne (fun j => bitT x j ^^ bitT y j) at_ (8 * x.length) k hk ?_ ?_ h4.symm
  · simpa using hd
  · intro j hj
    exact hin j (by simpa using hj)

/-- A bit is turned. -/
def flipB (bs : List UInt8) (k : Nat) : List UInt8 := bs.set (k / 8) (UInt8.ofNat ((bs.getD (k / 8) 0).toNat ^^^ 2 ^ (k % 8)))
theorem flipB_length (bs : List UInt8) (k : Nat) : (flipB bs k).length = bs.length := by simp [flipB]
theorem flip_toNat (c : UInt8) (m : Nat) (hm : m < 8) : (UInt8.ofNat (c.toNat ^^^ 2 ^ m)).toNat = c.toNat ^^^ 2 ^ m := by
  have hc := c.toNat_lt
  have hp : 2 ^ m < 2 ^ 8 := Nat.pow_lt_pow_right (by omega) hm
  rw [UInt8.toNat_ofNat', Nat.mod_eq_of_lt (Nat.xor_lt_two_pow hc hp)]
theorem flipB_bit (bs : List UInt8) (k j : Nat) (hk : k < 8 * bs.length) : bitT (flipB bs k) j = (bitT bs j ^^ decide (j = k)) := by
  unfold bitT flipB
  rw [List.getD_eq_getElem?_getD, List.getElem?_set]
  by_cases h : k / 8 = j / 8
  · rw [if_pos h, if_pos (by omega), Option.getD_some, flip_toNat _ _ (Nat.mod_lt _ (by omega)), h, Nat.testBit_xor, Nat.testBit_two_pow]
    congr 1
    rw [decide_eq_decide]
    omega
  · rw [if_neg h, ← List.getD_eq_getElem?_getD, show decide (j = k) = false by simp; omega]
    simp
end Go.Proofs.Ythpjmffdilkcfaa
