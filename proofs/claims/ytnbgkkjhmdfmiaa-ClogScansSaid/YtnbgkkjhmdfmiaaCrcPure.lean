/- The check sum as a function of bytes, its bits one by one, that it is linear, and that a burst of 32 bits turns it. No program in sight. -/
namespace Go.Proofs.Ytnbgkkjhmdfmiaa

def crcPoly : Nat := 3988292384
/-- One step of the register. -/
def crc1 (x : Nat) : Nat := if x % 2 = 1 then (x / 2) ^^^ crcPoly else x / 2
def crcI (x : Nat) : Nat → Nat
  | 0 => x
  | k + 1 => crc1 (crcI x k)
/-- A byte is taken in. -/
def crcByte (r : Nat) (c : UInt8) : Nat := crcI (r ^^^ c.toNat) 8
def crcMore (r : Nat) (bs : List UInt8) : Nat := bs.foldl crcByte r
/-- The sum of bytes. -/
def crcN (bs : List UInt8) : Nat := 4294967295 - crcMore 4294967295 bs

theorem crcPoly_lt : crcPoly < 2 ^ 32 := by decide
theorem crc1_lt {x : Nat} (h : x < 2 ^ 32) : crc1 x < 2 ^ 32 := by
  unfold crc1
  split
  · exact Nat.xor_lt_two_pow (by omega) crcPoly_lt
  · omega
theorem crcI_lt {x : Nat} (h : x < 2 ^ 32) (k : Nat) : crcI x k < 2 ^ 32 := by
  induction k with
  | zero => exact h
  | succ k ih => exact crc1_lt ih
theorem crcByte_lt {r : Nat} (h : r < 2 ^ 32) (c : UInt8) : crcByte r c < 2 ^ 32 := by
  have := c.toNat_lt
  exact crcI_lt (Nat.xor_lt_two_pow h (by omega)) 8
theorem crcMore_lt {r : Nat} (h : r < 2 ^ 32) (bs : List UInt8) : crcMore r bs < 2 ^ 32 := by
  induction bs generalizing r with
  | nil => exact h
  | cons c t ih => exact ih (crcByte_lt h c)
theorem crcMore_append (r : Nat) (a b : List UInt8) : crcMore r (a ++ b) = crcMore (crcMore r a) b := by simp [crcMore]
theorem crcMore_snoc (r : Nat) (a : List UInt8) (c : UInt8) : crcMore r (a ++ [c]) = crcByte (crcMore r a) c := by simp [crcMore]
theorem crcN_lt (bs : List UInt8) : crcN bs < 4294967296 := by unfold crcN; omega

theorem xor_ones {r : Nat} (h : r < 2 ^ 32) : r ^^^ 4294967295 = 4294967295 - r := by
  have e : (BitVec.ofNat 32 r ^^^ BitVec.allOnes 32).toNat = r ^^^ 4294967295 := by
    rw [BitVec.toNat_xor, BitVec.toNat_ofNat, Nat.mod_eq_of_lt h]
    rfl
  rw [← e, BitVec.xor_allOnes, BitVec.toNat_not, BitVec.toNat_ofNat, Nat.mod_eq_of_lt h]

theorem xor_mod2 (a b : Nat) : (a ^^^ b) % 2 = (a % 2 + b % 2) % 2 := by
  have h := @Nat.xor_mod_two_eq_one a b
  generalize a ^^^ b = z at h ⊢
  omega
theorem xor_eq_zero' {x y : Nat} (h : x ^^^ y = 0) : x = y := by
  have : x ^^^ y ^^^ y = 0 ^^^ y := by rw [h]
  rwa [Nat.xor_assoc, Nat.xor_self, Nat.xor_zero, Nat.zero_xor] at this
theorem xor_cancel_right' {x y z : Nat} (h : x ^^^ z = y ^^^ z) : x = y := by
  have : x ^^^ z ^^^ z = y ^^^ z ^^^ z := by rw [h]
  rwa [Nat.xor_assoc, Nat.xor_assoc, Nat.xor_self, Nat.xor_zero, Nat.xor_zero] at this
theorem xor_cancel_left' {x y z : Nat} (h : z ^^^ x = z ^^^ y) : x = y := by
  rw [Nat.xor_comm z, Nat.xor_comm z] at h
  exact xor_cancel_right' h
theorem xor_div2 (a b : Nat) : (a ^^^ b) / 2 = (a / 2) ^^^ (b / 2) := Nat.xor_div_two

/-- The step is linear. -/
theorem crc1_xor (x y : Nat) : crc1 (x ^^^ y) = crc1 x ^^^ crc1 y := by
  unfold crc1
  rw [xor_mod2, xor_div2]
  have hx : x % 2 = 0 ∨ x % 2 = 1 := by omega
  have hy : y % 2 = 0 ∨ y % 2 = 1 := by omega
  rcases hx with hx | hx <;> rcases hy with hy | hy <;> simp only [hx, hy]
  · simp
  · simp [Nat.xor_assoc]
  · simp only [↓reduceIte, if_neg (show ¬ (0 : Nat) = 1 by omega)]
    rw [Nat.xor_assoc, Nat.xor_assoc, Nat.xor_comm (y / 2)]
  · simp only [Nat.reduceAdd, Nat.reduceMod, ↓reduceIte, if_neg (show ¬ (0 : Nat) = 1 by omega)]
    rw [Nat.xor_assoc, ← Nat.xor_assoc crcPoly, Nat.xor_comm crcPoly (y / 2), Nat.xor_assoc (y / 2), Nat.xor_self, Nat.xor_zero]
theorem crcI_xor (x y k : Nat) : crcI (x ^^^ y) k = crcI x k ^^^ crcI y k := by
  induction k with
  | zero => rfl
  | succ k ih => rw [crcI, ih, crc1_xor, crcI, crcI]
theorem crc1_zero {x : Nat} (h : x < 2 ^ 32) (h0 : crc1 x = 0) : x = 0 := by
  unfold crc1 at h0
  split at h0
  · have := xor_eq_zero' h0
    unfold crcPoly at this
    omega
  · omega
theorem crcI_zero {x : Nat} (h : x < 2 ^ 32) (k : Nat) (h0 : crcI x k = 0) : x = 0 := by
  induction k with
  | zero => exact h0
  | succ k ih => exact ih (crc1_zero (crcI_lt h k) h0)
theorem crcI_inj {x y : Nat} (hx : x < 2 ^ 32) (hy : y < 2 ^ 32) (k : Nat) (h : crcI x k = crcI y k) : x = y := by
  have := crcI_zero (Nat.xor_lt_two_pow hx hy) k (by rw [crcI_xor, h, Nat.xor_self])
  exact xor_eq_zero' this
theorem crcByte_inj {r s : Nat} (hr : r < 2 ^ 32) (hs : s < 2 ^ 32) (c : UInt8) (h : crcByte r c = crcByte s c) : r = s := by
  have hc := c.toNat_lt
  have := crcI_inj (Nat.xor_lt_two_pow hr (by omega)) (Nat.xor_lt_two_pow hs (by omega)) 8 h
  exact xor_cancel_right' this
theorem crcMore_inj {r s : Nat} (hr : r < 2 ^ 32) (hs : s < 2 ^ 32) (bs : List UInt8) (h : crcMore r bs = crcMore s bs) : r = s := by
  induction bs generalizing r s with
  | nil => exact h
  | cons c t ih => exact crcByte_inj hr hs c (ih (crcByte_lt hr c) (crcByte_lt hs c) h)
/-- One byte turned turns the sum. -/
theorem crcN_turned (a b : List UInt8) (c d : UInt8) (h : crcN (a ++ c :: b) = crcN (a ++ d :: b)) : c = d := by
  have h1 := crcMore_lt (r := 4294967295) (by omega) (a ++ c :: b)
  have h2 := crcMore_lt (r := 4294967295) (by omega) (a ++ d :: b)
  unfold crcN at h
  have h3 : crcMore 4294967295 (a ++ c :: b) = crcMore 4294967295 (a ++ d :: b) := by omega
  rw [crcMore_append, crcMore_append] at h3
  have hm := crcMore_lt (r := 4294967295) (by omega) a
  have h4 := crcMore_inj (crcByte_lt hm c) (crcByte_lt hm d) b h3
  have hc := c.toNat_lt
  have hd := d.toNat_lt
  have h5 := crcI_inj (Nat.xor_lt_two_pow hm (by omega)) (Nat.xor_lt_two_pow hm (by omega)) 8 h4
  exact UInt8.toNat_inj.1 (xor_cancel_left' h5)

/-! ### bit by bit -/
/-- A bit is taken in. -/
def crcBit (r m : Nat) : Nat := if r % 2 ≠ m then (r / 2) ^^^ crcPoly else r / 2
theorem crcBit_eq (r m : Nat) (h : m < 2) : crcBit r m = crc1 (r ^^^ m) := by
  unfold crcBit crc1
  rw [xor_mod2, xor_div2]
  have hm : m = 0 ∨ m = 1 := by omega
  have hr : r % 2 = 0 ∨ r % 2 = 1 := by omega
  rcases hm with rfl | rfl <;> rcases hr with hr | hr <;> simp [hr]
/-- k bits of a number, the lowest first. -/
def crcBits (r c : Nat) : Nat → Nat
  | 0 => r
  | k + 1 => crcBit (crcBits r c k) (c / 2 ^ k % 2)
theorem crcBits_eq (r c k : Nat) : crcI (r ^^^ c) k = crcBits r c k ^^^ (c / 2 ^ k) := by
  induction k with
  | zero => simp [crcI, crcBits]
  | succ k ih =>
    rw [crcI, ih, crcBits, crcBit_eq _ _ (Nat.mod_lt _ (by omega))]
    have hd : c / 2 ^ (k + 1) = c / 2 ^ k / 2 := by rw [Nat.pow_succ, Nat.div_div_eq_div_mul]
    rw [hd]
    obtain ⟨q, hq⟩ : ∃ q, q = c / 2 ^ k := ⟨_, rfl⟩
    rw [← hq]
    have e : q = (q % 2) ^^^ (2 * (q / 2)) := by
      have h1 : q % 2 = 0 ∨ q % 2 = 1 := by omega
      apply Nat.eq_of_testBit_eq
      intro i
      rw [Nat.testBit_xor]
      cases i with
      | zero => simp
      | succ i => rw [Nat.testBit_succ, Nat.testBit_succ, Nat.testBit_succ, show q % 2 / 2 = 0 by omega, show 2 * (q / 2) / 2 = q / 2 by omega]; simp
    have e2 : crc1 (2 * (q / 2)) = q / 2 := by unfold crc1; rw [if_neg (by omega)]; omega
    conv => lhs; rw [e]
    rw [← Nat.xor_assoc, crc1_xor, e2]
theorem crcByte_bits (r : Nat) (c : UInt8) : crcByte r c = crcBits r c.toNat 8 := by
  have := c.toNat_lt
  rw [crcByte, crcBits_eq, show c.toNat / 2 ^ 8 = 0 by omega, Nat.xor_zero]
theorem crcBits_lt {r : Nat} (h : r < 2 ^ 32) (c k : Nat) : crcBits r c k < 2 ^ 32 := by
  induction k with
  | zero => exact h
  | succ k ih =>
    rw [crcBits, crcBit_eq _ _ (Nat.mod_lt _ (by omega))]
    exact crc1_lt (Nat.xor_lt_two_pow ih (by omega))
theorem crcBits_xor (r s c d k : Nat) : crcBits (r ^^^ s) (c ^^^ d) k = crcBits r c k ^^^ crcBits s d k := by
  induction k with
  | zero => rfl
  | succ k ih =>
    rw [crcBits, crcBits, crcBits, crcBit_eq _ _ (Nat.mod_lt _ (by omega)), crcBit_eq _ _ (Nat.mod_lt _ (by omega)), crcBit_eq _ _ (Nat.mod_lt _ (by omega)), ih, ← crc1_xor]
    congr 1
    have e : (c ^^^ d) / 2 ^ k % 2 = (c / 2 ^ k % 2) ^^^ (d / 2 ^ k % 2) := by
      apply Nat.eq_of_testBit_eq
      intro i
      rw [Nat.testBit_xor]
      cases i with
      | zero => simp [Nat.testBit_zero, ← Nat.testBit_eq_decide_div_mod_eq]
      | succ i =>
        rw [Nat.testBit_succ, Nat.testBit_succ, Nat.testBit_succ, show (c ^^^ d) / 2 ^ k % 2 / 2 = 0 by omega, show c / 2 ^ k % 2 / 2 = 0 by omega, show d / 2 ^ k % 2 / 2 = 0 by omega]
        simp
    rw [e, Nat.xor_assoc, Nat.xor_assoc]
    congr 1
    rw [← Nat.xor_assoc, Nat.xor_comm (crcBits s d k), Nat.xor_assoc]
end Go.Proofs.Ytnbgkkjhmdfmiaa
