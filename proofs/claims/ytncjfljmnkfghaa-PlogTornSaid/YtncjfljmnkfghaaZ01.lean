/- Plain functions of chapter 1 on lists of bytes and integers: what the numbers' bytes are. No program in sight. The check sum as a function of bytes, its bits one by one, that it is linear, and that a burst of 32 bits turns it. No program in sight. Numbers within bytes, and sums behind bytes: plain words. A record's bytes, by their parts: plain words. No statement of the seat is proved here. -/
namespace Go.Proofs.Ytncjfljmnkfghaa

/-- A width. -/
def isW (width : Int) : Bool := decide (width = 1 ∨ width = 2 ∨ width = 4 ∨ width = 8)
/-- A number fits a width. -/
def fitsB (n width : Int) : Bool := decide (0 ≤ n ∧ (width = 8 ∨ (width = 4 ∧ n < 4294967296) ∨ (width = 2 ∧ n < 65536) ∨ (width = 1 ∧ n < 256)))
/-- The least bytes of a number. -/
def leB (n : Nat) : Nat → List UInt8
  | 0 => []
  | k + 1 => UInt8.ofNat (n % 256) :: leB (n / 256) k
theorem leB_length (n k : Nat) : (leB n k).length = k := by
  induction k generalizing n with
  | zero => rfl
  | succ k ih => simp [leB, ih]
/-- Bytes, and a number behind them. -/
def putB (bs : List UInt8) (n width : Int) : List UInt8 := bs ++ if fitsB n width then leB n.toNat width.toNat else []

theorem leB_snoc (n k : Nat) : leB n (k + 1) = leB n k ++ [UInt8.ofNat (n / 256 ^ k % 256)] := by
  induction k generalizing n with
  | zero => simp [leB]
  | succ k ih =>
    rw [leB, ih, leB, List.cons_append, Nat.div_div_eq_div_mul, Nat.pow_succ, Nat.mul_comm 256]

theorem fits_width {n width : Int} (h : fitsB n width = true) : width = 8 ∨ width = 4 ∨ width = 2 ∨ width = 1 := by
  simp only [fitsB, decide_eq_true_eq] at h
  omega
theorem fits_nat {n width : Int} (h : fitsB n width = true) : 0 ≤ n := by
  simp only [fitsB, decide_eq_true_eq] at h
  omega

theorem leB_byte (n : Int) (k : Nat) (h : 0 ≤ n) : ((UInt8.ofNat (n.toNat / 256 ^ k % 256)).toNat : Int) = n / 2 ^ (8 * k) % 256 := by
  obtain ⟨m, rfl⟩ := Int.eq_ofNat_of_zero_le h
  have e : (2 : Int) ^ (8 * k) = ((256 ^ k : Nat) : Int) := by
    rw [show (256 : Nat) = 2 ^ 8 from rfl, ← Nat.pow_mul]; simp
  rw [e]
  simp

theorem putB_length (bs : List UInt8) (n x : Int) : (putB bs n x).length ≤ bs.length + 8 := by
  unfold putB
  split
  · rename_i h
    have := fits_width h
    rw [List.length_append, leB_length]
    omega
  · simp

/-- The number that bytes are, the least byte first. -/
def leVal : List UInt8 → Nat
  | [] => 0
  | u :: t => u.toNat + 256 * leVal t
theorem leVal_lt (bs : List UInt8) : leVal bs < 256 ^ bs.length := by
  induction bs with
  | nil => simp [leVal]
  | cons u t ih =>
    have := u.toNat_lt
    rw [leVal, List.length_cons, Nat.pow_succ]
    omega
theorem leVal_snoc (bs : List UInt8) (u : UInt8) : leVal (bs ++ [u]) = leVal bs + 256 ^ bs.length * u.toNat := by
  induction bs with
  | nil => simp [leVal]
  | cons x t ih =>
    rw [List.cons_append, leVal, ih, leVal, List.length_cons, Nat.pow_succ, Nat.mul_comm (256 ^ t.length) 256, Nat.mul_add, Nat.mul_assoc]
    omega
theorem leVal_leB (n k : Nat) : leVal (leB n k) = n % 256 ^ k := by
  induction k generalizing n with
  | zero => simp [leB, leVal, Nat.mod_one]
  | succ k ih =>
    rw [leB, leVal, ih, Nat.pow_succ, Nat.mul_comm (256 ^ k) 256, Nat.mod_mul]
    simp
theorem leB_leVal (bs : List UInt8) : leB (leVal bs) bs.length = bs := by
  induction bs with
  | nil => rfl
  | cons u t ih =>
    have h := u.toNat_lt
    rw [List.length_cons, leB, leVal, show (u.toNat + 256 * leVal t) % 256 = u.toNat by omega, show (u.toNat + 256 * leVal t) / 256 = leVal t by omega, ih]
    simp

/-- The number at a place, if there is one. -/
def getO (bs : List UInt8) (at_ width : Int) : Option Nat :=
  if isW width = true ∧ 0 ≤ at_ ∧ at_ + width ≤ bs.length then
    if leVal ((bs.drop at_.toNat).take width.toNat) < 9223372036854775808 then some (leVal ((bs.drop at_.toNat).take width.toNat)) else none
  else none
def getN (bs : List UInt8) (at_ width : Int) : Int := ((getO bs at_ width).getD 0 : Nat)
def getK (bs : List UInt8) (at_ width : Int) : Bool := (getO bs at_ width).isSome

theorem get_small {bs : List UInt8} {a k m : Nat} (hw : isW k = true) (hle : a + k ≤ bs.length) (hm : m = leVal ((bs.drop a).take k)) (h : m < 9223372036854775808) : getN bs a k = m ∧ getK bs a k = true := by
  have hc : isW (k : Int) = true ∧ 0 ≤ (a : Int) ∧ (a : Int) + k ≤ bs.length := ⟨hw, by omega, by omega⟩
  subst hm
  have e : getO bs a k = some (leVal ((bs.drop a).take k)) := by
    unfold getO
    rw [if_pos hc]
    simp only [Int.toNat_natCast]
    rw [if_pos h]
  exact ⟨by unfold getN; rw [e]; rfl, by unfold getK; rw [e]; rfl⟩
theorem get_large {bs : List UInt8} {a k m : Nat} (hm : m = leVal ((bs.drop a).take k)) (h : ¬ m < 9223372036854775808) : getN bs a k = 0 ∧ getK bs a k = false := by
  subst hm
  have e : getO bs a k = none := by
    unfold getO
    split
    · simp only [Int.toNat_natCast]
      rw [if_neg h]
    · rfl
  exact ⟨by unfold getN; rw [e]; rfl, by unfold getK; rw [e]; rfl⟩
theorem get_none {bs : List UInt8} {a k : Int} (h : ¬ (isW k = true ∧ 0 ≤ a ∧ a + k ≤ bs.length)) : getN bs a k = 0 ∧ getK bs a k = false := by
  have e : getO bs a k = none := by
    unfold getO
    rw [if_neg h]
  exact ⟨by unfold getN; rw [e]; rfl, by unfold getK; rw [e]; rfl⟩

theorem fits_pow {n : Int} {wd : Nat} (h : fitsB n wd = true) (h1 : n ≤ 9223372036854775807) : n.toNat < 256 ^ wd := by
  simp only [fitsB, decide_eq_true_eq] at h
  obtain ⟨h0, h⟩ := h
  have : wd = 8 ∨ wd = 4 ∨ wd = 2 ∨ wd = 1 := by omega
  rcases this with rfl | rfl | rfl | rfl <;> simp <;> omega
/-- What was put is got. -/
theorem get_put {n : Int} {wd : Nat} (h : fitsB n wd = true) (h1 : n ≤ 9223372036854775807) : getN (leB n.toNat wd) 0 wd = n ∧ getK (leB n.toNat wd) 0 wd = true := by
  have hw := fits_width h
  have hp := fits_pow h h1
  have h0 := fits_nat h
  have := get_small (bs := leB n.toNat wd) (a := 0) (k := wd) (m := n.toNat) (by simp [isW]; omega) (by rw [leB_length]; omega)
    (by rw [List.drop_zero, List.take_of_length_le (by rw [leB_length]; exact Nat.le_refl _), leVal_leB, Nat.mod_eq_of_lt hp]) (by omega)
  refine ⟨?_, this.2⟩
  have h2 := this.1
  rw [show ((0 : Nat) : Int) = 0 from rfl] at h2
  rw [h2]
  omega
theorem leB_inj {n m : Int} {wd : Nat} (h : fitsB n wd = true) (h' : fitsB m wd = true) (h1 : n ≤ 9223372036854775807) (h1' : m ≤ 9223372036854775807) : leB n.toNat wd = leB m.toNat wd ↔ n = m := by
  constructor
  · intro e
    have a := (get_put h h1).1
    have b := (get_put h' h1').1
    rw [e, b] at a
    exact a.symm
  · rintro rfl; rfl
/-- What is got and put is the same bytes. -/
theorem put_get {bs : List UInt8} {at_ x : Int} (h : getK bs at_ x = true) : ∃ a wd : Nat, at_ = a ∧ x = wd ∧ wd ≤ 8 ∧ 1 ≤ wd ∧ a + wd ≤ bs.length ∧ fitsB (getN bs at_ x) x = true ∧ leB (getN bs at_ x).toNat wd = (bs.drop a).take wd ∧ 0 ≤ getN bs at_ x ∧ getN bs at_ x ≤ 9223372036854775807 := by
  by_cases hc : isW x = true ∧ 0 ≤ at_ ∧ at_ + x ≤ bs.length
  · obtain ⟨hw, h0, hle⟩ := hc
    obtain ⟨a, rfl⟩ := Int.eq_ofNat_of_zero_le h0
    have hx : x = 1 ∨ x = 2 ∨ x = 4 ∨ x = 8 := by simpa [isW] using hw
    obtain ⟨wd, rfl⟩ : ∃ wd : Nat, x = wd := ⟨x.toNat, by omega⟩
    by_cases hs : leVal ((bs.drop a).take wd) < 9223372036854775808
    · have hg := get_small (bs := bs) (a := a) hw (by omega) rfl hs
      have hlen : ((bs.drop a).take wd).length = wd := by rw [List.length_take, List.length_drop]; omega
      have hlt := leVal_lt ((bs.drop a).take wd)
      rw [hlen] at hlt
      refine ⟨a, wd, rfl, rfl, by omega, by omega, by omega, ?_, ?_, ?_, ?_⟩
      · rw [hg.1]
        simp only [fitsB, decide_eq_true_eq]
        refine ⟨by omega, ?_⟩
        have : wd = 8 ∨ wd = 4 ∨ wd = 2 ∨ wd = 1 := by omega
        rcases this with rfl | rfl | rfl | rfl <;> simp at hlt ⊢ <;> omega
      · have := leB_leVal ((bs.drop a).take wd)
        rw [hlen] at this
        rw [hg.1]
        simpa using this
      · rw [hg.1]; omega
      · rw [hg.1]; omega
    · have hg := get_large (bs := bs) (a := a) (k := wd) rfl hs
      rw [hg.2] at h
      cases h
  · have := (get_none hc).2
    rw [this] at h
    cases h
theorem get_no {bs : List UInt8} {at_ x : Int} (h : getK bs at_ x = false) : getN bs at_ x = 0 := by
  unfold getK at h
  unfold getN
  cases hg : getO bs at_ x with
  | none => rfl
  | some m => rw [hg] at h; cases h

/-- Rounding. -/
def mayB (n to : Int) : Bool := decide (1 ≤ to ∧ to ≤ 1073741824 ∧ 0 ≤ n ∧ n ≤ 1152921504606846976)
def upN (n to : Int) : Int := if mayB n to then (n + to - 1) / to * to else n
def downN (n to : Int) : Int := if mayB n to then n / to * to else n
theorem may_iff {n to : Int} : mayB n to = true ↔ 1 ≤ to ∧ to ≤ 1073741824 ∧ 0 ≤ n ∧ n ≤ 1152921504606846976 := by simp [mayB]
theorem up_bounds {n to : Int} (h : 1 ≤ to) : n ≤ (n + to - 1) / to * to ∧ (n + to - 1) / to * to ≤ n + to - 1 := by
  have h1 := Int.emod_add_ediv_mul (n + to - 1) to
  have h2 := Int.emod_nonneg (n + to - 1) (show to ≠ 0 by omega)
  have h3 := Int.emod_lt_of_pos (n + to - 1) (show 0 < to by omega)
  omega
theorem down_bounds {n to : Int} (h : 1 ≤ to) : n - to < n / to * to ∧ n / to * to ≤ n := by
  have h1 := Int.emod_add_ediv_mul n to
  have h2 := Int.emod_nonneg n (show to ≠ 0 by omega)
  have h3 := Int.emod_lt_of_pos n (show 0 < to by omega)
  omega
theorem down_ref {n to : Int} : n / to * to = n - n % to := by
  have h1 := Int.emod_add_ediv_mul n to
  omega
theorem up_ref {n to : Int} (h : 1 ≤ to) : (n + to - 1) / to * to = if n % to = 0 then n else n - n % to + to := by
  have h1 := Int.emod_add_ediv_mul n to
  have h2 := Int.emod_nonneg n (show to ≠ 0 by omega)
  have h3 := Int.emod_lt_of_pos n (show 0 < to by omega)
  obtain ⟨r, hr⟩ : ∃ r, r = n % to := ⟨_, rfl⟩
  obtain ⟨q, hq⟩ : ∃ q, q = n / to := ⟨_, rfl⟩
  rw [← hr, ← hq] at h1
  rw [← hr] at h2 h3 ⊢
  have hn : n = r + q * to := by omega
  clear hr hq h1
  subst hn
  split
  · rename_i h0
    subst h0
    rw [show 0 + q * to + to - 1 = (to - 1) + q * to by omega, Int.add_mul_ediv_right _ _ (by omega), Int.ediv_eq_zero_of_lt (by omega) (by omega)]
    simp
  · rw [show r + q * to + to - 1 = (r - 1) + (q + 1) * to by rw [Int.add_mul]; omega, Int.add_mul_ediv_right _ _ (by omega), Int.ediv_eq_zero_of_lt (by omega) (by omega), Int.zero_add, Int.add_mul]
    omega

end Go.Proofs.Ytncjfljmnkfghaa

namespace Go.Proofs.Ytncjfljmnkfghaa

def crcPoly : Nat := 3988292384
/-- One step of the register. -/
def crc1 (x : Nat) : Nat := if x % 2 = 1 then (x / 2) ^^^ crcPoly else x / 2
def crcI (x : Nat) : Nat → Nat
  | 0 => x
  | k + 1 => crc1 (crcI x k)
/-- A byte is taken in. -/
def crcByte (r : Nat) (c : UInt8) : Nat := crcI (r ^^^ c.toNat) 8
def crcMore (r : Nat) (bs : List UInt8) : Nat := bs.foldl crcByte r
/-- The sum of bytes. -/
def crcN (bs : List UInt8) : Nat := 4294967295 - crcMore 4294967295 bs

theorem crcPoly_lt : crcPoly < 2 ^ 32 := by decide
theorem crc1_lt {x : Nat} (h : x < 2 ^ 32) : crc1 x < 2 ^ 32 := by
  unfold crc1
  split
  · exact Nat.xor_lt_two_pow (by omega) crcPoly_lt
  · omega
theorem crcI_lt {x : Nat} (h : x < 2 ^ 32) (k : Nat) : crcI x k < 2 ^ 32 := by
  induction k with
  | zero => exact h
  | succ k ih => exact crc1_lt ih
theorem crcByte_lt {r : Nat} (h : r < 2 ^ 32) (c : UInt8) : crcByte r c < 2 ^ 32 := by
  have := c.toNat_lt
  exact crcI_lt (Nat.xor_lt_two_pow h (by omega)) 8
theorem crcMore_lt {r : Nat} (h : r < 2 ^ 32) (bs : List UInt8) : crcMore r bs < 2 ^ 32 := by
  induction bs generalizing r with
  | nil => exact h
  | cons c t ih => exact ih (crcByte_lt h c)
theorem crcMore_append (r : Nat) (a b : List UInt8) : crcMore r (a ++ b) = crcMore (crcMore r a) b := by simp [crcMore]
theorem crcMore_snoc (r : Nat) (a : List UInt8) (c : UInt8) : crcMore r (a ++ [c]) = crcByte (crcMore r a) c := by simp [crcMore]
theorem crcN_lt (bs : List UInt8) : crcN bs < 4294967296 := by unfold crcN; omega

theorem xor_ones {r : Nat} (h : r < 2 ^ 32) : r ^^^ 4294967295 = 4294967295 - r := by
  have e : (BitVec.ofNat 32 r ^^^ BitVec.allOnes 32).toNat = r ^^^ 4294967295 := by
    rw [BitVec.toNat_xor, BitVec.toNat_ofNat, Nat.mod_eq_of_lt h]
    rfl
  rw [← e, BitVec.xor_allOnes, BitVec.toNat_not, BitVec.toNat_ofNat, Nat.mod_eq_of_lt h]

theorem xor_mod2 (a b : Nat) : (a ^^^ b) % 2 = (a % 2 + b % 2) % 2 := by
  have h := @Nat.xor_mod_two_eq_one a b
  generalize a ^^^ b = z at h ⊢
  omega
theorem xor_eq_zero' {x y : Nat} (h : x ^^^ y = 0) : x = y := by
  have : x ^^^ y ^^^ y = 0 ^^^ y := by rw [h]
  rwa [Nat.xor_assoc, Nat.xor_self, Nat.xor_zero, Nat.zero_xor] at this
theorem xor_cancel_right' {x y z : Nat} (h : x ^^^ z = y ^^^ z) : x = y := by
  have : x ^^^ z ^^^ z = y ^^^ z ^^^ z := by rw [h]
  rwa [Nat.xor_assoc, Nat.xor_assoc, Nat.xor_self, Nat.xor_zero, Nat.xor_zero] at this
theorem xor_cancel_left' {x y z : Nat} (h : z ^^^ x = z ^^^ y) : x = y := by
  rw [Nat.xor_comm z, Nat.xor_comm z] at h
  exact xor_cancel_right' h
theorem xor_div2 (a b : Nat) : (a ^^^ b) / 2 = (a / 2) ^^^ (b / 2) := Nat.xor_div_two

/-- The step is linear. -/
theorem crc1_xor (x y : Nat) : crc1 (x ^^^ y) = crc1 x ^^^ crc1 y := by
  unfold crc1
  rw [xor_mod2, xor_div2]
  have hx : x % 2 = 0 ∨ x % 2 = 1 := by omega
  have hy : y % 2 = 0 ∨ y % 2 = 1 := by omega
  rcases hx with hx | hx <;> rcases hy with hy | hy <;> simp only [hx, hy]
  · simp
  · simp [Nat.xor_assoc]
  · simp only [↓reduceIte, if_neg (show ¬ (0 : Nat) = 1 by omega)]
    rw [Nat.xor_assoc, Nat.xor_assoc, Nat.xor_comm (y / 2)]
  · simp only [Nat.reduceAdd, Nat.reduceMod, ↓reduceIte, if_neg (show ¬ (0 : Nat) = 1 by omega)]
    rw [Nat.xor_assoc, ← Nat.xor_assoc crcPoly, Nat.xor_comm crcPoly (y / 2), Nat.xor_assoc (y / 2), Nat.xor_self, Nat.xor_zero]
theorem crcI_xor (x y k : Nat) : crcI (x ^^^ y) k = crcI x k ^^^ crcI y k := by
  induction k with
  | zero => rfl
  | succ k ih => rw [crcI, ih, crc1_xor, crcI, crcI]
theorem crc1_zero {x : Nat} (h : x < 2 ^ 32) (h0 : crc1 x = 0) : x = 0 := by
  unfold crc1 at h0
  split at h0
  · have := xor_eq_zero' h0
    unfold crcPoly at this
    omega
  · omega
theorem crcI_zero {x : Nat} (h : x < 2 ^ 32) (k : Nat) (h0 : crcI x k = 0) : x = 0 := by
  induction k with
  | zero => exact h0
  | succ k ih => exact ih (crc1_zero (crcI_lt h k) h0)
theorem crcI_inj {x y : Nat} (hx : x < 2 ^ 32) (hy : y < 2 ^ 32) (k : Nat) (h : crcI x k = crcI y k) : x = y := by
  have := crcI_zero (Nat.xor_lt_two_pow hx hy) k (by rw [crcI_xor, h, Nat.xor_self])
  exact xor_eq_zero' this
theorem crcByte_inj {r s : Nat} (hr : r < 2 ^ 32) (hs : s < 2 ^ 32) (c : UInt8) (h : crcByte r c = crcByte s c) : r = s := by
  have hc := c.toNat_lt
  have := crcI_inj (Nat.xor_lt_two_pow hr (by omega)) (Nat.xor_lt_two_pow hs (by omega)) 8 h
  exact xor_cancel_right' this
theorem crcMore_inj {r s : Nat} (hr : r < 2 ^ 32) (hs : s < 2 ^ 32) (bs : List UInt8) (h : crcMore r bs = crcMore s bs) : r = s := by
  induction bs generalizing r s with
  | nil => exact h
  | cons c t ih => exact crcByte_inj hr hs c (ih (crcByte_lt hr c) (crcByte_lt hs c) h)
/-- One byte turned turns the sum. -/
theorem crcN_turned (a b : List UInt8) (c d : UInt8) (h : crcN (a ++ c :: b) = crcN (a ++ d :: b)) : c = d := by
  have h1 := crcMore_lt (r := 4294967295) (by omega) (a ++ c :: b)
  have h2 := crcMore_lt (r := 4294967295) (by omega) (a ++ d :: b)
  unfold crcN at h
  have h3 : crcMore 4294967295 (a ++ c :: b) = crcMore 4294967295 (a ++ d :: b) := by omega
  rw [crcMore_append, crcMore_append] at h3
  have hm := crcMore_lt (r := 4294967295) (by omega) a
  have h4 := crcMore_inj (crcByte_lt hm c) (crcByte_lt hm d) b h3
  have hc := c.toNat_lt
  have hd := d.toNat_lt
  have h5 := crcI_inj (Nat.xor_lt_two_pow hm (by omega)) (Nat.xor_lt_two_pow hm (by omega)) 8 h4
  exact UInt8.toNat_inj.1 (xor_cancel_left' h5)

/-! ### bit by bit -/
/-- A bit is taken in. -/
def crcBit (r m : Nat) : Nat := if r % 2 ≠ m then (r / 2) ^^^ crcPoly else r / 2
theorem crcBit_eq (r m : Nat) (h : m < 2) : crcBit r m = crc1 (r ^^^ m) := by
  unfold crcBit crc1
  rw [xor_mod2, xor_div2]
  have hm : m = 0 ∨ m = 1 := by omega
  have hr : r % 2 = 0 ∨ r % 2 = 1 := by omega
  rcases hm with rfl | rfl <;> rcases hr with hr | hr <;> simp [hr]
/-- k bits of a number, the lowest first. -/
def crcBits (r c : Nat) : Nat → Nat
  | 0 => r
  | k + 1 => crcBit (crcBits r c k) (c / 2 ^ k % 2)
theorem crcBits_eq (r c k : Nat) : crcI (r ^^^ c) k = crcBits r c k ^^^ (c / 2 ^ k) := by
  induction k with
  | zero => simp [crcI, crcBits]
  | succ k ih =>
    rw [crcI, ih, crcBits, crcBit_eq _ _ (Nat.mod_lt _ (by omega))]
    have hd : c / 2 ^ (k + 1) = c / 2 ^ k / 2 := by rw [Nat.pow_succ, Nat.div_div_eq_div_mul]
    rw [hd]
    obtain ⟨q, hq⟩ : ∃ q, q = c / 2 ^ k := ⟨_, rfl⟩
    rw [← hq]
    have e : q = (q % 2) ^^^ (2 * (q / 2)) := by
      have h1 : q % 2 = 0 ∨ q % 2 = 1 := by omega
      apply Nat.eq_of_testBit_eq
      intro i
      rw [Nat.testBit_xor]
      cases i with
      | zero => simp
      | succ i => rw [Nat.testBit_succ, Nat.testBit_succ, Nat.testBit_succ, show q % 2 / 2 = 0 by omega, show 2 * (q / 2) / 2 = q / 2 by omega]; simp
    have e2 : crc1 (2 * (q / 2)) = q / 2 := by unfold crc1; rw [if_neg (by omega)]; omega
    conv => lhs; rw [e]
    rw [← Nat.xor_assoc, crc1_xor, e2]
theorem crcByte_bits (r : Nat) (c : UInt8) : crcByte r c = crcBits r c.toNat 8 := by
  have := c.toNat_lt
  rw [crcByte, crcBits_eq, show c.toNat / 2 ^ 8 = 0 by omega, Nat.xor_zero]
theorem crcBits_lt {r : Nat} (h : r < 2 ^ 32) (c k : Nat) : crcBits r c k < 2 ^ 32 := by
  induction k with
  | zero => exact h
  | succ k ih =>
    rw [crcBits, crcBit_eq _ _ (Nat.mod_lt _ (by omega))]
    exact crc1_lt (Nat.xor_lt_two_pow ih (by omega))
theorem crcBits_xor (r s c d k : Nat) : crcBits (r ^^^ s) (c ^^^ d) k = crcBits r c k ^^^ crcBits s d k := by
  induction k with
  | zero => rfl
  | succ k ih =>
    rw [crcBits, crcBits, crcBits, crcBit_eq _ _ (Nat.mod_lt _ (by omega)), crcBit_eq _ _ (Nat.mod_lt _ (by omega)), crcBit_eq _ _ (Nat.mod_lt _ (by omega)), ih, ← crc1_xor]
    congr 1
    have e : (c ^^^ d) / 2 ^ k % 2 = (c / 2 ^ k % 2) ^^^ (d / 2 ^ k % 2) := by
      apply Nat.eq_of_testBit_eq
      intro i
      rw [Nat.testBit_xor]
      cases i with
      | zero => simp [Nat.testBit_zero, ← Nat.testBit_eq_decide_div_mod_eq]
      | succ i =>
        rw [Nat.testBit_succ, Nat.testBit_succ, Nat.testBit_succ, show (c ^^^ d) / 2 ^ k % 2 / 2 = 0 by omega, show c / 2 ^ k % 2 / 2 = 0 by omega, show d / 2 ^ k % 2 / 2 = 0 by omega]
        simp
    rw [e, Nat.xor_assoc, Nat.xor_assoc]
    congr 1
    rw [← Nat.xor_assoc, Nat.xor_comm (crcBits s d k), Nat.xor_assoc]
end Go.Proofs.Ytncjfljmnkfghaa

namespace Go.Proofs.Ytncjfljmnkfghaa

theorem cut_next {α : Type} (c : List α) (a k : Nat) : c.drop a = (c.drop a).take k ++ c.drop (a + k) := by
  rw [← List.drop_drop]
  exact (List.take_append_drop k _).symm

/-- A number within bytes. -/
theorem get_mid {bs p q : List UInt8} {n : Int} {a wd : Nat} (hb : bs = p ++ (leB n.toNat wd ++ q)) (hp : p.length = a) (h : fitsB n wd = true) (h1 : n ≤ 9223372036854775807) : getN bs a wd = n ∧ getK bs a wd = true := by
  have hw := fits_width h
  have hpw := fits_pow h h1
  have h0 := fits_nat h
  subst hb hp
  have := get_small (bs := p ++ (leB n.toNat wd ++ q)) (a := p.length) (k := wd) (m := n.toNat) (by simp [isW]; omega) (by simp [leB_length])
    (by rw [List.drop_left, List.take_left' (leB_length _ _), leVal_leB, Nat.mod_eq_of_lt hpw]) (by omega)
  refine ⟨?_, this.2⟩
  rw [this.1]
  omega

theorem getO_congr {b c : List UInt8} {a wd : Nat} (hb : a + wd ≤ b.length) (hc : a + wd ≤ c.length) (h : (b.drop a).take wd = (c.drop a).take wd) : getO b a wd = getO c a wd := by
  unfold getO
  simp only [Int.toNat_natCast]
  rw [h]
  by_cases hw : isW (wd : Int) = true
  · have c1 : isW (wd : Int) = true ∧ 0 ≤ (a : Int) ∧ (a : Int) + wd ≤ b.length := ⟨hw, by omega, by omega⟩
    have c2 : isW (wd : Int) = true ∧ 0 ≤ (a : Int) ∧ (a : Int) + wd ≤ c.length := ⟨hw, by omega, by omega⟩
    rw [if_pos c1, if_pos c2]
  · have c1 : ¬ (isW (wd : Int) = true ∧ 0 ≤ (a : Int) ∧ (a : Int) + wd ≤ b.length) := fun h => hw h.1
    have c2 : ¬ (isW (wd : Int) = true ∧ 0 ≤ (a : Int) ∧ (a : Int) + wd ≤ c.length) := fun h => hw h.1
    rw [if_neg c1, if_neg c2]
theorem getO_take {b : List UInt8} {a wd m : Nat} (h : a + wd ≤ m) (hb : m ≤ b.length) : getO (b.take m) a wd = getO b a wd := by
  refine getO_congr (by simp; omega) (by omega) ?_
  rw [List.drop_take, List.take_take, Nat.min_eq_left (by omega)]
theorem getN_take {b : List UInt8} {a wd m : Nat} (h : a + wd ≤ m) (hb : m ≤ b.length) : getN (b.take m) a wd = getN b a wd := by unfold getN; rw [getO_take h hb]
theorem getK_take {b : List UInt8} {a wd m : Nat} (h : a + wd ≤ m) (hb : m ≤ b.length) : getK (b.take m) a wd = getK b a wd := by unfold getK; rw [getO_take h hb]

/-- A number of 4 bytes or fewer is always one. -/
theorem getK_small {b : List UInt8} {a wd : Nat} (hw : wd = 1 ∨ wd = 2 ∨ wd = 4) (h : a + wd ≤ b.length) : getK b a wd = true := by
  have hlt := leVal_lt ((b.drop a).take wd)
  rw [List.length_take, List.length_drop, Nat.min_eq_left (by omega)] at hlt
  refine (get_small (bs := b) (a := a) (k := wd) (by simp [isW]; omega) (by omega) rfl ?_).2
  rcases hw with rfl | rfl | rfl <;> simp at hlt <;> omega
theorem getK_range {b : List UInt8} {a wd : Nat} (h : getK b a wd = true) : a + wd ≤ b.length := by
  obtain ⟨a', wd', e1, e2, -, -, h3, -⟩ := put_get h
  omega
/-- The bytes of a number that is got. -/
theorem get_piece {b : List UInt8} {a wd : Nat} (h : getK b a wd = true) : (b.drop a).take wd = leB (getN b a wd).toNat wd := by
  obtain ⟨a', wd', e1, e2, -, -, -, -, h3, -⟩ := put_get h
  obtain rfl : a = a' := by omega
  obtain rfl : wd = wd' := by omega
  exact h3.symm
theorem get_range {b : List UInt8} {a wd : Nat} (h : getK b a wd = true) : fitsB (getN b a wd) wd = true ∧ 0 ≤ getN b a wd ∧ getN b a wd ≤ 9223372036854775807 := by
  obtain ⟨a', wd', e1, e2, -, -, -, h2, -, h4, h5⟩ := put_get h
  exact ⟨h2, h4, h5⟩
theorem get_any (b : List UInt8) (a wd : Int) : 0 ≤ getN b a wd ∧ getN b a wd ≤ 9223372036854775807 := by
  cases h : getK b a wd with
  | true => obtain ⟨a', wd', e1, e2, -, -, -, h2, -, h4, h5⟩ := put_get h; exact ⟨h4, h5⟩
  | false => rw [get_no h]; omega
theorem get_byte {b : List UInt8} {a : Nat} (h : a < b.length) : getN b a 1 = (b[a].toNat : Int) := by
  have e : (b.drop a).take 1 = [b[a]] := by
    rw [List.drop_eq_getElem_cons h]; rfl
  have := (get_small (bs := b) (a := a) (k := 1) (m := b[a].toNat) (by decide) (by omega) (by rw [e]; simp [leVal]) (by have := b[a].toNat_lt; omega)).1
  simpa using this
theorem get_lt {b : List UInt8} {a wd : Nat} (hw : wd = 1 ∨ wd = 2 ∨ wd = 4) : getN b a wd < 256 ^ wd := by
  cases h : getK b a wd with
  | true =>
    have := (get_range h).1
    obtain ⟨z, hz⟩ : ∃ z, z = getN b a wd := ⟨_, rfl⟩
    rw [← hz] at this ⊢
    simp only [fitsB, decide_eq_true_eq] at this
    rcases hw with rfl | rfl | rfl <;> simp <;> omega
  | false => rw [get_no h]; rcases hw with rfl | rfl | rfl <;> simp

/-- Bytes and their sum behind them. -/
def sumB (p : List UInt8) : List UInt8 := p ++ leB (crcN p) 4
theorem sumB_length (p : List UInt8) : (sumB p).length = p.length + 4 := by simp [sumB, leB_length]
theorem fits_crc (p : List UInt8) : fitsB ((crcN p : Nat) : Int) 4 = true := by
  have := crcN_lt p
  simp [fitsB]; omega
theorem sumB_get (p q : List UInt8) : getN (sumB p ++ q) p.length 4 = (crcN p : Nat) := by
  have := crcN_lt p
  refine (get_mid (p := p) (q := q) (n := ((crcN p : Nat) : Int)) (wd := 4) ?_ rfl (fits_crc p) (by omega)).1
  simp [sumB]
theorem sumB_get' (p : List UInt8) : getN (sumB p) p.length 4 = (crcN p : Nat) := by simpa using sumB_get p []
theorem sumB_take (p q : List UInt8) : (sumB p ++ q).take p.length = p := by simp [sumB]
/-- Bytes whose sum is right are a sealed text. -/
theorem sum_right {b : List UInt8} {m : Nat} (h : m + 4 ≤ b.length) (hs : getN b m 4 = (crcN (b.take m) : Nat)) : b.take (m + 4) = sumB (b.take m) := by
  have hp := get_piece (getK_small (b := b) (a := m) (wd := 4) (.inr (.inr rfl)) h)
  rw [sumB, List.take_add, hp, show getN b m ((4 : Nat) : Int) = getN b m 4 from rfl, hs]
  simp

theorem set_split {α : Type} {l : List α} {k : Nat} (h : k < l.length) (x : α) : l.set k x = l.take k ++ x :: l.drop (k + 1) := List.set_eq_take_append_cons_drop.trans (by rw [if_pos h])
theorem leVal_inj {a b : List UInt8} (hl : a.length = b.length) (h : leVal a = leVal b) : a = b := by rw [← leB_leVal a, ← leB_leVal b, h, hl]
theorem crcN_set {p : List UInt8} {k : Nat} (h : k < p.length) {x : UInt8} (hx : x ≠ p[k]) : crcN (p.set k x) ≠ crcN p := by
  intro e
  have hp : p = p.take k ++ p[k] :: p.drop (k + 1) := by
    rw [← List.drop_eq_getElem_cons h, List.take_append_drop]
  rw [set_split h] at e
  have e2 : crcN (p.take k ++ x :: p.drop (k + 1)) = crcN (p.take k ++ p[k] :: p.drop (k + 1)) := by rw [← hp]; exact e
  exact hx (crcN_turned _ _ _ _ e2)
/-- A sealed text of which one byte is turned has no right sum. -/
theorem sum_turned {p : List UInt8} {k : Nat} (hk : k < (sumB p).length) {x : UInt8} (hx : x ≠ (sumB p)[k]) :
    getN ((sumB p).set k x) p.length 4 ≠ (crcN (((sumB p).set k x).take p.length) : Nat) := by
  intro e
  have hlen : ((sumB p).set k x).length = p.length + 4 := by rw [List.length_set, sumB_length]
  have hpc := get_piece (getK_small (b := (sumB p).set k x) (a := p.length) (wd := 4) (.inr (.inr rfl)) (by omega))
  rw [show getN ((sumB p).set k x) p.length ((4 : Nat) : Int) = getN ((sumB p).set k x) p.length 4 from rfl, e] at hpc
  by_cases h : k < p.length
  · have e1 : ((sumB p).set k x).take p.length = p.set k x := by
      rw [sumB, List.set_append_left _ _ h, List.take_left' (by simp)]
    have e2 : (((sumB p).set k x).drop p.length).take 4 = leB (crcN p) 4 := by
      rw [sumB, List.set_append_left _ _ h, List.drop_left' (by simp), List.take_of_length_le (by simp [leB_length])]
    rw [e1, e2] at hpc
    have h1 := crcN_lt p
    have h2 := crcN_lt (p.set k x)
    have := (leB_inj (n := ((crcN p : Nat) : Int)) (m := ((crcN (p.set k x) : Nat) : Int)) (wd := 4) (fits_crc _) (fits_crc _) (by omega) (by omega)).1 (by simpa using hpc)
    refine crcN_set h (x := x) ?_ (by omega)
    intro e3
    exact hx (by rw [e3]; simp [sumB, h])
  · have e1 : ((sumB p).set k x).take p.length = p := by
      rw [sumB, List.set_append_right _ _ (by omega), List.take_left]
    have e2 : (((sumB p).set k x).drop p.length).take 4 = (leB (crcN p) 4).set (k - p.length) x := by
      rw [sumB, List.set_append_right _ _ (by omega), List.drop_left, List.take_of_length_le (by simp [leB_length])]
    rw [e1, e2] at hpc
    rw [sumB_length] at hk
    have h4 : k - p.length < (leB (crcN p) 4).length := by rw [leB_length]; omega
    have := congrArg (fun l => l[k - p.length]?) hpc
    simp only [List.getElem?_set, h4, if_true, Int.toNat_natCast, List.getElem?_eq_getElem h4, Option.some.injEq] at this
    apply hx
    rw [this]
    simp only [sumB]
    rw [List.getElem_append_right (by omega)]
theorem xor_ne {a b : UInt8} (h : b ≠ 0) : a ^^^ b ≠ a := by
  intro e
  apply h
  have : a ^^^ (a ^^^ b) = a ^^^ a := by rw [e]
  rwa [← UInt8.xor_assoc, UInt8.xor_self, UInt8.zero_xor] at this

/-- Noughts within bytes. -/
def zerosB (b : List UInt8) (lo hi : Nat) : Bool := decide ((b.drop lo).take (hi - lo) = List.replicate (hi - lo) 0)
theorem zeros_iff {b : List UInt8} {lo hi : Nat} (h : hi ≤ b.length) : zerosB b lo hi = true ↔ ∀ i, lo ≤ i → (hi' : i < hi) → b[i] = 0 := by
  rw [zerosB, decide_eq_true_iff]
  constructor
  · intro e i h1 h2
    have := congrArg (fun l => l[i - lo]?) e
    simp only [List.getElem?_take, List.getElem?_drop, List.getElem?_replicate] at this
    rw [if_pos (by omega), if_pos (by omega), show lo + (i - lo) = i by omega, List.getElem?_eq_getElem (by omega)] at this
    simpa using this
  · intro e
    apply List.ext_getElem
    · simp; omega
    · intro j h1 h2
      simp only [List.getElem_take, List.getElem_drop, List.getElem_replicate]
      simp at h2
      exact e (lo + j) (by omega) (by omega)
end Go.Proofs.Ytncjfljmnkfghaa

namespace Go.Proofs.Ytncjfljmnkfghaa

/-- A record that may be (its data's length alone). -/
def mayR (call inode : Int) (tr : Bool) (off : Int) (n : Nat) : Bool :=
  decide (0 ≤ call ∧ call ≤ 1099511627776 ∧ 1 ≤ inode ∧ inode ≤ 32 ∧ 0 ≤ off ∧ off ≤ 256 ∧ n ≤ 64 ∧ off + n ≤ 256 ∧ (tr = true → n = 0))

theorem mayR_iff {call inode off : Int} {tr : Bool} {n : Nat} : mayR call inode tr off n = true ↔
    0 ≤ call ∧ call ≤ 1099511627776 ∧ 1 ≤ inode ∧ inode ≤ 32 ∧ 0 ≤ off ∧ off ≤ 256 ∧ n ≤ 64 ∧ off + n ≤ 256 ∧ (tr = true → n = 0) := by rw [mayR, decide_eq_true_iff]

/-- Numbers of a width, one behind the other. -/
def putsB (bs : List UInt8) (x : Int) (ns : List Int) : List UInt8 := ns.foldl (fun b n => putB b n x) bs

theorem putsB_take (bs : List UInt8) (x : Int) (ns : List Int) (k : Nat) (h : k < ns.length) : putsB bs x (ns.take (k + 1)) = putB (putsB bs x (ns.take k)) ns[k] x := by
  rw [putsB, List.take_succ_eq_append_getElem h, List.foldl_append]
  rfl

theorem putsB_length (bs : List UInt8) (x : Int) (ns : List Int) : (putsB bs x ns).length ≤ bs.length + 8 * ns.length := by
  induction ns generalizing bs with
  | nil => simp [putsB]
  | cons n ns ih =>
    have h := ih (putB bs n x)
    have h2 := putB_length bs n x
    rw [putsB, List.foldl_cons]
    rw [putsB] at h
    simp only [List.length_cons]
    omega

/-- Numbers that fit, one behind the other. -/
def putsF (bs : List UInt8) (x : Nat) (ns : List Int) : List UInt8 := bs ++ (ns.map fun n => leB n.toNat x).flatten
theorem putsF_take (bs : List UInt8) (x : Nat) (ns : List Int) (k : Nat) (h : k < ns.length) : putsF bs x (ns.take (k + 1)) = putsF bs x (ns.take k) ++ leB ns[k].toNat x := by
  rw [putsF, putsF, List.take_succ_eq_append_getElem h, List.map_append, List.flatten_append, List.append_assoc]
  simp
theorem putsF_length (bs : List UInt8) (x : Nat) (ns : List Int) : (putsF bs x ns).length = bs.length + x * ns.length := by
  unfold putsF
  induction ns with
  | nil => simp
  | cons n ns ih =>
    rw [List.map_cons, List.flatten_cons, List.length_append, List.length_append, leB_length, List.length_cons, Nat.mul_add]
    rw [List.length_append] at ih
    omega

theorem putB_fits {bs : List UInt8} {n x : Int} (h : fitsB n x = true) : putB bs n x = bs ++ leB n.toNat x.toNat := by simp [putB, h]

/-- The 13 bytes ahead of a record's data. -/
def headB (call inode : Int) (tr : Bool) (off : Int) (n : Nat) : List UInt8 :=
  leB call.toNat 8 ++ leB inode.toNat 1 ++ leB (if tr then 1 else 0) 1 ++ leB off.toNat 2 ++ leB n 1

theorem headB_length (call inode : Int) (tr : Bool) (off : Int) (n : Nat) : (headB call inode tr off n).length = 13 := by simp [headB, leB_length]

/-- How many noughts fill bytes up to a multiple of eight. -/
def fillN (n : Nat) : Nat := (8 - n % 8) % 8

/-- A record's bytes. -/
def encB (call inode : Int) (tr : Bool) (off : Int) (s : List UInt8) : List UInt8 :=
  headB call inode tr off s.length ++ s ++ leB (crcN (headB call inode tr off s.length ++ s)) 4 ++ List.replicate (fillN (17 + s.length)) 0

end Go.Proofs.Ytncjfljmnkfghaa
