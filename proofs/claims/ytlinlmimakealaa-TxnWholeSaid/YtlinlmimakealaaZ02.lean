/- The check sum as a function of bytes, its bits one by one, that it is linear, and that a burst of 32 bits turns it. No program in sight. Numbers within bytes, and sums behind bytes: plain words. A record's bytes, by their parts: plain words. Patches as bytes, and the records of a log: plain words. No statement of the seat is proved here. -/
import Derived.Test.YtlinlmimakealaaZ01
namespace Go.Proofs.Ytlinlmimakealaa

def crcPoly : Nat := 3988292384
/-- One step of the register. -/
def crc1 (x : Nat) : Nat := if x % 2 = 1 then (x / 2) ^^^ crcPoly else x / 2
def crcI (x : Nat) : Nat → Nat
  | 0 => x
  | k + 1 => crc1 (crcI x k)
/-- A byte is taken in. -/
def crcByte (r : Nat) (c : UInt8) : Nat := crcI (r ^^^ c.toNat) 8
def crcMore (r : Nat) (bs : List UInt8) : Nat := bs.foldl crcByte r
/-- The sum of bytes. -/
def crcN (bs : List UInt8) : Nat := 4294967295 - crcMore 4294967295 bs

theorem crcPoly_lt : crcPoly < 2 ^ 32 := by decide
theorem crc1_lt {x : Nat} (h : x < 2 ^ 32) : crc1 x < 2 ^ 32 := by
  unfold crc1
  split
  · exact Nat.xor_lt_two_pow (by omega) crcPoly_lt
  · omega
theorem crcI_lt {x : Nat} (h : x < 2 ^ 32) (k : Nat) : crcI x k < 2 ^ 32 := by
  induction k with
  | zero => exact h
  | succ k ih => exact crc1_lt ih
theorem crcByte_lt {r : Nat} (h : r < 2 ^ 32) (c : UInt8) : crcByte r c < 2 ^ 32 := by
  have := c.toNat_lt
  exact crcI_lt (Nat.xor_lt_two_pow h (by omega)) 8
theorem crcMore_lt {r : Nat} (h : r < 2 ^ 32) (bs : List UInt8) : crcMore r bs < 2 ^ 32 := by
  induction bs generalizing r with
  | nil => exact h
  | cons c t ih => exact ih (crcByte_lt h c)
theorem crcMore_append (r : Nat) (a b : List UInt8) : crcMore r (a ++ b) = crcMore (crcMore r a) b := by simp [crcMore]
theorem crcMore_snoc (r : Nat) (a : List UInt8) (c : UInt8) : crcMore r (a ++ [c]) = crcByte (crcMore r a) c := by simp [crcMore]
theorem crcN_lt (bs : List UInt8) : crcN bs < 4294967296 := by unfold crcN; omega

theorem xor_ones {r : Nat} (h : r < 2 ^ 32) : r ^^^ 4294967295 = 4294967295 - r := by
  have e : (BitVec.ofNat 32 r ^^^ BitVec.allOnes 32).toNat = r ^^^ 4294967295 := by
    rw [BitVec.toNat_xor, BitVec.toNat_ofNat, Nat.mod_eq_of_lt h]
    rfl
  rw [← e, BitVec.xor_allOnes, BitVec.toNat_not, BitVec.toNat_ofNat, Nat.mod_eq_of_lt h]

theorem xor_mod2 (a b : Nat) : (a ^^^ b) % 2 = (a % 2 + b % 2) % 2 := by
  have h := @Nat.xor_mod_two_eq_one a b
  generalize a ^^^ b = z at h ⊢
  omega
theorem xor_eq_zero' {x y : Nat} (h : x ^^^ y = 0) : x = y := by
  have : x ^^^ y ^^^ y = 0 ^^^ y := by rw [h]
  rwa [Nat.xor_assoc, Nat.xor_self, Nat.xor_zero, Nat.zero_xor] at this
theorem xor_cancel_right' {x y z : Nat} (h : x ^^^ z = y ^^^ z) : x = y := by
  have : x ^^^ z ^^^ z = y ^^^ z ^^^ z := by rw [h]
  rwa [Nat.xor_assoc, Nat.xor_assoc, Nat.xor_self, Nat.xor_zero, Nat.xor_zero] at this
theorem xor_cancel_left' {x y z : Nat} (h : z ^^^ x = z ^^^ y) : x = y := by
  rw [Nat.xor_comm z, Nat.xor_comm z] at h
  exact xor_cancel_right' h
theorem xor_div2 (a b : Nat) : (a ^^^ b) / 2 = (a / 2) ^^^ (b / 2) := Nat.xor_div_two

/-- The step is linear. -/
theorem crc1_xor (x y : Nat) : crc1 (x ^^^ y) = crc1 x ^^^ crc1 y := by
  unfold crc1
  rw [xor_mod2, xor_div2]
  have hx : x % 2 = 0 ∨ x % 2 = 1 := by omega
  have hy : y % 2 = 0 ∨ y % 2 = 1 := by omega
  rcases hx with hx | hx <;> rcases hy with hy | hy <;> simp only [hx, hy]
  · simp
  · simp [Nat.xor_assoc]
  · simp only [↓reduceIte, if_neg (show ¬ (0 : Nat) = 1 by omega)]
    rw [Nat.xor_assoc, Nat.xor_assoc, Nat.xor_comm (y / 2)]
  · simp only [Nat.reduceAdd, Nat.reduceMod, ↓reduceIte, if_neg (show ¬ (0 : Nat) = 1 by omega)]
    rw [Nat.xor_assoc, ← Nat.xor_assoc crcPoly, Nat.xor_comm crcPoly (y / 2), Nat.xor_assoc (y / 2), Nat.xor_self, Nat.xor_zero]
theorem crcI_xor (x y k : Nat) : crcI (x ^^^ y) k = crcI x k ^^^ crcI y k := by
  induction k with
  | zero => rfl
  | succ k ih => rw [crcI, ih, crc1_xor, crcI, crcI]
theorem crc1_zero {x : Nat} (h : x < 2 ^ 32) (h0 : crc1 x = 0) : x = 0 := by
  unfold crc1 at h0
  split at h0
  · have := xor_eq_zero' h0
    unfold crcPoly at this
    omega
  · omega
theorem crcI_zero {x : Nat} (h : x < 2 ^ 32) (k : Nat) (h0 : crcI x k = 0) : x = 0 := by
  induction k with
  | zero => exact h0
  | succ k ih => exact ih (crc1_zero (crcI_lt h k) h0)
theorem crcI_inj {x y : Nat} (hx : x < 2 ^ 32) (hy : y < 2 ^ 32) (k : Nat) (h : crcI x k = crcI y k) : x = y := by
  have := crcI_zero (Nat.xor_lt_two_pow hx hy) k (by rw [crcI_xor, h, Nat.xor_self])
  exact xor_eq_zero' this
theorem crcByte_inj {r s : Nat} (hr : r < 2 ^ 32) (hs : s < 2 ^ 32) (c : UInt8) (h : crcByte r c = crcByte s c) : r = s := by
  have hc := c.toNat_lt
  have := crcI_inj (Nat.xor_lt_two_pow hr (by omega)) (Nat.xor_lt_two_pow hs (by omega)) 8 h
  exact xor_cancel_right' this
theorem crcMore_inj {r s : Nat} (hr : r < 2 ^ 32) (hs : s < 2 ^ 32) (bs : List UInt8) (h : crcMore r bs = crcMore s bs) : r = s := by
  induction bs generalizing r s with
  | nil => exact h
  | cons c t ih => exact crcByte_inj hr hs c (ih (crcByte_lt hr c) (crcByte_lt hs c) h)
/-- One byte turned turns the sum. -/
theorem crcN_turned (a b : List UInt8) (c d : UInt8) (h : crcN (a ++ c :: b) = crcN (a ++ d :: b)) : c = d := by
  have h1 := crcMore_lt (r := 4294967295) (by omega) (a ++ c :: b)
  have h2 := crcMore_lt (r := 4294967295) (by omega) (a ++ d :: b)
  unfold crcN at h
  have h3 : crcMore 4294967295 (a ++ c :: b) = crcMore 4294967295 (a ++ d :: b) := by omega
  rw [crcMore_append, crcMore_append] at h3
  have hm := crcMore_lt (r := 4294967295) (by omega) a
  have h4 := crcMore_inj (crcByte_lt hm c) (crcByte_lt hm d) b h3
  have hc := c.toNat_lt
  have hd := d.toNat_lt
  have h5 := crcI_inj (Nat.xor_lt_two_pow hm (by omega)) (Nat.xor_lt_two_pow hm (by omega)) 8 h4
  exact UInt8.toNat_inj.1 (xor_cancel_left' h5)

/-! ### bit by bit -/
/-- A bit is taken in. -/
def crcBit (r m : Nat) : Nat := if r % 2 ≠ m then (r / 2) ^^^ crcPoly else r / 2
theorem crcBit_eq (r m : Nat) (h : m < 2) : crcBit r m = crc1 (r ^^^ m) := by
  unfold crcBit crc1
  rw [xor_mod2, xor_div2]
  have hm : m = 0 ∨ m = 1 := by omega
  have hr : r % 2 = 0 ∨ r % 2 = 1 := by omega
  rcases hm with rfl | rfl <;> rcases hr with hr | hr <;> simp [hr]
/-- k bits of a number, the lowest first. -/
def crcBits (r c : Nat) : Nat → Nat
  | 0 => r
  | k + 1 => crcBit (crcBits r c k) (c / 2 ^ k % 2)
theorem crcBits_eq (r c k : Nat) : crcI (r ^^^ c) k = crcBits r c k ^^^ (c / 2 ^ k) := by
  induction k with
  | zero => simp [crcI, crcBits]
  | succ k ih =>
    rw [crcI, ih, crcBits, crcBit_eq _ _ (Nat.mod_lt _ (by omega))]
    have hd : c / 2 ^ (k + 1) = c / 2 ^ k / 2 := by rw [Nat.pow_succ, Nat.div_div_eq_div_mul]
    rw [hd]
    obtain ⟨q, hq⟩ : ∃ q, q = c / 2 ^ k := ⟨_, rfl⟩
    rw [← hq]
    have e : q = (q % 2) ^^^ (2 * (q / 2)) := by
      have h1 : q % 2 = 0 ∨ q % 2 = 1 := by omega
      apply Nat.eq_of_testBit_eq
      intro i
      rw [Nat.testBit_xor]
      cases i with
      | zero => simp
      | succ i => rw [Nat.testBit_succ, Nat.testBit_succ, Nat.testBit_succ, show q % 2 / 2 = 0 by omega, show 2 * (q / 2) / 2 = q / 2 by omega]; simp
    have e2 : crc1 (2 * (q / 2)) = q / 2 := by unfold crc1; rw [if_neg (by omega)]; omega
    conv => lhs; rw [e]
    rw [← Nat.xor_assoc, crc1_xor, e2]
theorem crcByte_bits (r : Nat) (c : UInt8) : crcByte r c = crcBits r c.toNat 8 := by
  have := c.toNat_lt
  rw [crcByte, crcBits_eq, show c.toNat / 2 ^ 8 = 0 by omega, Nat.xor_zero]
theorem crcBits_lt {r : Nat} (h : r < 2 ^ 32) (c k : Nat) : crcBits r c k < 2 ^ 32 := by
  induction k with
  | zero => exact h
  | succ k ih =>
    rw [crcBits, crcBit_eq _ _ (Nat.mod_lt _ (by omega))]
    exact crc1_lt (Nat.xor_lt_two_pow ih (by omega))
theorem crcBits_xor (r s c d k : Nat) : crcBits (r ^^^ s) (c ^^^ d) k = crcBits r c k ^^^ crcBits s d k := by
  induction k with
  | zero => rfl
  | succ k ih =>
    rw [crcBits, crcBits, crcBits, crcBit_eq _ _ (Nat.mod_lt _ (by omega)), crcBit_eq _ _ (Nat.mod_lt _ (by omega)), crcBit_eq _ _ (Nat.mod_lt _ (by omega)), ih, ← crc1_xor]
    congr 1
    have e : (c ^^^ d) / 2 ^ k % 2 = (c / 2 ^ k % 2) ^^^ (d / 2 ^ k % 2) := by
      apply Nat.eq_of_testBit_eq
      intro i
      rw [Nat.testBit_xor]
      cases i with
      | zero => simp [Nat.testBit_zero, ← Nat.testBit_eq_decide_div_mod_eq]
      | succ i =>
        rw [Nat.testBit_succ, Nat.testBit_succ, Nat.testBit_succ, show (c ^^^ d) / 2 ^ k % 2 / 2 = 0 by omega, show c / 2 ^ k % 2 / 2 = 0 by omega, show d / 2 ^ k % 2 / 2 = 0 by omega]
        simp
    rw [e, Nat.xor_assoc, Nat.xor_assoc]
    congr 1
    rw [← Nat.xor_assoc, Nat.xor_comm (crcBits s d k), Nat.xor_assoc]
end Go.Proofs.Ytlinlmimakealaa

namespace Go.Proofs.Ytlinlmimakealaa

theorem cut_next {α : Type} (c : List α) (a k : Nat) : c.drop a = (c.drop a).take k ++ c.drop (a + k) := by
  rw [← List.drop_drop]
  exact (List.take_append_drop k _).symm

/-- A number within bytes. -/
theorem get_mid {bs p q : List UInt8} {n : Int} {a wd : Nat} (hb : bs = p ++ (leB n.toNat wd ++ q)) (hp : p.length = a) (h : fitsB n wd = true) (h1 : n ≤ 9223372036854775807) : getN bs a wd = n ∧ getK bs a wd = true := by
  have hw := fits_width h
  have hpw := fits_pow h h1
  have h0 := fits_nat h
  subst hb hp
  have := get_small (bs := p ++ (leB n.toNat wd ++ q)) (a := p.length) (k := wd) (m := n.toNat) (by simp [isW]; omega) (by simp [leB_length])
    (by rw [List.drop_left, List.take_left' (leB_length _ _), leVal_leB, Nat.mod_eq_of_lt hpw]) (by omega)
  refine ⟨?_, this.2⟩
  rw [this.1]
  omega

theorem getO_congr {b c : List UInt8} {a wd : Nat} (hb : a + wd ≤ b.length) (hc : a + wd ≤ c.length) (h : (b.drop a).take wd = (c.drop a).take wd) : getO b a wd = getO c a wd := by
  unfold getO
  simp only [Int.toNat_natCast]
  rw [h]
  by_cases hw : isW (wd : Int) = true
  · have c1 : isW (wd : Int) = true ∧ 0 ≤ (a : Int) ∧ (a : Int) + wd ≤ b.length := ⟨hw, by omega, by omega⟩
    have c2 : isW (wd : Int) = true ∧ 0 ≤ (a : Int) ∧ (a : Int) + wd ≤ c.length := ⟨hw, by omega, by omega⟩
    rw [if_pos c1, if_pos c2]
  · have c1 : ¬ (isW (wd : Int) = true ∧ 0 ≤ (a : Int) ∧ (a : Int) + wd ≤ b.length) := fun h => hw h.1
    have c2 : ¬ (isW (wd : Int) = true ∧ 0 ≤ (a : Int) ∧ (a : Int) + wd ≤ c.length) := fun h => hw h.1
    rw [if_neg c1, if_neg c2]
theorem getO_take {b : List UInt8} {a wd m : Nat} (h : a + wd ≤ m) (hb : m ≤ b.length) : getO (b.take m) a wd = getO b a wd := by
  refine getO_congr (by simp; omega) (by omega) ?_
  rw [List.drop_take, List.take_take, Nat.min_eq_left (by omega)]
theorem getN_take {b : List UInt8} {a wd m : Nat} (h : a + wd ≤ m) (hb : m ≤ b.length) : getN (b.take m) a wd = getN b a wd := by unfold getN; rw [getO_take h hb]
theorem getK_take {b : List UInt8} {a wd m : Nat} (h : a + wd ≤ m) (hb : m ≤ b.length) : getK (b.take m) a wd = getK b a wd := by unfold getK; rw [getO_take h hb]

/-- A number of 4 bytes or fewer is always one. -/
theorem getK_small {b : List UInt8} {a wd : Nat} (hw : wd = 1 ∨ wd = 2 ∨ wd = 4) (h : a + wd ≤ b.length) : getK b a wd = true := by
  have hlt := leVal_lt ((b.drop a).take wd)
  rw [List.length_take, List.length_drop, Nat.min_eq_left (by omega)] at hlt
  refine (get_small (bs := b) (a := a) (k := wd) (by simp [isW]; omega) (by omega) rfl ?_).2
  rcases hw with rfl | rfl | rfl <;> simp at hlt <;> omega
theorem getK_range {b : List UInt8} {a wd : Nat} (h : getK b a wd = true) : a + wd ≤ b.length := by
  obtain ⟨a', wd', e1, e2, -, -, h3, -⟩ := put_get h
  omega
/-- The bytes of a number that is got. -/
theorem get_piece {b : List UInt8} {a wd : Nat} (h : getK b a wd = true) : (b.drop a).take wd = leB (getN b a wd).toNat wd := by
  obtain ⟨a', wd', e1, e2, -, -, -, -, h3, -⟩ := put_get h
  obtain rfl : a = a' := by omega
  obtain rfl : wd = wd' := by omega
  exact h3.symm
theorem get_range {b : List UInt8} {a wd : Nat} (h : getK b a wd = true) : fitsB (getN b a wd) wd = true ∧ 0 ≤ getN b a wd ∧ getN b a wd ≤ 9223372036854775807 := by
  obtain ⟨a', wd', e1, e2, -, -, -, h2, -, h4, h5⟩ := put_get h
  exact ⟨h2, h4, h5⟩
theorem get_any (b : List UInt8) (a wd : Int) : 0 ≤ getN b a wd ∧ getN b a wd ≤ 9223372036854775807 := by
  cases h : getK b a wd with
  | true => obtain ⟨a', wd', e1, e2, -, -, -, h2, -, h4, h5⟩ := put_get h; exact ⟨h4, h5⟩
  | false => rw [get_no h]; omega
theorem get_byte {b : List UInt8} {a : Nat} (h : a < b.length) : getN b a 1 = (b[a].toNat : Int) := by
  have e : (b.drop a).take 1 = [b[a]] := by
    rw [List.drop_eq_getElem_cons h]; rfl
  have := (get_small (bs := b) (a := a) (k := 1) (m := b[a].toNat) (by decide) (by omega) (by rw [e]; simp [leVal]) (by have := b[a].toNat_lt; omega)).1
  simpa using this
theorem get_lt {b : List UInt8} {a wd : Nat} (hw : wd = 1 ∨ wd = 2 ∨ wd = 4) : getN b a wd < 256 ^ wd := by
  cases h : getK b a wd with
  | true =>
    have := (get_range h).1
    obtain ⟨z, hz⟩ : ∃ z, z = getN b a wd := ⟨_, rfl⟩
    rw [← hz] at this ⊢
    simp only [fitsB, decide_eq_true_eq] at this
    rcases hw with rfl | rfl | rfl <;> simp <;> omega
  | false => rw [get_no h]; rcases hw with rfl | rfl | rfl <;> simp

/-- Bytes and their sum behind them. -/
def sumB (p : List UInt8) : List UInt8 := p ++ leB (crcN p) 4
theorem sumB_length (p : List UInt8) : (sumB p).length = p.length + 4 := by simp [sumB, leB_length]
theorem fits_crc (p : List UInt8) : fitsB ((crcN p : Nat) : Int) 4 = true := by
  have := crcN_lt p
  simp [fitsB]; omega
theorem sumB_get (p q : List UInt8) : getN (sumB p ++ q) p.length 4 = (crcN p : Nat) := by
  have := crcN_lt p
  refine (get_mid (p := p) (q := q) (n := ((crcN p : Nat) : Int)) (wd := 4) ?_ rfl (fits_crc p) (by omega)).1
  simp [sumB]
theorem sumB_get' (p : List UInt8) : getN (sumB p) p.length 4 = (crcN p : Nat) := by simpa using sumB_get p []
theorem sumB_take (p q : List UInt8) : (sumB p ++ q).take p.length = p := by simp [sumB]
/-- Bytes whose sum is right are a sealed text. -/
theorem sum_right {b : List UInt8} {m : Nat} (h : m + 4 ≤ b.length) (hs : getN b m 4 = (crcN (b.take m) : Nat)) : b.take (m + 4) = sumB (b.take m) := by
  have hp := get_piece (getK_small (b := b) (a := m) (wd := 4) (.inr (.inr rfl)) h)
  rw [sumB, List.take_add, hp, show getN b m ((4 : Nat) : Int) = getN b m 4 from rfl, hs]
  simp

theorem set_split {α : Type} {l : List α} {k : Nat} (h : k < l.length) (x : α) : l.set k x = l.take k ++ x :: l.drop (k + 1) := List.set_eq_take_append_cons_drop.trans (by rw [if_pos h])
theorem leVal_inj {a b : List UInt8} (hl : a.length = b.length) (h : leVal a = leVal b) : a = b := by rw [← leB_leVal a, ← leB_leVal b, h, hl]
theorem crcN_set {p : List UInt8} {k : Nat} (h : k < p.length) {x : UInt8} (hx : x ≠ p[k]) : crcN (p.set k x) ≠ crcN p := by
  intro e
  have hp : p = p.take k ++ p[k] :: p.drop (k + 1) := by
    rw [← List.drop_eq_getElem_cons h, List.take_append_drop]
  rw [set_split h] at e
  have e2 : crcN (p.take k ++ x :: p.drop (k + 1)) = crcN (p.take k ++ p[k] :: p.drop (k + 1)) := by rw [← hp]; exact e
  exact hx (crcN_turned _ _ _ _ e2)
/-- A sealed text of which one byte is turned has no right sum. -/
theorem sum_turned {p : List UInt8} {k : Nat} (hk : k < (sumB p).length) {x : UInt8} (hx : x ≠ (sumB p)[k]) :
    getN ((sumB p).set k x) p.length 4 ≠ (crcN (((sumB p).set k x).take p.length) : Nat) := by
  intro e
  have hlen : ((sumB p).set k x).length = p.length + 4 := by rw [List.length_set, sumB_length]
  have hpc := get_piece (getK_small (b := (sumB p).set k x) (a := p.length) (wd := 4) (.inr (.inr rfl)) (by omega))
  rw [show getN ((sumB p).set k x) p.length ((4 : Nat) : Int) = getN ((sumB p).set k x) p.length 4 from rfl, e] at hpc
  by_cases h : k < p.length
  · have e1 : ((sumB p).set k x).take p.length = p.set k x := by
      rw [sumB, List.set_append_left _ _ h, List.take_left' (by simp)]
    have e2 : (((sumB p).set k x).drop p.length).take 4 = leB (crcN p) 4 := by
      rw [sumB, List.set_append_left _ _ h, List.drop_left' (by simp), List.take_of_length_le (by simp [leB_length])]
    rw [e1, e2] at hpc
    have h1 := crcN_lt p
    have h2 := crcN_lt (p.set k x)
    have := (leB_inj (n := ((crcN p : Nat) : Int)) (m := ((crcN (p.set k x) : Nat) : Int)) (wd := 4) (fits_crc _) (fits_crc _) (by omega) (by omega)).1 (by simpa using hpc)
    refine crcN_set h (x := x) ?_ (by omega)
    intro e3
    exact hx (by rw [e3]; simp [sumB, h])
  · have e1 : ((sumB p).set k x).take p.length = p := by
      rw [sumB, List.set_append_right _ _ (by omega), List.take_left]
    have e2 : (((sumB p).set k x).drop p.length).take 4 = (leB (crcN p) 4).set (k - p.length) x := by
      rw [sumB, List.set_append_right _ _ (by omega), List.drop_left, List.take_of_length_le (by simp [leB_length])]
    rw [e1, e2] at hpc
    rw [sumB_length] at hk
    have h4 : k - p.length < (leB (crcN p) 4).length := by rw [leB_length]; omega
    have := congrArg (fun l => l[k - p.length]?) hpc
    simp only [List.getElem?_set, h4, if_true, Int.toNat_natCast, List.getElem?_eq_getElem h4, Option.some.injEq] at this
    apply hx
    rw [this]
    simp only [sumB]
    rw [List.getElem_append_right (by omega)]
theorem xor_ne {a b : UInt8} (h : b ≠ 0) : a ^^^ b ≠ a := by
  intro e
  apply h
  have : a ^^^ (a ^^^ b) = a ^^^ a := by rw [e]
  rwa [← UInt8.xor_assoc, UInt8.xor_self, UInt8.zero_xor] at this

/-- Noughts within bytes. -/
def zerosB (b : List UInt8) (lo hi : Nat) : Bool := decide ((b.drop lo).take (hi - lo) = List.replicate (hi - lo) 0)
theorem zeros_iff {b : List UInt8} {lo hi : Nat} (h : hi ≤ b.length) : zerosB b lo hi = true ↔ ∀ i, lo ≤ i → (hi' : i < hi) → b[i] = 0 := by
  rw [zerosB, decide_eq_true_iff]
  constructor
  · intro e i h1 h2
    have := congrArg (fun l => l[i - lo]?) e
    simp only [List.getElem?_take, List.getElem?_drop, List.getElem?_replicate] at this
    rw [if_pos (by omega), if_pos (by omega), show lo + (i - lo) = i by omega, List.getElem?_eq_getElem (by omega)] at this
    simpa using this
  · intro e
    apply List.ext_getElem
    · simp; omega
    · intro j h1 h2
      simp only [List.getElem_take, List.getElem_drop, List.getElem_replicate]
      simp at h2
      exact e (lo + j) (by omega) (by omega)
end Go.Proofs.Ytlinlmimakealaa

namespace Go.Proofs.Ytlinlmimakealaa

/-- A record that may be (its data's length alone). -/
def mayR (call inode : Int) (tr : Bool) (off : Int) (n : Nat) : Bool :=
  decide (0 ≤ call ∧ call ≤ 1099511627776 ∧ 1 ≤ inode ∧ inode ≤ 32 ∧ 0 ≤ off ∧ off ≤ 256 ∧ n ≤ 64 ∧ off + n ≤ 256 ∧ (tr = true → n = 0))

theorem mayR_iff {call inode off : Int} {tr : Bool} {n : Nat} : mayR call inode tr off n = true ↔
    0 ≤ call ∧ call ≤ 1099511627776 ∧ 1 ≤ inode ∧ inode ≤ 32 ∧ 0 ≤ off ∧ off ≤ 256 ∧ n ≤ 64 ∧ off + n ≤ 256 ∧ (tr = true → n = 0) := by rw [mayR, decide_eq_true_iff]

/-- Numbers of a width, one behind the other. -/
def putsB (bs : List UInt8) (x : Int) (ns : List Int) : List UInt8 := ns.foldl (fun b n => putB b n x) bs

theorem putsB_take (bs : List UInt8) (x : Int) (ns : List Int) (k : Nat) (h : k < ns.length) : putsB bs x (ns.take (k + 1)) = putB (putsB bs x (ns.take k)) ns[k] x := by
  rw [putsB, List.take_succ_eq_append_getElem h, List.foldl_append]
  rfl

theorem putsB_length (bs : List UInt8) (x : Int) (ns : List Int) : (putsB bs x ns).length ≤ bs.length + 8 * ns.length := by
  induction ns generalizing bs with
  | nil => simp [putsB]
  | cons n ns ih =>
    have h := ih (putB bs n x)
    have h2 := putB_length bs n x
    rw [putsB, List.foldl_cons]
    rw [putsB] at h
    simp only [List.length_cons]
    omega

/-- Numbers that fit, one behind the other. -/
def putsF (bs : List UInt8) (x : Nat) (ns : List Int) : List UInt8 := bs ++ (ns.map fun n => leB n.toNat x).flatten
theorem putsF_take (bs : List UInt8) (x : Nat) (ns : List Int) (k : Nat) (h : k < ns.length) : putsF bs x (ns.take (k + 1)) = putsF bs x (ns.take k) ++ leB ns[k].toNat x := by
  rw [putsF, putsF, List.take_succ_eq_append_getElem h, List.map_append, List.flatten_append, List.append_assoc]
  simp
theorem putsF_length (bs : List UInt8) (x : Nat) (ns : List Int) : (putsF bs x ns).length = bs.length + x * ns.length := by
  unfold putsF
  induction ns with
  | nil => simp
  | cons n ns ih =>
    rw [List.map_cons, List.flatten_cons, List.length_append, List.length_append, leB_length, List.length_cons, Nat.mul_add]
    rw [List.length_append] at ih
    omega

theorem putB_fits {bs : List UInt8} {n x : Int} (h : fitsB n x = true) : putB bs n x = bs ++ leB n.toNat x.toNat := by simp [putB, h]

/-- The 13 bytes ahead of a record's data. -/
def headB (call inode : Int) (tr : Bool) (off : Int) (n : Nat) : List UInt8 :=
  leB call.toNat 8 ++ leB inode.toNat 1 ++ leB (if tr then 1 else 0) 1 ++ leB off.toNat 2 ++ leB n 1

theorem headB_length (call inode : Int) (tr : Bool) (off : Int) (n : Nat) : (headB call inode tr off n).length = 13 := by simp [headB, leB_length]

/-- How many noughts fill bytes up to a multiple of eight. -/
def fillN (n : Nat) : Nat := (8 - n % 8) % 8

/-- A record's bytes. -/
def encB (call inode : Int) (tr : Bool) (off : Int) (s : List UInt8) : List UInt8 :=
  headB call inode tr off s.length ++ s ++ leB (crcN (headB call inode tr off s.length ++ s)) 4 ++ List.replicate (fillN (17 + s.length)) 0

end Go.Proofs.Ytlinlmimakealaa

namespace Go.Proofs.Ytlinlmimakealaa

structure PT where
  pos : Int
  dat : ByteArray
def PT.txt (p : PT) : List UInt8 := p.dat.data.toList
theorem PT.txt_length (p : PT) : p.txt.length = p.dat.size := by unfold PT.txt; rw [Array.length_toList]; rfl
theorem PT.ext_txt {p q : PT} (h1 : p.pos = q.pos) (h2 : p.txt = q.txt) : p = q := by
  obtain ⟨a, ⟨⟨x⟩⟩⟩ := p
  obtain ⟨b, ⟨⟨y⟩⟩⟩ := q
  simp only [PT.txt] at h1 h2
  subst h1 h2
  rfl
def PT.enc (p : PT) : List UInt8 := leB p.pos.toNat 4 ++ (leB p.dat.size 2 ++ p.txt)
theorem PT.enc_length (p : PT) : p.enc.length = 6 + p.dat.size := by simp [PT.enc, leB_length, PT.txt_length]; omega
def PT.may (p : PT) : Bool := fitsB p.pos 4 && decide (p.dat.size ≤ 256)
theorem PT.may_iff {p : PT} : p.may = true ↔ fitsB p.pos 4 = true ∧ p.dat.size ≤ 256 := by simp [PT.may]
def encF (L : List PT) : List UInt8 := L.flatMap PT.enc
theorem encF_append (a b : List PT) : encF (a ++ b) = encF a ++ encF b := by simp [encF]
theorem encF_cons (a : PT) (b : List PT) : encF (a :: b) = a.enc ++ encF b := rfl
theorem encF_length {L : List PT} (h : L.all PT.may = true) : (encF L).length ≤ 262 * L.length := by
  induction L with
  | nil => simp [encF]
  | cons p L ih =>
    simp only [List.all_cons, Bool.and_eq_true] at h
    have h1 := (PT.may_iff.1 h.1).2
    have h2 := ih h.2
    rw [encF_cons, List.length_append, PT.enc_length, List.length_cons]
    omega
def bodyP (L : List PT) : List UInt8 := leB L.length 2 ++ encF L
def mayP (L : List PT) : Bool := decide (L.length ≤ 64) && L.all PT.may
theorem mayP_iff {L : List PT} : mayP L = true ↔ L.length ≤ 64 ∧ L.all PT.may = true := by simp [mayP]
def encP (L : List PT) : List UInt8 := sumB (bodyP L) ++ List.replicate (fillN (sumB (bodyP L)).length) 0
theorem bodyP_length {L : List PT} : (bodyP L).length = 2 + (encF L).length := by simp [bodyP, leB_length]
theorem encP_length {L : List PT} : (encP L).length = 6 + (encF L).length + fillN (6 + (encF L).length) := by
  have h : (sumB (bodyP L)).length = 6 + (encF L).length := by rw [sumB_length, bodyP_length]; omega
  rw [encP, List.length_append, List.length_replicate, h]
theorem encP_mod (L : List PT) : (encP L).length % 8 = 0 ∧ 8 ≤ (encP L).length := by
  rw [encP_length]; unfold fillN; omega
theorem encP_le {L : List PT} (h : mayP L = true) : (encP L).length ≤ 20000 := by
  obtain ⟨h1, h2⟩ := mayP_iff.1 h
  have := encF_length h2
  rw [encP_length]; unfold fillN; omega

/-! ### reading -/
def ptK (b : List UInt8) (a : Nat) : Nat := (getN b ((a + 4 : Nat) : Int) 2).toNat
def ptAt (b : List UInt8) (a : Nat) : PT := ⟨getN b (a : Int) 4, ⟨((b.drop (a + 6)).take (ptK b a)).toArray⟩⟩
theorem ptAt_txt (b : List UInt8) (a : Nat) : (ptAt b a).txt = (b.drop (a + 6)).take (ptK b a) := rfl
theorem ptAt_size {b : List UInt8} {a : Nat} (h : a + 6 + ptK b a ≤ b.length) : (ptAt b a).dat.size = ptK b a := by
  rw [← PT.txt_length, ptAt_txt, List.length_take, List.length_drop]; omega
def rdE (b : List UInt8) : Nat → Nat → Int
  | 0, _ => 0
  | i + 1, a => if b.length < a + 6 then 3 else if 256 < ptK b a then 2 else if b.length < a + 6 + ptK b a then 3 else rdE b i (a + 6 + ptK b a)
def rdZ (b : List UInt8) : Nat → Nat → Nat
  | 0, a => a
  | i + 1, a => rdZ b i (a + 6 + ptK b a)
def rdL (b : List UInt8) : Nat → Nat → List PT
  | 0, _ => []
  | i + 1, a => ptAt b a :: rdL b i (a + 6 + ptK b a)
theorem rdL_length (b : List UInt8) : ∀ i a, (rdL b i a).length = i
  | 0, _ => rfl
  | i + 1, a => by rw [rdL, List.length_cons, rdL_length]
theorem rdE_step {b : List UInt8} {i a : Nat} (h1 : a + 6 + ptK b a ≤ b.length) (h2 : ptK b a ≤ 256) : rdE b (i + 1) a = rdE b i (a + 6 + ptK b a) := by
  rw [rdE, if_neg (by omega), if_neg (by omega), if_neg (by omega)]
theorem rdE_zero {b : List UInt8} {i a : Nat} (h : rdE b (i + 1) a = 0) : a + 6 + ptK b a ≤ b.length ∧ ptK b a ≤ 256 ∧ rdE b i (a + 6 + ptK b a) = 0 := by
  rw [rdE] at h
  split at h
  · simp at h
  split at h
  · simp at h
  split at h
  · simp at h
  exact ⟨by omega, by omega, h⟩

theorem ptAt_may {b : List UInt8} {a : Nat} (h1 : a + 6 + ptK b a ≤ b.length) (h2 : ptK b a ≤ 256) : (ptAt b a).may = true := by
  refine PT.may_iff.2 ⟨?_, by rw [ptAt_size h1]; exact h2⟩
  exact (get_range (getK_small (b := b) (a := a) (wd := 4) (.inr (.inr rfl)) (by omega))).1
theorem ptAt_enc {b : List UInt8} {a : Nat} (h1 : a + 6 + ptK b a ≤ b.length) : (ptAt b a).enc = (b.drop a).take (6 + ptK b a) := by
  have p1 := get_piece (getK_small (b := b) (a := a) (wd := 4) (.inr (.inr rfl)) (by omega))
  have p2 := get_piece (getK_small (b := b) (a := a + 4) (wd := 2) (.inr (.inl rfl)) (by omega))
  rw [PT.enc, ptAt_size h1, ptAt_txt, show 6 + ptK b a = 4 + (2 + ptK b a) by omega, List.take_add, List.drop_drop, List.take_add (l := b.drop (a + 4)), List.drop_drop, p1, p2]
  rfl

theorem rd_can {b : List UInt8} : ∀ (i a : Nat), rdE b i a = 0 → a ≤ b.length → (rdL b i a).all PT.may = true ∧ a ≤ rdZ b i a ∧ rdZ b i a ≤ b.length ∧ (b.drop a).take (rdZ b i a - a) = encF (rdL b i a)
  | 0, a, _, ha => by simp [rdL, rdZ, encF, ha]
  | i + 1, a, h, ha => by
    obtain ⟨h1, h2, h3⟩ := rdE_zero h
    obtain ⟨q1, q2, q3, q4⟩ := rd_can i _ h3 h1
    rw [rdL, rdZ]
    refine ⟨?_, by omega, q3, ?_⟩
    · rw [List.all_cons, ptAt_may h1 h2, q1]; rfl
    · rw [encF_cons, ptAt_enc h1, ← q4, show rdZ b i (a + 6 + ptK b a) - a = (6 + ptK b a) + (rdZ b i (a + 6 + ptK b a) - (a + 6 + ptK b a)) by omega, List.take_add, List.drop_drop, show a + (6 + ptK b a) = a + 6 + ptK b a by omega]

theorem enc_at {b p q : List UInt8} {x : PT} (hb : b = p ++ (x.enc ++ q)) (hx : x.may = true) : ptK b p.length = x.dat.size ∧ ptAt b p.length = x := by
  obtain ⟨h1, h2⟩ := PT.may_iff.1 hx
  have h0 := fits_nat h1
  have hf : x.pos ≤ 9223372036854775807 := by
    simp only [fitsB, decide_eq_true_eq] at h1; omega
  have g1 := get_mid (bs := b) (p := p) (q := leB x.dat.size 2 ++ x.txt ++ q) (n := x.pos) (a := p.length) (wd := 4) (by rw [hb, PT.enc]; simp) rfl h1 hf
  have g2 := get_mid (bs := b) (p := p ++ leB x.pos.toNat 4) (q := x.txt ++ q) (n := (x.dat.size : Int)) (a := p.length + 4) (wd := 2) (by rw [hb, PT.enc]; simp) (by simp [leB_length]) (by simp [fitsB]; omega) (by omega)
  have hk : ptK b p.length = x.dat.size := by rw [ptK, show ((2 : Int)) = ((2 : Nat) : Int) from rfl, g2.1]; omega
  refine ⟨hk, PT.ext_txt g1.1 ?_⟩
  rw [ptAt_txt, hk, hb, PT.enc, show p.length + 6 = p.length + 6 from rfl]
  rw [show p ++ (leB x.pos.toNat 4 ++ (leB x.dat.size 2 ++ x.txt) ++ q) = (p ++ leB x.pos.toNat 4 ++ leB x.dat.size 2) ++ (x.txt ++ q) by simp, List.drop_left' (by simp [leB_length]), List.take_left' (PT.txt_length x)]

theorem rd_enc : ∀ (L : List PT) (p q : List UInt8), L.all PT.may = true → rdE (p ++ (encF L ++ q)) L.length p.length = 0 ∧ rdL (p ++ (encF L ++ q)) L.length p.length = L ∧ rdZ (p ++ (encF L ++ q)) L.length p.length = p.length + (encF L).length
  | [], p, q, _ => by simp [rdE, rdL, rdZ, encF]
  | x :: L, p, q, h => by
    simp only [List.all_cons, Bool.and_eq_true] at h
    have hb : p ++ (encF (x :: L) ++ q) = p ++ (x.enc ++ (encF L ++ q)) := by rw [encF_cons, List.append_assoc]
    have hb2 : p ++ (encF (x :: L) ++ q) = (p ++ x.enc) ++ (encF L ++ q) := by rw [hb]; simp
    obtain ⟨e1, e2⟩ := enc_at hb h.1
    obtain ⟨q1, q2, q3⟩ := rd_enc L (p ++ x.enc) q h.2
    have hl : (p ++ x.enc).length = p.length + 6 + x.dat.size := by rw [List.length_append, PT.enc_length]; omega
    have hle : p.length + 6 + ptK (p ++ (encF (x :: L) ++ q)) p.length ≤ (p ++ (encF (x :: L) ++ q)).length := by
      rw [e1, hb2, List.length_append, hl]; omega
    rw [← hb2, hl] at q1 q2 q3
    refine ⟨?_, ?_, ?_⟩
    · rw [List.length_cons, rdE_step hle (by rw [e1]; exact (PT.may_iff.1 h.1).2), e1, q1]
    · rw [List.length_cons, rdL, e1, e2, q2]
    · rw [List.length_cons, rdZ, e1, q3, encF_cons, List.length_append, PT.enc_length]; omega

/-! ### a record -/
def dpN (b : List UInt8) : Nat := (getN b 0 2).toNat
def dpZ (b : List UInt8) : Nat := rdZ b (dpN b) 2
def dpF (b : List UInt8) : Nat := dpZ b + 4 + fillN (dpZ b + 4)
def dpE (b : List UInt8) : Int :=
  if b.length < 2 then 3 else if 64 < dpN b then 2 else if rdE b (dpN b) 2 ≠ 0 then rdE b (dpN b) 2 else if b.length < dpZ b + 4 then 3
  else if getN b (dpZ b : Int) 4 ≠ (crcN (b.take (dpZ b)) : Nat) then 4 else if b.length < dpF b then 3 else if zerosB b (dpZ b + 4) (dpF b) = true then 0 else 2
def dpL (b : List UInt8) : List PT := if dpE b = 0 then rdL b (dpN b) 2 else []
def dpU (b : List UInt8) : Nat := if dpE b = 0 then dpF b else 0
theorem dpN_lt (b : List UInt8) : dpN b < 65536 := by
  have := get_lt (b := b) (a := 0) (wd := 2) (.inr (.inl rfl))
  have h := (get_any b 0 2).1
  unfold dpN
  have h3 : getN b ((0 : Nat) : Int) ((2 : Nat) : Int) = getN b 0 2 := rfl
  rw [h3] at this
  omega
theorem ptK_lt (b : List UInt8) (a : Nat) : ptK b a < 65536 := by
  have := get_lt (b := b) (a := a + 4) (wd := 2) (.inr (.inl rfl))
  have h := (get_any b ((a + 4 : Nat) : Int) 2).1
  unfold ptK
  have h3 : getN b ((a + 4 : Nat) : Int) ((2 : Nat) : Int) = getN b ((a + 4 : Nat) : Int) 2 := rfl
  rw [h3] at this
  omega

theorem dp_zero {b : List UInt8} (h : dpE b = 0) : 2 ≤ b.length ∧ dpN b ≤ 64 ∧ rdE b (dpN b) 2 = 0 ∧ dpZ b + 4 ≤ b.length ∧ getN b (dpZ b : Int) 4 = (crcN (b.take (dpZ b)) : Nat) ∧ dpF b ≤ b.length ∧ zerosB b (dpZ b + 4) (dpF b) = true := by
  rw [dpE] at h
  split at h
  · simp at h
  split at h
  · simp at h
  split at h
  · rename_i q; exact absurd h q
  split at h
  · simp at h
  split at h
  · simp at h
  split at h
  · simp at h
  split at h
  · rename_i a1 a2 a3 a4 a5 a6 a7
    exact ⟨by omega, by omega, Decidable.byContradiction a3, by omega, Decidable.byContradiction a5, by omega, a7⟩
  · simp at h

/-- Bytes that are a record are just the bytes of its patches. -/
theorem dp_can {b : List UInt8} (h : dpE b = 0) : mayP (dpL b) = true ∧ b.take (dpU b) = encP (dpL b) ∧ dpU b = (encP (dpL b)).length ∧ dpU b ≤ b.length := by
  obtain ⟨h1, h2, h3, h4, h5, h6, h7⟩ := dp_zero h
  obtain ⟨q1, q2, q3, q4⟩ := rd_can (dpN b) 2 h3 h1
  have hL : dpL b = rdL b (dpN b) 2 := by rw [dpL, if_pos h]
  have hU : dpU b = dpF b := by rw [dpU, if_pos h]
  have hlen : (dpL b).length = dpN b := by rw [hL, rdL_length]
  have hz : b.take (dpZ b) = bodyP (dpL b) := by
    have p := get_piece (getK_small (b := b) (a := 0) (wd := 2) (.inr (.inl rfl)) (by omega))
    rw [bodyP, hlen, hL, ← q4, show dpZ b = 2 + (rdZ b (dpN b) 2 - 2) by unfold dpZ; omega, List.take_add]
    rw [List.drop_zero] at p
    rw [p]
    rfl
  have hs := sum_right h4 h5
  have hlz : (bodyP (dpL b)).length = dpZ b := by rw [← hz, List.length_take]; omega
  have hls : (sumB (bodyP (dpL b))).length = dpZ b + 4 := by rw [sumB_length, hlz]
  have e : b.take (dpU b) = encP (dpL b) := by
    rw [hU, dpF, List.take_add, hs, hz, encP, hls]
    congr 1
    have := h7
    rw [zerosB, decide_eq_true_iff, dpF, show dpZ b + 4 + fillN (dpZ b + 4) - (dpZ b + 4) = fillN (dpZ b + 4) by omega] at this
    exact this
  refine ⟨mayP_iff.2 ⟨by omega, by rw [hL]; exact q1⟩, e, ?_, by rw [hU]; exact h6⟩
  rw [← e, List.length_take, hU]
  omega

/-- What is encoded is decoded, whatever stands behind. -/
theorem dp_enc {L : List PT} (h : mayP L = true) (q : List UInt8) : dpE (encP L ++ q) = 0 ∧ dpL (encP L ++ q) = L ∧ dpU (encP L ++ q) = (encP L).length := by
  obtain ⟨h1, h2⟩ := mayP_iff.1 h
  obtain ⟨R, hR⟩ : ∃ R, R = List.replicate (fillN (sumB (bodyP L)).length) (0 : UInt8) ++ q := ⟨_, rfl⟩
  have hb : encP L ++ q = leB L.length 2 ++ (encF L ++ (leB (crcN (bodyP L)) 4 ++ R)) := by rw [hR, encP, sumB, bodyP]; simp
  have hb2 : encP L ++ q = sumB (bodyP L) ++ R := by rw [hR, encP]; simp
  obtain ⟨b, hbb⟩ : ∃ b, b = encP L ++ q := ⟨_, rfl⟩
  rw [← hbb] at hb hb2 ⊢
  have g0 := get_mid (bs := b) (p := []) (q := encF L ++ (leB (crcN (bodyP L)) 4 ++ R)) (n := (L.length : Int)) (a := 0) (wd := 2) (by rw [hb]; simp) rfl (by simp [fitsB]; omega) (by omega)
  have hn : dpN b = L.length := by
    unfold dpN
    rw [show getN b 0 2 = getN b ((0 : Nat) : Int) ((2 : Nat) : Int) from rfl, g0.1]
    omega
  obtain ⟨r1, r2, r3⟩ := rd_enc L (leB L.length 2) (leB (crcN (bodyP L)) 4 ++ R) h2
  rw [← hb, leB_length] at r1 r2 r3
  have hlz : (bodyP L).length = 2 + (encF L).length := bodyP_length
  have hz : dpZ b = (bodyP L).length := by rw [dpZ, hn, r3, hlz]
  have hls : (sumB (bodyP L)).length = (bodyP L).length + 4 := sumB_length _
  have hF : dpF b = (encP L).length := by rw [dpF, hz, encP, List.length_append, List.length_replicate, hls]
  have hlen : b.length = (encP L).length + q.length := by rw [hbb, List.length_append]
  have hFb : dpF b ≤ b.length := by rw [hF, hlen]; omega
  have hFz : dpZ b + 4 ≤ dpF b := by unfold dpF; omega
  have hL0 : 8 ≤ (encP L).length := (encP_mod L).2
  have hsum : getN b (dpZ b : Int) 4 = (crcN (b.take (dpZ b)) : Nat) := by
    rw [hz, hb2, sumB_take]; exact sumB_get _ _
  have hzero : zerosB b (dpZ b + 4) (dpF b) = true := by
    rw [zerosB, decide_eq_true_iff, show dpF b - (dpZ b + 4) = fillN (sumB (bodyP L)).length by rw [hls, ← hz]; unfold dpF; omega, hz, hb2, List.drop_left' hls, hR, List.take_left' (by simp)]
  have hE : dpE b = 0 := by
    rw [dpE, if_neg (by omega), if_neg (by omega), if_neg (by rw [hn, r1]; simp), if_neg (by omega), if_neg (by rw [hsum]; simp), if_neg (by omega), if_pos hzero]
  exact ⟨hE, by rw [dpL, if_pos hE, hn, r2], by rw [dpU, if_pos hE, hF]⟩

theorem dpU_pos {b : List UInt8} (h : dpE b = 0) : 8 ≤ dpU b ∧ dpU b ≤ b.length ∧ dpU b % 8 = 0 := by
  obtain ⟨h1, h2, h3, h4⟩ := dp_can h
  have := encP_mod (dpL b)
  omega

/-! ### the records of a log -/
def goP (b : List UInt8) : Prop := dpE b = 0
instance (b : List UInt8) : Decidable (goP b) := by unfold goP; infer_instance
def rcL (b : List UInt8) : List (List PT) := if _h : goP b then dpL b :: rcL (b.drop (dpU b)) else []
termination_by b.length
decreasing_by have := dpU_pos _h; rw [List.length_drop]; omega
def rcU (b : List UInt8) : Nat := if _h : goP b then dpU b + rcU (b.drop (dpU b)) else 0
termination_by b.length
decreasing_by have := dpU_pos _h; rw [List.length_drop]; omega
theorem rcL_go {b : List UInt8} (h : dpE b = 0) : rcL b = dpL b :: rcL (b.drop (dpU b)) := by rw [rcL, dif_pos (show goP b from h)]
theorem rcU_go {b : List UInt8} (h : dpE b = 0) : rcU b = dpU b + rcU (b.drop (dpU b)) := by rw [rcU, dif_pos (show goP b from h)]
theorem rcL_end {b : List UInt8} (h : dpE b ≠ 0) : rcL b = [] := by rw [rcL, dif_neg (show ¬ goP b from h)]
theorem rcU_end {b : List UInt8} (h : dpE b ≠ 0) : rcU b = 0 := by rw [rcU, dif_neg (show ¬ goP b from h)]
theorem dpE_nil : dpE [] = 3 := rfl
theorem rcU_le : ∀ (n : Nat) (b : List UInt8), b.length ≤ n → rcU b ≤ b.length ∧ rcU b % 8 = 0
  | n, b, hn => by
    by_cases h : dpE b = 0
    · have h1 := dpU_pos h
      rw [rcU_go h]
      match n with
      | 0 => omega
      | n + 1 =>
        have := rcU_le n (b.drop (dpU b)) (by rw [List.length_drop]; omega)
        rw [List.length_drop] at this
        omega
    · rw [rcU_end h]; simp
theorem rcU_bound (b : List UInt8) : rcU b ≤ b.length ∧ rcU b % 8 = 0 := rcU_le _ b (Nat.le_refl _)
theorem rcL_len : ∀ (n : Nat) (b : List UInt8), b.length ≤ n → 8 * (rcL b).length ≤ b.length
  | n, b, hn => by
    by_cases h : dpE b = 0
    · have h1 := dpU_pos h
      rw [rcL_go h, List.length_cons]
      match n with
      | 0 => omega
      | n + 1 =>
        have := rcL_len n (b.drop (dpU b)) (by rw [List.length_drop]; omega)
        rw [List.length_drop] at this
        omega
    · rw [rcL_end h]; simp
/-- What stands behind the records that are read may be anything. -/
theorem rc_app : ∀ (n : Nat) (b q : List UInt8), b.length ≤ n → rcL (b.take (rcU b) ++ q) = rcL b ++ rcL q ∧ rcU (b.take (rcU b) ++ q) = rcU b + rcU q
  | n, b, q, hn => by
    by_cases h : dpE b = 0
    · have h1 := dpU_pos h
      obtain ⟨c1, c2, c3, c4⟩ := dp_can h
      match n with
      | 0 => omega
      | n + 1 =>
        obtain ⟨i1, i2⟩ := rc_app n (b.drop (dpU b)) q (by rw [List.length_drop]; omega)
        obtain ⟨e1, e2, e3⟩ := dp_enc c1 ((b.drop (dpU b)).take (rcU (b.drop (dpU b))) ++ q)
        have hb : b.take (rcU b) ++ q = encP (dpL b) ++ ((b.drop (dpU b)).take (rcU (b.drop (dpU b))) ++ q) := by
          rw [rcU_go h, List.take_add, c2, List.append_assoc]
        rw [hb, rcL_go e1, rcU_go e1, e2, e3, List.drop_left, i1, i2, rcL_go h, rcU_go h, c3]
        exact ⟨rfl, by omega⟩
    · rw [rcU_end h, rcL_end h]; simp
theorem rc_rec {L : List PT} (h : mayP L = true) (q : List UInt8) : rcL (encP L ++ q) = L :: rcL q ∧ rcU (encP L ++ q) = (encP L).length + rcU q := by
  obtain ⟨e1, e2, e3⟩ := dp_enc h q
  rw [rcL_go e1, rcU_go e1, e2, e3, List.drop_left]
  exact ⟨rfl, rfl⟩
theorem rc_nil : rcL [] = [] ∧ rcU [] = 0 := ⟨rcL_end (by rw [dpE_nil]; simp), rcU_end (by rw [dpE_nil]; simp)⟩
end Go.Proofs.Ytlinlmimakealaa
