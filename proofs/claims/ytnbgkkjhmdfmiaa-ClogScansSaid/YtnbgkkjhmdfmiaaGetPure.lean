/- Numbers within bytes, and sums behind bytes: plain words. -/
import Derived.Test.YtnbgkkjhmdfmiaaPure
import Derived.Test.YtnbgkkjhmdfmiaaCrcPure
namespace Go.Proofs.Ytnbgkkjhmdfmiaa

theorem cut_next {α : Type} (c : List α) (a k : Nat) : c.drop a = (c.drop a).take k ++ c.drop (a + k) := by
  rw [← List.drop_drop]
  exact (List.take_append_drop k _).symm

/-- A number within bytes. -/
theorem get_mid {bs p q : List UInt8} {n : Int} {a wd : Nat} (hb : bs = p ++ (leB n.toNat wd ++ q)) (hp : p.length = a) (h : fitsB n wd = true) (h1 : n ≤ 9223372036854775807) : getN bs a wd = n ∧ getK bs a wd = true := by
  have hw := fits_width h
  have hpw := fits_pow h h1
  have h0 := fits_nat h
  subst hb hp
  have := get_small (bs := p ++ (leB n.toNat wd ++ q)) (a := p.length) (k := wd) (m := n.toNat) (by simp [isW]; omega) (by simp [leB_length])
    (by rw [List.drop_left, List.take_left' (leB_length _ _), leVal_leB, Nat.mod_eq_of_lt hpw]) (by omega)
  refine ⟨?_, this.2⟩
  rw [this.1]
  omega

theorem getO_congr {b c : List UInt8} {a wd : Nat} (hb : a + wd ≤ b.length) (hc : a + wd ≤ c.length) (h : (b.drop a).take wd = (c.drop a).take wd) : getO b a wd = getO c a wd := by
  unfold getO
  simp only [Int.toNat_natCast]
  rw [h]
  by_cases hw : isW (wd : Int) = true
  · have c1 : isW (wd : Int) = true ∧ 0 ≤ (a : Int) ∧ (a : Int) + wd ≤ b.length := ⟨hw, by omega, by omega⟩
    have c2 : isW (wd : Int) = true ∧ 0 ≤ (a : Int) ∧ (a : Int) + wd ≤ c.length := ⟨hw, by omega, by omega⟩
    rw [if_pos c1, if_pos c2]
  · have c1 : ¬ (isW (wd : Int) = true ∧ 0 ≤ (a : Int) ∧ (a : Int) + wd ≤ b.length) := fun h => hw h.1
    have c2 : ¬ (isW (wd : Int) = true ∧ 0 ≤ (a : Int) ∧ (a : Int) + wd ≤ c.length) := fun h => hw h.1
    rw [if_neg c1, if_neg c2]
theorem getO_take {b : List UInt8} {a wd m : Nat} (h : a + wd ≤ m) (hb : m ≤ b.length) : getO (b.take m) a wd = getO b a wd := by
  refine getO_congr (by simp; omega) (by omega) ?_
  rw [List.drop_take, List.take_take, Nat.min_eq_left (by omega)]
theorem getN_take {b : List UInt8} {a wd m : Nat} (h : a + wd ≤ m) (hb : m ≤ b.length) : getN (b.take m) a wd = getN b a wd := by unfold getN; rw [getO_take h hb]
theorem getK_take {b : List UInt8} {a wd m : Nat} (h : a + wd ≤ m) (hb : m ≤ b.length) : getK (b.take m) a wd = getK b a wd := by unfold getK; rw [getO_take h hb]

/-- A number of 4 bytes or fewer is always one. -/
theorem getK_small {b : List UInt8} {a wd : Nat} (hw : wd = 1 ∨ wd = 2 ∨ wd = 4) (h : a + wd ≤ b.length) : getK b a wd = true := by
  have hlt := leVal_lt ((b.drop a).take wd)
  rw [List.length_take, List.length_drop, Nat.min_eq_left (by omega)] at hlt
  refine (get_small (bs := b) (a := a) (k := wd) (by simp [isW]; omega) (by omega) rfl ?_).2
  rcases hw with rfl | rfl | rfl <;> simp at hlt <;> omega
theorem getK_range {b : List UInt8} {a wd : Nat} (h : getK b a wd = true) : a + wd ≤ b.length := by
  obtain ⟨a', wd', e1, e2, -, -, h3, -⟩ := put_get h
  omega
/-- The bytes of a number that is got. -/
theorem get_piece {b : List UInt8} {a wd : Nat} (h : getK b a wd = true) : (b.drop a).take wd = leB (getN b a wd).toNat wd := by
  obtain ⟨a', wd', e1, e2, -, -, -, -, h3, -⟩ := put_get h
  obtain rfl : a = a' := by omega
  obtain rfl : wd = wd' := by omega
  exact h3.symm
theorem get_range {b : List UInt8} {a wd : Nat} (h : getK b a wd = true) : fitsB (getN b a wd) wd = true ∧ 0 ≤ getN b a wd ∧ getN b a wd ≤ 9223372036854775807 := by
  obtain ⟨a', wd', e1, e2, -, -, -, h2, -, h4, h5⟩ := put_get h
  exact ⟨h2, h4, h5⟩
theorem get_any (b : List UInt8) (a wd : Int) : 0 ≤ getN b a wd ∧ getN b a wd ≤ 9223372036854775807 := by
  cases h : getK b a wd with
  | true => obtain ⟨a', wd', e1, e2, -, -, -, h2, -, h4, h5⟩ := put_get h; exact ⟨h4, h5⟩
  | false => rw [get_no h]; omega
theorem get_byte {b : List UInt8} {a : Nat} (h : a < b.length) : getN b a 1 = (b[a].toNat : Int) := by
  have e : (b.drop a).take 1 = [b[a]] := by
    rw [List.drop_eq_getElem_cons h]; rfl
  have := (get_small (bs := b) (a := a) (k := 1) (m := b[a].toNat) (by decide) (by omega) (by rw [e]; simp [leVal]) (by have := b[a].toNat_lt; omega)).1
  simpa using this
theorem get_lt {b : List UInt8} {a wd : Nat} (hw : wd = 1 ∨ wd = 2 ∨ wd = 4) : getN b a wd < 256 ^ wd := by
  cases h : getK b a wd with
  | true =>
    have := (get_range h).1
    obtain ⟨z, hz⟩ : ∃ z, z = getN b a wd := ⟨_, rfl⟩
    rw [← hz] at this ⊢
    simp only [fitsB, decide_eq_true_eq] at this
    rcases hw with rfl | rfl | rfl <;> simp <;> omega
  | false => rw [get_no h]; rcases hw with rfl | rfl | rfl <;> simp

/-- Bytes and their sum behind them. -/
def sumB (p : List UInt8) : List UInt8 := p ++ leB (crcN p) 4
theorem sumB_length (p : List UInt8) : (sumB p).length = p.length + 4 := by simp [sumB, leB_length]
theorem fits_crc (p : List UInt8) : fitsB ((crcN p : Nat) : Int) 4 = true := by
  have := crcN_lt p
  simp [fitsB]; omega
theorem sumB_get (p q : List UInt8) : getN (sumB p ++ q) p.length 4 = (crcN p : Nat) := by
  have := crcN_lt p
  refine (get_mid (p := p) (q := q) (n := ((crcN p : Nat) : Int)) (wd := 4) ?_ rfl (fits_crc p) (by omega)).1
  simp [sumB]
theorem sumB_get' (p : List UInt8) : getN (sumB p) p.length 4 = (crcN p : Nat) := by simpa using sumB_get p []
theorem sumB_take (p q : List UInt8) : (sumB p ++ q).take p.length = p := by simp [sumB]
/-- Bytes whose sum is right are a sealed text. -/
theorem sum_right {b : List UInt8} {m : Nat} (h : m + 4 ≤ b.length) (hs : getN b m 4 = (crcN (b.take m) : Nat)) : b.take (m + 4) = sumB (b.take m) := by
  have hp := get_piece (getK_small (b := b) (a := m) (wd := 4) (.inr (.inr rfl)) h)
  rw [sumB, List.take_add, hp, show getN b m ((4 : Nat) : Int) = getN b m 4 from rfl, hs]
  simp

theorem set_split {α : Type} {l : List α} {k : Nat} (h : k < l.length) (x : α) : l.set k x = l.take k ++ x :: l.drop (k + 1) := List.set_eq_take_append_cons_drop.trans (by rw [if_pos h])
theorem leVal_inj {a b : List UInt8} (hl : a.length = b.length) (h : leVal a = leVal b) : a = b := by rw [← leB_leVal a, ← leB_leVal b, h, hl]
theorem crcN_set {p : List UInt8} {k : Nat} (h : k < p.length) {x : UInt8} (hx : x ≠ p[k]) : crcN (p.set k x) ≠ crcN p := by
  intro e
  have hp : p = p.take k ++ p[k] :: p.drop (k + 1) := by
    rw [← List.drop_eq_getElem_cons h, List.take_append_drop]
  rw [set_split h] at e
  have e2 : crcN (p.take k ++ x :: p.drop (k + 1)) = crcN (p.take k ++ p[k] :: p.drop (k + 1)) := by rw [← hp]; exact e
  exact hx (crcN_turned _ _ _ _ e2)
/-- A sealed text of which one byte is turned has no right sum. -/
theorem sum_turned {p : List UInt8} {k : Nat} (hk : k < (sumB p).length) {x : UInt8} (hx : x ≠ (sumB p)[k]) :
    getN ((sumB p).set k x) p.length 4 ≠ (crcN (((sumB p).set k x).take p.length) : Nat) := by
  intro e
  have hlen : ((sumB p).set k x).length = p.length + 4 := by rw [List.length_set, sumB_length]
  have hpc := get_piece (getK_small (b := (sumB p).set k x) (a := p.length) (wd := 4) (.inr (.inr rfl)) (by omega))
  rw [show getN ((sumB p).set k x) p.length ((4 : Nat) : Int) = getN ((sumB p).set k x) p.length 4 from rfl, e] at hpc
  by_cases h : k < p.length
  · have e1 : ((sumB p).set k x).take p.length = p.set k x := by
      rw [sumB, List.set_append_left _ _ h, List.take_left' (by simp)]
    have e2 : (((sumB p).set k x).drop p.length).take 4 = leB (crcN p) 4 := by
      rw [sumB, List.set_append_left _ _ h, List.drop_left' (by simp), List.take_of_length_le (by simp [leB_length])]
    rw [e1, e2] at hpc
    have h1 := crcN_lt p
    have h2 := crcN_lt (p.set k x)
    have := (leB_inj (n := ((crcN p : Nat) : Int)) (m := ((crcN (p.set k x) : Nat) : Int)) (wd := 4) (fits_crc _) (fits_crc _) (by omega) (by omega)).1 (by simpa using hpc)
    refine crcN_set h (x := x) ?_ (by omega)
    intro e3
    exact hx (by rw [e3]; simp [sumB, h])
  · have e1 : ((sumB p).set k x).take p.length = p := by
      rw [sumB, List.set_append_right _ _ (by omega), List.take_left]
    have e2 : (((sumB p).set k x).drop p.length).take 4 = (leB (crcN p) 4).set (k - p.length) x := by
      rw [sumB, List.set_append_right _ _ (by omega), List.drop_left, List.take_of_length_le (by simp [leB_length])]
    rw [e1, e2] at hpc
    rw [sumB_length] at hk
    have h4 : k - p.length < (leB (crcN p) 4).length := by rw [leB_length]; omega
    have := congrArg (fun l => l[k - p.length]?) hpc
    simp only [List.getElem?_set, h4, if_true, Int.toNat_natCast, List.getElem?_eq_getElem h4, Option.some.injEq] at this
    apply hx
    rw [this]
    simp only [sumB]
    rw [List.getElem_append_right (by omega)]
theorem xor_ne {a b : UInt8} (h : b ≠ 0) : a ^^^ b ≠ a := by
  intro e
  apply h
  have : a ^^^ (a ^^^ b) = a ^^^ a := by rw [e]
  rwa [← UInt8.xor_assoc, UInt8.xor_self, UInt8.zero_xor] at this

/-- Noughts within bytes. -/
def zerosB (b : List UInt8) (lo hi : Nat) : Bool := decide ((b.drop lo).take (hi - lo) = List.replicate (hi - lo) 0)
theorem zeros_iff {b : List UInt8} {lo hi : Nat} (h : hi ≤ b.length) : zerosB b lo hi = true ↔ ∀ i, lo ≤ i → (hi' : i < hi) → b[i] = 0 := by
  rw [zerosB, decide_eq_true_iff]
  constructor
  · intro e i h1 h2
    have := congrArg (fun l => l[i - lo]?) e
    simp only [List.getElem?_take, List.getElem?_drop, List.getElem?_replicate] at this
    rw [if_pos (by omega), if_pos (by omega), show lo + (i - lo) = i by omega, List.getElem?_eq_getElem (by omega)] at this
    simpa using this
  · intro e
    apply List.ext_getElem
    · simp; omega
    · intro j h1 h2
      simp only [List.getElem_take, List.getElem_drop, List.getElem_replicate]
      simp at h2
      exact e (lo + j) (by omega) (by omega)
end Go.Proofs.Ytnbgkkjhmdfmiaa
