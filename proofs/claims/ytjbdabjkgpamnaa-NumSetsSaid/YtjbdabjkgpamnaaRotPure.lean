/- Turning 32 bits to the left, as numbers. No program in sight. -/
namespace Go.Proofs.Ytjbdabjkgpamnaa

/-- One turn. -/
def rot1 (y : Nat) : Nat := y * 2 % 4294967296 + y / 2147483648
def rotI (x : Nat) : Nat → Nat
  | 0 => x
  | k + 1 => rot1 (rotI x k)
theorem rot1_lt {y : Nat} (h : y < 4294967296) : rot1 y < 4294967296 := by unfold rot1; omega
theorem rotI_lt {x : Nat} (h : x < 4294967296) (k : Nat) : rotI x k < 4294967296 := by
  induction k with
  | zero => exact h
  | succ k ih => exact rot1_lt ih
theorem rotI_add (x a b : Nat) : rotI (rotI x a) b = rotI x (a + b) := by
  induction b with
  | zero => rfl
  | succ b ih => rw [rotI, ih, ← Nat.add_assoc, rotI]

theorem rot1_form (p q t l h : Nat) (ht : t < 2) (hl : l < q) (hh : h < p) (hpq : p * q = 2147483648) : rot1 ((t * q + l) * p + h) = l * (2 * p) + (2 * h + t) := by
  have e : (t * q + l) * p + h = t * 2147483648 + (l * p + h) := by
    rw [Nat.add_mul, Nat.mul_assoc, Nat.mul_comm q p, hpq, Nat.add_assoc]
  have hr : l * p + h < 2147483648 := by
    have h1 : (l + 1) * p ≤ q * p := Nat.mul_le_mul_right _ hl
    rw [Nat.mul_comm q p, hpq, Nat.add_mul] at h1
    omega
  have e2 : l * (2 * p) = 2 * (l * p) := Nat.mul_left_comm _ _ _
  rw [e, e2]
  obtain ⟨r, hre⟩ : ∃ r, r = l * p := ⟨_, rfl⟩
  rw [← hre] at hr ⊢
  unfold rot1
  have : t = 0 ∨ t = 1 := by omega
  rcases this with rfl | rfl <;> omega

/-- k turns at once: the upper k bits go below. -/
theorem rotI_form (k : Nat) (hk : k ≤ 32) (h l : Nat) (hh : h < 2 ^ k) (hl : l < 2 ^ (32 - k)) : rotI (h * 2 ^ (32 - k) + l) k = l * 2 ^ k + h := by
  induction k generalizing h l with
  | zero =>
    simp at hh
    subst hh
    simp [rotI]
  | succ k ih =>
    have hq : 2 ^ (32 - k) = 2 * 2 ^ (32 - (k + 1)) := by
      rw [show 32 - k = (32 - (k + 1)) + 1 by omega, Nat.pow_succ, Nat.mul_comm]
    have hp : 2 ^ (k + 1) = 2 * 2 ^ k := by rw [Nat.pow_succ, Nat.mul_comm]
    have hpq : 2 ^ k * 2 ^ (32 - (k + 1)) = 2147483648 := by
      rw [← Nat.pow_add, show k + (32 - (k + 1)) = 31 by omega]
    obtain ⟨q, hqe⟩ : ∃ q, q = 2 ^ (32 - (k + 1)) := ⟨_, rfl⟩
    obtain ⟨p, hpe⟩ : ∃ p, p = 2 ^ k := ⟨_, rfl⟩
    rw [← hqe] at hq hl hpq ⊢
    rw [← hpe] at hp hpq
    rw [hp] at hh ⊢
    have e : h * q + l = h / 2 * (2 * q) + (h % 2 * q + l) := by
      have : h * q = (2 * (h / 2) + h % 2) * q := by congr 1; omega
      rw [this, Nat.add_mul, Nat.mul_comm 2 (h / 2), Nat.mul_assoc]
      omega
    have hlt : h % 2 * q + l < 2 * q := by
      have : h % 2 = 0 ∨ h % 2 = 1 := by omega
      rcases this with h0 | h0 <;> rw [h0] <;> omega
    have := ih (by omega) (h / 2) (h % 2 * q + l) (by rw [← hpe]; omega) (by rw [hq]; exact hlt)
    rw [hq, ← e, ← hpe] at this
    rw [rotI, this, rot1_form p q (h % 2) l (h / 2) (by omega) hl (by omega) hpq]
    omega

theorem rotI_closed (x k : Nat) (hx : x < 4294967296) (hk : k ≤ 32) : rotI x k = x * 2 ^ k % 4294967296 + x / 2 ^ (32 - k) := by
  have hpq : 2 ^ (32 - k) * 2 ^ k = 4294967296 := by
    rw [← Nat.pow_add, show 32 - k + k = 32 by omega]
  have hp0 : 0 < 2 ^ k := Nat.pow_pos (by omega)
  have hq0 : 0 < 2 ^ (32 - k) := Nat.pow_pos (by omega)
  obtain ⟨q, hqe⟩ : ∃ q, q = 2 ^ (32 - k) := ⟨_, rfl⟩
  obtain ⟨p, hpe⟩ : ∃ p, p = 2 ^ k := ⟨_, rfl⟩
  have hd := Nat.div_add_mod x q
  have hm := Nat.mod_lt x (show 0 < q by omega)
  have hdl : x / q < p := by
    rw [Nat.div_lt_iff_lt_mul (by omega), Nat.mul_comm, hqe, hpe, hpq]; exact hx
  have h := rotI_form k hk (x / q) (x % q) (by rw [← hpe]; exact hdl) (by rw [← hqe]; exact hm)
  rw [← hqe, ← hpe, Nat.mul_comm (x / q) q, hd] at h
  rw [h, ← hqe, ← hpe]
  congr 1
  have e : x * p = x % q * p + 4294967296 * (x / q) := by
    rw [← hpq, ← hqe, ← hpe]
    conv => lhs; rw [← hd]
    rw [Nat.add_mul, Nat.add_comm, Nat.mul_assoc, Nat.mul_assoc, Nat.mul_comm (x / q) p]
  have hs : x % q * p < 4294967296 := by
    rw [← hpq, ← hqe, ← hpe]; exact Nat.mul_lt_mul_of_pos_right hm (by omega)
  rw [e, Nat.add_mul_mod_self_left, Nat.mod_eq_of_lt hs]

theorem rotI_32 (x : Nat) (hx : x < 4294967296) : rotI x 32 = x := by
  rw [rotI_closed x 32 hx (by omega)]
  simp
theorem rotI_mod (x k : Nat) (hx : x < 4294967296) : rotI x (k % 32) = rotI x k := by
  induction k using Nat.strongRecOn with
  | _ k ih =>
    by_cases h : k < 32
    · rw [Nat.mod_eq_of_lt h]
    · have := ih (k - 32) (by omega)
      rw [show k % 32 = (k - 32) % 32 by omega, this]
      conv => rhs; rw [show k = 32 + (k - 32) by omega, ← rotI_add, rotI_32 x hx]

/-- How often Rotate turns. -/
def rcount (n : Int) : Nat := (if n < 0 then -(n + 1) else n).toNat
end Go.Proofs.Ytjbdabjkgpamnaa
