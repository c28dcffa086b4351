/- Plain functions of chapter 1 on lists of bytes and integers: what the numbers' bytes are. No program in sight. -/
namespace Go.Proofs.Ytnbgkkjhmdfmiaa

/-- A width. -/
def isW (width : Int) : Bool := decide (width = 1 ∨ width = 2 ∨ width = 4 ∨ width = 8)
/-- A number fits a width. -/
def fitsB (n width : Int) : Bool := decide (0 ≤ n ∧ (width = 8 ∨ (width = 4 ∧ n < 4294967296) ∨ (width = 2 ∧ n < 65536) ∨ (width = 1 ∧ n < 256)))
/-- The least bytes of a number. -/
def leB (n : Nat) : Nat → List UInt8
  | 0 => []
  | k + 1 => UInt8.ofNat (n % 256) :: leB (n / 256) k
theorem leB_length (n k : Nat) : (leB n k).length = k := by
  induction k generalizing n with
  | zero => rfl
  | succ k ih => simp [leB, ih]
/-- Bytes, and a number behind them. -/
def putB (bs : List UInt8) (n width : Int) : List UInt8 := bs ++ if fitsB n width then leB n.toNat width.toNat else []

theorem leB_snoc (n k : Nat) : leB n (k + 1) = leB n k ++ [UInt8.ofNat (n / 256 ^ k % 256)] := by
  induction k generalizing n with
  | zero => simp [leB]
  | succ k ih =>
    rw [leB, ih, leB, List.cons_append, Nat.div_div_eq_div_mul, Nat.pow_succ, Nat.mul_comm 256]

theorem fits_width {n width : Int} (h : fitsB n width = true) : width = 8 ∨ width = 4 ∨ width = 2 ∨ width = 1 := by
  simp only [fitsB, decide_eq_true_eq] at h
  omega
theorem fits_nat {n width : Int} (h : fitsB n width = true) : 0 ≤ n := by
  simp only [fitsB, decide_eq_true_eq] at h
  omega

theorem leB_byte (n : Int) (k : Nat) (h : 0 ≤ n) : ((UInt8.ofNat (n.toNat / 256 ^ k % 256)).toNat : Int) = n / 2 ^ (8 * k) % 256 := by
  obtain ⟨m, rfl⟩ := Int.eq_ofNat_of_zero_le h
  have e : (2 : Int) ^ (8 * k) = ((256 ^ k : Nat) : Int) := by
    rw [show (256 : Nat) = 2 ^ 8 from rfl, ← Nat.pow_mul]; simp
  rw [e]
  simp

theorem putB_length (bs : List UInt8) (n x : Int) : (putB bs n x).length ≤ bs.length + 8 := by
  unfold putB
  split
  · rename_i h
    have := fits_width h
    rw [List.length_append, leB_length]
    omega
  · simp

/-- The number that bytes are, the least byte first. -/
def leVal : List UInt8 → Nat
  | [] => 0
  | u :: t => u.toNat + 256 * leVal t
theorem leVal_lt (bs : List UInt8) : leVal bs < 256 ^ bs.length := by
  induction bs with
  | nil => simp [leVal]
  | cons u t ih =>
    have := u.toNat_lt
    rw [leVal, List.length_cons, Nat.pow_succ]
    omega
theorem leVal_snoc (bs : List UInt8) (u : UInt8) : leVal (bs ++ [u]) = leVal bs + 256 ^ bs.length * u.toNat := by
  induction bs with
  | nil => simp [leVal]
  | cons x t ih =>
    rw [List.cons_append, leVal, ih, leVal, List.length_cons, Nat.pow_succ, Nat.mul_comm (256 ^ t.length) 256, Nat.mul_add, Nat.mul_assoc]
    omega
theorem leVal_leB (n k : Nat) : leVal (leB n k) = n % 256 ^ k := by
  induction k generalizing n with
  | zero => simp [leB, leVal, Nat.mod_one]
  | succ k ih =>
    rw [leB, leVal, ih, Nat.pow_succ, Nat.mul_comm (256 ^ k) 256, Nat.mod_mul]
    simp
theorem leB_leVal (bs : List UInt8) : leB (leVal bs) bs.length = bs := by
  induction bs with
  | nil => rfl
  | cons u t ih =>
    have h := u.toNat_lt
    rw [List.length_cons, leB, leVal, show (u.toNat + 256 * leVal t) % 256 = u.toNat by omega, show (u.toNat + 256 * leVal t) / 256 = leVal t by omega, ih]
    simp

/-- The number at a place, if there is one. -/
def getO (bs : List UInt8) (at_ width : Int) : Option Nat :=
  if isW width = true ∧ 0 ≤ at_ ∧ at_ + width ≤ bs.length then
    if leVal ((bs.drop at_.toNat).take width.toNat) < 9223372036854775808 then some (leVal ((bs.drop at_.toNat).take width.toNat)) else none
  else none
def getN (bs : List UInt8) (at_ width : Int) : Int := ((getO bs at_ width).getD 0 : Nat)
def getK (bs : List UInt8) (at_ width : Int) : Bool := (getO bs at_ width).isSome

theorem get_small {bs : List UInt8} {a k m : Nat} (hw : isW k = true) (hle : a + k ≤ bs.length) (hm : m = leVal ((bs.drop a).take k)) (h : m < 9223372036854775808) : getN bs a k = m ∧ getK bs a k = true := by
  have hc : isW (k : Int) = true ∧ 0 ≤ (a : Int) ∧ (a : Int) + k ≤ bs.length := ⟨hw, by omega, by omega⟩
  subst hm
  have e : getO bs a k = some (leVal ((bs.drop a).take k)) := by
    unfold getO
    rw [if_pos hc]
    simp only [Int.toNat_natCast]
    rw [if_pos h]
  exact ⟨by unfold getN; rw [e]; rfl, by unfold getK; rw [e]; rfl⟩
theorem get_large {bs : List UInt8} {a k m : Nat} (hm : m = leVal ((bs.drop a).take k)) (h : ¬ m < 9223372036854775808) : getN bs a k = 0 ∧ getK bs a k = false := by
  subst hm
  have e : getO bs a k = none := by
    unfold getO
    split
    · simp only [Int.toNat_natCast]
      rw [if_neg h]
    · rfl
  exact ⟨by unfold getN; rw [e]; rfl, by unfold getK; rw [e]; rfl⟩
theorem get_none {bs : List UInt8} {a k : Int} (h : ¬ (isW k = true ∧ 0 ≤ a ∧ a + k ≤ bs.length)) : getN bs a k = 0 ∧ getK bs a k = false := by
  have e : getO bs a k = none := by
    unfold getO
    rw [if_neg h]
  exact ⟨by unfold getN; rw [e]; rfl, by unfold getK; rw [e]; rfl⟩

theorem fits_pow {n : Int} {wd : Nat} (h : fitsB n wd = true) (h1 : n ≤ 9223372036854775807) : n.toNat < 256 ^ wd := by
  simp only [fitsB, decide_eq_true_eq] at h
  obtain ⟨h0, h⟩ := h
  have : wd = 8 ∨ wd = 4 ∨ wd = 2 ∨ wd = 1 := by omega
  rcases this with rfl | rfl | rfl | rfl <;> simp <;> omega
/-- What was put is got. -/
theorem get_put {n : Int} {wd : Nat} (h : fitsB n wd = true) (h1 : n ≤ 9223372036854775807) : getN (leB n.toNat wd) 0 wd = n ∧ getK (leB n.toNat wd) 0 wd = true := by
  have hw := fits_width h
  have hp := fits_pow h h1
  have h0 := fits_nat h
  have := get_small (bs := leB n.toNat wd) (a := 0) (k := wd) (m := n.toNat) (by simp [isW]; omega) (by rw [leB_length]; omega)
    (by rw [List.drop_zero, List.take_of_length_le (by rw [leB_length]; exact Nat.le_refl _), leVal_leB, Nat.mod_eq_of_lt hp]) (by omega)
  refine ⟨?_, this.2⟩
  have h2 := this.1
  rw [show ((0 : Nat) : Int) = 0 from rfl] at h2
  rw [h2]
  omega
theorem leB_inj {n m : Int} {wd : Nat} (h : fitsB n wd = true) (h' : fitsB m wd = true) (h1 : n ≤ 9223372036854775807) (h1' : m ≤ 9223372036854775807) : leB n.toNat wd = leB m.toNat wd ↔ n = m := by
  constructor
  · intro e
    have a := (get_put h h1).1
    have b := (get_put h' h1').1
    rw [e, b] at a
    exact a.symm
  · rintro rfl; rfl
/-- What is got and put is the same bytes. -/
theorem put_get {bs : List UInt8} {at_ x : Int} (h : getK bs at_ x = true) : ∃ a wd : Nat, at_ = a ∧ x = wd ∧ wd ≤ 8 ∧ 1 ≤ wd ∧ a + wd ≤ bs.length ∧ fitsB (getN bs at_ x) x = true ∧ leB (getN bs at_ x).toNat wd = (bs.drop a).take wd ∧ 0 ≤ getN bs at_ x ∧ getN bs at_ x ≤ 9223372036854775807 := by
  by_cases hc : isW x = true ∧ 0 ≤ at_ ∧ at_ + x ≤ bs.length
  · obtain ⟨hw, h0, hle⟩ := hc
    obtain ⟨a, rfl⟩ := Int.eq_ofNat_of_zero_le h0
    have hx : x = 1 ∨ x = 2 ∨ x = 4 ∨ x = 8 := by simpa [isW] using hw
    obtain ⟨wd, rfl⟩ : ∃ wd : Nat, x = wd := ⟨x.toNat, by omega⟩
    by_cases hs : leVal ((bs.drop a).take wd) < 9223372036854775808
    · have hg := get_small (bs := bs) (a := a) hw (by omega) rfl hs
      have hlen : ((bs.drop a).take wd).length = wd := by rw [List.length_take, List.length_drop]; omega
      have hlt := leVal_lt ((bs.drop a).take wd)
      rw [hlen] at hlt
      refine ⟨a, wd, rfl, rfl, by omega, by omega, by omega, ?_, ?_, ?_, ?_⟩
      · rw [hg.1]
        simp only [fitsB, decide_eq_true_eq]
        refine ⟨by omega, ?_⟩
        have : wd = 8 ∨ wd = 4 ∨ wd = 2 ∨ wd = 1 := by omega
        rcases this with rfl | rfl | rfl | rfl <;> simp at hlt ⊢ <;> omega
      · have := leB_leVal ((bs.drop a).take wd)
        rw [hlen] at this
        rw [hg.1]
        simpa using this
      · rw [hg.1]; omega
      · rw [hg.1]; omega
    · have hg := get_large (bs := bs) (a := a) (k := wd) rfl hs
      rw [hg.2] at h
      cases h
  · have := (get_none hc).2
    rw [this] at h
    cases h
theorem get_no {bs : List UInt8} {at_ x : Int} (h : getK bs at_ x = false) : getN bs at_ x = 0 := by
  unfold getK at h
  unfold getN
  cases hg : getO bs at_ x with
  | none => rfl
  | some m => rw [hg] at h; cases h

/-- Rounding. -/
def mayB (n to : Int) : Bool := decide (1 ≤ to ∧ to ≤ 1073741824 ∧ 0 ≤ n ∧ n ≤ 1152921504606846976)
def upN (n to : Int) : Int := if mayB n to then (n + to - 1) / to * to else n
def downN (n to : Int) : Int := if mayB n to then n / to * to else n
theorem may_iff {n to : Int} : mayB n to = true ↔ 1 ≤ to ∧ to ≤ 1073741824 ∧ 0 ≤ n ∧ n ≤ 1152921504606846976 := by simp [mayB]
theorem up_bounds {n to : Int} (h : 1 ≤ to) : n ≤ (n + to - 1) / to * to ∧ (n + to - 1) / to * to ≤ n + to - 1 := by
  have h1 := Int.emod_add_ediv_mul (n + to - 1) to
  have h2 := Int.emod_nonneg (n + to - 1) (show to ≠ 0 by omega)
  have h3 := Int.emod_lt_of_pos (n + to - 1) (show 0 < to by omega)
  omega
theorem down_bounds {n to : Int} (h : 1 ≤ to) : n - to < n / to * to ∧ n / to * to ≤ n := by
  have h1 := Int.emod_add_ediv_mul n to
  have h2 := Int.emod_nonneg n (show to ≠ 0 by omega)
  have h3 := Int.emod_lt_of_pos n (show 0 < to by omega)
  omega
theorem down_ref {n to : Int} : n / to * to = n - n % to := by
  have h1 := Int.emod_add_ediv_mul n to
  omega
theorem up_ref {n to : Int} (h : 1 ≤ to) : (n + to - 1) / to * to = if n % to = 0 then n else n - n % to + to := by
  have h1 := Int.emod_add_ediv_mul n to
  have h2 := Int.emod_nonneg n (show to ≠ 0 by omega)
  have h3 := Int.emod_lt_of_pos n (show 0 < to by omega)
  obtain ⟨r, hr⟩ : ∃ r, r = n % to := ⟨_, rfl⟩
  obtain ⟨q, hq⟩ : ∃ q, q = n / to := ⟨_, rfl⟩
  rw [← hr, ← hq] at h1
  rw [← hr] at h2 h3 ⊢
  have hn : n = r + q * to := by omega
  clear hr hq h1
  subst hn
  split
  · rename_i h0
    subst h0
    rw [show 0 + q * to + to - 1 = (to - 1) + q * to by omega, Int.add_mul_ediv_right _ _ (by omega), Int.ediv_eq_zero_of_lt (by omega) (by omega)]
    simp
  · rw [show r + q * to + to - 1 = (r - 1) + (q + 1) * to by rw [Int.add_mul]; omega, Int.add_mul_ediv_right _ _ (by omega), Int.ediv_eq_zero_of_lt (by omega) (by omega), Int.zero_add, Int.add_mul]
    omega

end Go.Proofs.Ytnbgkkjhmdfmiaa
