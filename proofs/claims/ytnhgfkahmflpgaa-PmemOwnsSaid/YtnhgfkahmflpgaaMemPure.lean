/- What the verbs of a memory do, as plain words over lists. No program here; no statement of the seat is proved here. -/
namespace Go.Proofs.Ytnhgfkahmflpgaa

def inW (L : Nat) (at_ n : Int) : Bool := decide (0 ≤ at_ ∧ 0 ≤ n ∧ at_ + n ≤ (L : Int))
theorem inW_iff {L : Nat} {at_ n : Int} : inW L at_ n = true ↔ 0 ≤ at_ ∧ 0 ≤ n ∧ at_ + n ≤ (L : Int) := by simp [inW]

/-- Bytes put one by one. -/
def putL (S : List UInt8) (i : Nat) : List UInt8 → List UInt8
  | [] => S
  | u :: bs => putL (S.set i u) (i + 1) bs
theorem putL_snoc (bs : List UInt8) (u : UInt8) : ∀ (S : List UInt8) (i : Nat), putL S i (bs ++ [u]) = (putL S i bs).set (i + bs.length) u := by
  induction bs with
  | nil => intro S i; rfl
  | cons v bs ih =>
    intro S i
    simp only [List.cons_append, putL, ih, List.length_cons]
    rw [show i + 1 + bs.length = i + (bs.length + 1) by omega]
theorem putL_length (bs : List UInt8) : ∀ (S : List UInt8) (i : Nat), (putL S i bs).length = S.length := by
  induction bs with
  | nil => intro S i; rfl
  | cons v bs ih => intro S i; simp [putL, ih]
theorem putL_take {S bs : List UInt8} {i k : Nat} (hk : k < bs.length) : putL S i (bs.take (k + 1)) = (putL S i (bs.take k)).set (i + k) bs[k] := by
  rw [List.take_succ_eq_append_getElem hk, putL_snoc, List.length_take, Nat.min_eq_left (by omega)]
/-- The cells of bytes that were put are no longer on their way. -/
def clrL (A : List Bool) (i : Nat) : Nat → List Bool
  | 0 => A
  | n + 1 => (clrL A i n).set ((i + n) / 8) false
theorem clrL_length (A : List Bool) (i n : Nat) : (clrL A i n).length = A.length := by
  induction n with
  | zero => rfl
  | succ n ih => simp [clrL, ih]

/-- Bytes as they are seen go where they last. -/
def keepN (S T : List UInt8) (i : Nat) : Nat → List UInt8
  | 0 => T
  | n + 1 => (keepN S T i n).set (i + n) (S.getD (i + n) 0)
theorem keepN_length (S T : List UInt8) (i n : Nat) : (keepN S T i n).length = T.length := by
  induction n with
  | zero => rfl
  | succ n ih => simp [keepN, ih]
theorem keepN_get (S T : List UInt8) (i n j : Nat) (hj : j < T.length) : (keepN S T i n).getD j 0 = if i ≤ j ∧ j < i + n then S.getD j 0 else T.getD j 0 := by
  induction n with
  | zero => rw [keepN, if_neg (by omega)]
  | succ n ih =>
    have hl := keepN_length S T i n
    rw [keepN, List.getD_eq_getElem?_getD]
    by_cases e : i + n = j
    · subst e
      rw [List.getElem?_set_self (by omega), if_pos (by omega)]
      rfl
    · rw [List.getElem?_set_ne e, ← List.getD_eq_getElem?_getD, ih]
      by_cases h : i ≤ j ∧ j < i + n
      · rw [if_pos h, if_pos (by omega)]
      · rw [if_neg h, if_neg (by omega)]
theorem ext_getD {A B : List UInt8} (hl : A.length = B.length) (h : ∀ j, j < A.length → A.getD j 0 = B.getD j 0) : A = B := by
  apply List.ext_getElem hl
  intro j h1 h2
  have := h j h1
  simpa [List.getD_eq_getElem?_getD, h1, h2] using this

/-- Of those cells the bytes as they are seen, of the others as they last. -/
def mixL (S T : List UInt8) (B : Nat → Bool) : List UInt8 := (List.range T.length).map fun j => if B (j / 8) then S.getD j 0 else T.getD j 0
theorem mixL_length (S T : List UInt8) (B : Nat → Bool) : (mixL S T B).length = T.length := by simp [mixL]
theorem mixL_get (S T : List UInt8) (B : Nat → Bool) (j : Nat) (hj : j < T.length) : (mixL S T B).getD j 0 = if B (j / 8) then S.getD j 0 else T.getD j 0 := by
  simp [mixL, List.getD_eq_getElem?_getD, hj]
theorem mixL_none (S T : List UInt8) {B : Nat → Bool} (h : ∀ k, B k = false) : mixL S T B = T := by
  refine ext_getD (mixL_length ..) fun j hj => ?_
  rw [mixL_length] at hj
  rw [mixL_get S T B j hj, if_neg (by rw [h]; decide)]
theorem mixL_keep (S T : List UInt8) (B : Nat → Bool) (k : Nat) : keepN S (mixL S T B) (8 * k) 8 = mixL S T fun j => B j || j == k := by
  refine ext_getD (by rw [keepN_length, mixL_length, mixL_length]) fun j hj => ?_
  rw [keepN_length, mixL_length] at hj
  rw [keepN_get _ _ _ _ _ (by rw [mixL_length]; exact hj), mixL_get _ _ _ _ hj, mixL_get _ _ _ _ hj]
  by_cases h : 8 * k ≤ j ∧ j < 8 * k + 8
  · have : j / 8 = k := by omega
    rw [if_pos h, if_pos (by simp [this])]
  · have : ¬ j / 8 = k := by omega
    rw [if_neg h]
    simp [this]
theorem mixL_congr (S T : List UInt8) {B C : Nat → Bool} (h : ∀ k, 8 * k < T.length → B k = C k) : mixL S T B = mixL S T C := by
  refine ext_getD (by rw [mixL_length, mixL_length]) fun j hj => ?_
  rw [mixL_length] at hj
  rw [mixL_get _ _ _ _ hj, mixL_get _ _ _ _ hj, h (j / 8) (by omega)]

/-- Does a cell not last as it is seen? -/
def dirtyB (S T : List UInt8) (k : Nat) : Bool := (List.range 8).any fun j => S.getD (8 * k + j) 0 != T.getD (8 * k + j) 0
def dirtyL (S T : List UInt8) (N : Nat) : List Int := ((List.range N).filter (dirtyB S T)).map Int.ofNat
def clrAll (A : List Bool) : List Bool := List.replicate A.length false
/-- Is a cell in a line that bytes touch? -/
def lineB (at_ n : Nat) (k : Nat) : Bool := decide (0 < n ∧ at_ / 64 ≤ k / 8 ∧ k / 8 ≤ (at_ + n - 1) / 64)
def flushA (S T : List UInt8) (A : List Bool) (B : Nat → Bool) : List Bool := (List.range A.length).map fun k => A.getD k false || (B k && dirtyB S T k)
theorem flushA_length (S T : List UInt8) (A : List Bool) (B : Nat → Bool) : (flushA S T A B).length = A.length := by simp [flushA]
theorem getD_ext {A B : List Bool} (hl : A.length = B.length) (h : ∀ j, j < A.length → A.getD j false = B.getD j false) : A = B := by
  apply List.ext_getElem hl
  intro j h1 h2
  have := h j h1
  simpa [List.getD_eq_getElem?_getD, h1, h2] using this
theorem getD_set (A : List Bool) (k j : Nat) (v : Bool) (hk : k < A.length) : (A.set k v).getD j false = if j = k then v else A.getD j false := by
  rw [List.getD_eq_getElem?_getD]
  by_cases e : j = k
  · subst e; rw [List.getElem?_set_self hk, if_pos rfl]; rfl
  · rw [List.getElem?_set_ne (Ne.symm e), if_neg e, ← List.getD_eq_getElem?_getD]
theorem flushA_get (S T : List UInt8) (A : List Bool) (B : Nat → Bool) (k : Nat) (hk : k < A.length) : (flushA S T A B).getD k false = (A.getD k false || (B k && dirtyB S T k)) := by
  simp [flushA, List.getD_eq_getElem?_getD, hk]
theorem flushA_none (S T : List UInt8) (A : List Bool) {B : Nat → Bool} (h : ∀ k, B k = false) : flushA S T A B = A := by
  refine getD_ext (flushA_length ..) fun j hj => ?_
  rw [flushA_length] at hj
  rw [flushA_get _ _ _ _ _ hj, h]
  simp
theorem flushA_congr (S T : List UInt8) (A : List Bool) {B C : Nat → Bool} (h : ∀ k, k < A.length → dirtyB S T k = true → B k = C k) : flushA S T A B = flushA S T A C := by
  refine getD_ext (by rw [flushA_length, flushA_length]) fun j hj => ?_
  rw [flushA_length] at hj
  rw [flushA_get _ _ _ _ _ hj, flushA_get _ _ _ _ _ hj]
  cases hd : dirtyB S T j with
  | false => simp
  | true => rw [h j hj hd]
theorem flushA_set (S T : List UInt8) (A : List Bool) (B : Nat → Bool) (k : Nat) (hk : k < A.length) (hd : dirtyB S T k = true) : (flushA S T A B).set k true = flushA S T A fun j => B j || decide (j = k) := by
  refine getD_ext (by rw [List.length_set, flushA_length, flushA_length]) fun j hj => ?_
  rw [List.length_set, flushA_length] at hj
  rw [getD_set _ _ _ _ (by rw [flushA_length]; exact hk), flushA_get _ _ _ _ _ hj, flushA_get _ _ _ _ _ hj]
  by_cases e : j = k
  · subst e; simp [hd]
  · simp [e]
theorem flushA_skip (S T : List UInt8) (A : List Bool) (B : Nat → Bool) (k : Nat) (hd : dirtyB S T k = false) : flushA S T A B = flushA S T A fun j => B j || decide (j = k) :=
  flushA_congr S T A fun j _ hj => by
    by_cases e : j = k
    · subst e; rw [hd] at hj; cases hj
    · simp [e]
/-- Does a pick let a cell last? -/
def oddP (p : Int) : Bool := (p % 2 != 0) != decide (p < 0)
/-- The cells that the first i picks let last. -/
def crashB (l pk : List Int) : Nat → Nat → Bool
  | 0 => fun _ => false
  | i + 1 => fun k => crashB l pk i k || (decide (l[i]? = some (k : Int)) && decide (i < pk.length) && oddP (pk.getD i 0))
theorem crashB_skip {l pk : List Int} {i : Nat} (h : i < pk.length → oddP (pk.getD i 0) = false) : crashB l pk (i + 1) = crashB l pk i := by
  funext k
  simp only [crashB]
  by_cases hi : i < pk.length
  · rw [h hi]; simp
  · rw [decide_eq_false hi]; simp
theorem crashB_go {l pk : List Int} {i k0 : Nat} (hl : l[i]? = some (k0 : Int)) (hi : i < pk.length) (ho : oddP (pk.getD i 0) = true) : crashB l pk (i + 1) = fun k => crashB l pk i k || k == k0 := by
  funext k
  simp only [crashB, hl, ho, decide_eq_true hi, Bool.and_true]
  congr 1
  by_cases e : k = k0
  · subst e; simp
  · rw [beq_false_of_ne e]; apply decide_eq_false; intro q; injection q with q; omega
theorem crashB_after {l pk : List Int} {i : Nat} (hi : pk.length ≤ i) : ∀ j, crashB l pk (i + j) = crashB l pk i := by
  intro j
  induction j with
  | zero => rfl
  | succ j ih => rw [← ih]; exact crashB_skip fun q => by (have q2 : i + j < pk.length := q; omega)
/-- Cells from c on are no longer on their way. -/
def clrC (A : List Bool) (c : Nat) : Nat → List Bool
  | 0 => A
  | n + 1 => (clrC A c n).set (c + n) false
theorem clrC_length (A : List Bool) (c n : Nat) : (clrC A c n).length = A.length := by
  induction n with
  | zero => rfl
  | succ n ih => simp [clrC, ih]
def inC (c n : Nat) (k : Nat) : Bool := decide (c ≤ k ∧ k < c + n)
theorem mixL_inC (S T : List UInt8) (c n : Nat) : keepN S (mixL S T (inC c n)) (8 * (c + n)) 8 = mixL S T (inC c (n + 1)) := by
  rw [mixL_keep]
  refine mixL_congr S T fun k _ => ?_
  simp only [inC]
  by_cases h : k = c + n
  · subst h; simp
  · rw [beq_false_of_ne h, Bool.or_false]; congr 1; apply propext; omega
end Go.Proofs.Ytnhgfkahmflpgaa
