/- A record's bytes, by their parts: plain words. -/
import Derived.Test.YtnbgkkjhmdfmiaaPure
import Derived.Test.YtnbgkkjhmdfmiaaCrcPure
namespace Go.Proofs.Ytnbgkkjhmdfmiaa

/-- A record that may be (its data's length alone). -/
def mayR (call inode : Int) (tr : Bool) (off : Int) (n : Nat) : Bool :=
  decide (0 ≤ call ∧ call ≤ 1099511627776 ∧ 1 ≤ inode ∧ inode ≤ 32 ∧ 0 ≤ off ∧ off ≤ 256 ∧ n ≤ 64 ∧ off + n ≤ 256 ∧ (tr = true → n = 0))

theorem mayR_iff {call inode off : Int} {tr : Bool} {n : Nat} : mayR call inode tr off n = true ↔
    0 ≤ call ∧ call ≤ 1099511627776 ∧ 1 ≤ inode ∧ inode ≤ 32 ∧ 0 ≤ off ∧ off ≤ 256 ∧ n ≤ 64 ∧ off + n ≤ 256 ∧ (tr = true → n = 0) := by rw [mayR, decide_eq_true_iff]

/-- Numbers of a width, one behind the other. -/
def putsB (bs : List UInt8) (x : Int) (ns : List Int) : List UInt8 := ns.foldl (fun b n => putB b n x) bs

theorem putsB_take (bs : List UInt8) (x : Int) (ns : List Int) (k : Nat) (h : k < ns.length) : putsB bs x (ns.take (k + 1)) = putB (putsB bs x (ns.take k)) ns[k] x := by
  rw [putsB, List.take_succ_eq_append_getElem h, List.foldl_append]
  rfl

theorem putsB_length (bs : List UInt8) (x : Int) (ns : List Int) : (putsB bs x ns).length ≤ bs.length + 8 * ns.length := by
  induction ns generalizing bs with
  | nil => simp [putsB]
  | cons n ns ih =>
    have h := ih (putB bs n x)
    have h2 := putB_length bs n x
    rw [putsB, List.foldl_cons]
    rw [putsB] at h
    simp only [List.length_cons]
    omega

/-- Numbers that fit, one behind the other. -/
def putsF (bs : List UInt8) (x : Nat) (ns : List Int) : List UInt8 := bs ++ (ns.map fun n => leB n.toNat x).flatten
theorem putsF_take (bs : List UInt8) (x : Nat) (ns : List Int) (k : Nat) (h : k < ns.length) : putsF bs x (ns.take (k + 1)) = putsF bs x (ns.take k) ++ leB ns[k].toNat x := by
  rw [putsF, putsF, List.take_succ_eq_append_getElem h, List.map_append, List.flatten_append, List.append_assoc]
  simp
theorem putsF_length (bs : List UInt8) (x : Nat) (ns : List Int) : (putsF bs x ns).length = bs.length + x * ns.length := by
  unfold putsF
  induction ns with
  | nil => simp
  | cons n ns ih =>
    rw [List.map_cons, List.flatten_cons, List.length_append, List.length_append, leB_length, List.length_cons, Nat.mul_add]
    rw [List.length_append] at ih
    omega

theorem putB_fits {bs : List UInt8} {n x : Int} (h : fitsB n x = true) : putB bs n x = bs ++ leB n.toNat x.toNat := by simp [putB, h]

/-- The 13 bytes ahead of a record's data. -/
def headB (call inode : Int) (tr : Bool) (off : Int) (n : Nat) : List UInt8 :=
  leB call.toNat 8 ++ leB inode.toNat 1 ++ leB (if tr then 1 else 0) 1 ++ leB off.toNat 2 ++ leB n 1

theorem headB_length (call inode : Int) (tr : Bool) (off : Int) (n : Nat) : (headB call inode tr off n).length = 13 := by simp [headB, leB_length]

/-- How many noughts fill bytes up to a multiple of eight. -/
def fillN (n : Nat) : Nat := (8 - n % 8) % 8

/-- A record's bytes. -/
def encB (call inode : Int) (tr : Bool) (off : Int) (s : List UInt8) : List UInt8 :=
  headB call inode tr off s.length ++ s ++ leB (crcN (headB call inode tr off s.length ++ s)) 4 ++ List.replicate (fillN (17 + s.length)) 0

end Go.Proofs.Ytnbgkkjhmdfmiaa
