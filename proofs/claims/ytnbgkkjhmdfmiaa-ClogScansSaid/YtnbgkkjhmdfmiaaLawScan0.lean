/- Parts of the walk of the statement ClogScans. -/
import Derived.Test.YtnbgkkjhmdfmiaaLog16
import Derived.Test.YtnbgkkjhmdfmiaaSame16
import Derived.Test.YtnbgkkjhmdfmiaaLawEnc
import Derived.Test.YtnbgkkjhmdfmiaaRow
namespace Go.Proofs.Ytnbgkkjhmdfmiaa
open Go.RowKit

theorem scanW_len {b : List UInt8} {n : Nat} (hb : 8 + n ≤ b.length) : ∀ (k h : Nat), n - h ≤ k → (scanW b n h).length ≤ n - h := by
  intro k
  induction k with
  | zero => intro h hk; rw [scanW_end (by omega)]; simp
  | succ k ih =>
    intro h hk
    by_cases hlt : h < n
    · by_cases hD : decE (midB b n h) = 0
      · have hst := scanW_step hb hlt hD
        rw [scanW_go hlt hD]
        have := ih (h + decL (midB b n h)) (by omega)
        simp only [List.length_cons]
        omega
      · rw [scanW_bad hD]; simp
    · rw [scanW_end hlt]; simp
theorem scanP_len {b : List UInt8} (hb : b.length = 1024) (epoch head : Int) : (scanP b epoch head).length ≤ 1016 := by
  unfold scanP
  split
  · rename_i h
    have h1 := h.1
    unfold endB at h1
    have : getN b 0 8 % 4294967296 ≤ 1016 := by
      simp at h1
      omega
    have := scanW_len (b := b) (n := (getN b 0 8 % 4294967296).toNat) (by omega) _ head.toNat (Nat.le_refl _)
    omega
  · simp

theorem renc_any (call inode off : Int) (tr : Bool) (s : ByteArray) (w : World) :
    Calls Try.prog 15 #[.agg #[.int .i64 call, .int .i64 inode, .bool tr, .int .i64 off, .string s]] w fun e w' => ∃ A n c en eb, e = .returned (.tuple #[.slice A n c, .int .i64 en]) ∧ Sl w' A n eb ∧ n ≤ 1000 ∧ Grow w w' := by
  cases hm : mayR call inode tr off s.size with
  | true =>
    have hn : s.size ≤ 64 := (mayR_iff.1 hm).2.2.2.2.2.2.1
    refine (ref16_encode_yes call inode off tr s hm w).mono ?_
    rintro e w' ⟨v, rfl, ho, g⟩
    have hel : (encB call inode tr off s.data.toList).length ≤ 1000 := by
      have := fill_lt (17 + s.data.toList.length)
      rw [encB]
      simp only [List.length_append, List.length_replicate, headB_length, leB_length, data_length] at this ⊢
      omega
    obtain ⟨A, c, rfl, ho2⟩ := Own.ofOB ho _ rfl (by omega)
    exact ⟨_, _, _, _, _, rfl, ho2.sl, hel, g⟩
  | false =>
    refine (ref16_encode_no call inode off tr s hm w).mono ?_
    rintro e w' ⟨rfl, g⟩
    exact ⟨_, _, _, _, _, rfl, Sl.nil, by omega, g⟩

theorem Own.keep {w w' : World} {base n c : Nat} {A : Option Addr} {bs : List UInt8} (h : Own w base A n c bs) (g : Grow w w') : Own w' base A n c bs := ⟨h.1, h.2.1, World.ownsRow.kept h.2.2 g.grown (own_none _)⟩

/-- What holds at each round of the law's first loop. -/
def LawInv (w wr : World) (n : Nat) (b i : Value) : Prop := ∃ (k m c : Nat) (A : Option Addr) (bs : List UInt8), i = .int .i64 (k : Int) ∧ k ≤ n ∧ k ≤ 12 ∧ b = .slice A m c ∧ m ≤ 1000 * k ∧ Own wr w.heap.size A m c bs ∧ Grow w wr

/-- What holds at each round of the law's second loop. -/
def OverInv (w wr : World) (g c m : Nat) (i : Value) : Prop := ∃ (k : Nat) (bs : List UInt8), i = .int .i64 (k : Int) ∧ k ≤ m ∧ k ≤ 30 ∧ Own wr w.heap.size (some ⟨g, 0, none⟩) 1024 c bs ∧ Grow w wr
theorem Own.setB {w : World} {base g n c : Nat} {bs : List UInt8} (h : Own w base (some ⟨g, 0, none⟩) n c bs) (j : Nat) (u : UInt8) : ∃ bs', Own (w.setCell ⟨g, j, none⟩ (.int .u8 (u.toNat : Int))) base (some ⟨g, 0, none⟩) n c bs' := by
  have := OB.stored h.1.symm h.2.2 j u
  exact ⟨_, by have := h.1; simp; omega, h.2.1, this.1⟩
end Go.Proofs.Ytnbgkkjhmdfmiaa
