/- The walk of the statement ClogEncodes. -/
import Derived.Test.YtnbgkkjhmdfmiaaREnc
import Derived.Test.YtnbgkkjhmdfmiaaLaws16
import Derived.Lib.Split
namespace Go.Proofs.Ytnbgkkjhmdfmiaa
open Go.RowKit

theorem ref1_same' (A A' : Option Addr) (xs ys : List UInt8) (n n' c c' B B' : Nat) (w : World) (hn : n = xs.length) (hn' : n' = ys.length) (hx : RB w B A xs) (hy : RB w B' A' ys) (hl : xs.length ≤ 1073741824) (hl' : ys.length ≤ 1073741824) :
    Calls Try.prog 16 #[.slice A n c, .slice A' n' c'] w fun e w' => e = .returned (.bool (decide (xs = ys))) ∧ ∃ n, w' = w.drewN n := by
  subst hn hn'
  exact ref1_same A A' xs ys c c' B B' w hx hy hl hl'

theorem cut16 (call inode off : Int) (tr : Bool) (s : ByteArray) (w : World) :
    Calls Try.prog 13 #[.agg #[.int .i64 call, .int .i64 inode, .bool tr, .int .i64 off, .string s]] w fun e w' => (∃ s' : ByteArray, s'.size ≤ 80 ∧ e = .returned (.agg #[.int .i64 call, .int .i64 inode, .bool tr, .int .i64 off, .string s'])) ∧ Below w.heap.size w w' := by
  by_cases h : 80 < s.size
  · go_enter Try.func13, Try.ntmps13
    go_wp2
    exact bodyPost_ret (v := .agg #[.int .i64 call, .int .i64 inode, .bool tr, .int .i64 off, .string (s.extract 0 80)]) (by simp [results, Try.results13, go_sem]) rfl ⟨⟨_, by simp; omega, rfl⟩, ((Below.refl _ _).alloc (Nat.le_refl _) _).alloc (by simp) _⟩
  · go_enter Try.func13, Try.ntmps13
    go_wp2
    exact bodyPost_ret (v := .agg #[.int .i64 call, .int .i64 inode, .bool tr, .int .i64 off, .string s]) (by simp [results, Try.results13, go_sem]) rfl ⟨⟨_, by omega, rfl⟩, ((Below.refl _ _).alloc (Nat.le_refl _) _).alloc (by simp) _⟩
end Go.Proofs.Ytnbgkkjhmdfmiaa
