/- commonslaw03.cut. No statement of the seat is proved here. -/
import Derived.Test.YtnhgfkahmflpgaaRm1
namespace Go.Proofs.Ytnhgfkahmflpgaa
open Go.RowKit

def dv (k a n : Int) (B : Option Addr) (m c : Nat) (Q : Option Addr) (q d : Nat) : Value := .agg #[.int .i64 k, .int .i64 a, .int .i64 n, .slice B m c, .slice Q q d]

theorem cut3 (k a n : Int) (B : Option Addr) (m c : Nat) (Q : Option Addr) (q d : Nat) (hc : m ≤ c) (hd : q ≤ d) (w : World) :
    Calls Try.prog 23 #[dv k a n B m c Q q d] w fun e w' => e = .returned (dv k a n B (min m 100) c Q (min q 200) d) ∧ Grow w w' := by
  unfold dv
  by_cases hm : 100 < m
  · have z1 : decide (100 < m) = true := decide_eq_true hm
    have z1' : decide ((100 : Int) < (m : Int)) = true := decide_eq_true (by omega)
    rw [Nat.min_eq_right (by omega)]
    by_cases hq : 200 < q
    · have z2 : decide (200 < q) = true := decide_eq_true hq
      have z2' : decide ((200 : Int) < (q : Int)) = true := decide_eq_true (by omega)
      rw [Nat.min_eq_right (by omega)]
      go_enter Try.func23, Try.ntmps23
      go_wp2
      exact bodyPost_ret (v := .agg #[.int .i64 k, .int .i64 a, .int .i64 n, .slice B 100 c, .slice Q 200 d]) (by simp [results, Try.results23, go_sem]) rfl ⟨rfl, by repeat (first | exact Grow.refl _ | refine Grow.alloc ?_ _ | refine Grow.setCell ?_ (by simp) _)⟩
    · have z2 : decide (200 < q) = false := decide_eq_false hq
      have z2' : decide ((200 : Int) < (q : Int)) = false := decide_eq_false (by omega)
      rw [Nat.min_eq_left (by omega)]
      go_enter Try.func23, Try.ntmps23
      go_wp2
      exact bodyPost_ret (v := .agg #[.int .i64 k, .int .i64 a, .int .i64 n, .slice B 100 c, .slice Q q d]) (by simp [results, Try.results23, go_sem]) rfl ⟨rfl, by repeat (first | exact Grow.refl _ | refine Grow.alloc ?_ _ | refine Grow.setCell ?_ (by simp) _)⟩
  · have z1 : decide (100 < m) = false := decide_eq_false hm
    have z1' : decide ((100 : Int) < (m : Int)) = false := decide_eq_false (by omega)
    rw [Nat.min_eq_left (by omega)]
    by_cases hq : 200 < q
    · have z2 : decide (200 < q) = true := decide_eq_true hq
      have z2' : decide ((200 : Int) < (q : Int)) = true := decide_eq_true (by omega)
      rw [Nat.min_eq_right (by omega)]
      go_enter Try.func23, Try.ntmps23
      go_wp2
      exact bodyPost_ret (v := .agg #[.int .i64 k, .int .i64 a, .int .i64 n, .slice B m c, .slice Q 200 d]) (by simp [results, Try.results23, go_sem]) rfl ⟨rfl, by repeat (first | exact Grow.refl _ | refine Grow.alloc ?_ _ | refine Grow.setCell ?_ (by simp) _)⟩
    · have z2 : decide (200 < q) = false := decide_eq_false hq
      have z2' : decide ((200 : Int) < (q : Int)) = false := decide_eq_false (by omega)
      rw [Nat.min_eq_left (by omega)]
      go_enter Try.func23, Try.ntmps23
      go_wp2
      exact bodyPost_ret (v := .agg #[.int .i64 k, .int .i64 a, .int .i64 n, .slice B m c, .slice Q q d]) (by simp [results, Try.results23, go_sem]) rfl ⟨rfl, by repeat (first | exact Grow.refl _ | refine Grow.alloc ?_ _ | refine Grow.setCell ?_ (by simp) _)⟩
end Go.Proofs.Ytnhgfkahmflpgaa
