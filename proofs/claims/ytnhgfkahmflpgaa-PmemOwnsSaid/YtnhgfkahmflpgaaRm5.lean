/- commonsref03: Evict, Flush. No statement of the seat is proved here. -/
import Derived.Test.YtnhgfkahmflpgaaRm2
import Derived.Test.YtnhgfkahmflpgaaPm9
namespace Go.Proofs.Ytnhgfkahmflpgaa
open Go.RowKit

def REvInv (w wr : World) (x : MB) (N : Nat) (S T : List UInt8) (A : List Bool) (l : Nat) (t : Value) : Prop := ∃ k : Nat, t = .int .i64 (k : Int) ∧ 8 * l ≤ k ∧ k ≤ 8 * l + 8 ∧ RM wr x N S (mixL S T (inC (8 * l) (k - 8 * l))) (clrC A (8 * l) (k - 8 * l)) ∧ Turn x.F w wr
theorem tdivL {L N : Nat} (h : L = 8 * N) (h8 : N % 8 = 0) : Int.tdiv (L : Int) 64 = ((N / 8 : Nat) : Int) := by rw [Int.tdiv_eq_ediv_of_nonneg (by omega)]; omega
theorem wrap8c {l N : Nat} (h : 8 * l < N) (h' : N ≤ 131072) : wrap64 (8 * (l : Int)) = 8 * (l : Int) ∧ wrap64 (8 * (l : Int) + 8) = 8 * (l : Int) + 8 := ⟨IntWalk.wrap64_in _ (by omega), IntWalk.wrap64_in _ (by omega)⟩

set_option maxHeartbeats 2000000 in
set_option maxRecDepth 8000 in
theorem rm_evict_yes {w : World} {x : MB} {N : Nat} {S T : List UInt8} {A : List Bool} (h : RM w x N S T A) (l : Nat) (hl : l < N / 8) :
    Calls Try.prog 28 #[.pointer (some ⟨x.p, 0, none⟩), .int .i64 (l : Nat)] w fun e w' => e = .returned (.int .i64 0) ∧ RM w' x N S (mixL S T (inC (8 * l) 8)) (clrC A (8 * l) 8) ∧ Turn x.F w w' := by
  have HB := Lib.hid h.bound.2.2
  obtain ⟨L0, cs, ct, ca, HLL, hcs, -, -, c0, -, -, l0⟩ := h.look
  have e0 := tdivL HLL.out h.bound.1
  have hlN : 8 * l + 8 ≤ N := by clear e0; omega
  obtain ⟨M, hM⟩ : ∃ M, M = N / 8 := ⟨_, rfl⟩
  rw [← hM] at e0 hl
  have e1 := wrap_small (q := M) (by have := HB.out; clear e0; omega)
  have z0 : decide ((l : Int) < 0) = false := decide_eq_false (by clear e0 e1; omega)
  have z1 : decide ((M : Int) ≤ (l : Int)) = false := decide_eq_false (by clear e0 e1; omega)
  have z2 : decide (M ≤ l) = false := decide_eq_false (by clear e0 e1; omega)
  obtain ⟨p1, p2⟩ := wrap8c (show 8 * l < N by clear e0 e1; omega) HB.out
  obtain ⟨c, hc⟩ : ∃ c, c = 8 * l := ⟨_, rfl⟩
  have hcc : 8 * (l : Int) = (c : Int) := by clear p1 p2 e0 e1; omega
  rw [hcc] at p1 p2
  have HC := Lib.hid hc
  have H0 := Lib.hid (show RM w x N S (mixL S T (inC (8 * l) 0)) (clrC A (8 * l) 0) by rw [mixL_none S T (fun k => inC0 _ k)]; exact h)
  have HLN := Lib.hid hlN
  clear h hM hl hc hlN
  go_enter Try.func28, Try.ntmps28
  go_wp2_with fail
  simp only [p1]
  go_loopw [5] (fun t wr => REvInv w wr x N S T A l t) (fun t _ => c + 8 - (intOf t).toNat)
  case atStart => exact ⟨c, rfl, by rw [HC.out]; exact Nat.le_refl _, by rw [HC.out]; exact Nat.le_add_right _ _, by rw [HC.out, Nat.sub_self]; exact H0.out, Turn.refl _ _⟩
  case round =>
    obtain ⟨k, rfl, hk1, hk2, hP, ht⟩ := hrel
    clear e0 e1 c0
    rw [← HC.out] at hk1 hk2
    by_cases hlt : k < c + 8
    · have hcl := HC.out
      have hlN := HLN.out
      have z3 : decide ((k : Int) < (c : Int) + 8) = true := decide_eq_true (by clear p1 p2 hcc; omega)
      have hkN : k < N := by clear p1 p2 hcc; omega
      have hsub : k + 1 - 8 * l = (k - 8 * l) + 1 := by clear p1 p2 hcc; omega
      have hcn : 8 * l + (k - 8 * l) = k := by clear p1 p2 hcc; omega
      have HM := Lib.hid (show keepN S (mixL S T (inC (8 * l) (k - 8 * l))) (8 * k) 8 = mixL S T (inC (8 * l) (k + 1 - 8 * l)) by rw [hsub, ← mixL_inC, hcn])
      have HC2 := Lib.hid (show (clrC A (8 * l) (k - 8 * l)).set k false = clrC A (8 * l) (k + 1 - 8 * l) by rw [hsub, clrC, hcn])
      have e5 := wrapS hkN (Nat.le_trans HB.out (by decide))
      have HP := Lib.hid hP
      clear hsub hcn hP hcl hlN
      go_wp2_with fail
      refine (rm_keep HP.out k hkN).mono ?_
      rintro e w4 ⟨rfl, hP2, t2⟩
      rw [HM.out, HC2.out] at hP2
      have X : REvInv w w4 x N S T A l (.int .i64 ((k : Int) + 1)) := ⟨k + 1, by simp, by rw [← HC.out]; exact Nat.le_succ_of_le hk1, by rw [← HC.out]; exact hlt, hP2, ht.and t2⟩
      clear hP2 t2
      go_wp2_with fail
      go_roundw
      case rel => (try rw [e5]); first | exact X | ((repeat apply Exists.intro); exact X) | ((repeat apply Exists.intro); refine ⟨X, ?_⟩; rfl)
      case measure => first | exact meas hlt | exact measW hlt e5
    · have z3 : decide ((k : Int) < (c : Int) + 8) = false := decide_eq_false (by clear p1 p2 hcc; omega)
      obtain rfl : k = c + 8 := by clear p1 p2 hcc; omega
      have HP := Lib.hid (show RM wr x N S (mixL S T (inC (8 * l) 8)) (clrC A (8 * l) 8) by rw [HC.out, Nat.add_sub_cancel_left] at hP; exact hP)
      clear hP
      go_wp2_with fail
      go_ret
      exact ⟨rfl, HP.out, ht⟩
theorem rm_evict_no {w : World} {x : MB} {N : Nat} {S T : List UInt8} {A : List Bool} (h : RM w x N S T A) (l : Int) (hl : ¬ (0 ≤ l ∧ l < ((N / 8 : Nat) : Int))) :
    Calls Try.prog 28 #[.pointer (some ⟨x.p, 0, none⟩), .int .i64 l] w fun e w' => e = .returned (.int .i64 1) ∧ w = w' := by
  have HB := Lib.hid h.bound.2.2
  obtain ⟨L0, cs, ct, ca, HLL, hcs, -, -, c0, -, -, l0⟩ := h.look
  have e0 := tdivL HLL.out h.bound.1
  obtain ⟨M, hM⟩ : ∃ M, M = N / 8 := ⟨_, rfl⟩
  rw [← hM] at e0 hl
  have e1 := wrap_small (q := M) (by have := HB.out; clear e0; omega)
  by_cases h0 : l < 0
  · have z0 : decide (l < 0) = true := decide_eq_true h0
    clear h hM hl e0 e1 h0
    go_enter Try.func28, Try.ntmps28
    go_wp2_with fail
    go_ret
    exact ⟨rfl, rfl⟩
  · have z0 : decide (l < 0) = false := decide_eq_false h0
    have z1 : decide ((M : Int) ≤ l) = true := decide_eq_true (by clear e0 e1; omega)
    clear h hM hl h0
    go_enter Try.func28, Try.ntmps28
    go_wp2_with fail
    go_ret
    exact ⟨rfl, rfl⟩
end Go.Proofs.Ytnhgfkahmflpgaa
