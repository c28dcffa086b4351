/- commonsref03: dirty, keep. No statement of the seat is proved here. -/
import Derived.Test.YtnhgfkahmflpgaaRm1
namespace Go.Proofs.Ytnhgfkahmflpgaa
open Go.RowKit

theorem wrap8 {k N : Nat} (h : k < N) (h' : N ≤ 131072) : wrap64 (8 * (k : Int)) = 8 * (k : Int) ∧ wrap64 (8 * (k : Int) + 8) = 8 * (k : Int) + 8 := ⟨IntWalk.wrap64_in _ (by omega), IntWalk.wrap64_in _ (by omega)⟩
def RDirtyInv (w wr : World) (S T : List UInt8) (k : Nat) (t : Value) : Prop := ∃ i : Nat, t = .int .i64 (i : Int) ∧ 8 * k ≤ i ∧ i ≤ 8 * k + 8 ∧ (∀ j, 8 * k ≤ j → j < i → S.getD j 0 = T.getD j 0) ∧ Grow w wr
theorem dirtyB_true {S T : List UInt8} {k i : Nat} (h1 : 8 * k ≤ i) (h2 : i < 8 * k + 8) (h : S.getD i 0 ≠ T.getD i 0) : dirtyB S T k = true := by
  unfold dirtyB
  refine List.any_eq_true.2 ⟨i - 8 * k, by simp; omega, ?_⟩
  rw [show 8 * k + (i - 8 * k) = i by omega]
  simpa using h
theorem dirtyB_false {S T : List UInt8} {k : Nat} (h : ∀ j, 8 * k ≤ j → j < 8 * k + 8 → S.getD j 0 = T.getD j 0) : dirtyB S T k = false := by
  unfold dirtyB
  refine List.any_eq_false.2 fun j hj => ?_
  have := h (8 * k + j) (by omega) (by simp at hj; omega)
  simp only [this, bne_self_eq_false, Bool.false_eq_true, not_false_eq_true]

set_option maxHeartbeats 2000000 in
set_option maxRecDepth 8000 in
theorem rm_dirty1 {w : World} {x : MB} {N : Nat} {S T : List UInt8} {A : List Bool} (h : RM w x N S T A) (k : Nat) (hk : k < N) :
    Calls Try.prog 40 #[.pointer (some ⟨x.p, 0, none⟩), .int .i64 (k : Nat)] w fun e w' => e = .returned (.bool (dirtyB S T k)) ∧ Grow w w' := by
  have HB := Lib.hid h.bound.2.2
  have H := Lib.hid h
  obtain ⟨p1, p2⟩ := wrap8 hk HB.out
  obtain ⟨c, hc⟩ : ∃ c, c = 8 * k := ⟨_, rfl⟩
  have hcc : 8 * (k : Int) = (c : Int) := by clear p1 p2; omega
  rw [hcc] at p1 p2
  have HC := Lib.hid hc
  clear h hc
  go_enter Try.func40, Try.ntmps40
  go_wp2_with fail
  simp only [p1]
  go_loopw [5] (fun t wr => RDirtyInv w wr S T k t) (fun t _ => c + 8 - (intOf t).toNat)
  case atStart => exact ⟨c, rfl, by rw [HC.out]; exact Nat.le_refl _, by rw [HC.out]; exact Nat.le_add_right _ _, fun j h1 h2 => by rw [HC.out] at h2; exact absurd h1 (Nat.not_le.2 h2), Grow.refl _⟩
  case round =>
    obtain ⟨i, rfl, hi1, hi2, hS, G⟩ := hrel
    rw [← HC.out] at hi1 hi2
    by_cases hlt : i < c + 8
    · have z1 : decide ((i : Int) < (c : Int) + 8) = true := decide_eq_true (by clear p1 p2 hcc; omega)
      have hiN : i < 8 * N := by have := HC.out; clear p1 p2 hcc; omega
      obtain ⟨L, cs, ct, ca, HLL, hcs, hct, -, c0, c1, -, l0⟩ := (H.out.keep G).look
      have hiL : i < L := by rw [HLL.out]; exact hiN
      obtain ⟨s0, -⟩ := (H.out.keep G).seenAt hiN
      obtain ⟨t0, -⟩ := (H.out.keep G).lastAt hiN
      obtain ⟨u, hu⟩ : ∃ u, u = S.getD i 0 := ⟨_, rfl⟩
      obtain ⟨v, hv⟩ : ∃ v, v = T.getD i 0 := ⟨_, rfl⟩
      rw [← hu] at s0
      rw [← hv] at t0
      have e5 := wrapS hiN (Nat.mul_le_mul_left 8 HB.out)
      have HS := Lib.hid hS
      have HU := Lib.hid hu
      have HV := Lib.hid hv
      have HI1 := Lib.hid hi1
      clear hS hu hv hi2 hi1 hiN
      by_cases he : u = v
      · have hq : ((u.toNat : Int) != (v.toNat : Int)) = false := by simp [he]
        have X : ∀ w2, Grow w w2 → RDirtyInv w w2 S T k (.int .i64 ((i : Int) + 1)) := fun w2 g => ⟨i + 1, by simp, by rw [← HC.out]; exact Nat.le_succ_of_le HI1.out, by rw [← HC.out]; exact hlt, fun j h1 h2 => by
          by_cases e : j = i
          · subst e; rw [← HU.out, ← HV.out, he]
          · exact HS.out j h1 (by clear p1 p2 hcc e5; omega), g⟩
        have HX := Lib.hid X
        clear X he
        go_wp2_with fail
        go_quiet (fail)
        go_wp2_with fail
        go_roundw
        case rel => (try rw [e5]); first | exact HX.out _ (G.drewN _) | ((repeat apply Exists.intro); exact HX.out _ (G.drewN _)) | ((repeat apply Exists.intro); refine ⟨HX.out _ (G.drewN _), ?_⟩; rfl)
        case measure => first | exact meas hlt | exact measW hlt e5
      · have hq : ((u.toNat : Int) != (v.toNat : Int)) = true := by rw [bne_iff_ne]; exact fun q => he (UInt8.toNat_inj.1 (by clear p1 p2 hcc e5; omega))
        have HD := Lib.hid (dirtyB_true (S := S) (T := T) (k := k) (i := i) (by rw [← HC.out]; exact HI1.out) (by rw [← HC.out]; exact hlt) (by rw [← HU.out, ← HV.out]; exact he))
        clear he
        go_wp2_with fail
        go_quiet (fail)
        go_wp2_with fail
        go_ret
        exact ⟨by rw [HD.out]; rfl, G.drewN _⟩
    · have z1 : decide ((i : Int) < (c : Int) + 8) = false := decide_eq_false (by clear p1 p2 hcc; omega)
      have HD := Lib.hid (dirtyB_false (S := S) (T := T) (k := k) (fun j h1 h2 => hS j h1 (by have := HC.out; clear p1 p2 hcc; omega)))
      clear hS
      go_wp2_with fail
      go_ret
      exact ⟨by rw [HD.out]; rfl, G⟩

def RKeepInv (w wr : World) (x : MB) (N : Nat) (S T : List UInt8) (A : List Bool) (k : Nat) (t : Value) : Prop := ∃ i : Nat, t = .int .i64 (i : Int) ∧ 8 * k ≤ i ∧ i ≤ 8 * k + 8 ∧ RM wr x N S (keepN S T (8 * k) (i - 8 * k)) A ∧ Turn x.F w wr

set_option maxHeartbeats 2000000 in
set_option maxRecDepth 8000 in
theorem rm_keep {w : World} {x : MB} {N : Nat} {S T : List UInt8} {A : List Bool} (h : RM w x N S T A) (k : Nat) (hk : k < N) :
    Calls Try.prog 41 #[.pointer (some ⟨x.p, 0, none⟩), .int .i64 (k : Nat)] w fun e w' => e = .returned (.tuple #[]) ∧ RM w' x N S (keepN S T (8 * k) 8) (A.set k false) ∧ Turn x.F w w' := by
  have HB := Lib.hid h.bound.2.2
  have H := Lib.hid h
  obtain ⟨p1, p2⟩ := wrap8 hk HB.out
  obtain ⟨c, hc⟩ : ∃ c, c = 8 * k := ⟨_, rfl⟩
  have hcc : 8 * (k : Int) = (c : Int) := by clear p1 p2; omega
  rw [hcc] at p1 p2
  have HC := Lib.hid hc
  clear h hc
  go_enter Try.func41, Try.ntmps41
  go_wp2_with fail
  simp only [p1]
  go_loopw [4] (fun t wr => RKeepInv w wr x N S T A k t) (fun t _ => c + 8 - (intOf t).toNat)
  case atStart => exact ⟨c, rfl, by rw [HC.out]; exact Nat.le_refl _, by rw [HC.out]; exact Nat.le_add_right _ _, by rw [HC.out, Nat.sub_self]; exact H.out, Turn.refl _ _⟩
  case round =>
    obtain ⟨i, rfl, hi1, hi2, hP, ht⟩ := hrel
    rw [← HC.out] at hi1 hi2
    by_cases hlt : i < c + 8
    · have z1 : decide ((i : Int) < (c : Int) + 8) = true := decide_eq_true (by clear p1 p2 hcc; omega)
      have hiN : i < 8 * N := by have := HC.out; clear p1 p2 hcc; omega
      obtain ⟨L, cs, ct, ca, HLL, hcs, hct, -, c0, c1, -, l0⟩ := hP.look
      have hiL : i < L := by rw [HLL.out]; exact hiN
      obtain ⟨s0, -⟩ := hP.seenAt hiN
      obtain ⟨t0, f0⟩ := hP.lastAt hiN
      obtain ⟨u, hu⟩ : ∃ u, u = S.getD i 0 := ⟨_, rfl⟩
      rw [← hu] at s0
      have e5 := wrapS hiN (Nat.mul_le_mul_left 8 HB.out)
      obtain ⟨hP2, t2⟩ := hP.lastSet i u
      have hstep : (keepN S T (8 * k) (i - 8 * k)).set i u = keepN S T (8 * k) (i + 1 - 8 * k) := by
        have hc1 := HC.out
        rw [show i + 1 - 8 * k = (i - 8 * k) + 1 by clear p1 p2 hcc e5; omega, keepN, show 8 * k + (i - 8 * k) = i by clear p1 p2 hcc e5; omega, hu]
      rw [hstep] at hP2
      have HP2 := Lib.hid hP2
      have HT2 := Lib.hid (ht.and t2)
      have HI1 := Lib.hid hi1
      have X : RKeepInv w (wr.setCell ⟨x.gt, i, none⟩ (.int .u8 (u.toNat : Int))).drew x N S T A k (.int .i64 ((i : Int) + 1)) := ⟨i + 1, by simp, by rw [← HC.out]; exact Nat.le_succ_of_le HI1.out, by rw [← HC.out]; exact hlt, HP2.out.keep ((Grow.refl _).drew), HT2.out.andGrow ((Grow.refl _).drew)⟩
      clear hP ht hP2 t2 hstep hu hi2 hi1 hiN
      go_wp2_with fail
      go_region
      go_wp2_with fail
      go_roundw
      case rel => (try rw [e5]); first | exact X | ((repeat apply Exists.intro); exact X) | ((repeat apply Exists.intro); refine ⟨X, ?_⟩; rfl)
      case measure => first | exact meas hlt | exact measW hlt e5
    · have z1 : decide ((i : Int) < (c : Int) + 8) = false := decide_eq_false (by clear p1 p2 hcc; omega)
      obtain rfl : i = c + 8 := by clear p1 p2 hcc; omega
      have hP0 : RM wr x N S (keepN S T (8 * k) 8) A := by rw [← HC.out] at hP ⊢; rw [Nat.add_sub_cancel_left] at hP; exact hP
      obtain ⟨L, cs, ct, ca, HLL, hcs, hct, hca, -, -, c2, l0⟩ := hP0.look
      obtain ⟨a0, f0⟩ := hP0.awayAt hk
      obtain ⟨hP2, t2⟩ := hP0.awaySet k false
      have HP2 := Lib.hid hP2
      have HT2 := Lib.hid (ht.and t2)
      clear hP ht hP0 hP2 t2
      go_wp2_with fail
      go_end0
      exact ⟨rfl, HP2.out, HT2.out⟩
end Go.Proofs.Ytnhgfkahmflpgaa
