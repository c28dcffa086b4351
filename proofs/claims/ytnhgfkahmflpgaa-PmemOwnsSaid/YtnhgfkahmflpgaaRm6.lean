/- commonsref03: Flush. No statement of the seat is proved here. -/
import Derived.Test.YtnhgfkahmflpgaaRm2
import Derived.Test.YtnhgfkahmflpgaaPm9
namespace Go.Proofs.Ytnhgfkahmflpgaa
open Go.RowKit

theorem rm_flush_no {w : World} {x : MB} {N : Nat} {S T : List UInt8} {A : List Bool} (h : RM w x N S T A) (at_ n : Int) (hin : inW (8 * N) at_ n = false) :
    Calls Try.prog 25 #[.pointer (some ⟨x.p, 0, none⟩), .int .i64 at_, .int .i64 n] w fun e w' => e = .returned (.int .i64 1) ∧ w = w' := by
  have hw := rm_within h at_ n
  rw [hin] at hw
  have HW := Lib.hid hw
  clear hw hin h
  go_enter Try.func25, Try.ntmps25
  go_wp2_with fail
  refine HW.out.mono ?_
  rintro e w1 ⟨rfl, rfl⟩
  go_wp2_with fail
  go_ret
  exact ⟨rfl, rfl⟩
theorem pm_flush_no {w : World} {x : MB} {N : Nat} {S T : List UInt8} {A : List Bool} (h : PM w x N S T A) (at_ n : Int) (hn : -9223372036854775808 ≤ n) (hn' : n ≤ 9223372036854775807) (hin : inW (8 * N) at_ n = false) :
    Calls Try.prog 14 #[.pointer (some ⟨x.p, 0, none⟩), .int .i64 at_, .int .i64 n] w fun e w' => e = .returned (.int .i64 1) ∧ Grow w w' := by
  have h1 := h.keep ((Grow.refl w).alloc (.cells #[.pointer (some ⟨x.p, 0, none⟩)] 22))
  have hw := pm_within h1 at_ n hn hn'
  rw [hin] at hw
  have HW := Lib.hid hw
  have K1 := (Blk.new w 22 [.pointer (some ⟨x.p, 0, none⟩)] _ (0, 0) rfl).c1
  clear hw hin h h1 hn hn'
  go_enter Try.func14, Try.ntmps14
  go_wp2_with fail
  refine HW.out.mono ?_
  rintro e w1 ⟨rfl, rfl⟩
  go_wp2_with fail
  go_ret
  exact ⟨rfl, (Grow.refl w).alloc _⟩

def ltB (B : Nat → Bool) (k : Nat) : Nat → Bool := fun j => B j && decide (j < k)
def RFlushInv (w wr : World) (x : MB) (N : Nat) (S T : List UInt8) (A : List Bool) (a m : Nat) (t : Value) : Prop := ∃ k : Nat, t = .int .i64 (k : Int) ∧ k ≤ N ∧ RM wr x N S T (flushA S T A (ltB (lineB a m) k)) ∧ Turn x.F w wr
/-- Is a byte of those before i in the cell's line? -/
def inB (a k i : Nat) : Bool := decide (a < i ∧ a / 64 ≤ k / 8 ∧ k / 8 ≤ (i - 1) / 64)
theorem inB_step {a k i qi qk : Nat} (hi : a ≤ i) (h1 : qi = i / 64) (h2 : qk = k / 8) : inB a k (i + 1) = (inB a k i || decide (qi = qk)) := by
  unfold inB
  rw [← Bool.decide_or]
  congr 1; apply propext; omega
theorem inB_end (a m k : Nat) : inB a k (a + m) = lineB a m k := by
  unfold inB lineB
  congr 1; apply propext; omega
theorem inB_start (a k : Nat) : inB a k a = false := by unfold inB; exact decide_eq_false (by omega)
def InInv (wq wr : World) (a m k : Nat) (b t : Value) : Prop := ∃ i : Nat, t = .int .i64 (i : Int) ∧ a ≤ i ∧ i ≤ a + m ∧ b = .bool (inB a k i) ∧ wr = wq
theorem wrapAMn {a m N : Nat} (h : a + m ≤ 8 * N) (h' : N ≤ 131072) : wrap64 ((a : Int) + (m : Int)) = ((a + m : Nat) : Int) := by rw [IntWalk.wrap64_in _ (by omega)]; simp
theorem flush_step {S T : List UInt8} {A : List Bool} {B : Nat → Bool} {k : Nat} (hk : k < A.length) (hB : B k = true) (hd : dirtyB S T k = true) : (flushA S T A (ltB B k)).set k true = flushA S T A (ltB B (k + 1)) := by
  rw [flushA_set S T A _ k hk hd]
  refine flushA_congr S T A fun j _ _ => ?_
  simp only [ltB]
  by_cases e : j = k
  · subst e; simp [hB]
  · rw [decide_eq_false e, Bool.or_false]; congr 1; simp; omega
theorem flush_skip {S T : List UInt8} {A : List Bool} {B : Nat → Bool} {k : Nat} (h : (B k && dirtyB S T k) = false) : flushA S T A (ltB B k) = flushA S T A (ltB B (k + 1)) := by
  refine flushA_congr S T A fun j _ hj => ?_
  simp only [ltB]
  by_cases e : j = k
  · subst e; rw [hj, Bool.and_true] at h; rw [h]; rfl
  · congr 1; simp; omega

set_option maxHeartbeats 4000000 in
set_option maxRecDepth 8000 in
theorem rm_flush {w : World} {x : MB} {N : Nat} {S T : List UInt8} {A : List Bool} (h : RM w x N S T A) (a m : Nat) (hA : a + m ≤ 8 * N) :
    Calls Try.prog 25 #[.pointer (some ⟨x.p, 0, none⟩), .int .i64 (a : Nat), .int .i64 (m : Nat)] w fun e w' => e = .returned (.int .i64 0) ∧ RM w' x N S T (flushA S T A (lineB a m)) ∧ Turn x.F w w' := by
  have hw := rm_within h (a : Int) (m : Int)
  rw [inW_iff.2 ⟨by omega, by omega, by omega⟩] at hw
  have HW := Lib.hid hw
  have HB := Lib.hid h.bound.2.2
  have HLA := Lib.hid h.lenA
  have e1 := wrapAMn hA h.bound.2.2
  obtain ⟨d, hd⟩ : ∃ d, d = a + m := ⟨_, rfl⟩
  rw [← hd] at e1
  have had : a ≤ d := by clear e1; omega
  have HD8 := Lib.hid (show d ≤ 8 * N by rw [hd]; exact hA)
  have HD := Lib.hid hd
  have H0 := Lib.hid (show RM w x N S T (flushA S T A (ltB (lineB a m) 0)) by rw [flushA_none S T A (B := ltB (lineB a m) 0) (fun k => by simp [ltB])]; exact h)
  clear hw h hA hd
  go_enter Try.func25, Try.ntmps25
  go_wp2_with fail
  refine HW.out.mono ?_
  rintro e w1 ⟨rfl, rfl⟩
  clear HW
  go_wp2_with fail
  go_loopw [8] (fun t wr => RFlushInv w wr x N S T A a m t) (fun t _ => N - (intOf t).toNat)
  case atStart => exact ⟨0, rfl, Nat.zero_le _, H0.out, Turn.refl _ _⟩
  case round =>
    obtain ⟨k, rfl, hk, hP, ht⟩ := hrel
    obtain ⟨L, cs, ct, ca, HLL, -, -, hca, -, -, c2, l0⟩ := hP.look
    have HP := Lib.hid hP
    clear hP
    by_cases hlt : k < N
    · have e5 := wrapS hlt (Nat.le_trans HB.out (by decide))
      obtain ⟨qk, hqk⟩ : ∃ qk, qk = k / 8 := ⟨_, rfl⟩
      have f1 := tdiv8 hqk
      have f2 := wrap_small (q := qk) (by have := HB.out; clear f1 e1 e5; omega)
      have HQK := Lib.hid hqk
      clear hqk
      go_wp2_with fail
      go_loopw [9, 10] (fun b t wq => InInv wr wq a m k b t) (fun _ t _ => d - (intOf t).toNat)
      case atStart => exact ⟨a, rfl, Nat.le_refl _, Nat.le_add_right _ _, by rw [inB_start], rfl⟩
      case round =>
        obtain ⟨i, rfl, hi1, hi2, rfl, rfl⟩ := hrel
        rw [← HD.out] at hi2
        by_cases hlt2 : i < d
        · obtain ⟨qi, hqi⟩ : ∃ qi, qi = i / 64 := ⟨_, rfl⟩
          have g1 := tdiv64 hqi
          have g2 := wrap_small (q := qi) (by have := HB.out; have := HD8.out; clear f1 f2 e1 e5 g1; omega)
          have HST := Lib.hid (inB_step (k := k) hi1 hqi HQK.out)
          have g5 := wrapS hlt2 (Nat.le_trans HD8.out (Nat.mul_le_mul_left 8 HB.out))
          have X : ∀ b, b = .bool (inB a k (i + 1)) → InInv wr wr a m k b (.int .i64 ((i : Int) + 1)) := fun b hb => ⟨i + 1, by simp, Nat.le_succ_of_le hi1, by rw [← HD.out]; exact hlt2, hb, rfl⟩
          have HX := Lib.hid X
          clear X hqi
          cases hb : inB a k i with
          | true =>
            have HE := Lib.hid (show Value.bool true = .bool (inB a k (i + 1)) by rw [HST.out, hb]; rfl)
            clear hb
            go_wp2_with fail
            go_roundw
            case rel => (try rw [g5]); first | exact HX.out _ HE.out | ((repeat apply Exists.intro); exact HX.out _ HE.out) | ((repeat apply Exists.intro); refine ⟨HX.out _ HE.out, ?_⟩; rfl)
            case measure => first | exact meas hlt2 | exact measW hlt2 g5
          | false =>
            by_cases hq : qi = qk
            · have HE := Lib.hid (show Value.bool true = .bool (inB a k (i + 1)) by rw [HST.out, hb, decide_eq_true hq]; rfl)
              have g6 : ((qi : Int) == (qk : Int)) = true := by rw [hq]; simp
              clear hb hq
              go_wp2_with fail
              go_roundw
              case rel => (try rw [g5]); first | exact HX.out _ HE.out | ((repeat apply Exists.intro); exact HX.out _ HE.out) | ((repeat apply Exists.intro); refine ⟨HX.out _ HE.out, ?_⟩; rfl)
              case measure => first | exact meas hlt2 | exact measW hlt2 g5
            · have HE := Lib.hid (show Value.bool false = .bool (inB a k (i + 1)) by rw [HST.out, hb, decide_eq_false hq]; rfl)
              have g6 : ((qi : Int) == (qk : Int)) = false := by rw [beq_eq_false_iff_ne]; clear g1 g2 g5 f1 f2 e1 e5; omega
              have g7 : (qi == qk) = false := by rw [beq_eq_false_iff_ne]; exact hq
              clear hb hq
              go_wp2_with fail
              go_roundw
              case rel => (try rw [g5]); first | exact HX.out _ HE.out | ((repeat apply Exists.intro); exact HX.out _ HE.out) | ((repeat apply Exists.intro); refine ⟨HX.out _ HE.out, ?_⟩; rfl)
              case measure => first | exact meas hlt2 | exact measW hlt2 g5
        · obtain rfl : i = d := by clear f1 f2 e1 e5; omega
          have HE := Lib.hid (show inB a k i = lineB a m k by rw [HD.out]; exact inB_end a m k)
          have hkA : k < A.length := by rw [HLA.out]; exact hlt
          have HKA := Lib.hid hkA
          clear hkA
          cases hb : inB a k i with
          | false =>
            have X : RFlushInv w wr x N S T A a m (.int .i64 ((k : Int) + 1)) := ⟨k + 1, by simp, hlt, by rw [← flush_skip (by rw [← HE.out, hb]; rfl)]; exact HP.out, ht⟩
            clear hb
            go_wp2_with fail
            go_roundw
            case rel => (try rw [e5]); first | exact X | ((repeat apply Exists.intro); exact X) | ((repeat apply Exists.intro); refine ⟨X, ?_⟩; rfl)
            case measure => first | exact meas hlt | exact measW hlt e5
          | true =>
            have HLB := Lib.hid (show lineB a m k = true by rw [← HE.out]; exact hb)
            clear hb
            go_wp2_with fail
            refine (rm_dirty1 HP.out k hlt).mono ?_
            rintro e w5 ⟨rfl, g5⟩
            have hP5 := HP.out.keep g5
            have HT5 := Lib.hid (ht.andGrow g5)
            cases hD : dirtyB S T k with
            | false =>
              have X : RFlushInv w w5 x N S T A a m (.int .i64 ((k : Int) + 1)) := ⟨k + 1, by simp, hlt, by rw [← flush_skip (by rw [hD, Bool.and_false])]; exact hP5, HT5.out⟩
              clear hD hP5 g5 c2 l0
              go_wp2_with fail
              go_roundw
              case rel => (try rw [e5]); first | exact X | ((repeat apply Exists.intro); exact X) | ((repeat apply Exists.intro); refine ⟨X, ?_⟩; rfl)
              case measure => first | exact meas hlt | exact measW hlt e5
            | true =>
              obtain ⟨L5, cs5, ct5, ca5, HLL5, -, -, hca5, -, -, d2, l5⟩ := hP5.look
              obtain ⟨a5, f5⟩ := hP5.awayAt hlt
              obtain ⟨hP6, t6⟩ := hP5.awaySet k true
              rw [flush_step HKA.out HLB.out hD] at hP6
              have X : RFlushInv w (w5.setCell ⟨x.b, k, none⟩ (.bool true)) x N S T A a m (.int .i64 ((k : Int) + 1)) := ⟨k + 1, by simp, hlt, hP6, HT5.out.and t6⟩
              clear hD hP5 hP6 t6 g5 c2 l0
              go_wp2_with fail
              go_roundw
              case rel => (try rw [e5]); first | exact X | ((repeat apply Exists.intro); exact X) | ((repeat apply Exists.intro); refine ⟨X, ?_⟩; rfl)
              case measure => first | exact meas hlt | exact measW hlt e5
    · obtain rfl : k = N := by clear e1; omega
      have HF := Lib.hid (show RM wr x k S T (flushA S T A (lineB a m)) by
        rw [← flushA_congr S T A (B := ltB (lineB a m) k) (fun j hj _ => by rw [HLA.out] at hj; simp only [ltB]; rw [decide_eq_true hj, Bool.and_true])]
        exact HP.out)
      clear HP
      go_wp2_with fail
      go_ret
      exact ⟨rfl, HF.out, ht⟩
end Go.Proofs.Ytnhgfkahmflpgaa
