/- commonsref03: Evict, Flush. commonsref03: Flush. commonsref03: Dirty, Fence, Evict. commonsref03: Load, Store. No statement of the seat is proved here. -/
import Derived.Test.YtlinlmimakealaaZ06
namespace Go.Proofs.Ytlinlmimakealaa
open Go.RowKit

def REvInv (w wr : World) (x : MB) (N : Nat) (S T : List UInt8) (A : List Bool) (l : Nat) (t : Value) : Prop := ∃ k : Nat, t = .int .i64 (k : Int) ∧ 8 * l ≤ k ∧ k ≤ 8 * l + 8 ∧ RM wr x N S (mixL S T (inC (8 * l) (k - 8 * l))) (clrC A (8 * l) (k - 8 * l)) ∧ Turn x.F w wr
theorem tdivL {L N : Nat} (h : L = 8 * N) (h8 : N % 8 = 0) : Int.tdiv (L : Int) 64 = ((N / 8 : Nat) : Int) := by rw [Int.tdiv_eq_ediv_of_nonneg (by omega)]; omega
theorem wrap8c {l N : Nat} (h : 8 * l < N) (h' : N ≤ 131072) : wrap64 (8 * (l : Int)) = 8 * (l : Int) ∧ wrap64 (8 * (l : Int) + 8) = 8 * (l : Int) + 8 := ⟨IntWalk.wrap64_in _ (by omega), IntWalk.wrap64_in _ (by omega)⟩

end Go.Proofs.Ytlinlmimakealaa

namespace Go.Proofs.Ytlinlmimakealaa
open Go.RowKit

theorem rm_flush_no {w : World} {x : MB} {N : Nat} {S T : List UInt8} {A : List Bool} (h : RM w x N S T A) (at_ n : Int) (hin : inW (8 * N) at_ n = false) :
    Calls Try.prog 79 #[.pointer (some ⟨x.p, 0, none⟩), .int .i64 at_, .int .i64 n] w fun e w' => e = .returned (.int .i64 1) ∧ w = w' := by
  have hw := rm_within h at_ n
  rw [hin] at hw
  have HW := Lib.hid hw
  clear hw hin h
  go_enter Try.func79, Try.ntmps79
  go_wp2_with fail
  refine HW.out.mono ?_
  rintro e w1 ⟨rfl, rfl⟩
  go_wp2_with fail
  go_ret
  exact ⟨rfl, rfl⟩
theorem pm_flush_no {w : World} {x : MB} {N : Nat} {S T : List UInt8} {A : List Bool} (h : PM w x N S T A) (at_ n : Int) (hn : -9223372036854775808 ≤ n) (hn' : n ≤ 9223372036854775807) (hin : inW (8 * N) at_ n = false) :
    Calls Try.prog 18 #[.pointer (some ⟨x.p, 0, none⟩), .int .i64 at_, .int .i64 n] w fun e w' => e = .returned (.int .i64 1) ∧ Grow w w' := by
  have h1 := h.keep ((Grow.refl w).alloc (.cells #[.pointer (some ⟨x.p, 0, none⟩)] 26))
  have hw := pm_within h1 at_ n hn hn'
  rw [hin] at hw
  have HW := Lib.hid hw
  have K1 := (Blk.new w 26 [.pointer (some ⟨x.p, 0, none⟩)] _ (0, 0) rfl).c1
  clear hw hin h h1 hn hn'
  go_enter Try.func18, Try.ntmps18
  go_wp2_with fail
  refine HW.out.mono ?_
  rintro e w1 ⟨rfl, rfl⟩
  go_wp2_with fail
  go_ret
  exact ⟨rfl, (Grow.refl w).alloc _⟩

def ltB (B : Nat → Bool) (k : Nat) : Nat → Bool := fun j => B j && decide (j < k)
def RFlushInv (w wr : World) (x : MB) (N : Nat) (S T : List UInt8) (A : List Bool) (a m : Nat) (t : Value) : Prop := ∃ k : Nat, t = .int .i64 (k : Int) ∧ k ≤ N ∧ RM wr x N S T (flushA S T A (ltB (lineB a m) k)) ∧ Turn x.F w wr
/-- Is a byte of those before i in the cell's line? -/
def inB (a k i : Nat) : Bool := decide (a < i ∧ a / 64 ≤ k / 8 ∧ k / 8 ≤ (i - 1) / 64)
theorem inB_step {a k i qi qk : Nat} (hi : a ≤ i) (h1 : qi = i / 64) (h2 : qk = k / 8) : inB a k (i + 1) = (inB a k i || decide (qi = qk)) := by
  unfold inB
  rw [← Bool.decide_or]
  congr 1; apply propext; omega
theorem inB_end (a m k : Nat) : inB a k (a + m) = lineB a m k := by
  unfold inB lineB
  congr 1; apply propext; omega
theorem inB_start (a k : Nat) : inB a k a = false := by unfold inB; exact decide_eq_false (by omega)
def InInv (wq wr : World) (a m k : Nat) (b t : Value) : Prop := ∃ i : Nat, t = .int .i64 (i : Int) ∧ a ≤ i ∧ i ≤ a + m ∧ b = .bool (inB a k i) ∧ wr = wq
theorem wrapAMn {a m N : Nat} (h : a + m ≤ 8 * N) (h' : N ≤ 131072) : wrap64 ((a : Int) + (m : Int)) = ((a + m : Nat) : Int) := by rw [IntWalk.wrap64_in _ (by omega)]; simp
theorem flush_step {S T : List UInt8} {A : List Bool} {B : Nat → Bool} {k : Nat} (hk : k < A.length) (hB : B k = true) (hd : dirtyB S T k = true) : (flushA S T A (ltB B k)).set k true = flushA S T A (ltB B (k + 1)) := by
  rw [flushA_set S T A _ k hk hd]
  refine flushA_congr S T A fun j _ _ => ?_
  simp only [ltB]
  by_cases e : j = k
  · subst e; simp [hB]
  · rw [decide_eq_false e, Bool.or_false]; congr 1; simp; omega
theorem flush_skip {S T : List UInt8} {A : List Bool} {B : Nat → Bool} {k : Nat} (h : (B k && dirtyB S T k) = false) : flushA S T A (ltB B k) = flushA S T A (ltB B (k + 1)) := by
  refine flushA_congr S T A fun j _ hj => ?_
  simp only [ltB]
  by_cases e : j = k
  · subst e; rw [hj, Bool.and_true] at h; rw [h]; rfl
  · congr 1; simp; omega

set_option maxHeartbeats 4000000 in
set_option maxRecDepth 8000 in
theorem rm_flush {w : World} {x : MB} {N : Nat} {S T : List UInt8} {A : List Bool} (h : RM w x N S T A) (a m : Nat) (hA : a + m ≤ 8 * N) :
    Calls Try.prog 79 #[.pointer (some ⟨x.p, 0, none⟩), .int .i64 (a : Nat), .int .i64 (m : Nat)] w fun e w' => e = .returned (.int .i64 0) ∧ RM w' x N S T (flushA S T A (lineB a m)) ∧ Turn x.F w w' := by
  have hw := rm_within h (a : Int) (m : Int)
  rw [inW_iff.2 ⟨by omega, by omega, by omega⟩] at hw
  have HW := Lib.hid hw
  have HB := Lib.hid h.bound.2.2
  have HLA := Lib.hid h.lenA
  have e1 := wrapAMn hA h.bound.2.2
  obtain ⟨d, hd⟩ : ∃ d, d = a + m := ⟨_, rfl⟩
  rw [← hd] at e1
  have had : a ≤ d := by clear e1; omega
  have HD8 := Lib.hid (show d ≤ 8 * N by rw [hd]; exact hA)
  have HD := Lib.hid hd
  have H0 := Lib.hid (show RM w x N S T (flushA S T A (ltB (lineB a m) 0)) by rw [flushA_none S T A (B := ltB (lineB a m) 0) (fun k => by simp [ltB])]; exact h)
  clear hw h hA hd
  go_enter Try.func79, Try.ntmps79
  go_wp2_with fail
  refine HW.out.mono ?_
  rintro e w1 ⟨rfl, rfl⟩
  clear HW
  go_wp2_with fail
  go_loopw [8] (fun t wr => RFlushInv w wr x N S T A a m t) (fun t _ => N - (intOf t).toNat)
  case atStart => exact ⟨0, rfl, Nat.zero_le _, H0.out, Turn.refl _ _⟩
  case round =>
    obtain ⟨k, rfl, hk, hP, ht⟩ := hrel
    obtain ⟨L, cs, ct, ca, HLL, -, -, hca, -, -, c2, l0⟩ := hP.look
    have HP := Lib.hid hP
    clear hP
    by_cases hlt : k < N
    · have e5 := wrapS hlt (Nat.le_trans HB.out (by decide))
      obtain ⟨qk, hqk⟩ : ∃ qk, qk = k / 8 := ⟨_, rfl⟩
      have f1 := tdiv8 hqk
      have f2 := wrap_small (q := qk) (by have := HB.out; clear f1 e1 e5; omega)
      have HQK := Lib.hid hqk
      clear hqk
      go_wp2_with fail
      go_loopw [9, 10] (fun b t wq => InInv wr wq a m k b t) (fun _ t _ => d - (intOf t).toNat)
      case atStart => exact ⟨a, rfl, Nat.le_refl _, Nat.le_add_right _ _, by rw [inB_start], rfl⟩
      case round =>
        obtain ⟨i, rfl, hi1, hi2, rfl, rfl⟩ := hrel
        rw [← HD.out] at hi2
        by_cases hlt2 : i < d
        · obtain ⟨qi, hqi⟩ : ∃ qi, qi = i / 64 := ⟨_, rfl⟩
          have g1 := tdiv64 hqi
          have g2 := wrap_small (q := qi) (by have := HB.out; have := HD8.out; clear f1 f2 e1 e5 g1; omega)
          have HST := Lib.hid (inB_step (k := k) hi1 hqi HQK.out)
          have g5 := wrapS hlt2 (Nat.le_trans HD8.out (Nat.mul_le_mul_left 8 HB.out))
          have X : ∀ b, b = .bool (inB a k (i + 1)) → InInv wr wr a m k b (.int .i64 ((i : Int) + 1)) := fun b hb => ⟨i + 1, by simp, Nat.le_succ_of_le hi1, by rw [← HD.out]; exact hlt2, hb, rfl⟩
          have HX := Lib.hid X
          clear X hqi
          cases hb : inB a k i with
          | true =>
            have HE := Lib.hid (show Value.bool true = .bool (inB a k (i + 1)) by rw [HST.out, hb]; rfl)
            clear hb
            go_wp2_with fail
            go_roundw
            case rel => (try rw [g5]); first | exact HX.out _ HE.out | ((repeat apply Exists.intro); exact HX.out _ HE.out) | ((repeat apply Exists.intro); refine ⟨HX.out _ HE.out, ?_⟩; rfl)
            case measure => first | exact meas hlt2 | exact measW hlt2 g5
          | false =>
            by_cases hq : qi = qk
            · have HE := Lib.hid (show Value.bool true = .bool (inB a k (i + 1)) by rw [HST.out, hb, decide_eq_true hq]; rfl)
              have g6 : ((qi : Int) == (qk : Int)) = true := by rw [hq]; simp
              clear hb hq
              go_wp2_with fail
              go_roundw
              case rel => (try rw [g5]); first | exact HX.out _ HE.out | ((repeat apply Exists.intro); exact HX.out _ HE.out) | ((repeat apply Exists.intro); refine ⟨HX.out _ HE.out, ?_⟩; rfl)
              case measure => first | exact meas hlt2 | exact measW hlt2 g5
            · have HE := Lib.hid (show Value.bool false = .bool (inB a k (i + 1)) by rw [HST.out, hb, decide_eq_false hq]; rfl)
              have g6 : ((qi : Int) == (qk : Int)) = false := by rw [beq_eq_false_iff_ne]; clear g1 g2 g5 f1 f2 e1 e5; omega
              have g7 : (qi == qk) = false := by rw [beq_eq_false_iff_ne]; exact hq
              clear hb hq
              go_wp2_with fail
              go_roundw
              case rel => (try rw [g5]); first | exact HX.out _ HE.out | ((repeat apply Exists.intro); exact HX.out _ HE.out) | ((repeat apply Exists.intro); refine ⟨HX.out _ HE.out, ?_⟩; rfl)
              case measure => first | exact meas hlt2 | exact measW hlt2 g5
        · obtain rfl : i = d := by clear f1 f2 e1 e5; omega
          have HE := Lib.hid (show inB a k i = lineB a m k by rw [HD.out]; exact inB_end a m k)
          have hkA : k < A.length := by rw [HLA.out]; exact hlt
          have HKA := Lib.hid hkA
          clear hkA
          cases hb : inB a k i with
          | false =>
            have X : RFlushInv w wr x N S T A a m (.int .i64 ((k : Int) + 1)) := ⟨k + 1, by simp, hlt, by rw [← flush_skip (by rw [← HE.out, hb]; rfl)]; exact HP.out, ht⟩
            clear hb
            go_wp2_with fail
            go_roundw
            case rel => (try rw [e5]); first | exact X | ((repeat apply Exists.intro); exact X) | ((repeat apply Exists.intro); refine ⟨X, ?_⟩; rfl)
            case measure => first | exact meas hlt | exact measW hlt e5
          | true =>
            have HLB := Lib.hid (show lineB a m k = true by rw [← HE.out]; exact hb)
            clear hb
            go_wp2_with fail
            refine (rm_dirty1 HP.out k hlt).mono ?_
            rintro e w5 ⟨rfl, g5⟩
            have hP5 := HP.out.keep g5
            have HT5 := Lib.hid (ht.andGrow g5)
            cases hD : dirtyB S T k with
            | false =>
              have X : RFlushInv w w5 x N S T A a m (.int .i64 ((k : Int) + 1)) := ⟨k + 1, by simp, hlt, by rw [← flush_skip (by rw [hD, Bool.and_false])]; exact hP5, HT5.out⟩
              clear hD hP5 g5 c2 l0
              go_wp2_with fail
              go_roundw
              case rel => (try rw [e5]); first | exact X | ((repeat apply Exists.intro); exact X) | ((repeat apply Exists.intro); refine ⟨X, ?_⟩; rfl)
              case measure => first | exact meas hlt | exact measW hlt e5
            | true =>
              obtain ⟨L5, cs5, ct5, ca5, HLL5, -, -, hca5, -, -, d2, l5⟩ := hP5.look
              obtain ⟨a5, f5⟩ := hP5.awayAt hlt
              obtain ⟨hP6, t6⟩ := hP5.awaySet k true
              rw [flush_step HKA.out HLB.out hD] at hP6
              have X : RFlushInv w (w5.setCell ⟨x.b, k, none⟩ (.bool true)) x N S T A a m (.int .i64 ((k : Int) + 1)) := ⟨k + 1, by simp, hlt, hP6, HT5.out.and t6⟩
              clear hD hP5 hP6 t6 g5 c2 l0
              go_wp2_with fail
              go_roundw
              case rel => (try rw [e5]); first | exact X | ((repeat apply Exists.intro); exact X) | ((repeat apply Exists.intro); refine ⟨X, ?_⟩; rfl)
              case measure => first | exact meas hlt | exact measW hlt e5
    · obtain rfl : k = N := by clear e1; omega
      have HF := Lib.hid (show RM wr x k S T (flushA S T A (lineB a m)) by
        rw [← flushA_congr S T A (B := ltB (lineB a m) k) (fun j hj _ => by rw [HLA.out] at hj; simp only [ltB]; rw [decide_eq_true hj, Bool.and_true])]
        exact HP.out)
      clear HP
      go_wp2_with fail
      go_ret
      exact ⟨rfl, HF.out, ht⟩
end Go.Proofs.Ytlinlmimakealaa

namespace Go.Proofs.Ytlinlmimakealaa
open Go.RowKit

theorem rm_dirty {w : World} {x : MB} {N : Nat} {S T : List UInt8} {A : List Bool} (h : RM w x N S T A) :
    Calls Try.prog 70 #[.pointer (some ⟨x.p, 0, none⟩)] w fun e w' => ∃ v, e = .returned v ∧ OI w' w.heap.size v (dirtyL S T N) ∧ Grow w w' := by
  have HB := Lib.hid h.bound.2.2
  have H := Lib.hid h
  clear h
  go_enter Try.func70, Try.ntmps70
  go_wp2_with fail
  go_loopw [3, 4] (fun out t wr => DirtyInv w wr S T N out t) (fun _ t _ => N - (intOf t).toNat)
  case atStart => exact ⟨0, rfl, Nat.zero_le _, OI.nil _ _, Grow.refl _⟩
  case round =>
    obtain ⟨k, rfl, hk, ho, G⟩ := hrel
    obtain ⟨L, cs, ct, ca, HLL, -, -, hca, -, -, c2, l0⟩ := (H.out.keep G).look
    have HO := Lib.hid ho
    clear ho
    by_cases hlt : k < N
    · have HLEN := Lib.hid (show (dirtyL S T k).length + 1 ≤ 1000000 by have := dirtyL_length S T k; have := HB.out; omega)
      have e5 := wrapS hlt (Nat.le_trans HB.out (by decide))
      go_wp2_with fail
      refine (rm_dirty1 (H.out.keep G) k hlt).mono ?_
      rintro e w1 ⟨rfl, g1⟩
      have G1 := G.trans g1
      have hz1 := Below.size G1
      have HO1 := Lib.hid (show OI w1 w.heap.size u3 (dirtyL S T k) from World.ownsRow.kept HO.out g1.grown (own_none _))
      have HSUC := Lib.hid (dirtyL_succ S T k)
      clear HO g1 G c2 l0
      cases hD : dirtyB S T k with
      | true =>
        have HSU := Lib.hid (show dirtyL S T (k + 1) = dirtyL S T k ++ [(k : Int)] by rw [HSUC.out, if_pos hD])
        clear hD
        go_wp2_with (at_builtin; refine wpList_appIone rfl (.tmp 19) (.tmp 21) rfl w.heap.size _ (dirtyL S T k) rfl _ (by rfl) HO1.out HLEN.out hz1 ?_; intro v2 w2 o2 g2)
        have X : DirtyInv w w2 S T N v2 (.int .i64 ((k : Int) + 1)) := ⟨k + 1, by simp, hlt, by rw [HSU.out]; exact o2, G1.low g2⟩
        go_roundw
        case rel => (try rw [e5]); first | exact X | ((repeat apply Exists.intro); exact X) | ((repeat apply Exists.intro); refine ⟨X, ?_⟩; rfl)
        case measure => first | exact meas hlt | exact measW hlt e5
      | false =>
        have X : DirtyInv w w1 S T N u3 (.int .i64 ((k : Int) + 1)) := ⟨k + 1, by simp, hlt, by rw [HSUC.out, if_neg (by rw [hD]; decide)]; exact HO1.out, G1⟩
        clear hD
        go_wp2_with fail
        go_roundw
        case rel => (try rw [e5]); first | exact X | ((repeat apply Exists.intro); exact X) | ((repeat apply Exists.intro); refine ⟨X, ?_⟩; rfl)
        case measure => first | exact meas hlt | exact measW hlt e5
    · obtain rfl : k = N := by omega
      go_wp2_with fail
      go_ret
      exact ⟨_, rfl, HO.out, G⟩

/-! ### Fence -/
def ltA (A : List Bool) (k : Nat) : Nat → Bool := fun j => A.getD j false && decide (j < k)
def geA (A : List Bool) (k : Nat) : List Bool := (List.range A.length).map fun j => A.getD j false && decide (k ≤ j)
theorem geA_length (A : List Bool) (k : Nat) : (geA A k).length = A.length := by simp [geA]
theorem geA_get (A : List Bool) (k j : Nat) (hj : j < A.length) : (geA A k).getD j false = (A.getD j false && decide (k ≤ j)) := by
  simp [geA, List.getD_eq_getElem?_getD, hj]
theorem geA_zero (A : List Bool) : geA A 0 = A := getD_ext (geA_length ..) fun j hj => by rw [geA_length] at hj; rw [geA_get _ _ _ hj]; simp
theorem geA_end (A : List Bool) : geA A A.length = List.replicate A.length false := getD_ext (by simp [geA_length]) fun j hj => by
  rw [geA_length] at hj
  rw [geA_get _ _ _ hj, decide_eq_false (by omega)]
  simp [List.getD_eq_getElem?_getD, hj]
theorem geA_step {A : List Bool} {k : Nat} (hk : k < A.length) (h : A.getD k false = true) : (geA A k).set k false = geA A (k + 1) := getD_ext (by simp [geA_length]) fun j hj => by
  rw [List.length_set, geA_length] at hj
  rw [getD_set _ _ _ _ (by rw [geA_length]; exact hk), geA_get _ _ _ hj, geA_get _ _ _ hj]
  by_cases e : j = k
  · subst e; rw [if_pos rfl, decide_eq_false (by omega)]; simp
  · rw [if_neg e]; congr 1; simp; omega
theorem geA_skip {A : List Bool} {k : Nat} (h : A.getD k false = false) : geA A k = geA A (k + 1) := getD_ext (by simp [geA_length]) fun j hj => by
  rw [geA_length] at hj
  rw [geA_get _ _ _ hj, geA_get _ _ _ hj]
  by_cases e : j = k
  · subst e; rw [h]; rfl
  · congr 1; simp; omega
theorem ltA_step (S T : List UInt8) {A : List Bool} {k : Nat} (h : A.getD k false = true) : keepN S (mixL S T (ltA A k)) (8 * k) 8 = mixL S T (ltA A (k + 1)) := by
  rw [mixL_keep]
  refine mixL_congr S T fun j _ => ?_
  simp only [ltA]
  by_cases e : j = k
  · subst e; rw [h]; simp
  · rw [beq_false_of_ne e, Bool.or_false]; congr 1; simp; omega
theorem ltA_skip (S T : List UInt8) {A : List Bool} {k : Nat} (h : A.getD k false = false) : mixL S T (ltA A k) = mixL S T (ltA A (k + 1)) := by
  refine mixL_congr S T fun j _ => ?_
  simp only [ltA]
  by_cases e : j = k
  · subst e; rw [h]; rfl
  · congr 1; simp; omega
theorem ltA_end (S T : List UInt8) {A : List Bool} (hT : T.length = 8 * A.length) : mixL S T (ltA A A.length) = mixL S T fun k => A.getD k false := by
  refine mixL_congr S T fun j hj => ?_
  simp only [ltA]
  rw [decide_eq_true (by omega), Bool.and_true]

def RFenceInv (w wr : World) (x : MB) (N : Nat) (S T : List UInt8) (A : List Bool) (t : Value) : Prop := ∃ k : Nat, t = .int .i64 (k : Int) ∧ k ≤ N ∧ RM wr x N S (mixL S T (ltA A k)) (geA A k) ∧ Turn x.F w wr

theorem rm_fence {w : World} {x : MB} {N : Nat} {S T : List UInt8} {A : List Bool} (h : RM w x N S T A) :
    Calls Try.prog 80 #[.pointer (some ⟨x.p, 0, none⟩)] w fun e w' => e = .returned (.tuple #[]) ∧ RM w' x N S (mixL S T fun k => A.getD k false) (List.replicate N false) ∧ Turn x.F w w' := by
  have HB := Lib.hid h.bound.2.2
  have HLA := Lib.hid h.lenA
  have HLT := Lib.hid h.lenT
  have H0 := Lib.hid (show RM w x N S (mixL S T (ltA A 0)) (geA A 0) by rw [geA_zero, mixL_none S T (B := ltA A 0) (fun k => by simp [ltA])]; exact h)
  clear h
  go_enter Try.func80, Try.ntmps80
  go_wp2_with fail
  go_loopw [2] (fun t wr => RFenceInv w wr x N S T A t) (fun t _ => N - (intOf t).toNat)
  case atStart => exact ⟨0, rfl, Nat.zero_le _, H0.out, Turn.refl _ _⟩
  case round =>
    obtain ⟨k, rfl, hk, hP, ht⟩ := hrel
    obtain ⟨L, cs, ct, ca, HLL, -, -, hca, -, -, c2, l0⟩ := hP.look
    have HP := Lib.hid hP
    by_cases hlt : k < N
    · have hkA : k < A.length := by rw [HLA.out]; exact hlt
      obtain ⟨cA, -⟩ := hP.awayAt hlt
      rw [geA_get _ _ _ hkA, decide_eq_true (Nat.le_refl k), Bool.and_true] at cA
      have e5 := wrapS hlt (Nat.le_trans HB.out (by decide))
      have HKA := Lib.hid hkA
      clear hP hkA
      cases hv : A.getD k false with
      | true =>
        have HS := Lib.hid (ltA_step S T hv)
        have HG := Lib.hid (geA_step HKA.out hv)
        rw [hv] at cA
        clear hv
        go_wp2_with fail
        refine (rm_keep HP.out k hlt).mono ?_
        rintro e w2 ⟨rfl, hP2, t2⟩
        rw [HS.out, HG.out] at hP2
        have X : RFenceInv w w2 x N S T A (.int .i64 ((k : Int) + 1)) := ⟨k + 1, by simp, hlt, hP2, ht.and t2⟩
        clear hP2 t2
        go_wp2_with fail
        go_roundw
        case rel => (try rw [e5]); first | exact X | ((repeat apply Exists.intro); exact X) | ((repeat apply Exists.intro); refine ⟨X, ?_⟩; rfl)
        case measure => first | exact meas hlt | exact measW hlt e5
      | false =>
        have X : RFenceInv w wr x N S T A (.int .i64 ((k : Int) + 1)) := ⟨k + 1, by simp, hlt, by rw [← ltA_skip S T hv, ← geA_skip hv]; exact HP.out, ht⟩
        rw [hv] at cA
        clear hv
        go_wp2_with fail
        go_roundw
        case rel => (try rw [e5]); first | exact X | ((repeat apply Exists.intro); exact X) | ((repeat apply Exists.intro); refine ⟨X, ?_⟩; rfl)
        case measure => first | exact meas hlt | exact measW hlt e5
    · obtain rfl : k = N := by omega
      have HF := Lib.hid (show RM wr x k S (mixL S T fun k => A.getD k false) (List.replicate k false) by
        have h1 := ltA_end S T (A := A) (by rw [HLT.out, HLA.out])
        have h2 := geA_end A
        rw [HLA.out] at h1 h2
        rw [← h1, ← h2]
        exact hP)
      clear hP HP
      go_wp2_with fail
      go_end0
      exact ⟨rfl, HF.out, ht⟩
end Go.Proofs.Ytlinlmimakealaa

namespace Go.Proofs.Ytlinlmimakealaa
open Go.RowKit

theorem RM.seenRB {w : World} {x : MB} {N : Nat} {S T : List UInt8} {A : List Bool} (h : RM w x N S T A) : RB w w.heap.size (some ⟨x.gs, 0, none⟩) S := by
  have hl := h.lenS
  obtain ⟨cs, ct, ca, h1, h3, h4, h5, h6, h7⟩ := h
  refine ⟨by rw [bvs_length]; omega, fun _ => ⟨x.gs, 0, rfl, h5.lt, fun j u hu => ?_⟩⟩
  rw [Nat.zero_add]
  exact h5.cell hu
theorem rm_load_no {w : World} {x : MB} {N : Nat} {S T : List UInt8} {A : List Bool} (h : RM w x N S T A) (at_ n : Int) (hin : inW (8 * N) at_ n = false) :
    Calls Try.prog 72 #[.pointer (some ⟨x.p, 0, none⟩), .int .i64 at_, .int .i64 n, .bool false] w fun e w' => e = .returned (.tuple #[.slice none 0 0, .int .i64 1]) ∧ w = w' := by
  have hw := rm_within h at_ n
  rw [hin] at hw
  have HW := Lib.hid hw
  clear hw hin h
  go_enter Try.func72, Try.ntmps72
  go_wp2_with fail
  refine HW.out.mono ?_
  rintro e w1 ⟨rfl, rfl⟩
  go_wp2_with fail
  go_ret2
  exact ⟨rfl, rfl⟩
theorem rm_load {w : World} {x : MB} {N : Nat} {S T : List UInt8} {A : List Bool} (h : RM w x N S T A) (a m : Nat) (hA : a + m ≤ 8 * N) :
    Calls Try.prog 72 #[.pointer (some ⟨x.p, 0, none⟩), .int .i64 (a : Nat), .int .i64 (m : Nat), .bool false] w fun e w' =>
      ∃ A' c', e = .returned (.tuple #[.slice A' m c', .int .i64 0]) ∧ Own w' w.heap.size A' m c' ((S.drop a).take m) ∧ Grow w w' := by
  have hlS := h.lenS
  have HB := Lib.hid h.bound.2.2
  have hw := rm_within h (a : Int) (m : Int)
  rw [inW_iff.2 ⟨by omega, by omega, by omega⟩] at hw
  have HW := Lib.hid hw
  obtain ⟨L, cs, ct, ca, HLL, hcs, hct, -, c0, -, -, l0⟩ := h.look
  have hlen : ((S.drop a).take m).length = m := by rw [List.length_take, List.length_drop, hlS]; omega
  have hrb := ((h.seenRB.drop (k := a) (cap := cs) (by omega) (by rw [hlS, ← HLL.out]; exact hcs)).take (k := m) (by rw [List.length_drop]; omega))
  have e1 : wrap64 ((a : Int) + (m : Int)) = ((a + m : Nat) : Int) := by rw [IntWalk.wrap64_in _ (by have := HB.out; omega)]; simp
  have haL : a + m ≤ L := by rw [HLL.out]; exact hA
  have hac : a + m ≤ cs := Nat.le_trans haL hcs
  have HL := Lib.hid hlen
  have HM := Lib.hid (show m ≤ 1073741000 by have := HB.out; clear e1; omega)
  clear h hw hlS hlen hA
  by_cases hcas : cs = a
  · subst hcas
    rw [if_pos rfl] at hrb
    have HR := Lib.hid hrb
    clear hrb
    obtain rfl : m = 0 := by clear e1; omega
    have e1' : wrap64 (cs : Int) = (cs : Int) := by simpa using e1
    clear e1 haL hac
    go_enter Try.func72, Try.ntmps72
    go_wp2_with fail
    refine HW.out.mono ?_
    rintro e w1 ⟨rfl, rfl⟩
    go_wp2_with (at_builtin; refine wpList_appB rfl (.tmp 30) (.tmp 39) rfl w.heap.size _ [] rfl (OB.nil _ _) w.heap.size (some ⟨x.gs, 0, none⟩) _ ((S.drop cs).take 0) 0 HL.out.symm rfl HR.out (by simp) (Nat.le_refl _) ?_; intro v2 w2 q1 q2 q3 q4; clear q3 q4)
    obtain ⟨A2, c2, rfl, o2⟩ := Own.ofOB q1 0 (by simp) (by omega)
    go_ret2
    exact ⟨_, _, rfl, o2, q2⟩
  · rw [if_neg hcas, show (some (⟨x.gs, 0, none⟩ : Addr)).map (·.add a) = some ⟨x.gs, a, none⟩ by simp [Addr.add_lit]] at hrb
    have HR := Lib.hid hrb
    obtain ⟨d, hd⟩ : ∃ d, d = a + m := ⟨_, rfl⟩
    rw [← hd] at e1 hac haL
    have hda : d - a = m := by clear e1; omega
    have had : a ≤ d := by clear e1; omega
    clear hrb hd haL
    go_enter Try.func72, Try.ntmps72
    go_wp2_with fail
    refine HW.out.mono ?_
    rintro e w1 ⟨rfl, rfl⟩
    go_wp2_with (at_builtin; refine wpList_appB rfl (.tmp 30) (.tmp 39) rfl w.heap.size _ [] rfl (OB.nil _ _) w.heap.size _ _ ((S.drop a).take m) m HL.out.symm rfl HR.out (by rw [HL.out]; have := HM.out; simp; omega) (Nat.le_refl _) ?_; intro v2 w2 q1 q2 q3 q4; clear q3 q4)
    obtain ⟨A2, c2, rfl, o2⟩ := Own.ofOB q1 m (by rw [List.nil_append]; exact HL.out) HM.out
    go_ret2
    exact ⟨_, _, rfl, by simpa using o2, q2⟩

theorem rm_store_no {w : World} {x : MB} {N : Nat} {S T : List UInt8} {A : List Bool} (h : RM w x N S T A) (B : Option Addr) (m c : Nat) (at_ : Int) (hin : inW (8 * N) at_ m = false) :
    Calls Try.prog 51 #[.pointer (some ⟨x.p, 0, none⟩), .int .i64 at_, .slice B m c] w fun e w' => e = .returned (.int .i64 1) ∧ w = w' := by
  have hw := rm_within h at_ (m : Int)
  rw [hin] at hw
  have HW := Lib.hid hw
  clear hw hin h
  go_enter Try.func51, Try.ntmps51
  go_wp2_with fail
  refine HW.out.mono ?_
  rintro e w1 ⟨rfl, rfl⟩
  go_wp2_with fail
  go_ret
  exact ⟨rfl, rfl⟩

def RStoreInv (w wr : World) (x : MB) (N : Nat) (S T : List UInt8) (A : List Bool) (a m : Nat) (bs : List UInt8) (t : Value) : Prop := ∃ j : Nat, t = .int .i64 (j : Int) ∧ j ≤ m ∧ RM wr x N (putL S a (bs.take j)) T (clrL A a j) ∧ Turn x.F w wr

set_option maxHeartbeats 2000000 in
set_option maxRecDepth 8000 in
theorem rm_store {w : World} {x : MB} {N : Nat} {S T : List UInt8} {A : List Bool} (h : RM w x N S T A) {B : Option Addr} {m c : Nat} {bs : List UInt8} (hs : Sl w B m bs) (hB : 0 < m → ∀ p, B = some p → ¬ x.F p.block) (a : Nat) (hA : a + m ≤ 8 * N) :
    Calls Try.prog 51 #[.pointer (some ⟨x.p, 0, none⟩), .int .i64 (a : Nat), .slice B m c] w fun e w' => e = .returned (.int .i64 0) ∧ RM w' x N (putL S a bs) T (clrL A a m) ∧ Turn x.F w w' := by
  have hw := rm_within h (a : Int) (m : Int)
  rw [inW_iff.2 ⟨by omega, by omega, by omega⟩] at hw
  have HW := Lib.hid hw
  have HB := Lib.hid h.bound.2.2
  have HAM := Lib.hid hA
  have HLEN := Lib.hid hs.1
  have H := Lib.hid h
  have HS := Lib.hid hs
  have HBF := Lib.hid hB
  clear hw hA h hs hB
  go_enter Try.func51, Try.ntmps51
  go_wp2_with fail
  refine HW.out.mono ?_
  rintro e w1 ⟨rfl, rfl⟩
  clear HW
  go_wp2_with fail
  go_loopw [8] (fun t wr => RStoreInv w wr x N S T A a m bs t) (fun t _ => m - (intOf t).toNat)
  case atStart => exact ⟨0, rfl, Nat.zero_le _, H.out, Turn.refl _ _⟩
  case round =>
    obtain ⟨j, rfl, hj, hP, ht⟩ := hrel
    by_cases hlt : j < m
    · obtain ⟨L, cs, ct, ca, HLL, hcs, hct, hca, c0, -, -, l0⟩ := hP.look
      obtain ⟨b0, o0, rfl, hb0, cb⟩ := HS.out.cell hlt
      have hnb := HBF.out (Nat.lt_of_le_of_lt (Nat.zero_le j) hlt) _ rfl
      replace cb := (ht.cell (p := ⟨b0, o0 + j, none⟩) hb0 hnb).trans cb
      obtain ⟨u, hu⟩ : ∃ u, u = bs[j]'(by rw [HLEN.out]; exact hlt) := ⟨_, rfl⟩
      rw [← hu] at cb
      obtain ⟨i, hi⟩ : ∃ i, i = a + j := ⟨_, rfl⟩
      obtain ⟨q, hq⟩ : ∃ q, q = i / 8 := ⟨_, rfl⟩
      have haj : i < 8 * N := by have := HAM.out; omega
      have hqN : q < N := by omega
      have hiL : i < L := by rw [HLL.out]; exact haj
      obtain ⟨cS, fS⟩ := hP.seenAt haj
      obtain ⟨hP1, ht1⟩ := hP.seenSet i u
      have hP1' := hP1.keep ((Grow.refl _).drew)
      obtain ⟨L1, cs1, ct1, ca1, HLL1, -, -, hca1, -, -, d2, -⟩ := hP1'.look
      obtain ⟨cA, fA⟩ := hP1'.awayAt hqN
      obtain ⟨hP2, ht2⟩ := hP1'.awaySet q false
      have X : RStoreInv w ((wr.setCell ⟨x.gs, i, none⟩ (.int .u8 (u.toNat : Int))).drew.setCell ⟨x.b, q, none⟩ (.bool false)) x N S T A a m bs (.int .i64 ((j : Int) + 1)) := by
        refine ⟨j + 1, by simp, hlt, ?_, ((ht.and ht1).andGrow ((Grow.refl _).drew)).and ht2⟩
        rw [putL_take (by rw [HLEN.out]; exact hlt), clrL, ← hu, ← hi, ← hq]
        exact hP2
      have e5 := wrapS (M := 8 * N) (show j < 8 * N by have := HAM.out; omega) (Nat.mul_le_mul_left 8 HB.out)
      have e1 := wrapA (hi ▸ haj) (Nat.mul_le_mul_left 8 HB.out)
      rw [← hi] at e1
      have e2 := tdiv8 hq
      have e4 := wrapN hqN HB.out
      clear hP hP1 hP1' ht ht1 ht2 hu hq haj hi hP2 hb0 hnb
      go_wp2_with fail
      go_region
      go_wp2_with fail
      go_roundw
      case rel => (try rw [e5]); first | exact X | ((repeat apply Exists.intro); exact X) | ((repeat apply Exists.intro); refine ⟨X, ?_⟩; rfl)
      case measure => first | exact meas hlt | exact measW hlt e5
    · obtain rfl : j = m := by omega
      have hbs : bs.take j = bs := List.take_of_length_le (by rw [HLEN.out]; exact Nat.le_refl _)
      rw [hbs] at hP
      have HP := Lib.hid hP
      clear hP
      go_wp2_with fail
      go_ret
      exact ⟨rfl, HP.out, ht⟩
end Go.Proofs.Ytlinlmimakealaa
