/- pmem: Dirty. pmem: line, Evict, Flush. pmem: Evict, Crash. pmem: Fence. No statement of the seat is proved here. -/
import Derived.Test.YtlinlmimakealaaZ04
import Derived.ChangeKeysEq
import Derived.RegionTactic
import Derived.Deep.RegionWith
import Derived.Deep.DeepCutAuto
import Derived.Maps.OwnOps
import Derived.Maps.RangeWalk
namespace Go.Proofs.Ytlinlmimakealaa
open Go.RowKit

theorem cells_u8 : Try.prog.cellsOf 5 = 1 := by kernel_rfl
theorem eqItems_u8 (d : Nat) (w : World) (xs ys : Array Value) (is : List Nat) (X Y : Nat → Int) (hX : ∀ i, i ∈ is → (part 5 xs (i * 1)).run Try.prog w = .ok (.int .u8 (X i)) w) (hY : ∀ i, i ∈ is → (part 5 ys (i * 1)).run Try.prog w = .ok (.int .u8 (Y i)) w) :
    (Op.eqItems (d + 1) 5 1 xs ys is).run Try.prog w = .ok (is.all fun i => X i == Y i) w := by
  induction is with
  | nil => simp [Op.eqItems]
  | cons j js ih =>
    have e1 := hX j (by simp)
    have e2 := hY j (by simp)
    have e3 := ih (fun i hi => hX i (by simp [hi])) (fun i hi => hY i (by simp [hi]))
    simp only [Op.eqItems, Sem.run_bind, e1, e2, Result.andThen_ok, run_equalIn_int w d 5 .u8 .u8 (X j) (Y j) Try.underlying5]
    cases h : (X j == Y j) <;> simp [h, e3]
set_option maxRecDepth 20000 in
theorem eql8u (d : Nat) (w : World) (a0 a1 a2 a3 a4 a5 a6 a7 c0 c1 c2 c3 c4 c5 c6 c7 : Int) : (Op.equalIn (d + 2) 79 (.agg #[.int .u8 a0, .int .u8 a1, .int .u8 a2, .int .u8 a3, .int .u8 a4, .int .u8 a5, .int .u8 a6, .int .u8 a7]) (.agg #[.int .u8 c0, .int .u8 c1, .int .u8 c2, .int .u8 c3, .int .u8 c4, .int .u8 c5, .int .u8 c6, .int .u8 c7])).run Try.prog w = .ok (a0 == c0 && a1 == c1 && a2 == c2 && a3 == c3 && a4 == c4 && a5 == c5 && a6 == c6 && a7 == c7) w := by
  obtain ⟨i0, hi, hz, h1, h2⟩ := info_parts byte_info
  rw [run_equalIn_array w (d + 1) _ _ Try.underlying79 hi, cells_u8]
  rw [eqItems_u8 d w _ _ _ (fun i => [a0, a1, a2, a3, a4, a5, a6, a7].getD i 0) (fun i => [c0, c1, c2, c3, c4, c5, c6, c7].getD i 0)]
  · simp [List.range, List.range.loop, Bool.and_assoc]
  · intro i hi
    have : i = 0 ∨ i = 1 ∨ i = 2 ∨ i = 3 ∨ i = 4 ∨ i = 5 ∨ i = 6 ∨ i = 7 := by simp at hi; omega
    rcases this with rfl | rfl | rfl | rfl | rfl | rfl | rfl | rfl <;> rfl
  · intro i hi
    have : i = 0 ∨ i = 1 ∨ i = 2 ∨ i = 3 ∨ i = 4 ∨ i = 5 ∨ i = 6 ∨ i = 7 := by simp at hi; omega
    rcases this with rfl | rfl | rfl | rfl | rfl | rfl | rfl | rfl <;> rfl
/-- A byte of S, of T at a place of cell k. -/
def sb (S : List UInt8) (k j : Nat) : Int := ((S.getD (k * 8 + j) 0).toNat : Int)
theorem dirty_eq (S T : List UInt8) (k : Nat) : (!(sb S k 0 == sb T k 0 && sb S k 1 == sb T k 1 && sb S k 2 == sb T k 2 && sb S k 3 == sb T k 3 && sb S k 4 == sb T k 4 && sb S k 5 == sb T k 5 && sb S k 6 == sb T k 6 && sb S k 7 == sb T k 7)) = dirtyB S T k := by
  have e : ∀ j, (sb S k j == sb T k j) = !(S.getD (8 * k + j) 0 != T.getD (8 * k + j) 0) := by
    intro j
    unfold sb
    rw [Nat.mul_comm 8 k]
    by_cases h : S.getD (k * 8 + j) 0 = T.getD (k * 8 + j) 0
    · rw [h]; simp
    · have h2 : ¬ ((S.getD (k * 8 + j) 0).toNat : Int) = ((T.getD (k * 8 + j) 0).toNat : Int) := fun q => h (UInt8.toNat_inj.1 (by omega))
      rw [beq_false_of_ne h2]
      simp only [bne, beq_false_of_ne h, Bool.not_false, Bool.not_true]
  simp only [e]
  unfold dirtyB
  simp [List.range, List.range.loop, Bool.not_and]
  simp only [Bool.or_assoc]
theorem PM.seenBytes {w : World} {x : MB} {N : Nat} {S T : List UInt8} {A : List Bool} (h : PM w x N S T A) {k : Nat} (hk : k < N) : ∀ j, j < 8 → w.cell? ⟨x.gs, k * 8 + j, none⟩ = some (.int .u8 (sb S k j)) := fun j hj => (h.seenAt (by omega)).1
theorem PM.lastBytes {w : World} {x : MB} {N : Nat} {S T : List UInt8} {A : List Bool} (h : PM w x N S T A) {k : Nat} (hk : k < N) : ∀ j, j < 8 → w.cell? ⟨x.gt, k * 8 + j, none⟩ = some (.int .u8 (sb T k j)) := fun j hj => (h.lastAt (by omega)).1
theorem dirtyL_succ (S T : List UInt8) (k : Nat) : dirtyL S T (k + 1) = if dirtyB S T k then dirtyL S T k ++ [(k : Int)] else dirtyL S T k := by
  unfold dirtyL
  rw [List.range_succ, List.filter_append]
  by_cases h : dirtyB S T k = true
  · rw [if_pos h]; simp [h]
  · rw [if_neg h]; simp [h]
theorem dirtyL_length (S T : List UInt8) (N : Nat) : (dirtyL S T N).length ≤ N := by
  unfold dirtyL
  rw [List.length_map]
  have := List.length_filter_le (dirtyB S T) (List.range N)
  simpa using this

def DirtyInv (w wr : World) (S T : List UInt8) (N : Nat) (out t : Value) : Prop := ∃ k : Nat, t = .int .i64 (k : Int) ∧ k ≤ N ∧ OI wr w.heap.size out (dirtyL S T k) ∧ Grow w wr

set_option maxHeartbeats 2000000 in
theorem pm_dirty {w : World} {x : MB} {N : Nat} {S T : List UInt8} {A : List Bool} (h : PM w x N S T A) :
    Calls Try.prog 43 #[.pointer (some ⟨x.p, 0, none⟩)] w fun e w' => ∃ v, e = .returned v ∧ OI w' w.heap.size v (dirtyL S T N) ∧ Grow w w' := by
  have HB := Lib.hid h.bound.2.2
  obtain ⟨cs, ct, hcs, hct, c0, c1, c2, l0⟩ := h.view
  go_enter Try.func43, Try.ntmps43
  go_wp2_with fail
  go_loopw [3, 10] (fun out t wr => DirtyInv w wr S T N out t) (fun _ t _ => N - (intOf t).toNat)
  case atStart => exact ⟨0, rfl, by omega, OI.nil _ _, Grow.refl _⟩
  case round =>
    obtain ⟨k, rfl, hk, ho, G⟩ := hrel
    clear c0 c1 c2 l0
    by_cases hlt : k < N
    · obtain ⟨cs', ct', hcs', hct', d0, d1, -, l1⟩ := (h.keep G).view
      have HS := (h.keep G).seenBytes hlt
      have HT := (h.keep G).lastBytes hlt
      have s0 := HS 0 (by omega); have s1 := HS 1 (by omega); have s2 := HS 2 (by omega); have s3 := HS 3 (by omega); have s4 := HS 4 (by omega); have s5 := HS 5 (by omega); have s6 := HS 6 (by omega); have s7 := HS 7 (by omega)
      have t0 := HT 0 (by omega); have t1 := HT 1 (by omega); have t2 := HT 2 (by omega); have t3 := HT 3 (by omega); have t4 := HT 4 (by omega); have t5 := HT 5 (by omega); have t6 := HT 6 (by omega); have t7 := HT 7 (by omega)
      rw [Nat.add_zero] at s0 t0
      have hq := eql8u
      have hdq := dirty_eq S T k
      have hsz := Below.size G
      have hlen : (dirtyL S T k).length + 1 ≤ 1000000 := by have := dirtyL_length S T k; have := HB.out; omega
      have HLEN := Lib.hid hlen
      have e5 := wrapS hlt (by have := HB.out; omega)
      have HD := Lib.hid hdq
      clear HS HT hlen hdq
      go_upto_region 5 with (fail)
      go_cut [27] (fun s wx => s = .bool (dirtyB S T k) ∧ Grow wr wx)
      case first =>
        go_quiet (fail)
        go_wp2_with fail
        go_meet
        exact ⟨by rw [← HD.out]; simp only [Bool.not_and, Bool.or_assoc], (Grow.refl _).drewN _⟩
      case rest =>
        obtain ⟨rfl, g1⟩ := hcut
        have G1 := G.trans g1
        have ho1 : OI wc w.heap.size u3 (dirtyL S T k) := World.ownsRow.kept ho g1.grown (own_none _)
        have hz1 := Below.size G1
        clear d0 d1 l1 s0 s1 s2 s3 s4 s5 s6 s7 t0 t1 t2 t3 t4 t5 t6 t7 hq HD ho G g1 hsz
        have HSUC := Lib.hid (dirtyL_succ S T k)
        cases hD : dirtyB S T k with
        | true =>
          have HSU := Lib.hid (show dirtyL S T (k + 1) = dirtyL S T k ++ [(k : Int)] by rw [HSUC.out, if_pos hD])
          clear hD
          go_wp2_with (at_builtin; refine wpList_appIone rfl (.tmp 28) (.tmp 30) rfl w.heap.size _ (dirtyL S T k) rfl _ (by rfl) ho1 HLEN.out hz1 ?_; intro v2 w2 o2 g2)
          have X : DirtyInv w w2 S T N v2 (.int .i64 ((k : Int) + 1)) := ⟨k + 1, by simp, hlt, by rw [HSU.out]; exact o2, G1.low g2⟩
          go_roundw
          case rel => (try rw [e5]); first | exact X | ((repeat apply Exists.intro); exact X) | ((repeat apply Exists.intro); refine ⟨X, ?_⟩; rfl)
          case measure => first | exact meas hlt | exact measW hlt e5
        | false =>
          have X : DirtyInv w wc S T N u3 (.int .i64 ((k : Int) + 1)) := ⟨k + 1, by simp, hlt, by rw [HSUC.out, if_neg (by rw [hD]; decide)]; exact ho1, G1⟩
          clear hD
          go_wp2_with fail
          go_roundw
          case rel => (try rw [e5]); first | exact X | ((repeat apply Exists.intro); exact X) | ((repeat apply Exists.intro); refine ⟨X, ?_⟩; rfl)
          case measure => first | exact meas hlt | exact measW hlt e5
    · obtain rfl : k = N := by omega
      go_wp2_with fail
      go_ret
      exact ⟨_, rfl, ho, G⟩
end Go.Proofs.Ytlinlmimakealaa

namespace Go.Proofs.Ytlinlmimakealaa
open Go.RowKit

theorem wrapM {l N : Nat} (h : 8 * l < N) (h' : N ≤ 131072) : wrap64 ((l : Int) * 8) = (l : Int) * 8 ∧ wrap64 ((l : Int) + 1) = (l : Int) + 1 ∧ wrap64 (((l : Int) + 1) * 8) = ((l : Int) + 1) * 8 := ⟨IntWalk.wrap64_in _ (by omega), IntWalk.wrap64_in _ (by omega), IntWalk.wrap64_in _ (by omega)⟩
def LineInv (w wr : World) (x : MB) (N : Nat) (S T : List UInt8) (A : List Bool) (l : Nat) (t : Value) : Prop := ∃ k : Nat, t = .int .i64 (k : Int) ∧ 8 * l ≤ k ∧ k ≤ 8 * l + 8 ∧ PM wr x N S (mixL S T (inC (8 * l) (k - 8 * l))) (clrC A (8 * l) (k - 8 * l)) ∧ Turn x.F w wr

theorem pm_line_keep {w : World} {x : MB} {N : Nat} {S T : List UInt8} {A : List Bool} (h : PM w x N S T A) (l : Nat) (hl : 8 * l + 8 ≤ N) :
    Calls Try.prog 39 #[.pointer (some ⟨x.p, 0, none⟩), .int .i64 (l : Nat), .func (.func 41) #[.pointer (some ⟨x.p, 0, none⟩)] #[]] w fun e w' => e = .returned (.tuple #[]) ∧ PM w' x N S (mixL S T (inC (8 * l) 8)) (clrC A (8 * l) 8) ∧ Turn x.F w w' := by
  have HB := Lib.hid h.bound.2.2
  have h0 : PM w x N S (mixL S T (inC (8 * l) 0)) (clrC A (8 * l) 0) := by rw [mixL_none S T (fun k => by simp [inC])]; exact h
  have H0 := Lib.hid h0
  have hl1 : 8 * l < N := by omega
  obtain ⟨w1, w2, w3⟩ := wrapM hl1 HB.out
  clear h h0
  go_enter Try.func39, Try.ntmps39
  go_wp2_with fail
  simp only [w1]
  go_loopw [6] (fun t wr => LineInv w wr x N S T A l t) (fun t _ => 8 * l + 8 - (intOf t).toNat)
  case atStart => exact ⟨8 * l, by congr 1; omega, by omega, by omega, by rw [Nat.sub_self]; exact H0.out, Turn.refl _ _⟩
  case round =>
    obtain ⟨k, rfl, hk1, hk2, hP, ht⟩ := hrel
    by_cases hlt : k < 8 * l + 8
    · have z1 : decide ((k : Int) < ((l : Int) + 1) * 8) = true := decide_eq_true (by omega)
      have hkN : k < N := by omega
      have HP := Lib.hid hP
      have hsub : k + 1 - 8 * l = (k - 8 * l) + 1 := by omega
      have hcn : 8 * l + (k - 8 * l) = k := by omega
      have HM := Lib.hid (show keepN S (mixL S T (inC (8 * l) (k - 8 * l))) (8 * k) 8 = mixL S T (inC (8 * l) (k + 1 - 8 * l)) by rw [hsub, ← mixL_inC, hcn])
      have HC := Lib.hid (show (clrC A (8 * l) (k - 8 * l)).set k false = clrC A (8 * l) (k + 1 - 8 * l) by rw [hsub, clrC, hcn])
      have e5 := wrapS hkN (by have := HB.out; omega)
      clear hsub hcn hP
      go_wp2_with fail
      refine (pm_keep HP.out k hkN).mono ?_
      rintro e w4 ⟨rfl, hP2, t2⟩
      rw [HM.out, HC.out] at hP2
      have X : LineInv w w4 x N S T A l (.int .i64 ((k : Int) + 1)) := ⟨k + 1, by simp, Nat.le_succ_of_le hk1, hlt, hP2, ht.and t2⟩
      clear hP2 t2
      go_wp2_with fail
      go_roundw
      case rel => (try rw [e5]); first | exact X | ((repeat apply Exists.intro); exact X) | ((repeat apply Exists.intro); refine ⟨X, ?_⟩; rfl)
      case measure => first | exact meas hlt | exact measW hlt e5
    · have z1 : decide ((k : Int) < ((l : Int) + 1) * 8) = false := decide_eq_false (by omega)
      obtain rfl : k = 8 * l + 8 := by omega
      rw [Nat.add_sub_cancel_left] at hP
      have HP := Lib.hid hP
      clear hP
      go_wp2_with fail
      go_end0
      exact ⟨rfl, HP.out, ht⟩

theorem inC0 (c k : Nat) : inC c 0 k = false := by unfold inC; exact decide_eq_false (by omega)

set_option maxHeartbeats 2000000 in
theorem pm_flush1 {w : World} {x : MB} {N : Nat} {S T : List UInt8} {A : List Bool} {B : Nat → Bool} (h : PM w x N S T (flushA S T A B)) (bx : Nat) (hbx : ¬ x.F bx) (hc : w.cell? ⟨bx, 0, none⟩ = some (.pointer (some ⟨x.p, 0, none⟩))) (k : Nat) (hk : k < N) :
    Calls Try.prog 40 #[.int .i64 (k : Nat), .pointer (some ⟨bx, 0, none⟩)] w fun e w' => e = .returned (.tuple #[]) ∧ PM w' x N S T (flushA S T A fun j => B j || decide (j = k)) ∧ Turn x.F w w' := by
  have HB := Lib.hid h.bound.2.2
  obtain ⟨cs', ct', hcs', hct', d0, d1, -, l1⟩ := h.view
  have HS := h.seenBytes hk
  have HT := h.lastBytes hk
  have s0 := HS 0 (by omega); have s1 := HS 1 (by omega); have s2 := HS 2 (by omega); have s3 := HS 3 (by omega); have s4 := HS 4 (by omega); have s5 := HS 5 (by omega); have s6 := HS 6 (by omega); have s7 := HS 7 (by omega)
  have t0 := HT 0 (by omega); have t1 := HT 1 (by omega); have t2 := HT 2 (by omega); have t3 := HT 3 (by omega); have t4 := HT 4 (by omega); have t5 := HT 5 (by omega); have t6 := HT 6 (by omega); have t7 := HT 7 (by omega)
  rw [Nat.add_zero] at s0 t0
  have hq := eql8u
  have HD := Lib.hid (dirty_eq S T k)
  have H := Lib.hid h
  have HBX := Lib.hid hbx
  clear HS HT h hbx
  go_enter Try.func40, Try.ntmps40
  go_upto_region 0 with (fail)
  go_cut [17] (fun s wx => s = .bool (dirtyB S T k) ∧ Grow w wx)
  case first =>
    go_quiet (fail)
    go_wp2_with fail
    go_meet
    exact ⟨by rw [← HD.out]; simp only [Bool.not_and, Bool.or_assoc], (Grow.refl _).drewN _⟩
  case rest =>
    obtain ⟨rfl, g1⟩ := hcut
    have h1 := H.out.keep g1
    have cb := g1.cell hc
    have H1 := Lib.hid h1
    have G1 := Lib.hid g1
    clear d0 d1 l1 s0 s1 s2 s3 s4 s5 s6 s7 t0 t1 t2 t3 t4 t5 t6 t7 hq HD H g1 hc
    cases hD : dirtyB S T k with
    | true =>
      have HSET := Lib.hid (show k < A.length → (flushA S T A B).set k true = flushA S T A fun j => B j || decide (j = k) from fun q => flushA_set S T A B k q hD)
      obtain ⟨cs2, ct2, -, -, -, -, d2, l2⟩ := h1.view
      have hSet := h1.isSet
      have hla := h1.lenA
      have HK := Lib.hid (show k < (flushA S T A B).length by rw [hla]; exact hk)
      have HM := Lib.hid (show (flushA S T A B).length ≤ 1000000 by rw [hla]; have := HB.out; omega)
      have HA := Lib.hid (show k < A.length by rw [flushA_length] at hla; omega)
      clear hD h1 hla
      go_wp2_with (at_mapUpdate; refine wpList_setPut rfl (.tmp 21) (.tmp 22) (.const (.bool true)) rfl rfl hSet k HK.out HM.out rfl rfl ?_; intro w2 hS2 hg2)
      have h2 := H1.out.setTo hS2 (by rw [List.length_set]) hg2
      rw [HSET.out HA.out] at h2
      go_end0
      exact ⟨rfl, h2.1, (Turn.grow G1.out _).and h2.2⟩
    | false =>
      have HSK := Lib.hid (flushA_skip S T A B k hD)
      clear hD h1
      go_wp2_with fail
      go_end0
      exact ⟨rfl, by rw [← HSK.out]; exact H1.out, Turn.grow G1.out _⟩

def FlushInv (w wr : World) (x : MB) (N : Nat) (S T : List UInt8) (A : List Bool) (B : Nat → Bool) (l bx : Nat) (t : Value) : Prop := ∃ k : Nat, t = .int .i64 (k : Int) ∧ 8 * l ≤ k ∧ k ≤ 8 * l + 8 ∧ PM wr x N S T (flushA S T A fun j => B j || inC (8 * l) (k - 8 * l) j) ∧ Turn x.F w wr ∧ wr.cell? ⟨bx, 0, none⟩ = some (.pointer (some ⟨x.p, 0, none⟩))

theorem pm_line_flush {w : World} {x : MB} {N : Nat} {S T : List UInt8} {A : List Bool} {B : Nat → Bool} (h : PM w x N S T (flushA S T A B)) (bx : Nat) (hbx : ¬ x.F bx) (hc : w.cell? ⟨bx, 0, none⟩ = some (.pointer (some ⟨x.p, 0, none⟩))) (l : Nat) (hl : 8 * l + 8 ≤ N) :
    Calls Try.prog 39 #[.pointer (some ⟨x.p, 0, none⟩), .int .i64 (l : Nat), .func (.func 40) #[] #[.pointer (some ⟨bx, 0, none⟩)]] w fun e w' => e = .returned (.tuple #[]) ∧ PM w' x N S T (flushA S T A fun j => B j || inC (8 * l) 8 j) ∧ Turn x.F w w' := by
  have HB := Lib.hid h.bound.2.2
  have h0 : PM w x N S T (flushA S T A fun j => B j || inC (8 * l) 0 j) := by rw [flushA_congr S T A (C := B) (fun k _ _ => by simp only [inC0, Bool.or_false])]; exact h
  have H0 := Lib.hid h0
  have hl1 : 8 * l < N := by omega
  obtain ⟨w1, w2, w3⟩ := wrapM hl1 HB.out
  clear h h0
  go_enter Try.func39, Try.ntmps39
  go_wp2_with fail
  simp only [w1]
  go_loopw [6] (fun t wr => FlushInv w wr x N S T A B l bx t) (fun t _ => 8 * l + 8 - (intOf t).toNat)
  case atStart => exact ⟨8 * l, by congr 1; omega, by omega, by omega, by rw [Nat.sub_self]; exact H0.out, Turn.refl _ _, hc⟩
  case round =>
    obtain ⟨k, rfl, hk1, hk2, hP, ht, hcb⟩ := hrel
    by_cases hlt : k < 8 * l + 8
    · have z1 : decide ((k : Int) < ((l : Int) + 1) * 8) = true := decide_eq_true (by omega)
      have hkN : k < N := by omega
      have HP := Lib.hid hP
      have e5 := wrapS hkN (by have := HB.out; omega)
      have HBX := Lib.hid hbx
      have HC := Lib.hid hc
      have HCB := Lib.hid hcb
      have HBL := Lib.hid (World.block_lt_of_cell? _ _ hc)
      have HBR := Lib.hid (World.block_lt_of_cell? _ _ hcb)
      clear hP hcb
      go_wp2_with fail
      refine (pm_flush1 HP.out bx HBX.out HCB.out k hkN).mono ?_
      rintro e w4 ⟨rfl, hP2, t2⟩
      have hstep : (flushA S T A fun j => (B j || inC (8 * l) (k - 8 * l) j) || decide (j = k)) = flushA S T A fun j => B j || inC (8 * l) (k + 1 - 8 * l) j :=
        flushA_congr S T A fun j _ _ => by
          have : (inC (8 * l) (k - 8 * l) j || decide (j = k)) = inC (8 * l) (k + 1 - 8 * l) j := by
            unfold inC
            rw [← Bool.decide_or]
            congr 1; apply propext; omega
          rw [Bool.or_assoc, this]
      rw [hstep] at hP2
      have X : FlushInv w w4 x N S T A B l bx (.int .i64 ((k : Int) + 1)) := ⟨k + 1, by simp, Nat.le_succ_of_le hk1, hlt, hP2, ht.and t2, (t2.cell (p := ⟨bx, 0, none⟩) HBR.out HBX.out).trans HCB.out⟩
      clear hP2 t2 hstep
      go_wp2_with fail
      go_roundw
      case rel => (try rw [e5]); first | exact X | ((repeat apply Exists.intro); exact X) | ((repeat apply Exists.intro); refine ⟨X, ?_⟩; rfl)
      case measure => first | exact meas hlt | exact measW hlt e5
    · have z1 : decide ((k : Int) < ((l : Int) + 1) * 8) = false := decide_eq_false (by omega)
      obtain rfl : k = 8 * l + 8 := by omega
      rw [Nat.add_sub_cancel_left] at hP
      have HP := Lib.hid hP
      clear hP
      go_wp2_with fail
      go_end0
      exact ⟨rfl, HP.out, ht⟩

def FlLineInv (w wr : World) (x : MB) (N : Nat) (S T : List UInt8) (A : List Bool) (a m bx : Nat) (t : Value) : Prop := ∃ l : Nat, t = .int .i64 (l : Int) ∧ a / 64 ≤ l ∧ l ≤ (a + m - 1) / 64 + 1 ∧ (m = 0 → l = a / 64) ∧ PM wr x N S T (flushA S T A (inC (8 * (a / 64)) (8 * (l - a / 64)))) ∧ Turn x.F w wr ∧ wr.cell? ⟨bx, 0, none⟩ = some (.pointer (some ⟨x.p, 0, none⟩)) ∧ bx < wr.heap.size

theorem tdiv64 {k q : Nat} (h : q = k / 64) : Int.tdiv (k : Int) 64 = (q : Int) := by rw [Int.tdiv_eq_ediv_of_nonneg (by omega)]; omega
theorem wrapAM {a m N : Nat} (h : a + m ≤ 8 * N) (h' : N ≤ 131072) (h0 : 0 < m) : wrap64 ((a : Int) + (m : Int)) = (a : Int) + (m : Int) ∧ wrap64 ((a : Int) + (m : Int) - 1) = ((a + m - 1 : Nat) : Int) := ⟨IntWalk.wrap64_in _ (by omega), by rw [IntWalk.wrap64_in _ (by omega)]; omega⟩
theorem wrap_small {q : Nat} (h : q ≤ 8 * 131072) : wrap64 (q : Int) = (q : Int) := IntWalk.wrap64_in _ (by omega)

theorem pm_flush {w : World} {x : MB} {N : Nat} {S T : List UInt8} {A : List Bool} (h : PM w x N S T A) (a m : Nat) (hA : a + m ≤ 8 * N) :
    Calls Try.prog 18 #[.pointer (some ⟨x.p, 0, none⟩), .int .i64 (a : Nat), .int .i64 (m : Nat)] w fun e w' => e = .returned (.int .i64 0) ∧ PM w' x N S T (flushA S T A (lineB a m)) ∧ Turn x.F w w' := by
  have HB := Lib.hid h.bound.2.2
  have HB8 := Lib.hid h.bound.1
  have H := Lib.hid h
  have HLT := Lib.hid h.lt
  have h1 := h.keep ((Grow.refl w).alloc (.cells #[.pointer (some ⟨x.p, 0, none⟩)] 26))
  have HW := Lib.hid (pm_within h1 (a : Int) (m : Int) (by omega) (by have := HB.out; omega))
  have HIN := Lib.hid (show inW (8 * N) (a : Int) (m : Int) = true from inW_iff.2 ⟨by omega, by omega, by omega⟩)
  have K1 := (Blk.new w 26 [.pointer (some ⟨x.p, 0, none⟩)] _ (0, 0) rfl).c1
  obtain ⟨l0, hl0⟩ : ∃ l0, l0 = a / 64 := ⟨_, rfl⟩
  have e0 := tdiv64 hl0
  have e1 := wrap_small (q := l0) (by have := HB.out; omega)
  have HL0 := Lib.hid hl0
  have H1 := Lib.hid h1
  clear h hl0 h1
  go_enter Try.func18, Try.ntmps18
  go_wp2_with fail
  refine HW.out.mono ?_
  rintro e w1 ⟨rfl, rfl⟩
  rw [HIN.out]
  clear HW
  go_wp2_with fail
  simp only [e1]
  go_loopw [7] (fun t wr => FlLineInv w wr x N S T A a m w.heap.size t) (fun t _ => (a + m - 1) / 64 + 1 - (intOf t).toNat)
  case atStart => exact ⟨l0, rfl, by rw [HL0.out]; exact Nat.le_refl _, by have := HL0.out; clear e0 e1; omega, fun _ => HL0.out, by rw [HL0.out, Nat.sub_self, flushA_none _ _ _ (fun k => inC0 _ k)]; exact H1.out, Turn.grow ((Grow.refl w).alloc _) _, K1, by simp⟩
  case round =>
    obtain ⟨l, rfl, hl1, hl2, hm0, hP, ht, hcb, hbs⟩ := hrel
    have HP := Lib.hid hP
    clear hP e0 e1 K1
    by_cases hm : 0 < m
    · have z0 : decide (0 < (m : Int)) = true := decide_eq_true (by omega)
      obtain ⟨l1, hll⟩ : ∃ l1, l1 = (a + m - 1) / 64 := ⟨_, rfl⟩
      obtain ⟨d, hd⟩ : ∃ d, d = a + m - 1 := ⟨_, rfl⟩
      by_cases hlt : l ≤ l1
      · have z1 : decide ((l : Int) ≤ (l1 : Int)) = true := decide_eq_true (by omega)
        have hlN : 8 * l + 8 ≤ N := by have := HB8.out; omega
        have HLN := Lib.hid hlN
        have hstep : (flushA S T A fun j => inC (8 * (a / 64)) (8 * (l - a / 64)) j || inC (8 * l) 8 j) = flushA S T A (inC (8 * (a / 64)) (8 * (l + 1 - a / 64))) :=
          flushA_congr S T A fun j _ _ => by
            unfold inC
            rw [← Bool.decide_or]
            congr 1; apply propext; omega
        have HST := Lib.hid hstep
        have hbF : ¬ x.F w.heap.size := fun q => by have := HLT.out _ q; omega
        have HBF := Lib.hid hbF
        have HCB := Lib.hid hcb
        have hlt3 : l < (a + m - 1) / 64 + 1 := by omega
        have HL3 := Lib.hid (show a / 64 ≤ l + 1 from Nat.le_succ_of_le hl1)
        have e5 := wrapS (M := 8 * N) (show l < 8 * N by omega) (Nat.mul_le_mul_left 8 HB.out)
        obtain ⟨e6, e7⟩ := wrapAM hA HB.out hm
        rw [← hd] at e7
        have e8 := wrap_small (q := l1) (by have := HB.out; clear e5 e6 e7; omega)
        have e9 : Int.tdiv (d : Int) 64 = (l1 : Int) := tdiv64 (by rw [hd, hll])
        have HM0 := Lib.hid (show m = 0 → l + 1 = a / 64 from fun q => absurd hm (by rw [q]; exact Nat.lt_irrefl 0))
        clear hstep hd hll hl1 hl2 hm0 hbF hlN
        go_wp2_with fail
        refine (pm_line_flush HP.out w.heap.size HBF.out HCB.out l HLN.out).mono ?_
        rintro e w4 ⟨rfl, hP2, t2⟩
        rw [HST.out] at hP2
        have X : FlLineInv w w4 x N S T A a m w.heap.size (.int .i64 ((l : Int) + 1)) := ⟨l + 1, by simp, HL3.out, hlt3, HM0.out, hP2, ht.and t2, (t2.cell (p := ⟨w.heap.size, 0, none⟩) hbs HBF.out).trans HCB.out, Nat.lt_of_lt_of_le hbs t2.size⟩
        clear hP2 t2
        go_wp2_with fail
        go_roundw
        case rel => (try rw [e5]); first | exact X | ((repeat apply Exists.intro); exact X) | ((repeat apply Exists.intro); refine ⟨X, ?_⟩; rfl)
        case measure => first | exact meas hlt3 | exact measW hlt3 e5
      · have z1 : decide ((l : Int) ≤ (l1 : Int)) = false := decide_eq_false (by omega)
        have hfin : flushA S T A (inC (8 * (a / 64)) (8 * (l - a / 64))) = flushA S T A (lineB a m) :=
          flushA_congr S T A fun j _ _ => by
            unfold inC lineB
            congr 1; apply propext; omega
        have HF := Lib.hid hfin
        have hq := wrapAM hA HB.out hm
        rw [← hd] at hq
        obtain ⟨e6, e7⟩ := hq
        have e8 := wrap_small (q := l1) (by have := HB.out; clear e6 e7; omega)
        have e9 : Int.tdiv (d : Int) 64 = (l1 : Int) := tdiv64 (by rw [hd, hll])
        clear hfin hd hll hl1 hl2 hm0 hcb hbs
        go_wp2_with fail
        go_ret
        exact ⟨rfl, by rw [← HF.out]; exact HP.out, ht⟩
    · have z0 : decide (0 < (m : Int)) = false := decide_eq_false (by omega)
      have hfin : flushA S T A (inC (8 * (a / 64)) (8 * (l - a / 64))) = flushA S T A (lineB a m) := by
        rw [hm0 (by omega), Nat.sub_self, flushA_none S T A (fun k => inC0 _ k), flushA_none S T A (fun k => by unfold lineB; exact decide_eq_false (by omega))]
      have HF := Lib.hid hfin
      clear hfin hm0 hcb hbs hl1 hl2
      go_wp2_with fail
      go_ret
      exact ⟨rfl, by rw [← HF.out]; exact HP.out, ht⟩
end Go.Proofs.Ytlinlmimakealaa

namespace Go.Proofs.Ytlinlmimakealaa
open Go.RowKit

theorem evict_facts {N : Nat} (h : N ≤ 131072) (h8 : N % 8 = 0) : Int.tdiv ((N : Int) * 8) 64 = ((N / 8 : Nat) : Int) := by
  rw [show ((N : Int) * 8) = ((N * 8 : Nat) : Int) by simp, Int.tdiv_eq_ediv_of_nonneg (by omega)]; omega
theorem cell_info : (Try.prog.info? 79).map (fun i => (i.zero, i.size, i.bytes)) = some (some (.agg #[.int .u8 0, .int .u8 0, .int .u8 0, .int .u8 0, .int .u8 0, .int .u8 0, .int .u8 0, .int .u8 0]), 8, 8) := by kernel_rfl
theorem eq_nilC (w : World) (A : Option Addr) (n c : Nat) : (binOp .eql 73 (.slice A n c) (.slice none 0 0)).run Try.prog w = .ok (.bool A.isNone) w :=
  Lib.run_eql_slice_nil w 73 79 A n c 0 0 Try.underlying73
theorem clone_cells {w : World} {g N c : Nat} {L : List UInt8} (hr : CR w g 79 8 N c (bvs L)) (hN : 8 ≤ N) (hN2 : N ≤ 131072) :
    Calls Try.prog 44 #[.slice (some ⟨g, 0, none⟩) N c] w fun e w' => ∃ g' c', e = .returned (.slice (some ⟨g', 0, none⟩) N c') ∧ CR w' g' 79 8 N c' (bvs L) ∧ w.heap.size ≤ g' ∧ Grow w w' := by
  have hq := eq_nilC
  have HN := Lib.hid hN2
  have hrd : Rd (w.alloc (.cells #[] 79)) w.heap.size (some ⟨g, 0, none⟩) 8 N (bvs L) := by
    refine ⟨hr.1, fun _ => ⟨g, 0, rfl, hr.lt, fun j u hu => ?_⟩⟩
    have := (hr.alloc (.cells #[] 79)).cell hu
    simpa using this
  have HR := Lib.hid hrd
  have HB1 := Lib.hid (show 0 + N ≤ maxLen by unfold maxLen; omega)
  have HB2 := Lib.hid (show (0 + N) * 8 ≤ 140737488355328 by omega)
  obtain ⟨i0, hi, hz, h1, h2⟩ := info_parts cell_info
  clear hrd hN2 hr
  go_enter Try.func44, Try.ntmps44
  go_wp2_with (at_builtin; refine wpList_app rfl (.tmp 5) (.tmp 6) 73 rfl w.heap.size 79 i0 _ 8 8 Try.underlying73 hi hz h1 h2 rfl (by decide) _ 0 [] rfl (World.ownsRow_made w #[] 0 (Nat.le_refl _) (by unfold maxLen; omega) rfl) w.heap.size (some ⟨g, 0, none⟩) N c (bvs L) rfl HR.out (bvs_one L) HB1.out HB2.out (by simp) ?_; intro v1 w1 hown1 hg1 hor)
  have hform := own_form hown1
  rw [Nat.zero_add, List.nil_append] at hown1
  go_ret
  obtain ⟨A', c', rfl, -, -, -, ha⟩ := hform
  rw [Nat.zero_add]
  rw [Nat.zero_add] at hown1
  have hA : A' ≠ none := by
    intro e
    subst e
    rcases hown1.2 with ⟨e1, e2⟩ | ⟨_, _, _, e1, _⟩
    · omega
    · cases e1
  cases A' with
  | none => exact absurd rfl hA
  | some a' =>
    obtain ⟨q1, q2, q3⟩ := ha a' rfl
    rw [q3] at hown1 ⊢
    exact ⟨a'.block, c', rfl, CR.of_row hown1, q1, ((Grow.refl w).alloc _).low ⟨hg1.os, hg1.tape, hg1.output, hg1.size, fun k hk => hg1.block k (by simp; omega) (fun q => by have q2 : some k = some w.heap.size := q; injection q2 with q2; omega)⟩⟩

/-- 'clear(m)'. -/
theorem SetIs.cleared {w : World} {b : Nat} {A : List Bool} (h : SetIs w b A) (ty : TypeId) : ∃ w', (Builtin.clear_ #[74] ty #[.map (some b)]).run Try.prog w = .ok (.tuple #[]) w' ∧ SetIs w' b (List.replicate A.length false) ∧ w.grownBy w' (some b) := by
  obtain ⟨D, ⟨es, clock, hb, F, hs, hD⟩, h2⟩ := h
  refine ⟨Go.ChangeMaps.setBlock w b (.map #[] clock), ?_, ⟨.map [], ⟨#[], clock, ?_, ?_, Nat.zero_le _, rfl⟩, fun kl => ?_⟩, ?_⟩
  · simp [Builtin.clear_, run_underlying Try.underlying74, MapKept.run_getObj_map hb, MapKept.run_setObj_map _ hb, Result.andThen, Go.ChangeMaps.setBlock]
  · exact Go.ChangeMaps.heap_setBlock_same hb _
  · exact ⟨by simp, Go.MapKept.stamped_empty clock, by simp⟩
  · simp [Maps.has, List.getElem?_replicate]
  · exact World.mapTurned.grown ⟨es, clock, #[], clock, hb, rfl⟩
end Go.Proofs.Ytlinlmimakealaa

namespace Go.Proofs.Ytlinlmimakealaa
open Go.RowKit Go.Maps

theorem owns_unique {w : World} {b n n' : Nat} {D D' : DataW Unit} (h : w.ownsMap Try.prog 3 (plainElem Try.prog 4) b n D) (h' : w.ownsMap Try.prog 3 (plainElem Try.prog 4) b n' D') : D = D' := by
  obtain ⟨es, clock, h1, -, -, h4⟩ := h
  obtain ⟨es', clock', h1', -, -, h4'⟩ := h'
  rw [h1] at h1'
  injection h1' with h1'
  injection h1' with e1 e2
  subst e1
  rw [h4, h4']
theorem ranges_same {w w' : World} {b r n cnt : Nat} {D : DataW Unit} {left : Lit → Bool} (h : w.ranges Try.prog 3 (plainElem Try.prog 4) b r n D left cnt) (hb : w'.heap[b]? = w.heap[b]?) (hr : w'.heap[r]? = w.heap[r]?) : w'.ranges Try.prog 3 (plainElem Try.prog 4) b r n D left cnt := by
  obtain ⟨es, clock, since, seen, c0, h1, h2, h3, h4, h5, h6⟩ := h
  exact ⟨es, clock, since, seen, c0, hb.trans h1, h2, h3, h4, hr.trans h5, h6⟩
theorem Turn.set {F : Nat → Prop} {a b : World} (h : Turn F a b) (p : Addr) (hp : F p.block) (v : Value) : Turn F a (b.setCell p v) := h.and (Turn.setCell b hp v)
theorem turn8 (w : World) (g : Nat) (o0 o1 o2 o3 o4 o5 o6 o7 : Nat) (v0 v1 v2 v3 v4 v5 v6 v7 : Value) :
    Turn (fun i => i = g) w ((((((((w.setCell ⟨g, o0, none⟩ v0).setCell ⟨g, o1, none⟩ v1).setCell ⟨g, o2, none⟩ v2).setCell ⟨g, o3, none⟩ v3).setCell ⟨g, o4, none⟩ v4).setCell ⟨g, o5, none⟩ v5).setCell ⟨g, o6, none⟩ v6).setCell ⟨g, o7, none⟩ v7).drew := by
  refine Turn.andGrow ?_ ((Grow.refl _).drew)
  exact (((((((((Turn.refl (fun i => i = g) w).set ⟨g, o0, none⟩ rfl v0).set ⟨g, o1, none⟩ rfl v1).set ⟨g, o2, none⟩ rfl v2).set ⟨g, o3, none⟩ rfl v3).set ⟨g, o4, none⟩ rfl v4).set ⟨g, o5, none⟩ rfl v5).set ⟨g, o6, none⟩ rfl v6).set ⟨g, o7, none⟩ rfl v7)

set_option maxHeartbeats 2000000 in
theorem pm_keep_r {w : World} {x : MB} {N : Nat} {S T : List UInt8} {A : List Bool} (h : PM w x N S T A) (k : Nat) (hk : k < N) {r cnt : Nat} {D : DataW Unit} {left : Lit → Bool} (hrg : w.ranges Try.prog 3 (plainElem Try.prog 4) x.b r N D left cnt) (hr : ¬ x.F r) :
    Calls Try.prog 41 #[.pointer (some ⟨x.p, 0, none⟩), .int .i64 (k : Nat)] w fun e w' => e = .returned (.tuple #[]) ∧ PM w' x N S (keepN S T (8 * k) 8) (A.set k false) ∧ Turn x.F w w' ∧ ∃ cnt', cnt' ≤ cnt ∧ w'.ranges Try.prog 3 (plainElem Try.prog 4) x.b r N (D.del (keyL k)) (fun z => left z && !z.sameKey (keyL k)) cnt' := by
  obtain ⟨cs, ct, hcs, hct, c0, c1, c2, l0⟩ := h.view
  have H := Lib.hid h
  have HRG := Lib.hid hrg
  have hap := h.apart
  have HNB := Lib.hid (show x.b ≠ x.gt from Ne.symm hap.2.2.2.2.2)
  have HNR := Lib.hid (show r ≠ x.gt from fun q => hr (.inr (.inr (.inl q))))
  have hb := h.bound
  have HB := Lib.hid hb.2.2
  obtain ⟨s0, -⟩ := h.seenAt (j := k * 8) (by omega)
  obtain ⟨s1, -⟩ := h.seenAt (j := k * 8 + 1) (by omega)
  obtain ⟨s2, -⟩ := h.seenAt (j := k * 8 + 2) (by omega)
  obtain ⟨s3, -⟩ := h.seenAt (j := k * 8 + 3) (by omega)
  obtain ⟨s4, -⟩ := h.seenAt (j := k * 8 + 4) (by omega)
  obtain ⟨s5, -⟩ := h.seenAt (j := k * 8 + 5) (by omega)
  obtain ⟨s6, -⟩ := h.seenAt (j := k * 8 + 6) (by omega)
  obtain ⟨s7, -⟩ := h.seenAt (j := k * 8 + 7) (by omega)
  obtain ⟨t0, f0⟩ := h.lastAt (j := k * 8) (by omega)
  obtain ⟨t1, f1⟩ := h.lastAt (j := k * 8 + 1) (by omega)
  obtain ⟨t2, f2⟩ := h.lastAt (j := k * 8 + 2) (by omega)
  obtain ⟨t3, f3⟩ := h.lastAt (j := k * 8 + 3) (by omega)
  obtain ⟨t4, f4⟩ := h.lastAt (j := k * 8 + 4) (by omega)
  obtain ⟨t5, f5⟩ := h.lastAt (j := k * 8 + 5) (by omega)
  obtain ⟨t6, f6⟩ := h.lastAt (j := k * 8 + 6) (by omega)
  obtain ⟨t7, f7⟩ := h.lastAt (j := k * 8 + 7) (by omega)
  clear h hb hrg hr hap
  go_enter Try.func41, Try.ntmps41
  go_upto_region 0 with (fail)
  go_cut [] (fun wx => (PM wx x N S (keepN S T (8 * k) 8) A ∧ Turn x.F w wx) ∧ wx.heap[x.b]? = w.heap[x.b]? ∧ wx.heap[r]? = w.heap[r]?)
  case first =>
    go_region
    go_wp2_with fail
    go_meet
    have e : keepN S T (8 * k) 8 = (((((((T.set (k * 8) (S.getD (k * 8) 0)).set (k * 8 + 1) (S.getD (k * 8 + 1) 0)).set (k * 8 + 2) (S.getD (k * 8 + 2) 0)).set (k * 8 + 3) (S.getD (k * 8 + 3) 0)).set (k * 8 + 4) (S.getD (k * 8 + 4) 0)).set (k * 8 + 5) (S.getD (k * 8 + 5) 0)).set (k * 8 + 6) (S.getD (k * 8 + 6) 0)).set (k * 8 + 7) (S.getD (k * 8 + 7) 0) := by
      rw [Nat.mul_comm 8 k]; rfl
    rw [e]
    have h0 := H.out.lastSet (k * 8) (S.getD (k * 8) 0)
    have h1 := h0.1.lastSet (k * 8 + 1) (S.getD (k * 8 + 1) 0)
    have h2 := h1.1.lastSet (k * 8 + 2) (S.getD (k * 8 + 2) 0)
    have h3 := h2.1.lastSet (k * 8 + 3) (S.getD (k * 8 + 3) 0)
    have h4 := h3.1.lastSet (k * 8 + 4) (S.getD (k * 8 + 4) 0)
    have h5 := h4.1.lastSet (k * 8 + 5) (S.getD (k * 8 + 5) 0)
    have h6 := h5.1.lastSet (k * 8 + 6) (S.getD (k * 8 + 6) 0)
    have h7 := h6.1.lastSet (k * 8 + 7) (S.getD (k * 8 + 7) 0)
    refine ⟨⟨h7.1.keep ((Grow.refl _).drew), (((((((h0.2.and h1.2).and h2.2).and h3.2).and h4.2).and h5.2).and h6.2).and h7.2).andGrow ((Grow.refl _).drew)⟩, ?_, ?_⟩
    · exact (turn8 ..).block _ (H.out.lt _ (.inr (.inr (.inr rfl)))) HNB.out
    · exact (turn8 ..).block _ HRG.out.lt HNR.out
  case rest =>
    obtain ⟨⟨h1, r1⟩, hb1, hb2⟩ := hcut
    have HR2 := Lib.hid (ranges_same HRG.out hb1 hb2)
    clear hb1 hb2 HRG
    clear c0 c1 c2 l0 s0 s1 s2 s3 s4 s5 s6 s7 t0 t1 t2 t3 t4 t5 t6 t7 f0 f1 f2 f3 f4 f5 f6 f7
    obtain ⟨cs', ct', -, -, -, -, d2, l1⟩ := h1.view
    obtain ⟨D', hD1, hD2⟩ := h1.isSet
    obtain rfl := owns_unique hD1 HR2.out.owns
    have HD2 := Lib.hid hD2
    have H1 := Lib.hid h1
    have HL := Lib.hid h1.lenA
    have HK := Lib.hid (show k < A.length by rw [h1.lenA]; exact hk)
    have HWF := Lib.hid (show (Lit.int .i64 (k : Int)).wf = true from WalkArith.wf_i64 (by have := HB.out; omega))
    clear h1 hD1 hD2
    go_wp2_with (at_delete; refine wpList_delete_ranges _ rfl (.tmp 20) (.tmp 21) 74 3 rfl 4 int_keyed' Try.underlying74 _ x.b r N _ _ _ rfl HR2.out _ (keyL k) rfl (keyOf_int_mk Try.underlying3 HWF.out) ?_; intro w2 cnt2 hrg2 hle hturn)
    have hS2 : SetIs w2 x.b (A.set k false) := ⟨_, by rw [List.length_set, HL.out]; exact hrg2.owns, has_del HD2.out HK.out⟩
    have hg2 := hturn.grown
    have h2 := H1.out.setTo hS2 (by rw [List.length_set]) hg2
    go_end0
    exact ⟨rfl, h2.1, r1.and h2.2, _, hle, hrg2⟩

theorem plainElem_bool_inv {e : TypeId} (he : Try.prog.underlying e = some .bool) {v : Value} {z : DataW Unit × List MemPlace} (h : plainElem Try.prog e v = some z) : ∃ a, v = .bool a := by
  unfold plainElem at h
  rw [he] at h
  cases v <;> simp at h
  exact ⟨_, rfl⟩
theorem sameKey_ne {k j : Nat} : (keyL j).sameKey (keyL k) = decide (j = k) := by
  by_cases e : j = k
  · subst e; rw [WideAt.sameKey_self (keyL_is j)]; simp
  · rw [decide_eq_false e]
    cases h : (keyL j).sameKey (keyL k) with
    | false => rfl
    | true => exact absurd (keyL_inj (WideAt.sameKey_eq h)) e
def fenceA (N : Nat) (left : Lit → Bool) : List Bool := (List.range N).map fun k => left (keyL k)
theorem fenceA_get (N : Nat) (left : Lit → Bool) (k : Nat) : (fenceA N left)[k]? = if k < N then some (left (keyL k)) else none := by
  unfold fenceA
  by_cases h : k < N <;> simp [h]
def fenceT (S T : List UInt8) (A : List Bool) (left : Lit → Bool) : List UInt8 := mixL S T fun k => A.getD k false && !left (keyL k)

theorem fenceT_end {S T : List UInt8} {A : List Bool} {left : Lit → Bool} (h : ∀ kl, left kl = false) : fenceT S T A left = mixL S T fun k => A.getD k false := mixL_congr S T fun k _ => by rw [h]; simp
theorem fenceA_end {N : Nat} {left : Lit → Bool} (h : ∀ kl, left kl = false) : fenceA N left = List.replicate N false := by
  apply List.ext_getElem?
  intro k
  rw [fenceA_get, List.getElem?_replicate, h]
theorem fenceT_step {S T : List UInt8} {A : List Bool} {left : Lit → Bool} {k : Nat} (hk : A[k]? = some true) : keepN S (fenceT S T A left) (8 * k) 8 = fenceT S T A fun z => left z && !z.sameKey (keyL k) := by
  unfold fenceT
  rw [mixL_keep]
  refine mixL_congr S T fun j _ => ?_
  simp only [sameKey_ne]
  by_cases e : j = k
  · subst e
    have : A.getD j false = true := by rw [List.getD_eq_getElem?_getD, hk]; rfl
    rw [this]; simp
  · simp [e]
theorem fenceA_step {N : Nat} {left : Lit → Bool} {k : Nat} : (fenceA N left).set k false = fenceA N fun z => left z && !z.sameKey (keyL k) := by
  apply List.ext_getElem?
  intro j
  rw [fenceA_get]
  simp only [sameKey_ne]
  by_cases e : k = j
  · subst e
    rw [List.getElem?_set]
    by_cases hj : k < N <;> simp [hj, fenceA]
  · rw [List.getElem?_set_ne e, fenceA_get, decide_eq_false (Ne.symm e)]
    simp

/-- What holds at each round of Fence. -/
def FenceInv (w wr : World) (x : MB) (N : Nat) (S T : List UInt8) (A : List Bool) (r : Nat) : Prop := ∃ (left : Lit → Bool) (cnt : Nat) (D : DataW Unit),
  wr.ranges Try.prog 3 (plainElem Try.prog 4) x.b r N D left cnt ∧ (∀ kl, left kl = true → ∃ k, kl = keyL k ∧ A[k]? = some true) ∧ PM wr x N S (fenceT S T A left) (fenceA N left) ∧ Turn x.F w wr

/-- What a step that brings an entry leaves. -/
structure NextF (wr w1 : World) (b r N : Nat) (D : DataW Unit) (left : Lit → Bool) (cnt cnt1 k : Nat) (A : List Bool) : Prop where
  at_ : A[k]? = some true
  here : left (keyL k) = true
  rg : w1.ranges Try.prog 3 (plainElem Try.prog 4) b r N D (fun z => left z && !z.sameKey (keyL k)) cnt1
  lt : cnt1 < cnt
  grow : wr.grownBy w1 (some r)
  size : w1.heap.size = wr.heap.size
theorem wpList_nextSet {w : World} {ops : Array Oper} {rest : List Oper} {o : Oper} {a : Act} {Q : Exit → Act → World → Prop} {A : List Bool} (hg : o.guard = none) (it : Operand) (hop : o.op = Op.next it false) (b r N : Nat) (D : DataW Unit) (left : Lit → Bool) (cnt : Nat)
    (hit : a.eval it = .pointer (some ⟨r, 0, none⟩)) (h : w.ranges Try.prog 3 (plainElem Try.prog 4) b r N D left cnt) (hleft : ∀ kl, left kl = true → ∃ k, kl = keyL k ∧ A[k]? = some true)
    (hDone : (∀ kl, left kl = false) → wpList Try.prog ops Q rest (a.put o.dst (.tuple #[.bool false])) w)
    (hMore : ∀ (k : Nat) (v : Value) (w1 : World) (cnt1 : Nat), NextF w w1 b r N D left cnt cnt1 k A → (Instr.entry (.pointer (some ⟨r, 0, none⟩))).run Try.prog w1 = .ok (.tuple #[.int .i64 (k : Int), v]) w1 → wpList Try.prog ops Q rest (a.put o.dst (.tuple #[.bool true, .int .i64 (k : Int), v])) w1) :
    wpList Try.prog ops Q (o :: rest) a w := by
  refine wpList_next_ranges _ hg it hop 3 int_keyed' (plainElem Try.prog 4) (Value.int .i64) Value.bool (fun key kl hkey => by obtain ⟨x, rfl, _⟩ := Maps.keyOf_int_inv Try.underlying3 hkey; exact ⟨x, rfl⟩) (fun v y hv => plainElem_bool_inv Try.underlying4 hv) b r N D left cnt hit h (fun _ hl => hDone hl) ?_
  intro z c kl y w1 cnt1 hkey hlk hv hat hrg1 hlt hg1 hs1 hen
  obtain ⟨z', e1, rfl, hwz⟩ := Maps.keyOf_int_inv Try.underlying3 hkey
  injection e1 with _ e1
  subst e1
  obtain ⟨k, e2, hk⟩ := hleft _ hlk
  have e3 : z = (k : Int) := by unfold keyL at e2; injection e2
  subst e3
  exact hMore k _ w1 cnt1 ⟨hk, hlk, hrg1, hlt, hg1, hs1⟩ hen

theorem pm_fence {w : World} {x : MB} {N : Nat} {S T : List UInt8} {A : List Bool} (h : PM w x N S T A) :
    Calls Try.prog 19 #[.pointer (some ⟨x.p, 0, none⟩)] w fun e w' => e = .returned (.tuple #[]) ∧ PM w' x N S (mixL S T fun k => A.getD k false) (List.replicate N false) ∧ Turn x.F w w' := by
  obtain ⟨cs, ct, hcs, hct, c0, c1, c2, l0⟩ := h.view
  obtain ⟨D, hD1, hD2⟩ := h.isSet
  have hl := h.lenA
  rw [hl] at hD1
  have H := Lib.hid h
  have HL := Lib.hid hl
  have HD := Lib.hid hD2
  have HLT := Lib.hid h.lt
  clear h hl hD2
  go_enter Try.func19, Try.ntmps19
  go_wp2_with (at_range; refine wpList_range_own _ rfl (.tmp 6) 74 rfl 3 4 int_keyed' Try.underlying74 _ x.b N D rfl hD1 ?_; intro w0 hrg0 hg0 hs0)
  go_frame
  clear c0 c1 c2 l0 hD1
  go_loopw [2] (fun _ wr => FenceInv w wr x N S T A w.heap.size) (fun _ wr => wr.rangeLeft x.b w.heap.size)
  case atStart =>
    refine ⟨_, _, _, hrg0, fun kl hk => (HD.out kl).1 hk, ?_, Turn.grown hg0 (fun j hj => by cases hj)⟩
    have hT : fenceT S T A (Maps.has D) = T := mixL_none S T fun k => by
      cases ha : A.getD k false with
      | false => rfl
      | true =>
        have : Maps.has D (keyL k) = true := (HD.out _).2 ⟨k, rfl, by rw [List.getD_eq_getElem?_getD] at ha; cases hk : A[k]? with | none => rw [hk] at ha; cases ha | some v => rw [hk] at ha; rw [show v = true from ha]⟩
        rw [this]; rfl
    have hA : fenceA N (Maps.has D) = A := by
      apply List.ext_getElem?
      intro k
      rw [fenceA_get]
      by_cases hk : k < N
      · rw [if_pos hk]
        have hk' : k < A.length := by rw [HL.out]; exact hk
        rw [List.getElem?_eq_getElem hk']
        congr 1
        cases ha : A[k] with
        | true => exact (HD.out _).2 ⟨k, rfl, by rw [List.getElem?_eq_getElem hk', ha]⟩
        | false =>
          cases hh : Maps.has D (keyL k) with
          | false => rfl
          | true =>
            obtain ⟨j, hj, hj2⟩ := (HD.out _).1 hh
            obtain rfl := keyL_inj hj
            rw [List.getElem?_eq_getElem hk', ha] at hj2
            cases hj2
      · rw [if_neg hk, List.getElem?_eq_none (by rw [HL.out]; omega)]
    rw [hT, hA]
    exact H.out.turn (F := fun _ => False) (Turn.grown hg0 (fun j hj => by cases hj)) (fun _ q => q.elim)
  case round =>
    obtain ⟨left, cnt, D1, hrg, hleft, hP, ht⟩ := hrel
    have HLF := Lib.hid hleft
    have HRG := Lib.hid hrg
    have HP := Lib.hid hP
    clear hleft hP
    go_wp2_with (at_next; refine wpList_nextSet rfl (.tmp 7) rfl x.b w.heap.size N D1 left cnt rfl HRG.out HLF.out (fun hl0 => ?_) (fun k v w1 cnt1 hN hen => ?_))
    · have hP := HP.out
      rw [fenceT_end hl0, fenceA_end hl0] at hP
      go_end0
      exact ⟨rfl, hP, ht⟩
    · have hk : k < N := by have := (List.getElem?_eq_some_iff.1 hN.at_).1; rw [HL.out] at this; exact this
      have hnr : ¬ x.F w.heap.size := fun q => by have := HLT.out _ q; omega
      have tr : Turn (fun i => i = w.heap.size) wr w1 := Turn.grown hN.grow (fun j hj => by injection hj with hj; exact hj.symm)
      refine (pm_keep_r (HP.out.turn tr (fun i q => by subst q; exact hnr)) k hk hN.rg hnr).mono ?_
      rintro e w2 ⟨rfl, hP2, t2, cnt2, hle, hrg2⟩
      rw [Maps.strike_twice] at hrg2
      rw [fenceT_step hN.at_, fenceA_step] at hP2
      have X : FenceInv w w2 x N S T A w.heap.size := ⟨_, cnt2, _, hrg2, fun kl hk => HLF.out kl (by simp at hk; exact hk.1), hP2, (ht.trans tr (fun i q => by subst q; exact .inr (Nat.le_refl _))).and t2⟩
      have M : w2.rangeLeft x.b w.heap.size < wr.rangeLeft x.b w.heap.size := by rw [hrg2.left_eq, HRG.out.left_eq]; exact Nat.lt_of_le_of_lt hle hN.lt
      go_wp2_with fail
      go_roundw
      case rel => first | exact X | ((repeat apply Exists.intro); exact X) | ((repeat apply Exists.intro); refine ⟨X, ?_⟩; rfl)
      case measure => exact M
end Go.Proofs.Ytlinlmimakealaa
