/- pmem: line, Evict, Flush. No statement of the seat is proved here. -/
import Derived.Test.YtnhgfkahmflpgaaPm3
import Derived.Test.YtnhgfkahmflpgaaPm4
import Derived.Maps.OwnOps
namespace Go.Proofs.Ytnhgfkahmflpgaa
open Go.RowKit

theorem wrapM {l N : Nat} (h : 8 * l < N) (h' : N ≤ 131072) : wrap64 ((l : Int) * 8) = (l : Int) * 8 ∧ wrap64 ((l : Int) + 1) = (l : Int) + 1 ∧ wrap64 (((l : Int) + 1) * 8) = ((l : Int) + 1) * 8 := ⟨IntWalk.wrap64_in _ (by omega), IntWalk.wrap64_in _ (by omega), IntWalk.wrap64_in _ (by omega)⟩
def LineInv (w wr : World) (x : MB) (N : Nat) (S T : List UInt8) (A : List Bool) (l : Nat) (t : Value) : Prop := ∃ k : Nat, t = .int .i64 (k : Int) ∧ 8 * l ≤ k ∧ k ≤ 8 * l + 8 ∧ PM wr x N S (mixL S T (inC (8 * l) (k - 8 * l))) (clrC A (8 * l) (k - 8 * l)) ∧ Turn x.F w wr

theorem pm_line_keep {w : World} {x : MB} {N : Nat} {S T : List UInt8} {A : List Bool} (h : PM w x N S T A) (l : Nat) (hl : 8 * l + 8 ≤ N) :
    Calls Try.prog 32 #[.pointer (some ⟨x.p, 0, none⟩), .int .i64 (l : Nat), .func (.func 34) #[.pointer (some ⟨x.p, 0, none⟩)] #[]] w fun e w' => e = .returned (.tuple #[]) ∧ PM w' x N S (mixL S T (inC (8 * l) 8)) (clrC A (8 * l) 8) ∧ Turn x.F w w' := by
  have HB := Lib.hid h.bound.2.2
  have h0 : PM w x N S (mixL S T (inC (8 * l) 0)) (clrC A (8 * l) 0) := by rw [mixL_none S T (fun k => by simp [inC])]; exact h
  have H0 := Lib.hid h0
  have hl1 : 8 * l < N := by omega
  obtain ⟨w1, w2, w3⟩ := wrapM hl1 HB.out
  clear h h0
  go_enter Try.func32, Try.ntmps32
  go_wp2_with fail
  simp only [w1]
  go_loopw [6] (fun t wr => LineInv w wr x N S T A l t) (fun t _ => 8 * l + 8 - (intOf t).toNat)
  case atStart => exact ⟨8 * l, by congr 1; omega, by omega, by omega, by rw [Nat.sub_self]; exact H0.out, Turn.refl _ _⟩
  case round =>
    obtain ⟨k, rfl, hk1, hk2, hP, ht⟩ := hrel
    by_cases hlt : k < 8 * l + 8
    · have z1 : decide ((k : Int) < ((l : Int) + 1) * 8) = true := decide_eq_true (by omega)
      have hkN : k < N := by omega
      have HP := Lib.hid hP
      have hsub : k + 1 - 8 * l = (k - 8 * l) + 1 := by omega
      have hcn : 8 * l + (k - 8 * l) = k := by omega
      have HM := Lib.hid (show keepN S (mixL S T (inC (8 * l) (k - 8 * l))) (8 * k) 8 = mixL S T (inC (8 * l) (k + 1 - 8 * l)) by rw [hsub, ← mixL_inC, hcn])
      have HC := Lib.hid (show (clrC A (8 * l) (k - 8 * l)).set k false = clrC A (8 * l) (k + 1 - 8 * l) by rw [hsub, clrC, hcn])
      have e5 := wrapS hkN (by have := HB.out; omega)
      clear hsub hcn hP
      go_wp2_with fail
      refine (pm_keep HP.out k hkN).mono ?_
      rintro e w4 ⟨rfl, hP2, t2⟩
      rw [HM.out, HC.out] at hP2
      have X : LineInv w w4 x N S T A l (.int .i64 ((k : Int) + 1)) := ⟨k + 1, by simp, Nat.le_succ_of_le hk1, hlt, hP2, ht.and t2⟩
      clear hP2 t2
      go_wp2_with fail
      go_roundw
      case rel => (try rw [e5]); first | exact X | ((repeat apply Exists.intro); exact X) | ((repeat apply Exists.intro); refine ⟨X, ?_⟩; rfl)
      case measure => first | exact meas hlt | exact measW hlt e5
    · have z1 : decide ((k : Int) < ((l : Int) + 1) * 8) = false := decide_eq_false (by omega)
      obtain rfl : k = 8 * l + 8 := by omega
      rw [Nat.add_sub_cancel_left] at hP
      have HP := Lib.hid hP
      clear hP
      go_wp2_with fail
      go_end0
      exact ⟨rfl, HP.out, ht⟩

theorem inC0 (c k : Nat) : inC c 0 k = false := by unfold inC; exact decide_eq_false (by omega)

set_option maxHeartbeats 2000000 in
theorem pm_flush1 {w : World} {x : MB} {N : Nat} {S T : List UInt8} {A : List Bool} {B : Nat → Bool} (h : PM w x N S T (flushA S T A B)) (bx : Nat) (hbx : ¬ x.F bx) (hc : w.cell? ⟨bx, 0, none⟩ = some (.pointer (some ⟨x.p, 0, none⟩))) (k : Nat) (hk : k < N) :
    Calls Try.prog 33 #[.int .i64 (k : Nat), .pointer (some ⟨bx, 0, none⟩)] w fun e w' => e = .returned (.tuple #[]) ∧ PM w' x N S T (flushA S T A fun j => B j || decide (j = k)) ∧ Turn x.F w w' := by
  have HB := Lib.hid h.bound.2.2
  obtain ⟨cs', ct', hcs', hct', d0, d1, -, l1⟩ := h.view
  have HS := h.seenBytes hk
  have HT := h.lastBytes hk
  have s0 := HS 0 (by omega); have s1 := HS 1 (by omega); have s2 := HS 2 (by omega); have s3 := HS 3 (by omega); have s4 := HS 4 (by omega); have s5 := HS 5 (by omega); have s6 := HS 6 (by omega); have s7 := HS 7 (by omega)
  have t0 := HT 0 (by omega); have t1 := HT 1 (by omega); have t2 := HT 2 (by omega); have t3 := HT 3 (by omega); have t4 := HT 4 (by omega); have t5 := HT 5 (by omega); have t6 := HT 6 (by omega); have t7 := HT 7 (by omega)
  rw [Nat.add_zero] at s0 t0
  have hq := eql8u
  have HD := Lib.hid (dirty_eq S T k)
  have H := Lib.hid h
  have HBX := Lib.hid hbx
  clear HS HT h hbx
  go_enter Try.func33, Try.ntmps33
  go_upto_region 0 with (fail)
  go_cut [17] (fun s wx => s = .bool (dirtyB S T k) ∧ Grow w wx)
  case first =>
    go_quiet (fail)
    go_wp2_with fail
    go_meet
    exact ⟨by rw [← HD.out]; simp only [Bool.not_and, Bool.or_assoc], (Grow.refl _).drewN _⟩
  case rest =>
    obtain ⟨rfl, g1⟩ := hcut
    have h1 := H.out.keep g1
    have cb := g1.cell hc
    have H1 := Lib.hid h1
    have G1 := Lib.hid g1
    clear d0 d1 l1 s0 s1 s2 s3 s4 s5 s6 s7 t0 t1 t2 t3 t4 t5 t6 t7 hq HD H g1 hc
    cases hD : dirtyB S T k with
    | true =>
      have HSET := Lib.hid (show k < A.length → (flushA S T A B).set k true = flushA S T A fun j => B j || decide (j = k) from fun q => flushA_set S T A B k q hD)
      obtain ⟨cs2, ct2, -, -, -, -, d2, l2⟩ := h1.view
      have hSet := h1.isSet
      have hla := h1.lenA
      have HK := Lib.hid (show k < (flushA S T A B).length by rw [hla]; exact hk)
      have HM := Lib.hid (show (flushA S T A B).length ≤ 1000000 by rw [hla]; have := HB.out; omega)
      have HA := Lib.hid (show k < A.length by rw [flushA_length] at hla; omega)
      clear hD h1 hla
      go_wp2_with (at_mapUpdate; refine wpList_setPut rfl (.tmp 21) (.tmp 22) (.const (.bool true)) rfl rfl hSet k HK.out HM.out rfl rfl ?_; intro w2 hS2 hg2)
      have h2 := H1.out.setTo hS2 (by rw [List.length_set]) hg2
      rw [HSET.out HA.out] at h2
      go_end0
      exact ⟨rfl, h2.1, (Turn.grow G1.out _).and h2.2⟩
    | false =>
      have HSK := Lib.hid (flushA_skip S T A B k hD)
      clear hD h1
      go_wp2_with fail
      go_end0
      exact ⟨rfl, by rw [← HSK.out]; exact H1.out, Turn.grow G1.out _⟩

def FlushInv (w wr : World) (x : MB) (N : Nat) (S T : List UInt8) (A : List Bool) (B : Nat → Bool) (l bx : Nat) (t : Value) : Prop := ∃ k : Nat, t = .int .i64 (k : Int) ∧ 8 * l ≤ k ∧ k ≤ 8 * l + 8 ∧ PM wr x N S T (flushA S T A fun j => B j || inC (8 * l) (k - 8 * l) j) ∧ Turn x.F w wr ∧ wr.cell? ⟨bx, 0, none⟩ = some (.pointer (some ⟨x.p, 0, none⟩))

theorem pm_line_flush {w : World} {x : MB} {N : Nat} {S T : List UInt8} {A : List Bool} {B : Nat → Bool} (h : PM w x N S T (flushA S T A B)) (bx : Nat) (hbx : ¬ x.F bx) (hc : w.cell? ⟨bx, 0, none⟩ = some (.pointer (some ⟨x.p, 0, none⟩))) (l : Nat) (hl : 8 * l + 8 ≤ N) :
    Calls Try.prog 32 #[.pointer (some ⟨x.p, 0, none⟩), .int .i64 (l : Nat), .func (.func 33) #[] #[.pointer (some ⟨bx, 0, none⟩)]] w fun e w' => e = .returned (.tuple #[]) ∧ PM w' x N S T (flushA S T A fun j => B j || inC (8 * l) 8 j) ∧ Turn x.F w w' := by
  have HB := Lib.hid h.bound.2.2
  have h0 : PM w x N S T (flushA S T A fun j => B j || inC (8 * l) 0 j) := by rw [flushA_congr S T A (C := B) (fun k _ _ => by simp only [inC0, Bool.or_false])]; exact h
  have H0 := Lib.hid h0
  have hl1 : 8 * l < N := by omega
  obtain ⟨w1, w2, w3⟩ := wrapM hl1 HB.out
  clear h h0
  go_enter Try.func32, Try.ntmps32
  go_wp2_with fail
  simp only [w1]
  go_loopw [6] (fun t wr => FlushInv w wr x N S T A B l bx t) (fun t _ => 8 * l + 8 - (intOf t).toNat)
  case atStart => exact ⟨8 * l, by congr 1; omega, by omega, by omega, by rw [Nat.sub_self]; exact H0.out, Turn.refl _ _, hc⟩
  case round =>
    obtain ⟨k, rfl, hk1, hk2, hP, ht, hcb⟩ := hrel
    by_cases hlt : k < 8 * l + 8
    · have z1 : decide ((k : Int) < ((l : Int) + 1) * 8) = true := decide_eq_true (by omega)
      have hkN : k < N := by omega
      have HP := Lib.hid hP
      have e5 := wrapS hkN (by have := HB.out; omega)
      have HBX := Lib.hid hbx
      have HC := Lib.hid hc
      have HCB := Lib.hid hcb
      have HBL := Lib.hid (World.block_lt_of_cell? _ _ hc)
      have HBR := Lib.hid (World.block_lt_of_cell? _ _ hcb)
      clear hP hcb
      go_wp2_with fail
      refine (pm_flush1 HP.out bx HBX.out HCB.out k hkN).mono ?_
      rintro e w4 ⟨rfl, hP2, t2⟩
      have hstep : (flushA S T A fun j => (B j || inC (8 * l) (k - 8 * l) j) || decide (j = k)) = flushA S T A fun j => B j || inC (8 * l) (k + 1 - 8 * l) j :=
        flushA_congr S T A fun j _ _ => by
          have : (inC (8 * l) (k - 8 * l) j || decide (j = k)) = inC (8 * l) (k + 1 - 8 * l) j := by
            unfold inC
            rw [← Bool.decide_or]
            congr 1; apply propext; omega
          rw [Bool.or_assoc, this]
      rw [hstep] at hP2
      have X : FlushInv w w4 x N S T A B l bx (.int .i64 ((k : Int) + 1)) := ⟨k + 1, by simp, Nat.le_succ_of_le hk1, hlt, hP2, ht.and t2, (t2.cell (p := ⟨bx, 0, none⟩) HBR.out HBX.out).trans HCB.out⟩
      clear hP2 t2 hstep
      go_wp2_with fail
      go_roundw
      case rel => (try rw [e5]); first | exact X | ((repeat apply Exists.intro); exact X) | ((repeat apply Exists.intro); refine ⟨X, ?_⟩; rfl)
      case measure => first | exact meas hlt | exact measW hlt e5
    · have z1 : decide ((k : Int) < ((l : Int) + 1) * 8) = false := decide_eq_false (by omega)
      obtain rfl : k = 8 * l + 8 := by omega
      rw [Nat.add_sub_cancel_left] at hP
      have HP := Lib.hid hP
      clear hP
      go_wp2_with fail
      go_end0
      exact ⟨rfl, HP.out, ht⟩

def FlLineInv (w wr : World) (x : MB) (N : Nat) (S T : List UInt8) (A : List Bool) (a m bx : Nat) (t : Value) : Prop := ∃ l : Nat, t = .int .i64 (l : Int) ∧ a / 64 ≤ l ∧ l ≤ (a + m - 1) / 64 + 1 ∧ (m = 0 → l = a / 64) ∧ PM wr x N S T (flushA S T A (inC (8 * (a / 64)) (8 * (l - a / 64)))) ∧ Turn x.F w wr ∧ wr.cell? ⟨bx, 0, none⟩ = some (.pointer (some ⟨x.p, 0, none⟩)) ∧ bx < wr.heap.size

theorem tdiv64 {k q : Nat} (h : q = k / 64) : Int.tdiv (k : Int) 64 = (q : Int) := by rw [Int.tdiv_eq_ediv_of_nonneg (by omega)]; omega
theorem wrapAM {a m N : Nat} (h : a + m ≤ 8 * N) (h' : N ≤ 131072) (h0 : 0 < m) : wrap64 ((a : Int) + (m : Int)) = (a : Int) + (m : Int) ∧ wrap64 ((a : Int) + (m : Int) - 1) = ((a + m - 1 : Nat) : Int) := ⟨IntWalk.wrap64_in _ (by omega), by rw [IntWalk.wrap64_in _ (by omega)]; omega⟩
theorem wrap_small {q : Nat} (h : q ≤ 8 * 131072) : wrap64 (q : Int) = (q : Int) := IntWalk.wrap64_in _ (by omega)

theorem pm_flush {w : World} {x : MB} {N : Nat} {S T : List UInt8} {A : List Bool} (h : PM w x N S T A) (a m : Nat) (hA : a + m ≤ 8 * N) :
    Calls Try.prog 14 #[.pointer (some ⟨x.p, 0, none⟩), .int .i64 (a : Nat), .int .i64 (m : Nat)] w fun e w' => e = .returned (.int .i64 0) ∧ PM w' x N S T (flushA S T A (lineB a m)) ∧ Turn x.F w w' := by
  have HB := Lib.hid h.bound.2.2
  have HB8 := Lib.hid h.bound.1
  have H := Lib.hid h
  have HLT := Lib.hid h.lt
  have h1 := h.keep ((Grow.refl w).alloc (.cells #[.pointer (some ⟨x.p, 0, none⟩)] 22))
  have HW := Lib.hid (pm_within h1 (a : Int) (m : Int) (by omega) (by have := HB.out; omega))
  have HIN := Lib.hid (show inW (8 * N) (a : Int) (m : Int) = true from inW_iff.2 ⟨by omega, by omega, by omega⟩)
  have K1 := (Blk.new w 22 [.pointer (some ⟨x.p, 0, none⟩)] _ (0, 0) rfl).c1
  obtain ⟨l0, hl0⟩ : ∃ l0, l0 = a / 64 := ⟨_, rfl⟩
  have e0 := tdiv64 hl0
  have e1 := wrap_small (q := l0) (by have := HB.out; omega)
  have HL0 := Lib.hid hl0
  have H1 := Lib.hid h1
  clear h hl0 h1
  go_enter Try.func14, Try.ntmps14
  go_wp2_with fail
  refine HW.out.mono ?_
  rintro e w1 ⟨rfl, rfl⟩
  rw [HIN.out]
  clear HW
  go_wp2_with fail
  simp only [e1]
  go_loopw [7] (fun t wr => FlLineInv w wr x N S T A a m w.heap.size t) (fun t _ => (a + m - 1) / 64 + 1 - (intOf t).toNat)
  case atStart => exact ⟨l0, rfl, by rw [HL0.out]; exact Nat.le_refl _, by have := HL0.out; clear e0 e1; omega, fun _ => HL0.out, by rw [HL0.out, Nat.sub_self, flushA_none _ _ _ (fun k => inC0 _ k)]; exact H1.out, Turn.grow ((Grow.refl w).alloc _) _, K1, by simp⟩
  case round =>
    obtain ⟨l, rfl, hl1, hl2, hm0, hP, ht, hcb, hbs⟩ := hrel
    have HP := Lib.hid hP
    clear hP e0 e1 K1
    by_cases hm : 0 < m
    · have z0 : decide (0 < (m : Int)) = true := decide_eq_true (by omega)
      obtain ⟨l1, hll⟩ : ∃ l1, l1 = (a + m - 1) / 64 := ⟨_, rfl⟩
      obtain ⟨d, hd⟩ : ∃ d, d = a + m - 1 := ⟨_, rfl⟩
      by_cases hlt : l ≤ l1
      · have z1 : decide ((l : Int) ≤ (l1 : Int)) = true := decide_eq_true (by omega)
        have hlN : 8 * l + 8 ≤ N := by have := HB8.out; omega
        have HLN := Lib.hid hlN
        have hstep : (flushA S T A fun j => inC (8 * (a / 64)) (8 * (l - a / 64)) j || inC (8 * l) 8 j) = flushA S T A (inC (8 * (a / 64)) (8 * (l + 1 - a / 64))) :=
          flushA_congr S T A fun j _ _ => by
            unfold inC
            rw [← Bool.decide_or]
            congr 1; apply propext; omega
        have HST := Lib.hid hstep
        have hbF : ¬ x.F w.heap.size := fun q => by have := HLT.out _ q; omega
        have HBF := Lib.hid hbF
        have HCB := Lib.hid hcb
        have hlt3 : l < (a + m - 1) / 64 + 1 := by omega
        have HL3 := Lib.hid (show a / 64 ≤ l + 1 from Nat.le_succ_of_le hl1)
        have e5 := wrapS (M := 8 * N) (show l < 8 * N by omega) (Nat.mul_le_mul_left 8 HB.out)
        obtain ⟨e6, e7⟩ := wrapAM hA HB.out hm
        rw [← hd] at e7
        have e8 := wrap_small (q := l1) (by have := HB.out; clear e5 e6 e7; omega)
        have e9 : Int.tdiv (d : Int) 64 = (l1 : Int) := tdiv64 (by rw [hd, hll])
        have HM0 := Lib.hid (show m = 0 → l + 1 = a / 64 from fun q => absurd hm (by rw [q]; exact Nat.lt_irrefl 0))
        clear hstep hd hll hl1 hl2 hm0 hbF hlN
        go_wp2_with fail
        refine (pm_line_flush HP.out w.heap.size HBF.out HCB.out l HLN.out).mono ?_
        rintro e w4 ⟨rfl, hP2, t2⟩
        rw [HST.out] at hP2
        have X : FlLineInv w w4 x N S T A a m w.heap.size (.int .i64 ((l : Int) + 1)) := ⟨l + 1, by simp, HL3.out, hlt3, HM0.out, hP2, ht.and t2, (t2.cell (p := ⟨w.heap.size, 0, none⟩) hbs HBF.out).trans HCB.out, Nat.lt_of_lt_of_le hbs t2.size⟩
        clear hP2 t2
        go_wp2_with fail
        go_roundw
        case rel => (try rw [e5]); first | exact X | ((repeat apply Exists.intro); exact X) | ((repeat apply Exists.intro); refine ⟨X, ?_⟩; rfl)
        case measure => first | exact meas hlt3 | exact measW hlt3 e5
      · have z1 : decide ((l : Int) ≤ (l1 : Int)) = false := decide_eq_false (by omega)
        have hfin : flushA S T A (inC (8 * (a / 64)) (8 * (l - a / 64))) = flushA S T A (lineB a m) :=
          flushA_congr S T A fun j _ _ => by
            unfold inC lineB
            congr 1; apply propext; omega
        have HF := Lib.hid hfin
        have hq := wrapAM hA HB.out hm
        rw [← hd] at hq
        obtain ⟨e6, e7⟩ := hq
        have e8 := wrap_small (q := l1) (by have := HB.out; clear e6 e7; omega)
        have e9 : Int.tdiv (d : Int) 64 = (l1 : Int) := tdiv64 (by rw [hd, hll])
        clear hfin hd hll hl1 hl2 hm0 hcb hbs
        go_wp2_with fail
        go_ret
        exact ⟨rfl, by rw [← HF.out]; exact HP.out, ht⟩
    · have z0 : decide (0 < (m : Int)) = false := decide_eq_false (by omega)
      have hfin : flushA S T A (inC (8 * (a / 64)) (8 * (l - a / 64))) = flushA S T A (lineB a m) := by
        rw [hm0 (by omega), Nat.sub_self, flushA_none S T A (fun k => inC0 _ k), flushA_none S T A (fun k => by unfold lineB; exact decide_eq_false (by omega))]
      have HF := Lib.hid hfin
      clear hfin hm0 hcb hbs hl1 hl2
      go_wp2_with fail
      go_ret
      exact ⟨rfl, by rw [← HF.out]; exact HP.out, ht⟩
end Go.Proofs.Ytnhgfkahmflpgaa
