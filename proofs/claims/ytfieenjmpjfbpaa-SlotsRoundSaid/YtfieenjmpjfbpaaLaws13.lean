/- The walks of the statements of layer 13. -/
import Derived.Test.YtfieenjmpjfbpaaSlotRead
import Derived.Test.YtfieenjmpjfbpaaSlotRefRead
import Derived.Test.YtfieenjmpjfbpaaSlotHead
import Derived.Test.YtfieenjmpjfbpaaRow
namespace Go.Proofs.Ytfieenjmpjfbpaa
open Go.RowKit

theorem slots_read {A : Option Addr} {n c : Nat} {bs : List UInt8} {w : World} (hs : Sl w A n bs) (hc : n ≤ c) :
    Calls Try.prog 18 #[.slice A n c] w fun e w' => ∃ x0 x1 x2 x3 x4 x5 y, e = .returned (.tuple #[.agg #[.int .i64 x0, .int .i64 x1, .int .i64 x2, .int .i64 x3, .int .i64 x4, .int .i64 x5], .int .i64 y]) ∧ Hid (y = readE bs ∧ slotV bs = .agg #[.int .i64 x0, .int .i64 x1, .int .i64 x2, .int .i64 x3, .int .i64 x4, .int .i64 x5]) ∧ Grow w w' := by
  by_cases ho : openE bs = 0
  · refine (slots_read_yes hs hc ho).mono ?_
    rintro e w' ⟨rfl, g⟩
    exact ⟨_, _, _, _, _, _, _, rfl, Lib.hid ⟨rfl, rfl⟩, g⟩
  · refine (slots_read_open hs hc ho).mono ?_
    rintro e w' ⟨rfl, g⟩
    exact ⟨_, _, _, _, _, _, _, rfl, Lib.hid ⟨rfl, rfl⟩, g⟩
theorem slotV_inj {bs : List UInt8} {x0 x1 x2 x3 x4 x5 y0 y1 y2 y3 y4 y5 : Int} (h : slotV bs = .agg #[.int .i64 x0, .int .i64 x1, .int .i64 x2, .int .i64 x3, .int .i64 x4, .int .i64 x5]) (k : slotV bs = .agg #[.int .i64 y0, .int .i64 y1, .int .i64 y2, .int .i64 y3, .int .i64 y4, .int .i64 y5]) :
    x0 = y0 ∧ x1 = y1 ∧ x2 = y2 ∧ x3 = y3 ∧ x4 = y4 ∧ x5 = y5 := by
  rw [h] at k
  simpa using k
theorem ref13_read {A : Option Addr} {n c : Nat} {bs : List UInt8} {w : World} (hs : Sl w A n bs) (hc : n ≤ c) {x0 x1 x2 x3 x4 x5 y : Int} (h : y = readE bs ∧ slotV bs = .agg #[.int .i64 x0, .int .i64 x1, .int .i64 x2, .int .i64 x3, .int .i64 x4, .int .i64 x5]) :
    Calls Try.prog 19 #[.slice A n c] w fun e w' => e = .returned (.tuple #[.agg #[.int .i64 x0, .int .i64 x1, .int .i64 x2, .int .i64 x3, .int .i64 x4, .int .i64 x5], .int .i64 y]) ∧ Grow w w' := by
  rw [h.1, ← h.2]
  by_cases ho : openE bs = 0
  · exact ref13_read_yes hs hc ho
  · exact ref13_read_open hs hc ho

theorem lives13 (w : World) : Calls Try.prog 11 #[] w fun e w' => e = .returned (.bool true) ∧ Grow w w' := by
  have H := Lib.hid (show (headS 1).take 10 = [67, 77, 78, 49, 0, 0, 0, 0, 1, 0] from rfl)
  go_enter Try.func11, Try.ntmps11
  go_wp2_with fail
  refine (slots_puthead_yes 1 rfl _).mono ?_
  rintro e w1 ⟨A1, c1, rfl, hw1, g1⟩
  have hc := hw1.cap
  go_wp2_with fail
  refine (same_yes ((hw1.sl.take (k := 10) (by omega)).alloc _) (Sl.lit w1 _ _ [67, 77, 78, 49, 0, 0, 0, 0, 1, 0] 10 rfl rfl (by omega)) H.out).mono ?_
  rintro e w2 ⟨rfl, k, rfl⟩
  go_wp2_with fail
  go_ret
  exact ⟨rfl, (g1.alloc _).drewN _⟩

theorem few13 {A : Option Addr} {n c : Nat} {bs : List UInt8} {w : World} (hn : bs.length = n) (hr : RB w w.heap.size A bs) (hc : n ≤ c) :
    Calls Try.prog 12 #[.slice A n c] w fun e w' => ∃ m, e = .returned (.slice A m c) ∧ Sl w A m (bs.take 100) ∧ m ≤ c ∧ w = w' := by
  have HN := Lib.hid hn
  clear hn
  by_cases h : 100 < n
  · go_enter Try.func12, Try.ntmps12
    go_wp2_with fail
    go_ret
    exact ⟨100, rfl, Sl.ofTake hr (by rw [HN.out]; omega) (by omega), by omega, rfl⟩
  · go_enter Try.func12, Try.ntmps12
    go_wp2_with fail
    go_ret
    exact ⟨n, rfl, by rw [List.take_of_length_le (by rw [HN.out]; omega)]; exact Sl.ofRB hr HN.out (by omega), hc, rfl⟩

theorem sealed13 {A : Option Addr} {n c : Nat} {bs : List UInt8} {w : World} (hn : bs.length = n) (hr : RB w w.heap.size A bs) (hc : n ≤ c) :
    Calls Try.prog 17 #[.slice A n c] w fun e w' => ∃ A' c', e = .returned (.slice A' 64 c') ∧ Sl w' A' 64 (sealB (bs.take 60)) ∧ 64 ≤ c' ∧ Grow w w' := by
  have HN := Lib.hid hn
  clear hn
  by_cases h : 60 < n
  · go_enter Try.func17, Try.ntmps17
    go_wp2_with fail
    refine (ref13_seal (Sl.ofTake hr (n := 60) (by rw [HN.out]; omega) (by omega)) (by omega)).mono ?_
    rintro e w1 ⟨A1, c1, rfl, hw1, g1⟩
    go_wp2_with fail
    go_ret
    exact ⟨_, _, rfl, hw1.sl, hw1.cap, g1⟩
  · go_enter Try.func17, Try.ntmps17
    go_wp2_with fail
    refine (ref13_seal (Sl.ofRB hr HN.out (by omega)) (by omega)).mono ?_
    rintro e w1 ⟨A1, c1, rfl, hw1, g1⟩
    go_wp2_with fail
    go_ret
    exact ⟨_, _, rfl, by rw [List.take_of_length_le (by rw [HN.out]; omega)]; exact hw1.sl, hw1.cap, g1⟩

theorem law_SlotsPuts (ep hd rp er io wr : Int) (W : World) :
    Calls Try.prog 3 #[.agg #[.int .i64 ep, .int .i64 hd, .int .i64 rp, .int .i64 er, .int .i64 io, .int .i64 wr]] W fun e w' => e = .returned (.bool true) ∧ Below W.heap.size W w' := by
  cases hm : mayS ep hd rp er io wr with
  | true =>
    have HM := Lib.hid hm
    clear hm
    go_enter Try.func3, Try.ntmps3
    go_wp2_with fail
    refine (slots_put_yes ep hd rp er io wr HM.out _).mono ?_
    rintro e w1 ⟨A1, c1, rfl, hw1, g1⟩
    obtain ⟨k0, k1, k2, k3, k4, k5⟩ := ((Blk.new W 26 [.int .i64 ep, .int .i64 hd, .int .i64 rp, .int .i64 er, .int .i64 io, .int .i64 wr] _ (0, 0) rfl).keep g1).c6
    go_wp2_with fail
    refine (ref13_put_yes ep hd rp er io wr HM.out _).mono ?_
    rintro e w2 ⟨A2, c2, rfl, hw2, g2⟩
    clear k0 k1 k2 k3 k4 k5
    go_wp2_with fail
    refine (same_yes (hw1.sl.keep g2) hw2.sl rfl).mono ?_
    rintro e w3 ⟨rfl, k, rfl⟩
    go_wp2_with fail
    refine (lives13 _).mono ?_
    rintro e w4 ⟨rfl, g4⟩
    go_wp2_with fail
    go_ret
    exact ⟨rfl, ((((Grow.refl _).alloc _).trans g1).trans g2).drewN k |>.trans g4⟩
  | false =>
    have HM := Lib.hid hm
    clear hm
    go_enter Try.func3, Try.ntmps3
    go_wp2_with fail
    refine (slots_put_no ep hd rp er io wr HM.out _).mono ?_
    rintro e w1 ⟨rfl, g1⟩
    obtain ⟨k0, k1, k2, k3, k4, k5⟩ := ((Blk.new W 26 [.int .i64 ep, .int .i64 hd, .int .i64 rp, .int .i64 er, .int .i64 io, .int .i64 wr] _ (0, 0) rfl).keep g1).c6
    go_wp2_with fail
    refine (ref13_put_no ep hd rp er io wr HM.out _).mono ?_
    rintro e w2 ⟨rfl, g2⟩
    clear k0 k1 k2 k3 k4 k5
    go_wp2_with fail
    refine (same_yes Sl.nil Sl.nil rfl).mono ?_
    rintro e w3 ⟨rfl, k, rfl⟩
    go_wp2_with fail
    refine (lives13 _).mono ?_
    rintro e w4 ⟨rfl, g4⟩
    go_wp2_with fail
    go_ret
    exact ⟨rfl, ((((Grow.refl _).alloc _).trans g1).trans g2).drewN k |>.trans g4⟩

set_option maxHeartbeats 1000000 in
theorem law_SlotsReads (A : Option Addr) (n c : Nat) (bs : List UInt8) (W : World) (hn0 : bs.length = n) (hr0 : RB W W.heap.size A bs) (hc0 : n ≤ c) :
    Calls Try.prog 5 #[.slice A n c] W fun e w' => e = .returned (.bool true) ∧ Below W.heap.size W w' := by
  have HN0 := Lib.hid hn0
  clear hn0
  go_enter Try.func5, Try.ntmps5
  go_wp2_with fail
  refine (few13 HN0.out hr0 hc0).mono ?_
  rintro e w0 ⟨m, rfl, hs, hc, rfl⟩
  obtain ⟨b1, hb1⟩ : ∃ b, b = bs.take 100 := ⟨_, rfl⟩
  rw [← hb1] at hs
  clear hb1 hr0 hc0
  go_wp2_with fail
  refine (slots_read hs hc).mono ?_
  rintro e w1 ⟨x0, x1, x2, x3, x4, x5, y, rfl, X, g1⟩
  go_wp2_with fail
  refine (ref13_read ((hs.keep g1).alloc _) hc X.out).mono ?_
  rintro e w2 ⟨rfl, g2⟩
  have K1 := (Blk.new w1 26 [.int .i64 x0, .int .i64 x1, .int .i64 x2, .int .i64 x3, .int .i64 x4, .int .i64 x5] _ (0, 0) rfl).keep g2
  replace g2 := g1.trans (((Grow.refl _).alloc _).trans g2)
  go_wp2_with fail
  refine (sealed13 hs.1 ((hs.keep g2).alloc _).2.2 hc).mono ?_
  rintro e w3 ⟨A3, c3, rfl, hw3, hc3, g3⟩
  replace K1 := K1.keep (((Grow.refl _).alloc _).trans g3)
  have K2 := (Blk.new w2 26 [.int .i64 x0, .int .i64 x1, .int .i64 x2, .int .i64 x3, .int .i64 x4, .int .i64 x5] _ (0, 0) rfl).keep g3
  replace g3 := g2.trans (((Grow.refl _).alloc _).trans g3)
  go_wp2_with fail
  refine (slots_read hw3 hc3).mono ?_
  rintro e w4 ⟨z0, z1, z2, z3, z4, z5, v, rfl, Z, g4⟩
  replace K1 := K1.keep g4
  replace K2 := K2.keep g4
  replace g4 := g3.trans g4
  go_wp2_with fail
  refine (sealed13 hs.1 ((hs.keep g4).alloc _).2.2 hc).mono ?_
  rintro e w5 ⟨A5, c5, rfl, hw5, hc5, g5⟩
  replace K1 := K1.keep (((Grow.refl _).alloc _).trans g5)
  replace K2 := K2.keep (((Grow.refl _).alloc _).trans g5)
  have K3 := (Blk.new w4 26 [.int .i64 z0, .int .i64 z1, .int .i64 z2, .int .i64 z3, .int .i64 z4, .int .i64 z5] _ (0, 0) rfl).keep g5
  replace g5 := g4.trans (((Grow.refl _).alloc _).trans g5)
  go_wp2_with fail
  refine (ref13_read hw5 hc5 Z.out).mono ?_
  rintro e w6 ⟨rfl, g6⟩
  replace K1 := K1.keep g6
  replace K2 := K2.keep g6
  replace K3 := K3.keep g6
  replace g6 := g5.trans g6
  have K4 := Blk.new w6 26 [.int .i64 z0, .int .i64 z1, .int .i64 z2, .int .i64 z3, .int .i64 z4, .int .i64 z5] _ (0, 0) rfl
  replace K1 := K1.keep ((Grow.refl _).alloc (.cells (List.toArray [.int .i64 z0, .int .i64 z1, .int .i64 z2, .int .i64 z3, .int .i64 z4, .int .i64 z5]) 26 (0, 0)))
  replace K2 := K2.keep ((Grow.refl _).alloc (.cells (List.toArray [.int .i64 z0, .int .i64 z1, .int .i64 z2, .int .i64 z3, .int .i64 z4, .int .i64 z5]) 26 (0, 0)))
  replace K3 := K3.keep ((Grow.refl _).alloc (.cells (List.toArray [.int .i64 z0, .int .i64 z1, .int .i64 z2, .int .i64 z3, .int .i64 z4, .int .i64 z5]) 26 (0, 0)))
  obtain ⟨p0, p1, p2, p3, p4, p5⟩ := K1.c6
  obtain ⟨q0, q1, q2, q3, q4, q5⟩ := K2.c6
  obtain ⟨r0, r1, r2, r3, r4, r5⟩ := K3.c6
  obtain ⟨s0, s1, s2, s3, s4, s5⟩ := K4.c6
  clear K1 K2 K3 K4
  go_wp2_with fail
  refine (lives13 _).mono ?_
  rintro e w7 ⟨rfl, g7⟩
  clear p0 p1 p2 p3 p4 p5 q0 q1 q2 q3 q4 q5 r0 r1 r2 r3 r4 r5 s0 s1 s2 s3 s4 s5
  go_wp2_with fail
  go_ret
  exact ⟨rfl, (g6.alloc _).trans g7⟩

set_option maxHeartbeats 1000000 in
theorem law_SlotsHeads (k : Int) (A : Option Addr) (n c : Nat) (bs : List UInt8) (W : World) (hn0 : bs.length = n) (hr0 : RB W W.heap.size A bs) (hc0 : n ≤ c) :
    Calls Try.prog 4 #[.int .i64 k, .slice A n c] W fun e w' => e = .returned (.bool true) ∧ Below W.heap.size W w' := by
  have HN0 := Lib.hid hn0
  clear hn0
  cases hm : mayH k with
  | true =>
    have HM := Lib.hid hm
    clear hm
    go_enter Try.func4, Try.ntmps4
    go_wp2_with fail
    refine (few13 HN0.out hr0 hc0).mono ?_
    rintro e w0 ⟨m, rfl, hs, hc, rfl⟩
    obtain ⟨b1, hb1⟩ : ∃ b, b = bs.take 100 := ⟨_, rfl⟩
    rw [← hb1] at hs
    clear hb1 hr0 hc0
    go_wp2_with fail
    refine (slots_puthead_yes k HM.out _).mono ?_
    rintro e w1 ⟨A1, c1, rfl, hw1, g1⟩
    go_wp2_with fail
    refine (ref13_puthead_yes k HM.out _).mono ?_
    rintro e w2 ⟨A2, c2, rfl, hw2, g2⟩
    go_wp2_with fail
    refine (same_yes (hw1.sl.keep g2) hw2.sl rfl).mono ?_
    rintro e w3 ⟨rfl, q, rfl⟩
    replace g2 := (g1.trans g2).drewN q
    clear g1 hw1 hw2
    go_wp2_with fail
    refine (slots_readhead (hs.keep g2) hc).mono ?_
    rintro e w4 ⟨rfl, g4⟩
    replace g4 := g2.trans g4
    go_wp2_with fail
    refine (ref13_readhead (hs.keep g4) hc).mono ?_
    rintro e w5 ⟨rfl, g5⟩
    replace g5 := g4.trans g5
    go_wp2_with fail
    refine (sealed13 hs.1 (hs.keep g5).2.2 hc).mono ?_
    rintro e w6 ⟨A6, c6, rfl, hw6, hc6, g6⟩
    replace g6 := g5.trans g6
    go_wp2_with fail
    refine (slots_readhead hw6 hc6).mono ?_
    rintro e w7 ⟨rfl, g7⟩
    replace g7 := g6.trans g7
    go_wp2_with fail
    refine (sealed13 hs.1 (hs.keep g7).2.2 hc).mono ?_
    rintro e w8 ⟨A8, c8, rfl, hw8, hc8, g8⟩
    replace g8 := g7.trans g8
    go_wp2_with fail
    refine (ref13_readhead hw8 hc8).mono ?_
    rintro e w9 ⟨rfl, g9⟩
    replace g9 := g8.trans g9
    go_wp2_with fail
    refine (lives13 _).mono ?_
    rintro e w10 ⟨rfl, g10⟩
    go_wp2_with fail
    go_ret
    exact ⟨rfl, g9.trans g10⟩
  | false =>
    have HM := Lib.hid hm
    clear hm
    go_enter Try.func4, Try.ntmps4
    go_wp2_with fail
    refine (few13 HN0.out hr0 hc0).mono ?_
    rintro e w0 ⟨m, rfl, hs, hc, rfl⟩
    obtain ⟨b1, hb1⟩ : ∃ b, b = bs.take 100 := ⟨_, rfl⟩
    rw [← hb1] at hs
    clear hb1 hr0 hc0
    go_wp2_with fail
    refine (slots_puthead_no k HM.out _).mono ?_
    rintro e w1 ⟨rfl, rfl⟩
    go_wp2_with fail
    refine (ref13_puthead_no k HM.out _).mono ?_
    rintro e w2 ⟨rfl, rfl⟩
    go_wp2_with fail
    refine (same_yes Sl.nil Sl.nil rfl).mono ?_
    rintro e w3 ⟨rfl, q, rfl⟩
    have g2 := (Grow.refl W).drewN q
    go_wp2_with fail
    refine (slots_readhead (hs.keep g2) hc).mono ?_
    rintro e w4 ⟨rfl, g4⟩
    replace g4 := g2.trans g4
    go_wp2_with fail
    refine (ref13_readhead (hs.keep g4) hc).mono ?_
    rintro e w5 ⟨rfl, g5⟩
    replace g5 := g4.trans g5
    go_wp2_with fail
    refine (sealed13 hs.1 (hs.keep g5).2.2 hc).mono ?_
    rintro e w6 ⟨A6, c6, rfl, hw6, hc6, g6⟩
    replace g6 := g5.trans g6
    go_wp2_with fail
    refine (slots_readhead hw6 hc6).mono ?_
    rintro e w7 ⟨rfl, g7⟩
    replace g7 := g6.trans g7
    go_wp2_with fail
    refine (sealed13 hs.1 (hs.keep g7).2.2 hc).mono ?_
    rintro e w8 ⟨A8, c8, rfl, hw8, hc8, g8⟩
    replace g8 := g7.trans g8
    go_wp2_with fail
    refine (ref13_readhead hw8 hc8).mono ?_
    rintro e w9 ⟨rfl, g9⟩
    replace g9 := g8.trans g9
    go_wp2_with fail
    refine (lives13 _).mono ?_
    rintro e w10 ⟨rfl, g10⟩
    go_wp2_with fail
    go_ret
    exact ⟨rfl, g9.trans g10⟩

set_option maxHeartbeats 1000000 in
theorem law_SlotsTurned (ep hd rp er io wr at_ : Int) (h0 : -9223372036854775808 ≤ at_) (h1 : at_ ≤ 9223372036854775807) (x : UInt8) (W : World) :
    Calls Try.prog 6 #[.agg #[.int .i64 ep, .int .i64 hd, .int .i64 rp, .int .i64 er, .int .i64 io, .int .i64 wr], .int .i64 at_, .int .u8 (x.toNat : Int)] W fun e w' => e = .returned (.bool true) ∧ Below W.heap.size W w' := by
  cases hm : mayS ep hd rp er io wr with
  | true =>
    have HM := Lib.hid hm
    clear hm
    by_cases hx : x = 0
    · subst hx
      go_enter Try.func6, Try.ntmps6
      go_wp2_with fail
      refine (slots_put_yes ep hd rp er io wr HM.out _).mono ?_
      rintro e w1 ⟨A1, c1, rfl, hw1, g1⟩
      go_wp2_with fail
      refine (lives13 _).mono ?_
      rintro e w4 ⟨rfl, g4⟩
      go_wp2_with fail
      go_ret
      exact ⟨rfl, (((Grow.refl _).alloc _).trans g1).trans g4⟩
    · have hx1 : ((x.toNat : Int) == 0) = false := by
        rw [beq_eq_false_iff_ne]
        intro e
        exact hx (UInt8.toNat_inj.1 (by simpa using e))
      have HX := Lib.hid hx
      clear hx
      by_cases hneg : at_ < 0
      · obtain ⟨k, hk, hk64⟩ : ∃ k : Nat, (at_ + 1).tmod 64 = -(k : Int) ∧ k < 64 := by
          obtain ⟨m, hm⟩ := Int.eq_ofNat_of_zero_le (show 0 ≤ -(at_ + 1) by omega)
          refine ⟨m % 64, ?_, by omega⟩
          rw [show at_ + 1 = -(m : Int) by omega, Int.neg_tmod, Int.tmod_eq_emod_of_nonneg (by omega)]
          omega
        go_enter Try.func6, Try.ntmps6
        go_wp2_with fail
        refine (slots_put_yes ep hd rp er io wr HM.out _).mono ?_
        rintro e w1 ⟨A1, c1, rfl, hw1, g1⟩
        obtain ⟨g, rfl, hg1, hg2⟩ := hw1.row (by omega)
        have hcap := hw1.cap
        have hlen := hw1.1
        have hcell := OB.cellAt hlen.symm hw1.2.2 k (by omega)
        have hfz := OB.frozenAt hlen.symm hw1.2.2 k
        obtain ⟨u, hu⟩ : ∃ u, u = (slotB ep hd rp er io wr)[k]'(by omega) := ⟨_, rfl⟩
        rw [← hu] at hcell
        have hxor : bits .xor .u8 (u.toNat : Int) (x.toNat : Int) = ((u ^^^ x).toNat : Int) := by
          rw [u8_xor_nat _ _ u.toNat_lt x.toNat_lt]
          simp
        have hst := (OB.stored hlen.symm hw1.2.2 k (u ^^^ x)).1
        have HST := Lib.hid (show Sl (w1.setCell ⟨g, k, none⟩ (.int .u8 ((u ^^^ x).toNat : Int))) (some ⟨g, 0, none⟩) 64 ((slotB ep hd rp er io wr).set k (u ^^^ x)) from ⟨by rw [List.length_set]; exact hlen, by omega, OB.rd (by rw [List.length_set]; exact hlen.symm) hst⟩)
        have h4 : openE ((slotB ep hd rp er io wr).set k (u ^^^ x)) = 4 := openE_turned (b := slot26 ep hd rp er io wr) (by rw [slot26_length]; omega) (by rw [show sealB (slot26 ep hd rp er io wr) = slotB ep hd rp er io wr from rfl]; omega) (by rw [hu]; exact xor_ne HX.out)
        have hE : readE ((slotB ep hd rp er io wr).set k (u ^^^ x)) = 4 := by rw [readE, if_neg (by rw [h4]; omega), h4]
        have H4 := Lib.hid h4
        have HE := Lib.hid hE
        have G1 : Grow W (w1.setCell ⟨g, k, none⟩ (.int .u8 ((u ^^^ x).toNat : Int))) := (((Grow.refl _).alloc _).trans g1).setCell (by simp at hg1; dsimp only; omega) _
        clear hst hlen hu h4 hE hw1 g1
        go_wp2_with fail
        refine (slots_read_open HST.out hcap (by rw [H4.out]; omega)).mono ?_
        rintro e w2 ⟨rfl, g2⟩
        rw [slotV_no (by rw [HE.out]; omega), HE.out]
        clear hcell hfz hxor
        go_wp2_with fail
        refine (lives13 _).mono ?_
        rintro e w3 ⟨rfl, g3⟩
        go_wp2_with fail
        go_ret
        exact ⟨rfl, ((G1.trans g2).alloc _).trans g3⟩
      · have hpos : 0 ≤ at_ := by omega
        obtain ⟨k, hk, hk64⟩ : ∃ k : Nat, at_ % 64 = (k : Int) ∧ k < 64 := ⟨(at_ % 64).toNat, by omega, by omega⟩
        clear hneg
        go_enter Try.func6, Try.ntmps6
        go_wp2_with fail
        refine (slots_put_yes ep hd rp er io wr HM.out _).mono ?_
        rintro e w1 ⟨A1, c1, rfl, hw1, g1⟩
        obtain ⟨g, rfl, hg1, hg2⟩ := hw1.row (by omega)
        have hcap := hw1.cap
        have hlen := hw1.1
        have hcell := OB.cellAt hlen.symm hw1.2.2 k (by omega)
        have hfz := OB.frozenAt hlen.symm hw1.2.2 k
        obtain ⟨u, hu⟩ : ∃ u, u = (slotB ep hd rp er io wr)[k]'(by omega) := ⟨_, rfl⟩
        rw [← hu] at hcell
        have hxor : bits .xor .u8 (u.toNat : Int) (x.toNat : Int) = ((u ^^^ x).toNat : Int) := by
          rw [u8_xor_nat _ _ u.toNat_lt x.toNat_lt]
          simp
        have hst := (OB.stored hlen.symm hw1.2.2 k (u ^^^ x)).1
        have HST := Lib.hid (show Sl (w1.setCell ⟨g, k, none⟩ (.int .u8 ((u ^^^ x).toNat : Int))) (some ⟨g, 0, none⟩) 64 ((slotB ep hd rp er io wr).set k (u ^^^ x)) from ⟨by rw [List.length_set]; exact hlen, by omega, OB.rd (by rw [List.length_set]; exact hlen.symm) hst⟩)
        have h4 : openE ((slotB ep hd rp er io wr).set k (u ^^^ x)) = 4 := openE_turned (b := slot26 ep hd rp er io wr) (by rw [slot26_length]; omega) (by rw [show sealB (slot26 ep hd rp er io wr) = slotB ep hd rp er io wr from rfl]; omega) (by rw [hu]; exact xor_ne HX.out)
        have hE : readE ((slotB ep hd rp er io wr).set k (u ^^^ x)) = 4 := by rw [readE, if_neg (by rw [h4]; omega), h4]
        have H4 := Lib.hid h4
        have HE := Lib.hid hE
        have G1 : Grow W (w1.setCell ⟨g, k, none⟩ (.int .u8 ((u ^^^ x).toNat : Int))) := (((Grow.refl _).alloc _).trans g1).setCell (by simp at hg1; dsimp only; omega) _
        clear hst hlen hu h4 hE hw1 g1
        go_wp2_with fail
        refine (slots_read_open HST.out hcap (by rw [H4.out]; omega)).mono ?_
        rintro e w2 ⟨rfl, g2⟩
        rw [slotV_no (by rw [HE.out]; omega), HE.out]
        clear hcell hfz hxor
        go_wp2_with fail
        refine (lives13 _).mono ?_
        rintro e w3 ⟨rfl, g3⟩
        go_wp2_with fail
        go_ret
        exact ⟨rfl, ((G1.trans g2).alloc _).trans g3⟩
  | false =>
    have HM := Lib.hid hm
    clear hm
    go_enter Try.func6, Try.ntmps6
    go_wp2_with fail
    refine (slots_put_no ep hd rp er io wr HM.out _).mono ?_
    rintro e w1 ⟨rfl, g1⟩
    go_wp2_with fail
    refine (lives13 _).mono ?_
    rintro e w4 ⟨rfl, g4⟩
    go_wp2_with fail
    go_ret
    exact ⟨rfl, (((Grow.refl _).alloc _).trans g1).trans g4⟩

theorem slotV_slot {ep hd rp er io wr : Int} (h : mayS ep hd rp er io wr = true) : slotV (slotB ep hd rp er io wr) = .agg #[.int .i64 ep, .int .i64 hd, .int .i64 rp, .int .i64 er, .int .i64 io, .int .i64 wr] ∧ readE (slotB ep hd rp er io wr) = 0 := by
  have h1 := readE_slot h
  have hg := (slot_gets h).1
  refine ⟨?_, h1⟩
  rw [slotV, h1]
  unfold sEp sHd sRp sEr sIo sWr
  rw [hg.1, hg.2.1, hg.2.2.1, hg.2.2.2.1, hg.2.2.2.2.1, hg.2.2.2.2.2]
  rfl
theorem readHE_head' {k : Int} (h : mayH k = true) : readHN (headS k) = k ∧ readHE (headS k) = 0 := by
  have h1 := readHE_head h
  refine ⟨?_, h1.1⟩
  rw [readHN, h1.1, h1.2]
  rfl
theorem slot_back {z : List UInt8} {x0 x1 x2 x3 x4 x5 : Int} (h : readE z = 0) (hv : slotV z = .agg #[.int .i64 x0, .int .i64 x1, .int .i64 x2, .int .i64 x3, .int .i64 x4, .int .i64 x5]) (hl : z.length = 64) : mayS x0 x1 x2 x3 x4 x5 = true ∧ slotB x0 x1 x2 x3 x4 x5 = z := by
  have hs : sameG z = true := by
    unfold readE at h
    split at h
    · split at h
      · assumption
      · omega
    · omega
  rw [slotV, h] at hv
  simp [okI] at hv
  obtain ⟨e0, e1, e2, e3, e4, e5⟩ := hv
  simp only [sameG, Bool.and_eq_true, decide_eq_true_iff] at hs
  rw [← e0, ← e1, ← e2, ← e3, ← e4, ← e5]
  refine ⟨hs.1, ?_⟩
  have := hs.2
  rw [List.take_of_length_le (by omega)] at this
  exact this

set_option maxHeartbeats 1000000 in
theorem law_SlotsRound_11 (ep hd rp er io wr k : Int) (A : Option Addr) (n c : Nat) (bs : List UInt8) (W : World) (hn0 : bs.length = n) (hr0 : RB W W.heap.size A bs) (hc0 : n ≤ c) (hm : mayS ep hd rp er io wr = true) (hh : mayH k = true) :
    Calls Try.prog 7 #[.agg #[.int .i64 ep, .int .i64 hd, .int .i64 rp, .int .i64 er, .int .i64 io, .int .i64 wr], .int .i64 k, .slice A n c] W fun e w' => e = .returned (.bool true) ∧ Below W.heap.size W w' := by
    have HN0 := Lib.hid hn0
    have HM := Lib.hid hm
    have HH := Lib.hid hh
    clear hn0 hm hh
    go_enter Try.func7, Try.ntmps7
    go_wp2_with fail
    refine (slots_put_yes ep hd rp er io wr HM.out _).mono ?_
    rintro e w1 ⟨A1, c1, rfl, hw1, g1⟩
    have hcap := hw1.cap
    go_wp2_with fail
    refine (slots_read_yes hw1.sl hcap (openE_seal (by rw [slot26_length]; omega))).mono ?_
    rintro e w2 ⟨rfl, g2⟩
    rw [(slotV_slot HM.out).1, (slotV_slot HM.out).2]
    have K1 := (((Blk.new W 26 [.int .i64 ep, .int .i64 hd, .int .i64 rp, .int .i64 er, .int .i64 io, .int .i64 wr] _ (0, 0) rfl).keep g1).keep g2).keep ((Grow.refl _).alloc (.cells (List.toArray [.int .i64 ep, .int .i64 hd, .int .i64 rp, .int .i64 er, .int .i64 io, .int .i64 wr]) 26 (0, 0)))
    have K2 := Blk.new w2 26 [.int .i64 ep, .int .i64 hd, .int .i64 rp, .int .i64 er, .int .i64 io, .int .i64 wr] _ (0, 0) rfl
    obtain ⟨p0, p1, p2, p3, p4, p5⟩ := K1.c6
    obtain ⟨q0, q1, q2, q3, q4, q5⟩ := K2.c6
    have G := ((((Grow.refl _).alloc _).trans g1).trans g2).alloc (.cells (List.toArray [.int .i64 ep, .int .i64 hd, .int .i64 rp, .int .i64 er, .int .i64 io, .int .i64 wr]) 26 (0, 0))
    clear K1 K2 g1 g2 hw1
    go_wp2_with fail
    clear p0 p1 p2 p3 p4 p5 q0 q1 q2 q3 q4 q5
    refine (slots_puthead_yes k HH.out _).mono ?_
    rintro e w3 ⟨A3, c3, rfl, hw3, g3⟩
    have hcap3 := hw3.cap
    go_wp2_with fail
    refine (slots_readhead hw3.sl hcap3).mono ?_
    rintro e w4 ⟨rfl, g4⟩
    rw [(readHE_head' HH.out).1, (readHE_head' HH.out).2]
    replace G := (G.trans g3).trans g4
    clear g3 g4 hw3
    go_wp2_with fail
    refine (sealed13 HN0.out (hr0.below G |>.more (Grow.size G)) hc0).mono ?_
    rintro e w5 ⟨A5, c5, rfl, hw5, hc5, g5⟩
    replace G := G.trans g5
    clear g5
    go_wp2_with fail
    refine (slots_read hw5 hc5).mono ?_
    rintro e w6 ⟨x0, x1, x2, x3, x4, x5, y, rfl, X, g6⟩
    by_cases hy : y = 0
    · subst hy
      have XM := Lib.hid (slot_back X.out.1.symm X.out.2 (sealB_length (by simp; omega)))
      obtain ⟨q0, q1, q2, q3, q4, q5⟩ := (Blk.new w6 26 [.int .i64 x0, .int .i64 x1, .int .i64 x2, .int .i64 x3, .int .i64 x4, .int .i64 x5] _ (0, 0) rfl).c6
      have hw6 := (hw5.keep g6).alloc (.cells (List.toArray [.int .i64 x0, .int .i64 x1, .int .i64 x2, .int .i64 x3, .int .i64 x4, .int .i64 x5]) 26 (0, 0))
      replace G := (G.trans g6).alloc (.cells (List.toArray [.int .i64 x0, .int .i64 x1, .int .i64 x2, .int .i64 x3, .int .i64 x4, .int .i64 x5]) 26 (0, 0))
      clear g6 hw5
      go_wp2_with fail
      refine (slots_put_yes x0 x1 x2 x3 x4 x5 XM.out.1 _).mono ?_
      rintro e w7 ⟨A7, c7, rfl, hw7, g7⟩
      clear q0 q1 q2 q3 q4 q5
      replace G := G.trans g7
      go_wp2_with fail
      refine (same_yes hw7.sl (hw6.keep g7) XM.out.2).mono ?_
      rintro e w8 ⟨rfl, q, rfl⟩
      replace G := G.drewN q
      clear hw6 g7 hw7
      go_wp2_with fail
      refine (lives13 _).mono ?_
      rintro e w9 ⟨rfl, g9⟩
      go_wp2_with fail
      go_ret
      exact ⟨rfl, G.trans g9⟩
    · have hy1 : (y == 0) = false := by rw [beq_eq_false_iff_ne]; exact hy
      replace G := (G.trans g6).alloc (.cells (List.toArray [.int .i64 x0, .int .i64 x1, .int .i64 x2, .int .i64 x3, .int .i64 x4, .int .i64 x5]) 26 (0, 0))
      clear hy g6 hw5 X
      go_wp2_with fail
      refine (lives13 _).mono ?_
      rintro e w9 ⟨rfl, g9⟩
      go_wp2_with fail
      go_ret
      exact ⟨rfl, G.trans g9⟩

set_option maxHeartbeats 1000000 in
theorem law_SlotsRound_10 (ep hd rp er io wr k : Int) (A : Option Addr) (n c : Nat) (bs : List UInt8) (W : World) (hn0 : bs.length = n) (hr0 : RB W W.heap.size A bs) (hc0 : n ≤ c) (hm : mayS ep hd rp er io wr = true) (hh : mayH k = false) :
    Calls Try.prog 7 #[.agg #[.int .i64 ep, .int .i64 hd, .int .i64 rp, .int .i64 er, .int .i64 io, .int .i64 wr], .int .i64 k, .slice A n c] W fun e w' => e = .returned (.bool true) ∧ Below W.heap.size W w' := by
    have HN0 := Lib.hid hn0
    have HM := Lib.hid hm
    have HH := Lib.hid hh
    clear hn0 hm hh
    go_enter Try.func7, Try.ntmps7
    go_wp2_with fail
    refine (slots_put_yes ep hd rp er io wr HM.out _).mono ?_
    rintro e w1 ⟨A1, c1, rfl, hw1, g1⟩
    have hcap := hw1.cap
    go_wp2_with fail
    refine (slots_read_yes hw1.sl hcap (openE_seal (by rw [slot26_length]; omega))).mono ?_
    rintro e w2 ⟨rfl, g2⟩
    rw [(slotV_slot HM.out).1, (slotV_slot HM.out).2]
    have K1 := (((Blk.new W 26 [.int .i64 ep, .int .i64 hd, .int .i64 rp, .int .i64 er, .int .i64 io, .int .i64 wr] _ (0, 0) rfl).keep g1).keep g2).keep ((Grow.refl _).alloc (.cells (List.toArray [.int .i64 ep, .int .i64 hd, .int .i64 rp, .int .i64 er, .int .i64 io, .int .i64 wr]) 26 (0, 0)))
    have K2 := Blk.new w2 26 [.int .i64 ep, .int .i64 hd, .int .i64 rp, .int .i64 er, .int .i64 io, .int .i64 wr] _ (0, 0) rfl
    obtain ⟨p0, p1, p2, p3, p4, p5⟩ := K1.c6
    obtain ⟨q0, q1, q2, q3, q4, q5⟩ := K2.c6
    have G := ((((Grow.refl _).alloc _).trans g1).trans g2).alloc (.cells (List.toArray [.int .i64 ep, .int .i64 hd, .int .i64 rp, .int .i64 er, .int .i64 io, .int .i64 wr]) 26 (0, 0))
    clear K1 K2 g1 g2 hw1
    go_wp2_with fail
    clear p0 p1 p2 p3 p4 p5 q0 q1 q2 q3 q4 q5
    refine (slots_puthead_no k HH.out _).mono ?_
    rintro e w3 ⟨rfl, rfl⟩
    go_wp2_with fail
    refine (sealed13 HN0.out (hr0.below G |>.more (Grow.size G)) hc0).mono ?_
    rintro e w5 ⟨A5, c5, rfl, hw5, hc5, g5⟩
    replace G := G.trans g5
    clear g5
    go_wp2_with fail
    refine (slots_read hw5 hc5).mono ?_
    rintro e w6 ⟨x0, x1, x2, x3, x4, x5, y, rfl, X, g6⟩
    by_cases hy : y = 0
    · subst hy
      have XM := Lib.hid (slot_back X.out.1.symm X.out.2 (sealB_length (by simp; omega)))
      obtain ⟨q0, q1, q2, q3, q4, q5⟩ := (Blk.new w6 26 [.int .i64 x0, .int .i64 x1, .int .i64 x2, .int .i64 x3, .int .i64 x4, .int .i64 x5] _ (0, 0) rfl).c6
      have hw6 := (hw5.keep g6).alloc (.cells (List.toArray [.int .i64 x0, .int .i64 x1, .int .i64 x2, .int .i64 x3, .int .i64 x4, .int .i64 x5]) 26 (0, 0))
      replace G := (G.trans g6).alloc (.cells (List.toArray [.int .i64 x0, .int .i64 x1, .int .i64 x2, .int .i64 x3, .int .i64 x4, .int .i64 x5]) 26 (0, 0))
      clear g6 hw5
      go_wp2_with fail
      refine (slots_put_yes x0 x1 x2 x3 x4 x5 XM.out.1 _).mono ?_
      rintro e w7 ⟨A7, c7, rfl, hw7, g7⟩
      clear q0 q1 q2 q3 q4 q5
      replace G := G.trans g7
      go_wp2_with fail
      refine (same_yes hw7.sl (hw6.keep g7) XM.out.2).mono ?_
      rintro e w8 ⟨rfl, q, rfl⟩
      replace G := G.drewN q
      clear hw6 g7 hw7
      go_wp2_with fail
      refine (lives13 _).mono ?_
      rintro e w9 ⟨rfl, g9⟩
      go_wp2_with fail
      go_ret
      exact ⟨rfl, G.trans g9⟩
    · have hy1 : (y == 0) = false := by rw [beq_eq_false_iff_ne]; exact hy
      replace G := (G.trans g6).alloc (.cells (List.toArray [.int .i64 x0, .int .i64 x1, .int .i64 x2, .int .i64 x3, .int .i64 x4, .int .i64 x5]) 26 (0, 0))
      clear hy g6 hw5 X
      go_wp2_with fail
      refine (lives13 _).mono ?_
      rintro e w9 ⟨rfl, g9⟩
      go_wp2_with fail
      go_ret
      exact ⟨rfl, G.trans g9⟩

set_option maxHeartbeats 1000000 in
theorem law_SlotsRound_01 (ep hd rp er io wr k : Int) (A : Option Addr) (n c : Nat) (bs : List UInt8) (W : World) (hn0 : bs.length = n) (hr0 : RB W W.heap.size A bs) (hc0 : n ≤ c) (hm : mayS ep hd rp er io wr = false) (hh : mayH k = true) :
    Calls Try.prog 7 #[.agg #[.int .i64 ep, .int .i64 hd, .int .i64 rp, .int .i64 er, .int .i64 io, .int .i64 wr], .int .i64 k, .slice A n c] W fun e w' => e = .returned (.bool true) ∧ Below W.heap.size W w' := by
    have HN0 := Lib.hid hn0
    have HM := Lib.hid hm
    have HH := Lib.hid hh
    clear hn0 hm hh
    go_enter Try.func7, Try.ntmps7
    go_wp2_with fail
    refine (slots_put_no ep hd rp er io wr HM.out _).mono ?_
    rintro e w1 ⟨rfl, g1⟩
    have G := ((Grow.refl _).alloc _).trans g1
    clear g1
    go_wp2_with fail
    refine (slots_puthead_yes k HH.out _).mono ?_
    rintro e w3 ⟨A3, c3, rfl, hw3, g3⟩
    have hcap3 := hw3.cap
    go_wp2_with fail
    refine (slots_readhead hw3.sl hcap3).mono ?_
    rintro e w4 ⟨rfl, g4⟩
    rw [(readHE_head' HH.out).1, (readHE_head' HH.out).2]
    replace G := (G.trans g3).trans g4
    clear g3 g4 hw3
    go_wp2_with fail
    refine (sealed13 HN0.out (hr0.below G |>.more (Grow.size G)) hc0).mono ?_
    rintro e w5 ⟨A5, c5, rfl, hw5, hc5, g5⟩
    replace G := G.trans g5
    clear g5
    go_wp2_with fail
    refine (slots_read hw5 hc5).mono ?_
    rintro e w6 ⟨x0, x1, x2, x3, x4, x5, y, rfl, X, g6⟩
    by_cases hy : y = 0
    · subst hy
      have XM := Lib.hid (slot_back X.out.1.symm X.out.2 (sealB_length (by simp; omega)))
      obtain ⟨q0, q1, q2, q3, q4, q5⟩ := (Blk.new w6 26 [.int .i64 x0, .int .i64 x1, .int .i64 x2, .int .i64 x3, .int .i64 x4, .int .i64 x5] _ (0, 0) rfl).c6
      have hw6 := (hw5.keep g6).alloc (.cells (List.toArray [.int .i64 x0, .int .i64 x1, .int .i64 x2, .int .i64 x3, .int .i64 x4, .int .i64 x5]) 26 (0, 0))
      replace G := (G.trans g6).alloc (.cells (List.toArray [.int .i64 x0, .int .i64 x1, .int .i64 x2, .int .i64 x3, .int .i64 x4, .int .i64 x5]) 26 (0, 0))
      clear g6 hw5
      go_wp2_with fail
      refine (slots_put_yes x0 x1 x2 x3 x4 x5 XM.out.1 _).mono ?_
      rintro e w7 ⟨A7, c7, rfl, hw7, g7⟩
      clear q0 q1 q2 q3 q4 q5
      replace G := G.trans g7
      go_wp2_with fail
      refine (same_yes hw7.sl (hw6.keep g7) XM.out.2).mono ?_
      rintro e w8 ⟨rfl, q, rfl⟩
      replace G := G.drewN q
      clear hw6 g7 hw7
      go_wp2_with fail
      refine (lives13 _).mono ?_
      rintro e w9 ⟨rfl, g9⟩
      go_wp2_with fail
      go_ret
      exact ⟨rfl, G.trans g9⟩
    · have hy1 : (y == 0) = false := by rw [beq_eq_false_iff_ne]; exact hy
      replace G := (G.trans g6).alloc (.cells (List.toArray [.int .i64 x0, .int .i64 x1, .int .i64 x2, .int .i64 x3, .int .i64 x4, .int .i64 x5]) 26 (0, 0))
      clear hy g6 hw5 X
      go_wp2_with fail
      refine (lives13 _).mono ?_
      rintro e w9 ⟨rfl, g9⟩
      go_wp2_with fail
      go_ret
      exact ⟨rfl, G.trans g9⟩

set_option maxHeartbeats 1000000 in
theorem law_SlotsRound_00 (ep hd rp er io wr k : Int) (A : Option Addr) (n c : Nat) (bs : List UInt8) (W : World) (hn0 : bs.length = n) (hr0 : RB W W.heap.size A bs) (hc0 : n ≤ c) (hm : mayS ep hd rp er io wr = false) (hh : mayH k = false) :
    Calls Try.prog 7 #[.agg #[.int .i64 ep, .int .i64 hd, .int .i64 rp, .int .i64 er, .int .i64 io, .int .i64 wr], .int .i64 k, .slice A n c] W fun e w' => e = .returned (.bool true) ∧ Below W.heap.size W w' := by
    have HN0 := Lib.hid hn0
    have HM := Lib.hid hm
    have HH := Lib.hid hh
    clear hn0 hm hh
    go_enter Try.func7, Try.ntmps7
    go_wp2_with fail
    refine (slots_put_no ep hd rp er io wr HM.out _).mono ?_
    rintro e w1 ⟨rfl, g1⟩
    have G := ((Grow.refl _).alloc _).trans g1
    clear g1
    go_wp2_with fail
    refine (slots_puthead_no k HH.out _).mono ?_
    rintro e w3 ⟨rfl, rfl⟩
    go_wp2_with fail
    refine (sealed13 HN0.out (hr0.below G |>.more (Grow.size G)) hc0).mono ?_
    rintro e w5 ⟨A5, c5, rfl, hw5, hc5, g5⟩
    replace G := G.trans g5
    clear g5
    go_wp2_with fail
    refine (slots_read hw5 hc5).mono ?_
    rintro e w6 ⟨x0, x1, x2, x3, x4, x5, y, rfl, X, g6⟩
    by_cases hy : y = 0
    · subst hy
      have XM := Lib.hid (slot_back X.out.1.symm X.out.2 (sealB_length (by simp; omega)))
      obtain ⟨q0, q1, q2, q3, q4, q5⟩ := (Blk.new w6 26 [.int .i64 x0, .int .i64 x1, .int .i64 x2, .int .i64 x3, .int .i64 x4, .int .i64 x5] _ (0, 0) rfl).c6
      have hw6 := (hw5.keep g6).alloc (.cells (List.toArray [.int .i64 x0, .int .i64 x1, .int .i64 x2, .int .i64 x3, .int .i64 x4, .int .i64 x5]) 26 (0, 0))
      replace G := (G.trans g6).alloc (.cells (List.toArray [.int .i64 x0, .int .i64 x1, .int .i64 x2, .int .i64 x3, .int .i64 x4, .int .i64 x5]) 26 (0, 0))
      clear g6 hw5
      go_wp2_with fail
      refine (slots_put_yes x0 x1 x2 x3 x4 x5 XM.out.1 _).mono ?_
      rintro e w7 ⟨A7, c7, rfl, hw7, g7⟩
      clear q0 q1 q2 q3 q4 q5
      replace G := G.trans g7
      go_wp2_with fail
      refine (same_yes hw7.sl (hw6.keep g7) XM.out.2).mono ?_
      rintro e w8 ⟨rfl, q, rfl⟩
      replace G := G.drewN q
      clear hw6 g7 hw7
      go_wp2_with fail
      refine (lives13 _).mono ?_
      rintro e w9 ⟨rfl, g9⟩
      go_wp2_with fail
      go_ret
      exact ⟨rfl, G.trans g9⟩
    · have hy1 : (y == 0) = false := by rw [beq_eq_false_iff_ne]; exact hy
      replace G := (G.trans g6).alloc (.cells (List.toArray [.int .i64 x0, .int .i64 x1, .int .i64 x2, .int .i64 x3, .int .i64 x4, .int .i64 x5]) 26 (0, 0))
      clear hy g6 hw5 X
      go_wp2_with fail
      refine (lives13 _).mono ?_
      rintro e w9 ⟨rfl, g9⟩
      go_wp2_with fail
      go_ret
      exact ⟨rfl, G.trans g9⟩

theorem law_SlotsRound (ep hd rp er io wr k : Int) (A : Option Addr) (n c : Nat) (bs : List UInt8) (W : World) (hn0 : bs.length = n) (hr0 : RB W W.heap.size A bs) (hc0 : n ≤ c) :
    Calls Try.prog 7 #[.agg #[.int .i64 ep, .int .i64 hd, .int .i64 rp, .int .i64 er, .int .i64 io, .int .i64 wr], .int .i64 k, .slice A n c] W fun e w' => e = .returned (.bool true) ∧ Below W.heap.size W w' := by
  cases hm : mayS ep hd rp er io wr <;> cases hh : mayH k
  · exact law_SlotsRound_00 ep hd rp er io wr k A n c bs W hn0 hr0 hc0 hm hh
  · exact law_SlotsRound_01 ep hd rp er io wr k A n c bs W hn0 hr0 hc0 hm hh
  · exact law_SlotsRound_10 ep hd rp er io wr k A n c bs W hn0 hr0 hc0 hm hh
  · exact law_SlotsRound_11 ep hd rp er io wr k A n c bs W hn0 hr0 hc0 hm hh
end Go.Proofs.Ytfieenjmpjfbpaa
