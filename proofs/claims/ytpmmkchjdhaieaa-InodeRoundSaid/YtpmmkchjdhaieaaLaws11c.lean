/- The walks of the statements of layer 11: rounds and turned bytes. -/
import Derived.Test.YtpmmkchjdhaieaaLaws11b
namespace Go.Proofs.Ytpmmkchjdhaieaa
open Go.RowKit

set_option maxHeartbeats 1000000 in
theorem law_InodeTurned_neg (k l s b0 b1 b2 b3 o0 o1 o2 o3 o4 o5 o6 o7 at_ : Int) (h0 : -9223372036854775808 ≤ at_) (h1 : at_ ≤ 9223372036854775807) (x : UInt8) (W : World) (hm : mayI k l s [b0, b1, b2, b3] [o0, o1, o2, o3, o4, o5, o6, o7] = true) (hk : k ≠ 0) (hx : x ≠ 0) (hneg : at_ < 0) :
    Calls Try.prog 7 #[.agg #[.int .i64 k, .int .i64 l, .int .i64 s, .int .i64 b0, .int .i64 b1, .int .i64 b2, .int .i64 b3, .int .i64 o0, .int .i64 o1, .int .i64 o2, .int .i64 o3, .int .i64 o4, .int .i64 o5, .int .i64 o6, .int .i64 o7], .int .i64 at_, .int .u8 (x.toNat : Int)] W fun e w' => e = .returned (.bool true) ∧ Below W.heap.size W w' := by
        have HM := Lib.hid hm
        have HK := Lib.hid hk
        have HX := Lib.hid hx
        have hk1 : (k == 0) = false := by rw [beq_eq_false_iff_ne]; exact hk
        have hx1 : ((x.toNat : Int) == 0) = false := by
          rw [beq_eq_false_iff_ne]
          intro e
          exact hx (UInt8.toNat_inj.1 (by simpa using e))
        clear hm hk hx
        obtain ⟨kk, hkk, hk64⟩ : ∃ kk : Nat, (at_ + 1).tmod 64 = -(kk : Int) ∧ kk < 64 := by
          obtain ⟨m, hm⟩ := Int.eq_ofNat_of_zero_le (show 0 ≤ -(at_ + 1) by omega)
          refine ⟨m % 64, ?_, by omega⟩
          rw [show at_ + 1 = -(m : Int) by omega, Int.neg_tmod, Int.tmod_eq_emod_of_nonneg (by omega)]
          omega
        go_enter Try.func7, Try.ntmps7
        go_wp2_with fail
        refine (inode_put_yes k l s b0 b1 b2 b3 o0 o1 o2 o3 o4 o5 o6 o7 HM.out _).mono ?_
        rintro e w1 ⟨A1, c1, rfl, hw1, g1⟩
        have z0 := ((Blk.new W 25 [.int .i64 k, .int .i64 l, .int .i64 s, .int .i64 b0, .int .i64 b1, .int .i64 b2, .int .i64 b3, .int .i64 o0, .int .i64 o1, .int .i64 o2, .int .i64 o3, .int .i64 o4, .int .i64 o5, .int .i64 o6, .int .i64 o7] _ (0, 0) rfl).keep g1).2 0 _ rfl
        obtain ⟨g, rfl, hg1, hg2⟩ := hw1.row (by omega)
        have hcap := hw1.cap
        have hlen := hw1.1
        have hcell := OB.cellAt hlen.symm hw1.2.2 kk (by omega)
        have hfz := OB.frozenAt hlen.symm hw1.2.2 kk
        obtain ⟨u, hu⟩ : ∃ u, u = (inoB k l s [b0, b1, b2, b3] [o0, o1, o2, o3, o4, o5, o6, o7])[kk]'(by omega) := ⟨_, rfl⟩
        rw [← hu] at hcell
        have hxor : bits .xor .u8 (u.toNat : Int) (x.toNat : Int) = ((u ^^^ x).toNat : Int) := by
          rw [u8_xor_nat _ _ u.toNat_lt x.toNat_lt]
          simp
        have hst := (OB.stored hlen.symm hw1.2.2 kk (u ^^^ x)).1
        have HST := Lib.hid (show Sl (w1.setCell ⟨g, kk, none⟩ (.int .u8 ((u ^^^ x).toNat : Int))) (some ⟨g, 0, none⟩) 64 ((inoB k l s [b0, b1, b2, b3] [o0, o1, o2, o3, o4, o5, o6, o7]).set kk (u ^^^ x)) from ⟨by rw [List.length_set]; exact hlen, by omega, OB.rd (by rw [List.length_set]; exact hlen.symm) hst⟩)
        have hE : readIE ((inoB k l s [b0, b1, b2, b3] [o0, o1, o2, o3, o4, o5, o6, o7]).set kk (u ^^^ x)) = 4 := readIE_turned rfl rfl HK.out (by omega) (by rw [hu]; exact xor_ne HX.out) (none_set HM.out HK.out _)
        have HE := Lib.hid hE
        have HP := Lib.hid (show readIP ((inoB k l s [b0, b1, b2, b3] [o0, o1, o2, o3, o4, o5, o6, o7]).set kk (u ^^^ x)) = false by rw [readIP, hE]; rfl)
        have G1 : Grow W (w1.setCell ⟨g, kk, none⟩ (.int .u8 ((u ^^^ x).toNat : Int))) := (((Grow.refl _).alloc _).trans g1).setCell (by simp at hg1; dsimp only; omega) _
        clear hst hlen hu hE hw1 g1
        go_wp2_with fail
        refine (inode_read HST.out hcap).mono ?_
        rintro e w2 ⟨rfl, g2⟩
        rw [inoW_no HP.out, HE.out]
        clear hcell hfz hxor z0
        go_wp2_with fail
        refine (lives11 _).mono ?_
        rintro e w3 ⟨rfl, g3⟩
        go_wp2_with fail
        go_ret
        exact ⟨rfl, ((G1.trans g2).alloc _).trans g3⟩

set_option maxHeartbeats 1000000 in
theorem law_InodeTurned_pos (k l s b0 b1 b2 b3 o0 o1 o2 o3 o4 o5 o6 o7 at_ : Int) (h0 : 0 ≤ at_) (h1 : at_ ≤ 9223372036854775807) (x : UInt8) (W : World) (hm : mayI k l s [b0, b1, b2, b3] [o0, o1, o2, o3, o4, o5, o6, o7] = true) (hk : k ≠ 0) (hx : x ≠ 0) :
    Calls Try.prog 7 #[.agg #[.int .i64 k, .int .i64 l, .int .i64 s, .int .i64 b0, .int .i64 b1, .int .i64 b2, .int .i64 b3, .int .i64 o0, .int .i64 o1, .int .i64 o2, .int .i64 o3, .int .i64 o4, .int .i64 o5, .int .i64 o6, .int .i64 o7], .int .i64 at_, .int .u8 (x.toNat : Int)] W fun e w' => e = .returned (.bool true) ∧ Below W.heap.size W w' := by
        have HM := Lib.hid hm
        have HK := Lib.hid hk
        have HX := Lib.hid hx
        have hk1 : (k == 0) = false := by rw [beq_eq_false_iff_ne]; exact hk
        have hx1 : ((x.toNat : Int) == 0) = false := by
          rw [beq_eq_false_iff_ne]
          intro e
          exact hx (UInt8.toNat_inj.1 (by simpa using e))
        clear hm hk hx
        obtain ⟨kk, hkk, hk64⟩ : ∃ kk : Nat, at_ % 64 = (kk : Int) ∧ kk < 64 := ⟨(at_ % 64).toNat, by omega, by omega⟩
        go_enter Try.func7, Try.ntmps7
        go_wp2_with fail
        refine (inode_put_yes k l s b0 b1 b2 b3 o0 o1 o2 o3 o4 o5 o6 o7 HM.out _).mono ?_
        rintro e w1 ⟨A1, c1, rfl, hw1, g1⟩
        have z0 := ((Blk.new W 25 [.int .i64 k, .int .i64 l, .int .i64 s, .int .i64 b0, .int .i64 b1, .int .i64 b2, .int .i64 b3, .int .i64 o0, .int .i64 o1, .int .i64 o2, .int .i64 o3, .int .i64 o4, .int .i64 o5, .int .i64 o6, .int .i64 o7] _ (0, 0) rfl).keep g1).2 0 _ rfl
        obtain ⟨g, rfl, hg1, hg2⟩ := hw1.row (by omega)
        have hcap := hw1.cap
        have hlen := hw1.1
        have hcell := OB.cellAt hlen.symm hw1.2.2 kk (by omega)
        have hfz := OB.frozenAt hlen.symm hw1.2.2 kk
        obtain ⟨u, hu⟩ : ∃ u, u = (inoB k l s [b0, b1, b2, b3] [o0, o1, o2, o3, o4, o5, o6, o7])[kk]'(by omega) := ⟨_, rfl⟩
        rw [← hu] at hcell
        have hxor : bits .xor .u8 (u.toNat : Int) (x.toNat : Int) = ((u ^^^ x).toNat : Int) := by
          rw [u8_xor_nat _ _ u.toNat_lt x.toNat_lt]
          simp
        have hst := (OB.stored hlen.symm hw1.2.2 kk (u ^^^ x)).1
        have HST := Lib.hid (show Sl (w1.setCell ⟨g, kk, none⟩ (.int .u8 ((u ^^^ x).toNat : Int))) (some ⟨g, 0, none⟩) 64 ((inoB k l s [b0, b1, b2, b3] [o0, o1, o2, o3, o4, o5, o6, o7]).set kk (u ^^^ x)) from ⟨by rw [List.length_set]; exact hlen, by omega, OB.rd (by rw [List.length_set]; exact hlen.symm) hst⟩)
        have hE : readIE ((inoB k l s [b0, b1, b2, b3] [o0, o1, o2, o3, o4, o5, o6, o7]).set kk (u ^^^ x)) = 4 := readIE_turned rfl rfl HK.out (by omega) (by rw [hu]; exact xor_ne HX.out) (none_set HM.out HK.out _)
        have HE := Lib.hid hE
        have HP := Lib.hid (show readIP ((inoB k l s [b0, b1, b2, b3] [o0, o1, o2, o3, o4, o5, o6, o7]).set kk (u ^^^ x)) = false by rw [readIP, hE]; rfl)
        have G1 : Grow W (w1.setCell ⟨g, kk, none⟩ (.int .u8 ((u ^^^ x).toNat : Int))) := (((Grow.refl _).alloc _).trans g1).setCell (by simp at hg1; dsimp only; omega) _
        clear hst hlen hu hE hw1 g1
        go_wp2_with fail
        refine (inode_read HST.out hcap).mono ?_
        rintro e w2 ⟨rfl, g2⟩
        rw [inoW_no HP.out, HE.out]
        clear hcell hfz hxor z0
        go_wp2_with fail
        refine (lives11 _).mono ?_
        rintro e w3 ⟨rfl, g3⟩
        go_wp2_with fail
        go_ret
        exact ⟨rfl, ((G1.trans g2).alloc _).trans g3⟩

theorem law_InodeTurned_x0 (k l s b0 b1 b2 b3 o0 o1 o2 o3 o4 o5 o6 o7 at_ : Int) (x : UInt8) (W : World) (hm : mayI k l s [b0, b1, b2, b3] [o0, o1, o2, o3, o4, o5, o6, o7] = true) (hk : k ≠ 0) (hx : x = 0) :
    Calls Try.prog 7 #[.agg #[.int .i64 k, .int .i64 l, .int .i64 s, .int .i64 b0, .int .i64 b1, .int .i64 b2, .int .i64 b3, .int .i64 o0, .int .i64 o1, .int .i64 o2, .int .i64 o3, .int .i64 o4, .int .i64 o5, .int .i64 o6, .int .i64 o7], .int .i64 at_, .int .u8 (x.toNat : Int)] W fun e w' => e = .returned (.bool true) ∧ Below W.heap.size W w' := by
      subst hx
      have HM := Lib.hid hm
      have hk1 : (k == 0) = false := by rw [beq_eq_false_iff_ne]; exact hk
      clear hm hk
      go_enter Try.func7, Try.ntmps7
      go_wp2_with fail
      refine (inode_put_yes k l s b0 b1 b2 b3 o0 o1 o2 o3 o4 o5 o6 o7 HM.out _).mono ?_
      rintro e w1 ⟨A1, c1, rfl, hw1, g1⟩
      have z0 := ((Blk.new W 25 [.int .i64 k, .int .i64 l, .int .i64 s, .int .i64 b0, .int .i64 b1, .int .i64 b2, .int .i64 b3, .int .i64 o0, .int .i64 o1, .int .i64 o2, .int .i64 o3, .int .i64 o4, .int .i64 o5, .int .i64 o6, .int .i64 o7] _ (0, 0) rfl).keep g1).2 0 _ rfl
      go_wp2_with fail
      refine (lives11 _).mono ?_
      rintro e w4 ⟨rfl, g4⟩
      clear z0
      go_wp2_with fail
      go_ret
      exact ⟨rfl, (((Grow.refl _).alloc _).trans g1).trans g4⟩

theorem law_InodeTurned (k l s b0 b1 b2 b3 o0 o1 o2 o3 o4 o5 o6 o7 at_ : Int) (h0 : -9223372036854775808 ≤ at_) (h1 : at_ ≤ 9223372036854775807) (x : UInt8) (W : World) :
    Calls Try.prog 7 #[.agg #[.int .i64 k, .int .i64 l, .int .i64 s, .int .i64 b0, .int .i64 b1, .int .i64 b2, .int .i64 b3, .int .i64 o0, .int .i64 o1, .int .i64 o2, .int .i64 o3, .int .i64 o4, .int .i64 o5, .int .i64 o6, .int .i64 o7], .int .i64 at_, .int .u8 (x.toNat : Int)] W fun e w' => e = .returned (.bool true) ∧ Below W.heap.size W w' := by
  cases hm : mayI k l s [b0, b1, b2, b3] [o0, o1, o2, o3, o4, o5, o6, o7] with
  | true =>
    by_cases hk : k = 0
    · have HM := Lib.hid hm
      have hk1 : (k == 0) = true := by rw [beq_iff_eq]; exact hk
      clear hm hk
      go_enter Try.func7, Try.ntmps7
      go_wp2_with fail
      refine (inode_put_yes k l s b0 b1 b2 b3 o0 o1 o2 o3 o4 o5 o6 o7 HM.out _).mono ?_
      rintro e w1 ⟨A1, c1, rfl, hw1, g1⟩
      have z0 := ((Blk.new W 25 [.int .i64 k, .int .i64 l, .int .i64 s, .int .i64 b0, .int .i64 b1, .int .i64 b2, .int .i64 b3, .int .i64 o0, .int .i64 o1, .int .i64 o2, .int .i64 o3, .int .i64 o4, .int .i64 o5, .int .i64 o6, .int .i64 o7] _ (0, 0) rfl).keep g1).2 0 _ rfl
      go_wp2_with fail
      refine (lives11 _).mono ?_
      rintro e w4 ⟨rfl, g4⟩
      clear z0
      go_wp2_with fail
      go_ret
      exact ⟨rfl, (((Grow.refl _).alloc _).trans g1).trans g4⟩
    · by_cases hx : x = 0
      · exact law_InodeTurned_x0 k l s b0 b1 b2 b3 o0 o1 o2 o3 o4 o5 o6 o7 at_ x W hm hk hx
      · by_cases hneg : at_ < 0
        · exact law_InodeTurned_neg k l s b0 b1 b2 b3 o0 o1 o2 o3 o4 o5 o6 o7 at_ h0 h1 x W hm hk hx hneg
        · exact law_InodeTurned_pos k l s b0 b1 b2 b3 o0 o1 o2 o3 o4 o5 o6 o7 at_ (by omega) h1 x W hm hk hx
  | false =>
    have HM := Lib.hid hm
    clear hm
    go_enter Try.func7, Try.ntmps7
    go_wp2_with fail
    refine (inode_put_no k l s b0 b1 b2 b3 o0 o1 o2 o3 o4 o5 o6 o7 HM.out _).mono ?_
    rintro e w1 ⟨rfl, g1⟩
    go_wp2_with fail
    refine (lives11 _).mono ?_
    rintro e w4 ⟨rfl, g4⟩
    go_wp2_with fail
    go_ret
    exact ⟨rfl, (((Grow.refl _).alloc _).trans g1).trans g4⟩

set_option maxHeartbeats 2000000 in
theorem law_InodeRound_1a (k l s b0 b1 b2 b3 o0 o1 o2 o3 o4 o5 o6 o7 : Int) (A : Option Addr) (n c : Nat) (bt : List UInt8) (W : World) (hs : Sl W A 100 bt) (hc : 100 ≤ c) (h100 : 100 < n) (hm : mayI k l s [b0, b1, b2, b3] [o0, o1, o2, o3, o4, o5, o6, o7] = true) :
    Calls Try.prog 6 #[.agg #[.int .i64 k, .int .i64 l, .int .i64 s, .int .i64 b0, .int .i64 b1, .int .i64 b2, .int .i64 b3, .int .i64 o0, .int .i64 o1, .int .i64 o2, .int .i64 o3, .int .i64 o4, .int .i64 o5, .int .i64 o6, .int .i64 o7], .slice A n c] W fun e w' => e = .returned (.bool true) ∧ Below W.heap.size W w' := by
    have HM := Lib.hid hm
    clear hm
    go_enter Try.func6, Try.ntmps6
    go_wp2_with fail
    refine (inode_put_yes k l s b0 b1 b2 b3 o0 o1 o2 o3 o4 o5 o6 o7 HM.out _).mono ?_
    rintro e w1 ⟨A1, c1, rfl, hw1, g1⟩
    have hcap := hw1.cap
    go_wp2_with fail
    refine (inode_read hw1.sl hcap).mono ?_
    rintro e w2 ⟨rfl, g2⟩
    rw [(inoW_ino HM.out).1, (inoW_ino HM.out).2]
    have K1 := (((Blk.new W 25 [.int .i64 k, .int .i64 l, .int .i64 s, .int .i64 b0, .int .i64 b1, .int .i64 b2, .int .i64 b3, .int .i64 o0, .int .i64 o1, .int .i64 o2, .int .i64 o3, .int .i64 o4, .int .i64 o5, .int .i64 o6, .int .i64 o7] _ (0, 0) rfl).keep g1).keep g2).keep ((Grow.refl _).alloc (.cells (List.toArray [.int .i64 k, .int .i64 l, .int .i64 s, .int .i64 b0, .int .i64 b1, .int .i64 b2, .int .i64 b3, .int .i64 o0, .int .i64 o1, .int .i64 o2, .int .i64 o3, .int .i64 o4, .int .i64 o5, .int .i64 o6, .int .i64 o7]) 25 (0, 0)))
    have K2 := Blk.new w2 25 [.int .i64 k, .int .i64 l, .int .i64 s, .int .i64 b0, .int .i64 b1, .int .i64 b2, .int .i64 b3, .int .i64 o0, .int .i64 o1, .int .i64 o2, .int .i64 o3, .int .i64 o4, .int .i64 o5, .int .i64 o6, .int .i64 o7] _ (0, 0) rfl
    have p0 := K1.2 0 _ rfl; have p1 := K1.2 1 _ rfl; have p2 := K1.2 2 _ rfl; have p3 := K1.2 3 _ rfl; have p4 := K1.2 4 _ rfl; have p5 := K1.2 5 _ rfl; have p6 := K1.2 6 _ rfl; have p7 := K1.2 7 _ rfl; have p8 := K1.2 8 _ rfl; have p9 := K1.2 9 _ rfl; have p10 := K1.2 10 _ rfl; have p11 := K1.2 11 _ rfl; have p12 := K1.2 12 _ rfl; have p13 := K1.2 13 _ rfl; have p14 := K1.2 14 _ rfl
    have q0 := K2.2 0 _ rfl; have q1 := K2.2 1 _ rfl; have q2 := K2.2 2 _ rfl; have q3 := K2.2 3 _ rfl; have q4 := K2.2 4 _ rfl; have q5 := K2.2 5 _ rfl; have q6 := K2.2 6 _ rfl; have q7 := K2.2 7 _ rfl; have q8 := K2.2 8 _ rfl; have q9 := K2.2 9 _ rfl; have q10 := K2.2 10 _ rfl; have q11 := K2.2 11 _ rfl; have q12 := K2.2 12 _ rfl; have q13 := K2.2 13 _ rfl; have q14 := K2.2 14 _ rfl
    have G := ((((Grow.refl _).alloc _).trans g1).trans g2).alloc (.cells (List.toArray [.int .i64 k, .int .i64 l, .int .i64 s, .int .i64 b0, .int .i64 b1, .int .i64 b2, .int .i64 b3, .int .i64 o0, .int .i64 o1, .int .i64 o2, .int .i64 o3, .int .i64 o4, .int .i64 o5, .int .i64 o6, .int .i64 o7]) 25 (0, 0))
    clear K1 K2 g1 g2 hw1
    have q4' := eql4
    have q8' := eql8
    go_wp2_with fail
    clear p0 p1 p2 p3 p4 p5 p6 p7 p8 p9 p10 p11 p12 p13 p14; clear q0 q1 q2 q3 q4 q5 q6 q7 q8 q9 q10 q11 q12 q13 q14; clear q4' q8'
    refine (sealed11 (hs.keep G) hc).mono ?_
    rintro e w5 ⟨A5, m5, c5, rfl, hw5, hc5, g5⟩
    replace G := G.trans g5
    clear g5
    go_wp2_with fail
    refine (inode_read15 hw5 hc5).mono ?_
    rintro e w6 ⟨x0, x1, x2, x3, x4, x5, x6, x7, x8, x9, x10, x11, x12, x13, x14, y, rfl, X, g6⟩
    by_cases hy : y = 0
    · subst hy
      obtain ⟨z, Z⟩ : ∃ z, Hid (z = (if 100 < 60 then bt else sumB (bt.take 60))) := ⟨_, Lib.hid rfl⟩
      rw [← Z.out] at hw5 X
      have XM := Lib.hid (ino_back X.out.1.symm X.out.2)
      have hm5 : 64 ≤ m5 := by have := XM.out.1; have := hw5.1; omega
      have q0 := (Blk.new w6 25 [.int .i64 x0, .int .i64 x1, .int .i64 x2, .int .i64 x3, .int .i64 x4, .int .i64 x5, .int .i64 x6, .int .i64 x7, .int .i64 x8, .int .i64 x9, .int .i64 x10, .int .i64 x11, .int .i64 x12, .int .i64 x13, .int .i64 x14] _ (0, 0) rfl).2 0 _ rfl; have q1 := (Blk.new w6 25 [.int .i64 x0, .int .i64 x1, .int .i64 x2, .int .i64 x3, .int .i64 x4, .int .i64 x5, .int .i64 x6, .int .i64 x7, .int .i64 x8, .int .i64 x9, .int .i64 x10, .int .i64 x11, .int .i64 x12, .int .i64 x13, .int .i64 x14] _ (0, 0) rfl).2 1 _ rfl; have q2 := (Blk.new w6 25 [.int .i64 x0, .int .i64 x1, .int .i64 x2, .int .i64 x3, .int .i64 x4, .int .i64 x5, .int .i64 x6, .int .i64 x7, .int .i64 x8, .int .i64 x9, .int .i64 x10, .int .i64 x11, .int .i64 x12, .int .i64 x13, .int .i64 x14] _ (0, 0) rfl).2 2 _ rfl; have q3 := (Blk.new w6 25 [.int .i64 x0, .int .i64 x1, .int .i64 x2, .int .i64 x3, .int .i64 x4, .int .i64 x5, .int .i64 x6, .int .i64 x7, .int .i64 x8, .int .i64 x9, .int .i64 x10, .int .i64 x11, .int .i64 x12, .int .i64 x13, .int .i64 x14] _ (0, 0) rfl).2 3 _ rfl; have q4 := (Blk.new w6 25 [.int .i64 x0, .int .i64 x1, .int .i64 x2, .int .i64 x3, .int .i64 x4, .int .i64 x5, .int .i64 x6, .int .i64 x7, .int .i64 x8, .int .i64 x9, .int .i64 x10, .int .i64 x11, .int .i64 x12, .int .i64 x13, .int .i64 x14] _ (0, 0) rfl).2 4 _ rfl; have q5 := (Blk.new w6 25 [.int .i64 x0, .int .i64 x1, .int .i64 x2, .int .i64 x3, .int .i64 x4, .int .i64 x5, .int .i64 x6, .int .i64 x7, .int .i64 x8, .int .i64 x9, .int .i64 x10, .int .i64 x11, .int .i64 x12, .int .i64 x13, .int .i64 x14] _ (0, 0) rfl).2 5 _ rfl; have q6 := (Blk.new w6 25 [.int .i64 x0, .int .i64 x1, .int .i64 x2, .int .i64 x3, .int .i64 x4, .int .i64 x5, .int .i64 x6, .int .i64 x7, .int .i64 x8, .int .i64 x9, .int .i64 x10, .int .i64 x11, .int .i64 x12, .int .i64 x13, .int .i64 x14] _ (0, 0) rfl).2 6 _ rfl; have q7 := (Blk.new w6 25 [.int .i64 x0, .int .i64 x1, .int .i64 x2, .int .i64 x3, .int .i64 x4, .int .i64 x5, .int .i64 x6, .int .i64 x7, .int .i64 x8, .int .i64 x9, .int .i64 x10, .int .i64 x11, .int .i64 x12, .int .i64 x13, .int .i64 x14] _ (0, 0) rfl).2 7 _ rfl; have q8 := (Blk.new w6 25 [.int .i64 x0, .int .i64 x1, .int .i64 x2, .int .i64 x3, .int .i64 x4, .int .i64 x5, .int .i64 x6, .int .i64 x7, .int .i64 x8, .int .i64 x9, .int .i64 x10, .int .i64 x11, .int .i64 x12, .int .i64 x13, .int .i64 x14] _ (0, 0) rfl).2 8 _ rfl; have q9 := (Blk.new w6 25 [.int .i64 x0, .int .i64 x1, .int .i64 x2, .int .i64 x3, .int .i64 x4, .int .i64 x5, .int .i64 x6, .int .i64 x7, .int .i64 x8, .int .i64 x9, .int .i64 x10, .int .i64 x11, .int .i64 x12, .int .i64 x13, .int .i64 x14] _ (0, 0) rfl).2 9 _ rfl; have q10 := (Blk.new w6 25 [.int .i64 x0, .int .i64 x1, .int .i64 x2, .int .i64 x3, .int .i64 x4, .int .i64 x5, .int .i64 x6, .int .i64 x7, .int .i64 x8, .int .i64 x9, .int .i64 x10, .int .i64 x11, .int .i64 x12, .int .i64 x13, .int .i64 x14] _ (0, 0) rfl).2 10 _ rfl; have q11 := (Blk.new w6 25 [.int .i64 x0, .int .i64 x1, .int .i64 x2, .int .i64 x3, .int .i64 x4, .int .i64 x5, .int .i64 x6, .int .i64 x7, .int .i64 x8, .int .i64 x9, .int .i64 x10, .int .i64 x11, .int .i64 x12, .int .i64 x13, .int .i64 x14] _ (0, 0) rfl).2 11 _ rfl; have q12 := (Blk.new w6 25 [.int .i64 x0, .int .i64 x1, .int .i64 x2, .int .i64 x3, .int .i64 x4, .int .i64 x5, .int .i64 x6, .int .i64 x7, .int .i64 x8, .int .i64 x9, .int .i64 x10, .int .i64 x11, .int .i64 x12, .int .i64 x13, .int .i64 x14] _ (0, 0) rfl).2 12 _ rfl; have q13 := (Blk.new w6 25 [.int .i64 x0, .int .i64 x1, .int .i64 x2, .int .i64 x3, .int .i64 x4, .int .i64 x5, .int .i64 x6, .int .i64 x7, .int .i64 x8, .int .i64 x9, .int .i64 x10, .int .i64 x11, .int .i64 x12, .int .i64 x13, .int .i64 x14] _ (0, 0) rfl).2 13 _ rfl; have q14 := (Blk.new w6 25 [.int .i64 x0, .int .i64 x1, .int .i64 x2, .int .i64 x3, .int .i64 x4, .int .i64 x5, .int .i64 x6, .int .i64 x7, .int .i64 x8, .int .i64 x9, .int .i64 x10, .int .i64 x11, .int .i64 x12, .int .i64 x13, .int .i64 x14] _ (0, 0) rfl).2 14 _ rfl
      have hw6 := (hw5.keep g6).alloc (.cells (List.toArray [.int .i64 x0, .int .i64 x1, .int .i64 x2, .int .i64 x3, .int .i64 x4, .int .i64 x5, .int .i64 x6, .int .i64 x7, .int .i64 x8, .int .i64 x9, .int .i64 x10, .int .i64 x11, .int .i64 x12, .int .i64 x13, .int .i64 x14]) 25 (0, 0))
      replace G := (G.trans g6).alloc (.cells (List.toArray [.int .i64 x0, .int .i64 x1, .int .i64 x2, .int .i64 x3, .int .i64 x4, .int .i64 x5, .int .i64 x6, .int .i64 x7, .int .i64 x8, .int .i64 x9, .int .i64 x10, .int .i64 x11, .int .i64 x12, .int .i64 x13, .int .i64 x14]) 25 (0, 0))
      clear g6 hw5
      go_wp2_with fail
      refine (inode_put_yes x0 x1 x2 x3 x4 x5 x6 x7 x8 x9 x10 x11 x12 x13 x14 XM.out.2.1 _).mono ?_
      rintro e w7 ⟨A7, c7, rfl, hw7, g7⟩
      clear q0 q1 q2 q3 q4 q5 q6 q7 q8 q9 q10 q11 q12 q13 q14
      replace G := G.trans g7
      go_wp2_with fail
      refine (same_yes hw7.sl ((hw6.keep g7).take (k := 64) hm5) XM.out.2.2).mono ?_
      rintro e w8 ⟨rfl, q, rfl⟩
      replace G := G.drewN q
      clear hw6 g7 hw7
      go_wp2_with fail
      refine (lives11 _).mono ?_
      rintro e w9 ⟨rfl, g9⟩
      go_wp2_with fail
      go_ret
      exact ⟨rfl, G.trans g9⟩
    · have hy1 : (y == 0) = false := by rw [beq_eq_false_iff_ne]; exact hy
      replace G := (G.trans g6).alloc (.cells (List.toArray [.int .i64 x0, .int .i64 x1, .int .i64 x2, .int .i64 x3, .int .i64 x4, .int .i64 x5, .int .i64 x6, .int .i64 x7, .int .i64 x8, .int .i64 x9, .int .i64 x10, .int .i64 x11, .int .i64 x12, .int .i64 x13, .int .i64 x14]) 25 (0, 0))
      clear hy g6 hw5 X
      go_wp2_with fail
      refine (lives11 _).mono ?_
      rintro e w9 ⟨rfl, g9⟩
      go_wp2_with fail
      go_ret
      exact ⟨rfl, G.trans g9⟩

set_option maxHeartbeats 2000000 in
theorem law_InodeRound_1b (k l s b0 b1 b2 b3 o0 o1 o2 o3 o4 o5 o6 o7 : Int) (A : Option Addr) (n c : Nat) (bt : List UInt8) (W : World) (hs : Sl W A n bt) (hc : n ≤ c) (h100 : ¬ 100 < n) (hm : mayI k l s [b0, b1, b2, b3] [o0, o1, o2, o3, o4, o5, o6, o7] = true) :
    Calls Try.prog 6 #[.agg #[.int .i64 k, .int .i64 l, .int .i64 s, .int .i64 b0, .int .i64 b1, .int .i64 b2, .int .i64 b3, .int .i64 o0, .int .i64 o1, .int .i64 o2, .int .i64 o3, .int .i64 o4, .int .i64 o5, .int .i64 o6, .int .i64 o7], .slice A n c] W fun e w' => e = .returned (.bool true) ∧ Below W.heap.size W w' := by
    have HM := Lib.hid hm
    clear hm
    go_enter Try.func6, Try.ntmps6
    go_wp2_with fail
    refine (inode_put_yes k l s b0 b1 b2 b3 o0 o1 o2 o3 o4 o5 o6 o7 HM.out _).mono ?_
    rintro e w1 ⟨A1, c1, rfl, hw1, g1⟩
    have hcap := hw1.cap
    go_wp2_with fail
    refine (inode_read hw1.sl hcap).mono ?_
    rintro e w2 ⟨rfl, g2⟩
    rw [(inoW_ino HM.out).1, (inoW_ino HM.out).2]
    have K1 := (((Blk.new W 25 [.int .i64 k, .int .i64 l, .int .i64 s, .int .i64 b0, .int .i64 b1, .int .i64 b2, .int .i64 b3, .int .i64 o0, .int .i64 o1, .int .i64 o2, .int .i64 o3, .int .i64 o4, .int .i64 o5, .int .i64 o6, .int .i64 o7] _ (0, 0) rfl).keep g1).keep g2).keep ((Grow.refl _).alloc (.cells (List.toArray [.int .i64 k, .int .i64 l, .int .i64 s, .int .i64 b0, .int .i64 b1, .int .i64 b2, .int .i64 b3, .int .i64 o0, .int .i64 o1, .int .i64 o2, .int .i64 o3, .int .i64 o4, .int .i64 o5, .int .i64 o6, .int .i64 o7]) 25 (0, 0)))
    have K2 := Blk.new w2 25 [.int .i64 k, .int .i64 l, .int .i64 s, .int .i64 b0, .int .i64 b1, .int .i64 b2, .int .i64 b3, .int .i64 o0, .int .i64 o1, .int .i64 o2, .int .i64 o3, .int .i64 o4, .int .i64 o5, .int .i64 o6, .int .i64 o7] _ (0, 0) rfl
    have p0 := K1.2 0 _ rfl; have p1 := K1.2 1 _ rfl; have p2 := K1.2 2 _ rfl; have p3 := K1.2 3 _ rfl; have p4 := K1.2 4 _ rfl; have p5 := K1.2 5 _ rfl; have p6 := K1.2 6 _ rfl; have p7 := K1.2 7 _ rfl; have p8 := K1.2 8 _ rfl; have p9 := K1.2 9 _ rfl; have p10 := K1.2 10 _ rfl; have p11 := K1.2 11 _ rfl; have p12 := K1.2 12 _ rfl; have p13 := K1.2 13 _ rfl; have p14 := K1.2 14 _ rfl
    have q0 := K2.2 0 _ rfl; have q1 := K2.2 1 _ rfl; have q2 := K2.2 2 _ rfl; have q3 := K2.2 3 _ rfl; have q4 := K2.2 4 _ rfl; have q5 := K2.2 5 _ rfl; have q6 := K2.2 6 _ rfl; have q7 := K2.2 7 _ rfl; have q8 := K2.2 8 _ rfl; have q9 := K2.2 9 _ rfl; have q10 := K2.2 10 _ rfl; have q11 := K2.2 11 _ rfl; have q12 := K2.2 12 _ rfl; have q13 := K2.2 13 _ rfl; have q14 := K2.2 14 _ rfl
    have G := ((((Grow.refl _).alloc _).trans g1).trans g2).alloc (.cells (List.toArray [.int .i64 k, .int .i64 l, .int .i64 s, .int .i64 b0, .int .i64 b1, .int .i64 b2, .int .i64 b3, .int .i64 o0, .int .i64 o1, .int .i64 o2, .int .i64 o3, .int .i64 o4, .int .i64 o5, .int .i64 o6, .int .i64 o7]) 25 (0, 0))
    clear K1 K2 g1 g2 hw1
    have q4' := eql4
    have q8' := eql8
    go_wp2_with fail
    clear p0 p1 p2 p3 p4 p5 p6 p7 p8 p9 p10 p11 p12 p13 p14; clear q0 q1 q2 q3 q4 q5 q6 q7 q8 q9 q10 q11 q12 q13 q14; clear q4' q8'
    refine (sealed11 (hs.keep G) hc).mono ?_
    rintro e w5 ⟨A5, m5, c5, rfl, hw5, hc5, g5⟩
    replace G := G.trans g5
    clear g5
    go_wp2_with fail
    refine (inode_read15 hw5 hc5).mono ?_
    rintro e w6 ⟨x0, x1, x2, x3, x4, x5, x6, x7, x8, x9, x10, x11, x12, x13, x14, y, rfl, X, g6⟩
    by_cases hy : y = 0
    · subst hy
      obtain ⟨z, Z⟩ : ∃ z, Hid (z = (if n < 60 then bt else sumB (bt.take 60))) := ⟨_, Lib.hid rfl⟩
      rw [← Z.out] at hw5 X
      have XM := Lib.hid (ino_back X.out.1.symm X.out.2)
      have hm5 : 64 ≤ m5 := by have := XM.out.1; have := hw5.1; omega
      have q0 := (Blk.new w6 25 [.int .i64 x0, .int .i64 x1, .int .i64 x2, .int .i64 x3, .int .i64 x4, .int .i64 x5, .int .i64 x6, .int .i64 x7, .int .i64 x8, .int .i64 x9, .int .i64 x10, .int .i64 x11, .int .i64 x12, .int .i64 x13, .int .i64 x14] _ (0, 0) rfl).2 0 _ rfl; have q1 := (Blk.new w6 25 [.int .i64 x0, .int .i64 x1, .int .i64 x2, .int .i64 x3, .int .i64 x4, .int .i64 x5, .int .i64 x6, .int .i64 x7, .int .i64 x8, .int .i64 x9, .int .i64 x10, .int .i64 x11, .int .i64 x12, .int .i64 x13, .int .i64 x14] _ (0, 0) rfl).2 1 _ rfl; have q2 := (Blk.new w6 25 [.int .i64 x0, .int .i64 x1, .int .i64 x2, .int .i64 x3, .int .i64 x4, .int .i64 x5, .int .i64 x6, .int .i64 x7, .int .i64 x8, .int .i64 x9, .int .i64 x10, .int .i64 x11, .int .i64 x12, .int .i64 x13, .int .i64 x14] _ (0, 0) rfl).2 2 _ rfl; have q3 := (Blk.new w6 25 [.int .i64 x0, .int .i64 x1, .int .i64 x2, .int .i64 x3, .int .i64 x4, .int .i64 x5, .int .i64 x6, .int .i64 x7, .int .i64 x8, .int .i64 x9, .int .i64 x10, .int .i64 x11, .int .i64 x12, .int .i64 x13, .int .i64 x14] _ (0, 0) rfl).2 3 _ rfl; have q4 := (Blk.new w6 25 [.int .i64 x0, .int .i64 x1, .int .i64 x2, .int .i64 x3, .int .i64 x4, .int .i64 x5, .int .i64 x6, .int .i64 x7, .int .i64 x8, .int .i64 x9, .int .i64 x10, .int .i64 x11, .int .i64 x12, .int .i64 x13, .int .i64 x14] _ (0, 0) rfl).2 4 _ rfl; have q5 := (Blk.new w6 25 [.int .i64 x0, .int .i64 x1, .int .i64 x2, .int .i64 x3, .int .i64 x4, .int .i64 x5, .int .i64 x6, .int .i64 x7, .int .i64 x8, .int .i64 x9, .int .i64 x10, .int .i64 x11, .int .i64 x12, .int .i64 x13, .int .i64 x14] _ (0, 0) rfl).2 5 _ rfl; have q6 := (Blk.new w6 25 [.int .i64 x0, .int .i64 x1, .int .i64 x2, .int .i64 x3, .int .i64 x4, .int .i64 x5, .int .i64 x6, .int .i64 x7, .int .i64 x8, .int .i64 x9, .int .i64 x10, .int .i64 x11, .int .i64 x12, .int .i64 x13, .int .i64 x14] _ (0, 0) rfl).2 6 _ rfl; have q7 := (Blk.new w6 25 [.int .i64 x0, .int .i64 x1, .int .i64 x2, .int .i64 x3, .int .i64 x4, .int .i64 x5, .int .i64 x6, .int .i64 x7, .int .i64 x8, .int .i64 x9, .int .i64 x10, .int .i64 x11, .int .i64 x12, .int .i64 x13, .int .i64 x14] _ (0, 0) rfl).2 7 _ rfl; have q8 := (Blk.new w6 25 [.int .i64 x0, .int .i64 x1, .int .i64 x2, .int .i64 x3, .int .i64 x4, .int .i64 x5, .int .i64 x6, .int .i64 x7, .int .i64 x8, .int .i64 x9, .int .i64 x10, .int .i64 x11, .int .i64 x12, .int .i64 x13, .int .i64 x14] _ (0, 0) rfl).2 8 _ rfl; have q9 := (Blk.new w6 25 [.int .i64 x0, .int .i64 x1, .int .i64 x2, .int .i64 x3, .int .i64 x4, .int .i64 x5, .int .i64 x6, .int .i64 x7, .int .i64 x8, .int .i64 x9, .int .i64 x10, .int .i64 x11, .int .i64 x12, .int .i64 x13, .int .i64 x14] _ (0, 0) rfl).2 9 _ rfl; have q10 := (Blk.new w6 25 [.int .i64 x0, .int .i64 x1, .int .i64 x2, .int .i64 x3, .int .i64 x4, .int .i64 x5, .int .i64 x6, .int .i64 x7, .int .i64 x8, .int .i64 x9, .int .i64 x10, .int .i64 x11, .int .i64 x12, .int .i64 x13, .int .i64 x14] _ (0, 0) rfl).2 10 _ rfl; have q11 := (Blk.new w6 25 [.int .i64 x0, .int .i64 x1, .int .i64 x2, .int .i64 x3, .int .i64 x4, .int .i64 x5, .int .i64 x6, .int .i64 x7, .int .i64 x8, .int .i64 x9, .int .i64 x10, .int .i64 x11, .int .i64 x12, .int .i64 x13, .int .i64 x14] _ (0, 0) rfl).2 11 _ rfl; have q12 := (Blk.new w6 25 [.int .i64 x0, .int .i64 x1, .int .i64 x2, .int .i64 x3, .int .i64 x4, .int .i64 x5, .int .i64 x6, .int .i64 x7, .int .i64 x8, .int .i64 x9, .int .i64 x10, .int .i64 x11, .int .i64 x12, .int .i64 x13, .int .i64 x14] _ (0, 0) rfl).2 12 _ rfl; have q13 := (Blk.new w6 25 [.int .i64 x0, .int .i64 x1, .int .i64 x2, .int .i64 x3, .int .i64 x4, .int .i64 x5, .int .i64 x6, .int .i64 x7, .int .i64 x8, .int .i64 x9, .int .i64 x10, .int .i64 x11, .int .i64 x12, .int .i64 x13, .int .i64 x14] _ (0, 0) rfl).2 13 _ rfl; have q14 := (Blk.new w6 25 [.int .i64 x0, .int .i64 x1, .int .i64 x2, .int .i64 x3, .int .i64 x4, .int .i64 x5, .int .i64 x6, .int .i64 x7, .int .i64 x8, .int .i64 x9, .int .i64 x10, .int .i64 x11, .int .i64 x12, .int .i64 x13, .int .i64 x14] _ (0, 0) rfl).2 14 _ rfl
      have hw6 := (hw5.keep g6).alloc (.cells (List.toArray [.int .i64 x0, .int .i64 x1, .int .i64 x2, .int .i64 x3, .int .i64 x4, .int .i64 x5, .int .i64 x6, .int .i64 x7, .int .i64 x8, .int .i64 x9, .int .i64 x10, .int .i64 x11, .int .i64 x12, .int .i64 x13, .int .i64 x14]) 25 (0, 0))
      replace G := (G.trans g6).alloc (.cells (List.toArray [.int .i64 x0, .int .i64 x1, .int .i64 x2, .int .i64 x3, .int .i64 x4, .int .i64 x5, .int .i64 x6, .int .i64 x7, .int .i64 x8, .int .i64 x9, .int .i64 x10, .int .i64 x11, .int .i64 x12, .int .i64 x13, .int .i64 x14]) 25 (0, 0))
      clear g6 hw5
      go_wp2_with fail
      refine (inode_put_yes x0 x1 x2 x3 x4 x5 x6 x7 x8 x9 x10 x11 x12 x13 x14 XM.out.2.1 _).mono ?_
      rintro e w7 ⟨A7, c7, rfl, hw7, g7⟩
      clear q0 q1 q2 q3 q4 q5 q6 q7 q8 q9 q10 q11 q12 q13 q14
      replace G := G.trans g7
      go_wp2_with fail
      refine (same_yes hw7.sl ((hw6.keep g7).take (k := 64) hm5) XM.out.2.2).mono ?_
      rintro e w8 ⟨rfl, q, rfl⟩
      replace G := G.drewN q
      clear hw6 g7 hw7
      go_wp2_with fail
      refine (lives11 _).mono ?_
      rintro e w9 ⟨rfl, g9⟩
      go_wp2_with fail
      go_ret
      exact ⟨rfl, G.trans g9⟩
    · have hy1 : (y == 0) = false := by rw [beq_eq_false_iff_ne]; exact hy
      replace G := (G.trans g6).alloc (.cells (List.toArray [.int .i64 x0, .int .i64 x1, .int .i64 x2, .int .i64 x3, .int .i64 x4, .int .i64 x5, .int .i64 x6, .int .i64 x7, .int .i64 x8, .int .i64 x9, .int .i64 x10, .int .i64 x11, .int .i64 x12, .int .i64 x13, .int .i64 x14]) 25 (0, 0))
      clear hy g6 hw5 X
      go_wp2_with fail
      refine (lives11 _).mono ?_
      rintro e w9 ⟨rfl, g9⟩
      go_wp2_with fail
      go_ret
      exact ⟨rfl, G.trans g9⟩

set_option maxHeartbeats 2000000 in
theorem law_InodeRound_0a (k l s b0 b1 b2 b3 o0 o1 o2 o3 o4 o5 o6 o7 : Int) (A : Option Addr) (n c : Nat) (bt : List UInt8) (W : World) (hs : Sl W A 100 bt) (hc : 100 ≤ c) (h100 : 100 < n) (hm : mayI k l s [b0, b1, b2, b3] [o0, o1, o2, o3, o4, o5, o6, o7] = false) :
    Calls Try.prog 6 #[.agg #[.int .i64 k, .int .i64 l, .int .i64 s, .int .i64 b0, .int .i64 b1, .int .i64 b2, .int .i64 b3, .int .i64 o0, .int .i64 o1, .int .i64 o2, .int .i64 o3, .int .i64 o4, .int .i64 o5, .int .i64 o6, .int .i64 o7], .slice A n c] W fun e w' => e = .returned (.bool true) ∧ Below W.heap.size W w' := by
    have HM := Lib.hid hm
    clear hm
    go_enter Try.func6, Try.ntmps6
    go_wp2_with fail
    refine (inode_put_no k l s b0 b1 b2 b3 o0 o1 o2 o3 o4 o5 o6 o7 HM.out _).mono ?_
    rintro e w1 ⟨rfl, g1⟩
    have G := ((Grow.refl _).alloc _).trans g1
    clear g1
    go_wp2_with fail
    refine (sealed11 (hs.keep G) hc).mono ?_
    rintro e w5 ⟨A5, m5, c5, rfl, hw5, hc5, g5⟩
    replace G := G.trans g5
    clear g5
    go_wp2_with fail
    refine (inode_read15 hw5 hc5).mono ?_
    rintro e w6 ⟨x0, x1, x2, x3, x4, x5, x6, x7, x8, x9, x10, x11, x12, x13, x14, y, rfl, X, g6⟩
    by_cases hy : y = 0
    · subst hy
      obtain ⟨z, Z⟩ : ∃ z, Hid (z = (if 100 < 60 then bt else sumB (bt.take 60))) := ⟨_, Lib.hid rfl⟩
      rw [← Z.out] at hw5 X
      have XM := Lib.hid (ino_back X.out.1.symm X.out.2)
      have hm5 : 64 ≤ m5 := by have := XM.out.1; have := hw5.1; omega
      have q0 := (Blk.new w6 25 [.int .i64 x0, .int .i64 x1, .int .i64 x2, .int .i64 x3, .int .i64 x4, .int .i64 x5, .int .i64 x6, .int .i64 x7, .int .i64 x8, .int .i64 x9, .int .i64 x10, .int .i64 x11, .int .i64 x12, .int .i64 x13, .int .i64 x14] _ (0, 0) rfl).2 0 _ rfl; have q1 := (Blk.new w6 25 [.int .i64 x0, .int .i64 x1, .int .i64 x2, .int .i64 x3, .int .i64 x4, .int .i64 x5, .int .i64 x6, .int .i64 x7, .int .i64 x8, .int .i64 x9, .int .i64 x10, .int .i64 x11, .int .i64 x12, .int .i64 x13, .int .i64 x14] _ (0, 0) rfl).2 1 _ rfl; have q2 := (Blk.new w6 25 [.int .i64 x0, .int .i64 x1, .int .i64 x2, .int .i64 x3, .int .i64 x4, .int .i64 x5, .int .i64 x6, .int .i64 x7, .int .i64 x8, .int .i64 x9, .int .i64 x10, .int .i64 x11, .int .i64 x12, .int .i64 x13, .int .i64 x14] _ (0, 0) rfl).2 2 _ rfl; have q3 := (Blk.new w6 25 [.int .i64 x0, .int .i64 x1, .int .i64 x2, .int .i64 x3, .int .i64 x4, .int .i64 x5, .int .i64 x6, .int .i64 x7, .int .i64 x8, .int .i64 x9, .int .i64 x10, .int .i64 x11, .int .i64 x12, .int .i64 x13, .int .i64 x14] _ (0, 0) rfl).2 3 _ rfl; have q4 := (Blk.new w6 25 [.int .i64 x0, .int .i64 x1, .int .i64 x2, .int .i64 x3, .int .i64 x4, .int .i64 x5, .int .i64 x6, .int .i64 x7, .int .i64 x8, .int .i64 x9, .int .i64 x10, .int .i64 x11, .int .i64 x12, .int .i64 x13, .int .i64 x14] _ (0, 0) rfl).2 4 _ rfl; have q5 := (Blk.new w6 25 [.int .i64 x0, .int .i64 x1, .int .i64 x2, .int .i64 x3, .int .i64 x4, .int .i64 x5, .int .i64 x6, .int .i64 x7, .int .i64 x8, .int .i64 x9, .int .i64 x10, .int .i64 x11, .int .i64 x12, .int .i64 x13, .int .i64 x14] _ (0, 0) rfl).2 5 _ rfl; have q6 := (Blk.new w6 25 [.int .i64 x0, .int .i64 x1, .int .i64 x2, .int .i64 x3, .int .i64 x4, .int .i64 x5, .int .i64 x6, .int .i64 x7, .int .i64 x8, .int .i64 x9, .int .i64 x10, .int .i64 x11, .int .i64 x12, .int .i64 x13, .int .i64 x14] _ (0, 0) rfl).2 6 _ rfl; have q7 := (Blk.new w6 25 [.int .i64 x0, .int .i64 x1, .int .i64 x2, .int .i64 x3, .int .i64 x4, .int .i64 x5, .int .i64 x6, .int .i64 x7, .int .i64 x8, .int .i64 x9, .int .i64 x10, .int .i64 x11, .int .i64 x12, .int .i64 x13, .int .i64 x14] _ (0, 0) rfl).2 7 _ rfl; have q8 := (Blk.new w6 25 [.int .i64 x0, .int .i64 x1, .int .i64 x2, .int .i64 x3, .int .i64 x4, .int .i64 x5, .int .i64 x6, .int .i64 x7, .int .i64 x8, .int .i64 x9, .int .i64 x10, .int .i64 x11, .int .i64 x12, .int .i64 x13, .int .i64 x14] _ (0, 0) rfl).2 8 _ rfl; have q9 := (Blk.new w6 25 [.int .i64 x0, .int .i64 x1, .int .i64 x2, .int .i64 x3, .int .i64 x4, .int .i64 x5, .int .i64 x6, .int .i64 x7, .int .i64 x8, .int .i64 x9, .int .i64 x10, .int .i64 x11, .int .i64 x12, .int .i64 x13, .int .i64 x14] _ (0, 0) rfl).2 9 _ rfl; have q10 := (Blk.new w6 25 [.int .i64 x0, .int .i64 x1, .int .i64 x2, .int .i64 x3, .int .i64 x4, .int .i64 x5, .int .i64 x6, .int .i64 x7, .int .i64 x8, .int .i64 x9, .int .i64 x10, .int .i64 x11, .int .i64 x12, .int .i64 x13, .int .i64 x14] _ (0, 0) rfl).2 10 _ rfl; have q11 := (Blk.new w6 25 [.int .i64 x0, .int .i64 x1, .int .i64 x2, .int .i64 x3, .int .i64 x4, .int .i64 x5, .int .i64 x6, .int .i64 x7, .int .i64 x8, .int .i64 x9, .int .i64 x10, .int .i64 x11, .int .i64 x12, .int .i64 x13, .int .i64 x14] _ (0, 0) rfl).2 11 _ rfl; have q12 := (Blk.new w6 25 [.int .i64 x0, .int .i64 x1, .int .i64 x2, .int .i64 x3, .int .i64 x4, .int .i64 x5, .int .i64 x6, .int .i64 x7, .int .i64 x8, .int .i64 x9, .int .i64 x10, .int .i64 x11, .int .i64 x12, .int .i64 x13, .int .i64 x14] _ (0, 0) rfl).2 12 _ rfl; have q13 := (Blk.new w6 25 [.int .i64 x0, .int .i64 x1, .int .i64 x2, .int .i64 x3, .int .i64 x4, .int .i64 x5, .int .i64 x6, .int .i64 x7, .int .i64 x8, .int .i64 x9, .int .i64 x10, .int .i64 x11, .int .i64 x12, .int .i64 x13, .int .i64 x14] _ (0, 0) rfl).2 13 _ rfl; have q14 := (Blk.new w6 25 [.int .i64 x0, .int .i64 x1, .int .i64 x2, .int .i64 x3, .int .i64 x4, .int .i64 x5, .int .i64 x6, .int .i64 x7, .int .i64 x8, .int .i64 x9, .int .i64 x10, .int .i64 x11, .int .i64 x12, .int .i64 x13, .int .i64 x14] _ (0, 0) rfl).2 14 _ rfl
      have hw6 := (hw5.keep g6).alloc (.cells (List.toArray [.int .i64 x0, .int .i64 x1, .int .i64 x2, .int .i64 x3, .int .i64 x4, .int .i64 x5, .int .i64 x6, .int .i64 x7, .int .i64 x8, .int .i64 x9, .int .i64 x10, .int .i64 x11, .int .i64 x12, .int .i64 x13, .int .i64 x14]) 25 (0, 0))
      replace G := (G.trans g6).alloc (.cells (List.toArray [.int .i64 x0, .int .i64 x1, .int .i64 x2, .int .i64 x3, .int .i64 x4, .int .i64 x5, .int .i64 x6, .int .i64 x7, .int .i64 x8, .int .i64 x9, .int .i64 x10, .int .i64 x11, .int .i64 x12, .int .i64 x13, .int .i64 x14]) 25 (0, 0))
      clear g6 hw5
      go_wp2_with fail
      refine (inode_put_yes x0 x1 x2 x3 x4 x5 x6 x7 x8 x9 x10 x11 x12 x13 x14 XM.out.2.1 _).mono ?_
      rintro e w7 ⟨A7, c7, rfl, hw7, g7⟩
      clear q0 q1 q2 q3 q4 q5 q6 q7 q8 q9 q10 q11 q12 q13 q14
      replace G := G.trans g7
      go_wp2_with fail
      refine (same_yes hw7.sl ((hw6.keep g7).take (k := 64) hm5) XM.out.2.2).mono ?_
      rintro e w8 ⟨rfl, q, rfl⟩
      replace G := G.drewN q
      clear hw6 g7 hw7
      go_wp2_with fail
      refine (lives11 _).mono ?_
      rintro e w9 ⟨rfl, g9⟩
      go_wp2_with fail
      go_ret
      exact ⟨rfl, G.trans g9⟩
    · have hy1 : (y == 0) = false := by rw [beq_eq_false_iff_ne]; exact hy
      replace G := (G.trans g6).alloc (.cells (List.toArray [.int .i64 x0, .int .i64 x1, .int .i64 x2, .int .i64 x3, .int .i64 x4, .int .i64 x5, .int .i64 x6, .int .i64 x7, .int .i64 x8, .int .i64 x9, .int .i64 x10, .int .i64 x11, .int .i64 x12, .int .i64 x13, .int .i64 x14]) 25 (0, 0))
      clear hy g6 hw5 X
      go_wp2_with fail
      refine (lives11 _).mono ?_
      rintro e w9 ⟨rfl, g9⟩
      go_wp2_with fail
      go_ret
      exact ⟨rfl, G.trans g9⟩

set_option maxHeartbeats 2000000 in
theorem law_InodeRound_0b (k l s b0 b1 b2 b3 o0 o1 o2 o3 o4 o5 o6 o7 : Int) (A : Option Addr) (n c : Nat) (bt : List UInt8) (W : World) (hs : Sl W A n bt) (hc : n ≤ c) (h100 : ¬ 100 < n) (hm : mayI k l s [b0, b1, b2, b3] [o0, o1, o2, o3, o4, o5, o6, o7] = false) :
    Calls Try.prog 6 #[.agg #[.int .i64 k, .int .i64 l, .int .i64 s, .int .i64 b0, .int .i64 b1, .int .i64 b2, .int .i64 b3, .int .i64 o0, .int .i64 o1, .int .i64 o2, .int .i64 o3, .int .i64 o4, .int .i64 o5, .int .i64 o6, .int .i64 o7], .slice A n c] W fun e w' => e = .returned (.bool true) ∧ Below W.heap.size W w' := by
    have HM := Lib.hid hm
    clear hm
    go_enter Try.func6, Try.ntmps6
    go_wp2_with fail
    refine (inode_put_no k l s b0 b1 b2 b3 o0 o1 o2 o3 o4 o5 o6 o7 HM.out _).mono ?_
    rintro e w1 ⟨rfl, g1⟩
    have G := ((Grow.refl _).alloc _).trans g1
    clear g1
    go_wp2_with fail
    refine (sealed11 (hs.keep G) hc).mono ?_
    rintro e w5 ⟨A5, m5, c5, rfl, hw5, hc5, g5⟩
    replace G := G.trans g5
    clear g5
    go_wp2_with fail
    refine (inode_read15 hw5 hc5).mono ?_
    rintro e w6 ⟨x0, x1, x2, x3, x4, x5, x6, x7, x8, x9, x10, x11, x12, x13, x14, y, rfl, X, g6⟩
    by_cases hy : y = 0
    · subst hy
      obtain ⟨z, Z⟩ : ∃ z, Hid (z = (if n < 60 then bt else sumB (bt.take 60))) := ⟨_, Lib.hid rfl⟩
      rw [← Z.out] at hw5 X
      have XM := Lib.hid (ino_back X.out.1.symm X.out.2)
      have hm5 : 64 ≤ m5 := by have := XM.out.1; have := hw5.1; omega
      have q0 := (Blk.new w6 25 [.int .i64 x0, .int .i64 x1, .int .i64 x2, .int .i64 x3, .int .i64 x4, .int .i64 x5, .int .i64 x6, .int .i64 x7, .int .i64 x8, .int .i64 x9, .int .i64 x10, .int .i64 x11, .int .i64 x12, .int .i64 x13, .int .i64 x14] _ (0, 0) rfl).2 0 _ rfl; have q1 := (Blk.new w6 25 [.int .i64 x0, .int .i64 x1, .int .i64 x2, .int .i64 x3, .int .i64 x4, .int .i64 x5, .int .i64 x6, .int .i64 x7, .int .i64 x8, .int .i64 x9, .int .i64 x10, .int .i64 x11, .int .i64 x12, .int .i64 x13, .int .i64 x14] _ (0, 0) rfl).2 1 _ rfl; have q2 := (Blk.new w6 25 [.int .i64 x0, .int .i64 x1, .int .i64 x2, .int .i64 x3, .int .i64 x4, .int .i64 x5, .int .i64 x6, .int .i64 x7, .int .i64 x8, .int .i64 x9, .int .i64 x10, .int .i64 x11, .int .i64 x12, .int .i64 x13, .int .i64 x14] _ (0, 0) rfl).2 2 _ rfl; have q3 := (Blk.new w6 25 [.int .i64 x0, .int .i64 x1, .int .i64 x2, .int .i64 x3, .int .i64 x4, .int .i64 x5, .int .i64 x6, .int .i64 x7, .int .i64 x8, .int .i64 x9, .int .i64 x10, .int .i64 x11, .int .i64 x12, .int .i64 x13, .int .i64 x14] _ (0, 0) rfl).2 3 _ rfl; have q4 := (Blk.new w6 25 [.int .i64 x0, .int .i64 x1, .int .i64 x2, .int .i64 x3, .int .i64 x4, .int .i64 x5, .int .i64 x6, .int .i64 x7, .int .i64 x8, .int .i64 x9, .int .i64 x10, .int .i64 x11, .int .i64 x12, .int .i64 x13, .int .i64 x14] _ (0, 0) rfl).2 4 _ rfl; have q5 := (Blk.new w6 25 [.int .i64 x0, .int .i64 x1, .int .i64 x2, .int .i64 x3, .int .i64 x4, .int .i64 x5, .int .i64 x6, .int .i64 x7, .int .i64 x8, .int .i64 x9, .int .i64 x10, .int .i64 x11, .int .i64 x12, .int .i64 x13, .int .i64 x14] _ (0, 0) rfl).2 5 _ rfl; have q6 := (Blk.new w6 25 [.int .i64 x0, .int .i64 x1, .int .i64 x2, .int .i64 x3, .int .i64 x4, .int .i64 x5, .int .i64 x6, .int .i64 x7, .int .i64 x8, .int .i64 x9, .int .i64 x10, .int .i64 x11, .int .i64 x12, .int .i64 x13, .int .i64 x14] _ (0, 0) rfl).2 6 _ rfl; have q7 := (Blk.new w6 25 [.int .i64 x0, .int .i64 x1, .int .i64 x2, .int .i64 x3, .int .i64 x4, .int .i64 x5, .int .i64 x6, .int .i64 x7, .int .i64 x8, .int .i64 x9, .int .i64 x10, .int .i64 x11, .int .i64 x12, .int .i64 x13, .int .i64 x14] _ (0, 0) rfl).2 7 _ rfl; have q8 := (Blk.new w6 25 [.int .i64 x0, .int .i64 x1, .int .i64 x2, .int .i64 x3, .int .i64 x4, .int .i64 x5, .int .i64 x6, .int .i64 x7, .int .i64 x8, .int .i64 x9, .int .i64 x10, .int .i64 x11, .int .i64 x12, .int .i64 x13, .int .i64 x14] _ (0, 0) rfl).2 8 _ rfl; have q9 := (Blk.new w6 25 [.int .i64 x0, .int .i64 x1, .int .i64 x2, .int .i64 x3, .int .i64 x4, .int .i64 x5, .int .i64 x6, .int .i64 x7, .int .i64 x8, .int .i64 x9, .int .i64 x10, .int .i64 x11, .int .i64 x12, .int .i64 x13, .int .i64 x14] _ (0, 0) rfl).2 9 _ rfl; have q10 := (Blk.new w6 25 [.int .i64 x0, .int .i64 x1, .int .i64 x2, .int .i64 x3, .int .i64 x4, .int .i64 x5, .int .i64 x6, .int .i64 x7, .int .i64 x8, .int .i64 x9, .int .i64 x10, .int .i64 x11, .int .i64 x12, .int .i64 x13, .int .i64 x14] _ (0, 0) rfl).2 10 _ rfl; have q11 := (Blk.new w6 25 [.int .i64 x0, .int .i64 x1, .int .i64 x2, .int .i64 x3, .int .i64 x4, .int .i64 x5, .int .i64 x6, .int .i64 x7, .int .i64 x8, .int .i64 x9, .int .i64 x10, .int .i64 x11, .int .i64 x12, .int .i64 x13, .int .i64 x14] _ (0, 0) rfl).2 11 _ rfl; have q12 := (Blk.new w6 25 [.int .i64 x0, .int .i64 x1, .int .i64 x2, .int .i64 x3, .int .i64 x4, .int .i64 x5, .int .i64 x6, .int .i64 x7, .int .i64 x8, .int .i64 x9, .int .i64 x10, .int .i64 x11, .int .i64 x12, .int .i64 x13, .int .i64 x14] _ (0, 0) rfl).2 12 _ rfl; have q13 := (Blk.new w6 25 [.int .i64 x0, .int .i64 x1, .int .i64 x2, .int .i64 x3, .int .i64 x4, .int .i64 x5, .int .i64 x6, .int .i64 x7, .int .i64 x8, .int .i64 x9, .int .i64 x10, .int .i64 x11, .int .i64 x12, .int .i64 x13, .int .i64 x14] _ (0, 0) rfl).2 13 _ rfl; have q14 := (Blk.new w6 25 [.int .i64 x0, .int .i64 x1, .int .i64 x2, .int .i64 x3, .int .i64 x4, .int .i64 x5, .int .i64 x6, .int .i64 x7, .int .i64 x8, .int .i64 x9, .int .i64 x10, .int .i64 x11, .int .i64 x12, .int .i64 x13, .int .i64 x14] _ (0, 0) rfl).2 14 _ rfl
      have hw6 := (hw5.keep g6).alloc (.cells (List.toArray [.int .i64 x0, .int .i64 x1, .int .i64 x2, .int .i64 x3, .int .i64 x4, .int .i64 x5, .int .i64 x6, .int .i64 x7, .int .i64 x8, .int .i64 x9, .int .i64 x10, .int .i64 x11, .int .i64 x12, .int .i64 x13, .int .i64 x14]) 25 (0, 0))
      replace G := (G.trans g6).alloc (.cells (List.toArray [.int .i64 x0, .int .i64 x1, .int .i64 x2, .int .i64 x3, .int .i64 x4, .int .i64 x5, .int .i64 x6, .int .i64 x7, .int .i64 x8, .int .i64 x9, .int .i64 x10, .int .i64 x11, .int .i64 x12, .int .i64 x13, .int .i64 x14]) 25 (0, 0))
      clear g6 hw5
      go_wp2_with fail
      refine (inode_put_yes x0 x1 x2 x3 x4 x5 x6 x7 x8 x9 x10 x11 x12 x13 x14 XM.out.2.1 _).mono ?_
      rintro e w7 ⟨A7, c7, rfl, hw7, g7⟩
      clear q0 q1 q2 q3 q4 q5 q6 q7 q8 q9 q10 q11 q12 q13 q14
      replace G := G.trans g7
      go_wp2_with fail
      refine (same_yes hw7.sl ((hw6.keep g7).take (k := 64) hm5) XM.out.2.2).mono ?_
      rintro e w8 ⟨rfl, q, rfl⟩
      replace G := G.drewN q
      clear hw6 g7 hw7
      go_wp2_with fail
      refine (lives11 _).mono ?_
      rintro e w9 ⟨rfl, g9⟩
      go_wp2_with fail
      go_ret
      exact ⟨rfl, G.trans g9⟩
    · have hy1 : (y == 0) = false := by rw [beq_eq_false_iff_ne]; exact hy
      replace G := (G.trans g6).alloc (.cells (List.toArray [.int .i64 x0, .int .i64 x1, .int .i64 x2, .int .i64 x3, .int .i64 x4, .int .i64 x5, .int .i64 x6, .int .i64 x7, .int .i64 x8, .int .i64 x9, .int .i64 x10, .int .i64 x11, .int .i64 x12, .int .i64 x13, .int .i64 x14]) 25 (0, 0))
      clear hy g6 hw5 X
      go_wp2_with fail
      refine (lives11 _).mono ?_
      rintro e w9 ⟨rfl, g9⟩
      go_wp2_with fail
      go_ret
      exact ⟨rfl, G.trans g9⟩

theorem law_InodeRound (k l s b0 b1 b2 b3 o0 o1 o2 o3 o4 o5 o6 o7 : Int) (A : Option Addr) (n c : Nat) (bs : List UInt8) (W : World) (hn0 : bs.length = n) (hr0 : RB W W.heap.size A bs) (hc0 : n ≤ c) :
    Calls Try.prog 6 #[.agg #[.int .i64 k, .int .i64 l, .int .i64 s, .int .i64 b0, .int .i64 b1, .int .i64 b2, .int .i64 b3, .int .i64 o0, .int .i64 o1, .int .i64 o2, .int .i64 o3, .int .i64 o4, .int .i64 o5, .int .i64 o6, .int .i64 o7], .slice A n c] W fun e w' => e = .returned (.bool true) ∧ Below W.heap.size W w' := by
  by_cases h100 : 100 < n
  · have hs := Sl.ofTake hr0 (n := 100) (by omega) (by omega)
    cases hm : mayI k l s [b0, b1, b2, b3] [o0, o1, o2, o3, o4, o5, o6, o7] with
    | true => exact law_InodeRound_1a k l s b0 b1 b2 b3 o0 o1 o2 o3 o4 o5 o6 o7 A n c _ W hs (by omega) h100 hm
    | false => exact law_InodeRound_0a k l s b0 b1 b2 b3 o0 o1 o2 o3 o4 o5 o6 o7 A n c _ W hs (by omega) h100 hm
  · have hs := Sl.ofRB hr0 hn0 (by omega)
    cases hm : mayI k l s [b0, b1, b2, b3] [o0, o1, o2, o3, o4, o5, o6, o7] with
    | true => exact law_InodeRound_1b k l s b0 b1 b2 b3 o0 o1 o2 o3 o4 o5 o6 o7 A n c _ W hs hc0 h100 hm
    | false => exact law_InodeRound_0b k l s b0 b1 b2 b3 o0 o1 o2 o3 o4 o5 o6 o7 A n c _ W hs hc0 h100 hm
end Go.Proofs.Ytpmmkchjdhaieaa
