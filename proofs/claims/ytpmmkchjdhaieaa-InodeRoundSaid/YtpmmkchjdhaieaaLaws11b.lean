/- The walks of the statements of layer 11: reading. -/
import Derived.Test.YtpmmkchjdhaieaaLaws11
import Derived.Test.YtpmmkchjdhaieaaInoTurn
namespace Go.Proofs.Ytpmmkchjdhaieaa
open Go.RowKit

theorem inode_read15 {A : Option Addr} {n c : Nat} {bs : List UInt8} {w : World} (hs : Sl w A n bs) (hc : n ≤ c) :
    Calls Try.prog 17 #[.slice A n c] w fun e w' => ∃ x0 x1 x2 x3 x4 x5 x6 x7 x8 x9 x10 x11 x12 x13 x14 y, e = .returned (.tuple #[.agg #[.int .i64 x0, .int .i64 x1, .int .i64 x2, .int .i64 x3, .int .i64 x4, .int .i64 x5, .int .i64 x6, .int .i64 x7, .int .i64 x8, .int .i64 x9, .int .i64 x10, .int .i64 x11, .int .i64 x12, .int .i64 x13, .int .i64 x14], .int .i64 y]) ∧ Hid (y = readIE bs ∧ inoW bs = .agg #[.int .i64 x0, .int .i64 x1, .int .i64 x2, .int .i64 x3, .int .i64 x4, .int .i64 x5, .int .i64 x6, .int .i64 x7, .int .i64 x8, .int .i64 x9, .int .i64 x10, .int .i64 x11, .int .i64 x12, .int .i64 x13, .int .i64 x14]) ∧ Grow w w' := by
  refine (inode_read hs hc).mono ?_
  rintro e w' ⟨rfl, g⟩
  exact ⟨_, _, _, _, _, _, _, _, _, _, _, _, _, _, _, _, rfl, Lib.hid ⟨rfl, rfl⟩, g⟩
theorem ref11_read15 {A : Option Addr} {n c : Nat} {bs : List UInt8} {w : World} (hs : Sl w A n bs) (hc : n ≤ c) {x0 x1 x2 x3 x4 x5 x6 x7 x8 x9 x10 x11 x12 x13 x14 y : Int} (h : y = readIE bs ∧ inoW bs = .agg #[.int .i64 x0, .int .i64 x1, .int .i64 x2, .int .i64 x3, .int .i64 x4, .int .i64 x5, .int .i64 x6, .int .i64 x7, .int .i64 x8, .int .i64 x9, .int .i64 x10, .int .i64 x11, .int .i64 x12, .int .i64 x13, .int .i64 x14]) :
    Calls Try.prog 18 #[.slice A n c] w fun e w' => e = .returned (.tuple #[.agg #[.int .i64 x0, .int .i64 x1, .int .i64 x2, .int .i64 x3, .int .i64 x4, .int .i64 x5, .int .i64 x6, .int .i64 x7, .int .i64 x8, .int .i64 x9, .int .i64 x10, .int .i64 x11, .int .i64 x12, .int .i64 x13, .int .i64 x14], .int .i64 y]) ∧ Grow w w' := by
  rw [h.1, ← h.2]
  exact ref11_read hs hc

set_option maxHeartbeats 2000000 in
set_option maxRecDepth 100000 in
theorem law_InodeReads_a (A : Option Addr) (n c : Nat) (b1 : List UInt8) (W : World) (hs : Sl W A 100 b1) (hc : 100 ≤ c) (h100 : 100 < n) :
    Calls Try.prog 5 #[.slice A n c] W fun e w' => e = .returned (.bool true) ∧ Below W.heap.size W w' := by
    go_enter Try.func5, Try.ntmps5
    go_wp2_with fail
    refine (inode_read15 hs hc).mono ?_
    rintro e w1 ⟨x0, x1, x2, x3, x4, x5, x6, x7, x8, x9, x10, x11, x12, x13, x14, y, rfl, X, g1⟩
    go_wp2_with fail
    refine (ref11_read15 ((hs.keep g1).alloc _) hc X.out).mono ?_
    rintro e w2 ⟨rfl, g2⟩
    have K1 := (Blk.new w1 25 [.int .i64 x0, .int .i64 x1, .int .i64 x2, .int .i64 x3, .int .i64 x4, .int .i64 x5, .int .i64 x6, .int .i64 x7, .int .i64 x8, .int .i64 x9, .int .i64 x10, .int .i64 x11, .int .i64 x12, .int .i64 x13, .int .i64 x14] _ (0, 0) rfl).keep g2
    replace g2 := g1.trans (((Grow.refl _).alloc _).trans g2)
    go_wp2_with fail
    refine (sealed11 ((hs.keep g2).alloc _) hc).mono ?_
    rintro e w3 ⟨A3, m3, c3, rfl, hw3, hc3, g3⟩
    replace K1 := K1.keep (((Grow.refl _).alloc _).trans g3)
    have K2 := (Blk.new w2 25 [.int .i64 x0, .int .i64 x1, .int .i64 x2, .int .i64 x3, .int .i64 x4, .int .i64 x5, .int .i64 x6, .int .i64 x7, .int .i64 x8, .int .i64 x9, .int .i64 x10, .int .i64 x11, .int .i64 x12, .int .i64 x13, .int .i64 x14] _ (0, 0) rfl).keep g3
    replace g3 := g2.trans (((Grow.refl _).alloc _).trans g3)
    go_wp2_with fail
    refine (inode_read15 hw3 hc3).mono ?_
    rintro e w4 ⟨u0, u1, u2, u3, u4, u5, u6, u7, u8, u9, u10, u11, u12, u13, u14, v, rfl, Z, g4⟩
    replace K1 := K1.keep g4
    replace K2 := K2.keep g4
    replace g4 := g3.trans g4
    go_wp2_with fail
    refine (sealed11 ((hs.keep g4).alloc _) hc).mono ?_
    rintro e w5 ⟨A5, m5, c5, rfl, hw5, hc5, g5⟩
    replace K1 := K1.keep (((Grow.refl _).alloc _).trans g5)
    replace K2 := K2.keep (((Grow.refl _).alloc _).trans g5)
    have K3 := (Blk.new w4 25 [.int .i64 u0, .int .i64 u1, .int .i64 u2, .int .i64 u3, .int .i64 u4, .int .i64 u5, .int .i64 u6, .int .i64 u7, .int .i64 u8, .int .i64 u9, .int .i64 u10, .int .i64 u11, .int .i64 u12, .int .i64 u13, .int .i64 u14] _ (0, 0) rfl).keep g5
    replace g5 := g4.trans (((Grow.refl _).alloc _).trans g5)
    go_wp2_with fail
    refine (ref11_read15 hw5 hc5 Z.out).mono ?_
    rintro e w6 ⟨rfl, g6⟩
    have gx := (Grow.refl w6).alloc (.cells (List.toArray [.int .i64 u0, .int .i64 u1, .int .i64 u2, .int .i64 u3, .int .i64 u4, .int .i64 u5, .int .i64 u6, .int .i64 u7, .int .i64 u8, .int .i64 u9, .int .i64 u10, .int .i64 u11, .int .i64 u12, .int .i64 u13, .int .i64 u14]) 25 (0, 0))
    replace K1 := (K1.keep g6).keep gx
    replace K2 := (K2.keep g6).keep gx
    replace K3 := (K3.keep g6).keep gx
    replace g6 := g5.trans g6
    have K4 := Blk.new w6 25 [.int .i64 u0, .int .i64 u1, .int .i64 u2, .int .i64 u3, .int .i64 u4, .int .i64 u5, .int .i64 u6, .int .i64 u7, .int .i64 u8, .int .i64 u9, .int .i64 u10, .int .i64 u11, .int .i64 u12, .int .i64 u13, .int .i64 u14] _ (0, 0) rfl
    have p0 := K1.2 0 _ rfl; have p1 := K1.2 1 _ rfl; have p2 := K1.2 2 _ rfl; have p3 := K1.2 3 _ rfl; have p4 := K1.2 4 _ rfl; have p5 := K1.2 5 _ rfl; have p6 := K1.2 6 _ rfl; have p7 := K1.2 7 _ rfl; have p8 := K1.2 8 _ rfl; have p9 := K1.2 9 _ rfl; have p10 := K1.2 10 _ rfl; have p11 := K1.2 11 _ rfl; have p12 := K1.2 12 _ rfl; have p13 := K1.2 13 _ rfl; have p14 := K1.2 14 _ rfl
    have q0 := K2.2 0 _ rfl; have q1 := K2.2 1 _ rfl; have q2 := K2.2 2 _ rfl; have q3 := K2.2 3 _ rfl; have q4 := K2.2 4 _ rfl; have q5 := K2.2 5 _ rfl; have q6 := K2.2 6 _ rfl; have q7 := K2.2 7 _ rfl; have q8 := K2.2 8 _ rfl; have q9 := K2.2 9 _ rfl; have q10 := K2.2 10 _ rfl; have q11 := K2.2 11 _ rfl; have q12 := K2.2 12 _ rfl; have q13 := K2.2 13 _ rfl; have q14 := K2.2 14 _ rfl
    have r0 := K3.2 0 _ rfl; have r1 := K3.2 1 _ rfl; have r2 := K3.2 2 _ rfl; have r3 := K3.2 3 _ rfl; have r4 := K3.2 4 _ rfl; have r5 := K3.2 5 _ rfl; have r6 := K3.2 6 _ rfl; have r7 := K3.2 7 _ rfl; have r8 := K3.2 8 _ rfl; have r9 := K3.2 9 _ rfl; have r10 := K3.2 10 _ rfl; have r11 := K3.2 11 _ rfl; have r12 := K3.2 12 _ rfl; have r13 := K3.2 13 _ rfl; have r14 := K3.2 14 _ rfl
    have t0 := K4.2 0 _ rfl; have t1 := K4.2 1 _ rfl; have t2 := K4.2 2 _ rfl; have t3 := K4.2 3 _ rfl; have t4 := K4.2 4 _ rfl; have t5 := K4.2 5 _ rfl; have t6 := K4.2 6 _ rfl; have t7 := K4.2 7 _ rfl; have t8 := K4.2 8 _ rfl; have t9 := K4.2 9 _ rfl; have t10 := K4.2 10 _ rfl; have t11 := K4.2 11 _ rfl; have t12 := K4.2 12 _ rfl; have t13 := K4.2 13 _ rfl; have t14 := K4.2 14 _ rfl
    clear K1 K2 K3 K4
    have q4 := eql4
    have q8 := eql8
    go_wp2_with fail
    refine (lives11 _).mono ?_
    rintro e w7 ⟨rfl, g7⟩
    clear p0 p1 p2 p3 p4 p5 p6 p7 p8 p9 p10 p11 p12 p13 p14; clear q0 q1 q2 q3 q4 q5 q6 q7 q8 q9 q10 q11 q12 q13 q14; clear r0 r1 r2 r3 r4 r5 r6 r7 r8 r9 r10 r11 r12 r13 r14; clear t0 t1 t2 t3 t4 t5 t6 t7 t8 t9 t10 t11 t12 t13 t14
    go_wp2_with fail
    go_ret
    exact ⟨rfl, (g6.alloc _).trans g7⟩

set_option maxHeartbeats 2000000 in
set_option maxRecDepth 100000 in
theorem law_InodeReads_b (A : Option Addr) (n c : Nat) (bs : List UInt8) (W : World) (hs : Sl W A n bs) (hc : n ≤ c) (h100 : ¬ 100 < n) :
    Calls Try.prog 5 #[.slice A n c] W fun e w' => e = .returned (.bool true) ∧ Below W.heap.size W w' := by
    go_enter Try.func5, Try.ntmps5
    go_wp2_with fail
    refine (inode_read15 hs hc).mono ?_
    rintro e w1 ⟨x0, x1, x2, x3, x4, x5, x6, x7, x8, x9, x10, x11, x12, x13, x14, y, rfl, X, g1⟩
    go_wp2_with fail
    refine (ref11_read15 ((hs.keep g1).alloc _) hc X.out).mono ?_
    rintro e w2 ⟨rfl, g2⟩
    have K1 := (Blk.new w1 25 [.int .i64 x0, .int .i64 x1, .int .i64 x2, .int .i64 x3, .int .i64 x4, .int .i64 x5, .int .i64 x6, .int .i64 x7, .int .i64 x8, .int .i64 x9, .int .i64 x10, .int .i64 x11, .int .i64 x12, .int .i64 x13, .int .i64 x14] _ (0, 0) rfl).keep g2
    replace g2 := g1.trans (((Grow.refl _).alloc _).trans g2)
    go_wp2_with fail
    refine (sealed11 ((hs.keep g2).alloc _) hc).mono ?_
    rintro e w3 ⟨A3, m3, c3, rfl, hw3, hc3, g3⟩
    replace K1 := K1.keep (((Grow.refl _).alloc _).trans g3)
    have K2 := (Blk.new w2 25 [.int .i64 x0, .int .i64 x1, .int .i64 x2, .int .i64 x3, .int .i64 x4, .int .i64 x5, .int .i64 x6, .int .i64 x7, .int .i64 x8, .int .i64 x9, .int .i64 x10, .int .i64 x11, .int .i64 x12, .int .i64 x13, .int .i64 x14] _ (0, 0) rfl).keep g3
    replace g3 := g2.trans (((Grow.refl _).alloc _).trans g3)
    go_wp2_with fail
    refine (inode_read15 hw3 hc3).mono ?_
    rintro e w4 ⟨u0, u1, u2, u3, u4, u5, u6, u7, u8, u9, u10, u11, u12, u13, u14, v, rfl, Z, g4⟩
    replace K1 := K1.keep g4
    replace K2 := K2.keep g4
    replace g4 := g3.trans g4
    go_wp2_with fail
    refine (sealed11 ((hs.keep g4).alloc _) hc).mono ?_
    rintro e w5 ⟨A5, m5, c5, rfl, hw5, hc5, g5⟩
    replace K1 := K1.keep (((Grow.refl _).alloc _).trans g5)
    replace K2 := K2.keep (((Grow.refl _).alloc _).trans g5)
    have K3 := (Blk.new w4 25 [.int .i64 u0, .int .i64 u1, .int .i64 u2, .int .i64 u3, .int .i64 u4, .int .i64 u5, .int .i64 u6, .int .i64 u7, .int .i64 u8, .int .i64 u9, .int .i64 u10, .int .i64 u11, .int .i64 u12, .int .i64 u13, .int .i64 u14] _ (0, 0) rfl).keep g5
    replace g5 := g4.trans (((Grow.refl _).alloc _).trans g5)
    go_wp2_with fail
    refine (ref11_read15 hw5 hc5 Z.out).mono ?_
    rintro e w6 ⟨rfl, g6⟩
    have gx := (Grow.refl w6).alloc (.cells (List.toArray [.int .i64 u0, .int .i64 u1, .int .i64 u2, .int .i64 u3, .int .i64 u4, .int .i64 u5, .int .i64 u6, .int .i64 u7, .int .i64 u8, .int .i64 u9, .int .i64 u10, .int .i64 u11, .int .i64 u12, .int .i64 u13, .int .i64 u14]) 25 (0, 0))
    replace K1 := (K1.keep g6).keep gx
    replace K2 := (K2.keep g6).keep gx
    replace K3 := (K3.keep g6).keep gx
    replace g6 := g5.trans g6
    have K4 := Blk.new w6 25 [.int .i64 u0, .int .i64 u1, .int .i64 u2, .int .i64 u3, .int .i64 u4, .int .i64 u5, .int .i64 u6, .int .i64 u7, .int .i64 u8, .int .i64 u9, .int .i64 u10, .int .i64 u11, .int .i64 u12, .int .i64 u13, .int .i64 u14] _ (0, 0) rfl
    have p0 := K1.2 0 _ rfl; have p1 := K1.2 1 _ rfl; have p2 := K1.2 2 _ rfl; have p3 := K1.2 3 _ rfl; have p4 := K1.2 4 _ rfl; have p5 := K1.2 5 _ rfl; have p6 := K1.2 6 _ rfl; have p7 := K1.2 7 _ rfl; have p8 := K1.2 8 _ rfl; have p9 := K1.2 9 _ rfl; have p10 := K1.2 10 _ rfl; have p11 := K1.2 11 _ rfl; have p12 := K1.2 12 _ rfl; have p13 := K1.2 13 _ rfl; have p14 := K1.2 14 _ rfl
    have q0 := K2.2 0 _ rfl; have q1 := K2.2 1 _ rfl; have q2 := K2.2 2 _ rfl; have q3 := K2.2 3 _ rfl; have q4 := K2.2 4 _ rfl; have q5 := K2.2 5 _ rfl; have q6 := K2.2 6 _ rfl; have q7 := K2.2 7 _ rfl; have q8 := K2.2 8 _ rfl; have q9 := K2.2 9 _ rfl; have q10 := K2.2 10 _ rfl; have q11 := K2.2 11 _ rfl; have q12 := K2.2 12 _ rfl; have q13 := K2.2 13 _ rfl; have q14 := K2.2 14 _ rfl
    have r0 := K3.2 0 _ rfl; have r1 := K3.2 1 _ rfl; have r2 := K3.2 2 _ rfl; have r3 := K3.2 3 _ rfl; have r4 := K3.2 4 _ rfl; have r5 := K3.2 5 _ rfl; have r6 := K3.2 6 _ rfl; have r7 := K3.2 7 _ rfl; have r8 := K3.2 8 _ rfl; have r9 := K3.2 9 _ rfl; have r10 := K3.2 10 _ rfl; have r11 := K3.2 11 _ rfl; have r12 := K3.2 12 _ rfl; have r13 := K3.2 13 _ rfl; have r14 := K3.2 14 _ rfl
    have t0 := K4.2 0 _ rfl; have t1 := K4.2 1 _ rfl; have t2 := K4.2 2 _ rfl; have t3 := K4.2 3 _ rfl; have t4 := K4.2 4 _ rfl; have t5 := K4.2 5 _ rfl; have t6 := K4.2 6 _ rfl; have t7 := K4.2 7 _ rfl; have t8 := K4.2 8 _ rfl; have t9 := K4.2 9 _ rfl; have t10 := K4.2 10 _ rfl; have t11 := K4.2 11 _ rfl; have t12 := K4.2 12 _ rfl; have t13 := K4.2 13 _ rfl; have t14 := K4.2 14 _ rfl
    clear K1 K2 K3 K4
    have q4 := eql4
    have q8 := eql8
    go_wp2_with fail
    refine (lives11 _).mono ?_
    rintro e w7 ⟨rfl, g7⟩
    clear p0 p1 p2 p3 p4 p5 p6 p7 p8 p9 p10 p11 p12 p13 p14; clear q0 q1 q2 q3 q4 q5 q6 q7 q8 q9 q10 q11 q12 q13 q14; clear r0 r1 r2 r3 r4 r5 r6 r7 r8 r9 r10 r11 r12 r13 r14; clear t0 t1 t2 t3 t4 t5 t6 t7 t8 t9 t10 t11 t12 t13 t14
    go_wp2_with fail
    go_ret
    exact ⟨rfl, (g6.alloc _).trans g7⟩

theorem law_InodeReads (A : Option Addr) (n c : Nat) (bs : List UInt8) (W : World) (hn0 : bs.length = n) (hr0 : RB W W.heap.size A bs) (hc0 : n ≤ c) :
    Calls Try.prog 5 #[.slice A n c] W fun e w' => e = .returned (.bool true) ∧ Below W.heap.size W w' := by
  by_cases h100 : 100 < n
  · exact law_InodeReads_a A n c (bs.take 100) W (Sl.ofTake hr0 (n := 100) (by omega) (by omega)) (by omega) h100
  · exact law_InodeReads_b A n c bs W (Sl.ofRB hr0 hn0 (by omega)) hc0 h100
theorem inoW_ino {k l s b0 b1 b2 b3 o0 o1 o2 o3 o4 o5 o6 o7 : Int} (h : mayI k l s [b0, b1, b2, b3] [o0, o1, o2, o3, o4, o5, o6, o7] = true) : inoW (inoB k l s [b0, b1, b2, b3] [o0, o1, o2, o3, o4, o5, o6, o7]) = .agg #[.int .i64 k, .int .i64 l, .int .i64 s, .int .i64 b0, .int .i64 b1, .int .i64 b2, .int .i64 b3, .int .i64 o0, .int .i64 o1, .int .i64 o2, .int .i64 o3, .int .i64 o4, .int .i64 o5, .int .i64 o6, .int .i64 o7] ∧ readIE (inoB k l s [b0, b1, b2, b3] [o0, o1, o2, o3, o4, o5, o6, o7]) = 0 := by
  have h1 := readIE_ino h
  refine ⟨?_, h1⟩
  by_cases hk : k = 0
  · have hz := mayI_zero (l := l) (s := s) (b0 := b0) (b1 := b1) (b2 := b2) (b3 := b3) (o0 := o0) (o1 := o1) (o2 := o2) (o3 := o3) (o4 := o4) (o5 := o5) (o6 := o6) (o7 := o7)
    subst hk
    rw [h] at hz
    have hz' := hz.symm
    simp only [Bool.and_eq_true, beq_iff_eq] at hz'
    obtain ⟨⟨⟨⟨⟨⟨⟨⟨⟨⟨⟨⟨⟨e1, e2⟩, e3⟩, e4⟩, e5⟩, e6⟩, e7⟩, e8⟩, e9⟩, e10⟩, e11⟩, e12⟩, e13⟩, e14⟩ := hz'
    subst e1 e2 e3 e4 e5 e6 e7 e8 e9 e10 e11 e12 e13 e14
    rw [inoW_no]
    rw [readIP, inoB, if_pos rfl]
    decide
  · have hg := ino_gets h hk
    obtain ⟨k0, k1, -⟩ := mayI_fits h
    have hp : readIP (inoB k l s [b0, b1, b2, b3] [o0, o1, o2, o3, o4, o5, o6, o7]) = true := by rw [readIP, h1, ino_not_none hk k0 k1 rfl rfl]; rfl
    have hb := hg.2.2.2.1
    have ho := hg.2.2.2.2
    simp only [iB, iO, List.cons.injEq, and_true] at hb ho
    rw [inoW_yes hp, hg.1, hg.2.1, hg.2.2.1, hb.1, hb.2.1, hb.2.2.1, hb.2.2.2, ho.1, ho.2.1, ho.2.2.1, ho.2.2.2.1, ho.2.2.2.2.1, ho.2.2.2.2.2.1, ho.2.2.2.2.2.2.1, ho.2.2.2.2.2.2.2]
theorem ino_back {z : List UInt8} {x0 x1 x2 x3 x4 x5 x6 x7 x8 x9 x10 x11 x12 x13 x14 : Int} (h : readIE z = 0) (hv : inoW z = .agg #[.int .i64 x0, .int .i64 x1, .int .i64 x2, .int .i64 x3, .int .i64 x4, .int .i64 x5, .int .i64 x6, .int .i64 x7, .int .i64 x8, .int .i64 x9, .int .i64 x10, .int .i64 x11, .int .i64 x12, .int .i64 x13, .int .i64 x14]) : 64 ≤ z.length ∧ mayI x0 x1 x2 [x3, x4, x5, x6] [x7, x8, x9, x10, x11, x12, x13, x14] = true ∧ inoB x0 x1 x2 [x3, x4, x5, x6] [x7, x8, x9, x10, x11, x12, x13, x14] = z.take 64 := by
  have hl : 64 ≤ z.length := by
    rcases Nat.lt_or_ge z.length 64 with hh | hh
    · rw [(readIE_short hh).1] at h; cases h
    · exact hh
  refine ⟨hl, ?_⟩
  cases hn : noneB z with
  | true =>
    rw [inoW_no (readIE_none hl hn).2] at hv
    simp at hv
    obtain ⟨e0, e1, e2, e3, e4, e5, e6, e7, e8, e9, e10, e11, e12, e13, e14⟩ := hv
    subst e0 e1 e2 e3 e4 e5 e6 e7 e8 e9 e10 e11 e12 e13 e14
    refine ⟨by decide, ?_⟩
    rw [noneB, decide_eq_true_iff] at hn
    rw [hn, inoB, if_pos rfl]
  | false =>
    have hp : readIP z = true := by rw [readIP, h, hn]; rfl
    rw [inoW_yes hp] at hv
    simp at hv
    obtain ⟨e0, e1, e2, e3, e4, e5, e6, e7, e8, e9, e10, e11, e12, e13, e14⟩ := hv
    subst e0 e1 e2 e3 e4 e5 e6 e7 e8 e9 e10 e11 e12 e13 e14
    have hs : sameI z = true := by
      unfold readIE at h
      rw [if_neg (by omega), hn, if_neg (by simp)] at h
      split at h
      · split at h
        · assumption
        · omega
      · omega
    simp only [sameI, Bool.and_eq_true, decide_eq_true_iff] at hs
    exact hs
end Go.Proofs.Ytpmmkchjdhaieaa
