/- The walks of the statements of layer 11. -/
import Derived.Test.YtpmmkchjdhaieaaInoRefPut
import Derived.Test.YtpmmkchjdhaieaaInoRefRead
import Derived.Test.YtpmmkchjdhaieaaRow
import Derived.Test.YtpmmkchjdhaieaaInoNeeds
namespace Go.Proofs.Ytpmmkchjdhaieaa
open Go.RowKit

theorem lives11 (w : World) : Calls Try.prog 13 #[] w fun e w' => e = .returned (.bool true) ∧ Grow w w' := by
  have HM := Lib.hid (show mayI 1 1 65 [3, 4, 0, 0] [0, 0, 0, 0, 0, 0, 0, 0] = true by decide)
  have H := Lib.hid (show (inoB 1 1 65 [3, 4, 0, 0] [0, 0, 0, 0, 0, 0, 0, 0]).take 8 = [1, 1, 65, 0, 3, 4, 0, 0] from rfl)
  go_enter Try.func13, Try.ntmps13
  go_wp2_with fail
  refine (inode_put_yes 1 1 65 3 4 0 0 0 0 0 0 0 0 0 0 HM.out _).mono ?_
  rintro e w1 ⟨A1, c1, rfl, hw1, g1⟩
  have hc := hw1.cap
  have K := (Blk.new w 25 [.int .i64 1, .int .i64 1, .int .i64 65, .int .i64 3, .int .i64 4, .int .i64 0, .int .i64 0, .int .i64 0, .int .i64 0, .int .i64 0, .int .i64 0, .int .i64 0, .int .i64 0, .int .i64 0, .int .i64 0] _ (0, 0) rfl).keep g1
  replace g1 := ((Grow.refl _).alloc _).trans g1
  go_wp2_with fail
  refine (same_yes ((hw1.sl.take (k := 8) (by omega)).alloc _) (Sl.lit w1 _ _ [1, 1, 65, 0, 3, 4, 0, 0] 8 rfl rfl (by omega)) H.out).mono ?_
  rintro e w2 ⟨rfl, q, rfl⟩
  replace K := K.keep ((Grow.refl w1).alloc (.cells (bvs [1, 1, 65, 0, 3, 4, 0, 0]).toArray 5))
  have z0 := K.2 0 _ rfl; have z1 := K.2 1 _ rfl; have z2 := K.2 2 _ rfl; have z3 := K.2 3 _ rfl; have z4 := K.2 4 _ rfl; have z5 := K.2 5 _ rfl; have z6 := K.2 6 _ rfl; have z7 := K.2 7 _ rfl; have z8 := K.2 8 _ rfl; have z9 := K.2 9 _ rfl; have z10 := K.2 10 _ rfl; have z11 := K.2 11 _ rfl; have z12 := K.2 12 _ rfl; have z13 := K.2 13 _ rfl; have z14 := K.2 14 _ rfl
  go_wp2_with fail
  refine (inode_needs 64 (by omega) (by omega) _).mono ?_
  rintro e w3 ⟨rfl, rfl⟩
  rw [show needN 64 = 1 from rfl]
  go_wp2_with fail
  refine (inode_needs 65 (by omega) (by omega) _).mono ?_
  rintro e w3 ⟨rfl, rfl⟩
  rw [show needN 65 = 2 from rfl]
  go_wp2_with fail
  clear z0 z1 z2 z3 z4 z5 z6 z7 z8 z9 z10 z11 z12 z13 z14
  refine (inode_may 1 1 65 3 4 0 0 0 0 0 0 0 0 0 0 _).mono ?_
  rintro e w3 ⟨rfl, g3⟩
  rw [HM.out]
  go_wp2_with fail
  go_ret
  exact ⟨rfl, ((g1.alloc _).drewN _).trans g3⟩

theorem sealed11 {A : Option Addr} {n c : Nat} {bs : List UInt8} {w : World} (hs : Sl w A n bs) (hc : n ≤ c) :
    Calls Try.prog 19 #[.slice A n c] w fun e w' => ∃ A' m c', e = .returned (.slice A' m c') ∧ Sl w' A' m (if n < 60 then bs else sumB (bs.take 60)) ∧ m ≤ c' ∧ Grow w w' := by
  by_cases h : n < 60
  · rw [if_pos h]
    go_enter Try.func19, Try.ntmps19
    go_wp2_with fail
    go_ret
    exact ⟨_, _, _, rfl, hs, hc, Grow.refl _⟩
  · rw [if_neg h]
    have hs60 := hs.take (k := 60) (by omega)
    go_enter Try.func19, Try.ntmps19
    go_wp2_with fail
    go_region_with (first
      | (go_at_call 23; refine (rsum_s (bs := bs.take 60) ?_).mono ?_; (first | exact hs60 | exact hs60.drew); rintro e w1 ⟨q, rfl, hq, hq1, rfl⟩)
      | (go_at_call 22; refine (rput_s (bs := bs.take 60) 64 ?_ ?_ ?_ rfl ?_).mono ?_; (first | exact hs60 | exact hs60.drew); (simp [fitsB]; omega); omega; omega; rintro e w2 ⟨A2, c2, rfl, hw2, g2⟩))
    all_goals
      replace g2 : Grow w w2 := (Grow.refl w).drew.trans g2
      go_wp2_with fail
      go_ret
      rw [show bs.take 60 ++ leB (q : Int).toNat (Int.toNat 4) = sumB (bs.take 60) by rw [sumB, ← hq.out]; rfl] at hw2
      exact ⟨_, _, _, rfl, hw2.sl, hw2.cap, g2⟩

set_option maxHeartbeats 1000000 in
theorem law_InodePuts_yes (k l s b0 b1 b2 b3 o0 o1 o2 o3 o4 o5 o6 o7 : Int) (W : World) (hm : mayI k l s [b0, b1, b2, b3] [o0, o1, o2, o3, o4, o5, o6, o7] = true) :
    Calls Try.prog 3 #[.agg #[.int .i64 k, .int .i64 l, .int .i64 s, .int .i64 b0, .int .i64 b1, .int .i64 b2, .int .i64 b3, .int .i64 o0, .int .i64 o1, .int .i64 o2, .int .i64 o3, .int .i64 o4, .int .i64 o5, .int .i64 o6, .int .i64 o7]] W fun e w' => e = .returned (.bool true) ∧ Below W.heap.size W w' := by
  have HM := Lib.hid hm
  clear hm
  go_enter Try.func3, Try.ntmps3
  go_wp2_with fail
  refine (inode_put_yes k l s b0 b1 b2 b3 o0 o1 o2 o3 o4 o5 o6 o7 HM.out _).mono ?_
  rintro e w1 ⟨A1, c1, rfl, hw1, g1⟩
  have K := (Blk.new W 25 [.int .i64 k, .int .i64 l, .int .i64 s, .int .i64 b0, .int .i64 b1, .int .i64 b2, .int .i64 b3, .int .i64 o0, .int .i64 o1, .int .i64 o2, .int .i64 o3, .int .i64 o4, .int .i64 o5, .int .i64 o6, .int .i64 o7] _ (0, 0) rfl).keep g1
  replace g1 := ((Grow.refl _).alloc _).trans g1
  have z0 := K.2 0 _ rfl; have z1 := K.2 1 _ rfl; have z2 := K.2 2 _ rfl; have z3 := K.2 3 _ rfl; have z4 := K.2 4 _ rfl; have z5 := K.2 5 _ rfl; have z6 := K.2 6 _ rfl; have z7 := K.2 7 _ rfl; have z8 := K.2 8 _ rfl; have z9 := K.2 9 _ rfl; have z10 := K.2 10 _ rfl; have z11 := K.2 11 _ rfl; have z12 := K.2 12 _ rfl; have z13 := K.2 13 _ rfl; have z14 := K.2 14 _ rfl
  go_wp2_with fail
  refine (ref11_put_yes k l s b0 b1 b2 b3 o0 o1 o2 o3 o4 o5 o6 o7 HM.out _).mono ?_
  rintro e w2 ⟨A2, c2, rfl, hw2, g2⟩
  replace K := K.keep g2
  clear z0 z1 z2 z3 z4 z5 z6 z7 z8 z9 z10 z11 z12 z13 z14
  go_wp2_with fail
  refine (same_yes (hw1.sl.keep g2) hw2.sl rfl).mono ?_
  rintro e w3 ⟨rfl, q, rfl⟩
  replace g2 := (g1.trans g2).drewN q
  clear g1 hw1 hw2
  have z0 := K.2 0 _ rfl; have z1 := K.2 1 _ rfl; have z2 := K.2 2 _ rfl; have z3 := K.2 3 _ rfl; have z4 := K.2 4 _ rfl; have z5 := K.2 5 _ rfl; have z6 := K.2 6 _ rfl; have z7 := K.2 7 _ rfl; have z8 := K.2 8 _ rfl; have z9 := K.2 9 _ rfl; have z10 := K.2 10 _ rfl; have z11 := K.2 11 _ rfl; have z12 := K.2 12 _ rfl; have z13 := K.2 13 _ rfl; have z14 := K.2 14 _ rfl
  go_wp2_with fail
  go_region_with (first
    | (go_at_call 11; refine (inode_may k l s b0 b1 b2 b3 o0 o1 o2 o3 o4 o5 o6 o7 _).mono ?_; rintro e w4 ⟨rfl, g4⟩; rw [HM.out]; (have y0 := g4.cell z0; have y1 := g4.cell z1; have y2 := g4.cell z2; have y3 := g4.cell z3; have y4 := g4.cell z4; have y5 := g4.cell z5; have y6 := g4.cell z6; have y7 := g4.cell z7; have y8 := g4.cell z8; have y9 := g4.cell z9; have y10 := g4.cell z10; have y11 := g4.cell z11; have y12 := g4.cell z12; have y13 := g4.cell z13; have y14 := g4.cell z14))
    | (go_at_call 12; refine (ref11_may k l s b0 b1 b2 b3 o0 o1 o2 o3 o4 o5 o6 o7 _).mono ?_; rintro e w5 ⟨rfl, g5⟩; rw [HM.out])
    | (go_at_call 13; refine (lives11 _).mono ?_; rintro e w6 ⟨rfl, g6⟩))
  all_goals
    clear z0 z1 z2 z3 z4 z5 z6 z7 z8 z9 z10 z11 z12 z13 z14
    clear y0 y1 y2 y3 y4 y5 y6 y7 y8 y9 y10 y11 y12 y13 y14
    go_wp2_with fail
    go_ret
    refine ⟨rfl, ?_⟩
    exact ((g2.drew.trans g4).trans g5).trans g6

set_option maxHeartbeats 1000000 in
theorem law_InodePuts_no (k l s b0 b1 b2 b3 o0 o1 o2 o3 o4 o5 o6 o7 : Int) (W : World) (hm : mayI k l s [b0, b1, b2, b3] [o0, o1, o2, o3, o4, o5, o6, o7] = false) :
    Calls Try.prog 3 #[.agg #[.int .i64 k, .int .i64 l, .int .i64 s, .int .i64 b0, .int .i64 b1, .int .i64 b2, .int .i64 b3, .int .i64 o0, .int .i64 o1, .int .i64 o2, .int .i64 o3, .int .i64 o4, .int .i64 o5, .int .i64 o6, .int .i64 o7]] W fun e w' => e = .returned (.bool true) ∧ Below W.heap.size W w' := by
  have HM := Lib.hid hm
  clear hm
  go_enter Try.func3, Try.ntmps3
  go_wp2_with fail
  refine (inode_put_no k l s b0 b1 b2 b3 o0 o1 o2 o3 o4 o5 o6 o7 HM.out _).mono ?_
  rintro e w1 ⟨rfl, g1⟩
  have K := (Blk.new W 25 [.int .i64 k, .int .i64 l, .int .i64 s, .int .i64 b0, .int .i64 b1, .int .i64 b2, .int .i64 b3, .int .i64 o0, .int .i64 o1, .int .i64 o2, .int .i64 o3, .int .i64 o4, .int .i64 o5, .int .i64 o6, .int .i64 o7] _ (0, 0) rfl).keep g1
  replace g1 := ((Grow.refl _).alloc _).trans g1
  have z0 := K.2 0 _ rfl; have z1 := K.2 1 _ rfl; have z2 := K.2 2 _ rfl; have z3 := K.2 3 _ rfl; have z4 := K.2 4 _ rfl; have z5 := K.2 5 _ rfl; have z6 := K.2 6 _ rfl; have z7 := K.2 7 _ rfl; have z8 := K.2 8 _ rfl; have z9 := K.2 9 _ rfl; have z10 := K.2 10 _ rfl; have z11 := K.2 11 _ rfl; have z12 := K.2 12 _ rfl; have z13 := K.2 13 _ rfl; have z14 := K.2 14 _ rfl
  go_wp2_with fail
  refine (ref11_put_no k l s b0 b1 b2 b3 o0 o1 o2 o3 o4 o5 o6 o7 HM.out _).mono ?_
  rintro e w2 ⟨rfl, g2⟩
  replace K := K.keep g2
  clear z0 z1 z2 z3 z4 z5 z6 z7 z8 z9 z10 z11 z12 z13 z14
  go_wp2_with fail
  refine (same_yes Sl.nil Sl.nil rfl).mono ?_
  rintro e w3 ⟨rfl, q, rfl⟩
  replace g2 := (g1.trans g2).drewN q
  clear g1
  have z0 := K.2 0 _ rfl; have z1 := K.2 1 _ rfl; have z2 := K.2 2 _ rfl; have z3 := K.2 3 _ rfl; have z4 := K.2 4 _ rfl; have z5 := K.2 5 _ rfl; have z6 := K.2 6 _ rfl; have z7 := K.2 7 _ rfl; have z8 := K.2 8 _ rfl; have z9 := K.2 9 _ rfl; have z10 := K.2 10 _ rfl; have z11 := K.2 11 _ rfl; have z12 := K.2 12 _ rfl; have z13 := K.2 13 _ rfl; have z14 := K.2 14 _ rfl
  go_wp2_with fail
  go_region_with (first
    | (go_at_call 11; refine (inode_may k l s b0 b1 b2 b3 o0 o1 o2 o3 o4 o5 o6 o7 _).mono ?_; rintro e w4 ⟨rfl, g4⟩; rw [HM.out]; (have y0 := g4.cell z0; have y1 := g4.cell z1; have y2 := g4.cell z2; have y3 := g4.cell z3; have y4 := g4.cell z4; have y5 := g4.cell z5; have y6 := g4.cell z6; have y7 := g4.cell z7; have y8 := g4.cell z8; have y9 := g4.cell z9; have y10 := g4.cell z10; have y11 := g4.cell z11; have y12 := g4.cell z12; have y13 := g4.cell z13; have y14 := g4.cell z14))
    | (go_at_call 12; refine (ref11_may k l s b0 b1 b2 b3 o0 o1 o2 o3 o4 o5 o6 o7 _).mono ?_; rintro e w5 ⟨rfl, g5⟩; rw [HM.out])
    | (go_at_call 13; refine (lives11 _).mono ?_; rintro e w6 ⟨rfl, g6⟩))
  all_goals
    clear z0 z1 z2 z3 z4 z5 z6 z7 z8 z9 z10 z11 z12 z13 z14
    clear y0 y1 y2 y3 y4 y5 y6 y7 y8 y9 y10 y11 y12 y13 y14
    go_wp2_with fail
    go_ret
    refine ⟨rfl, ?_⟩
    exact ((g2.drew.trans g4).trans g5).trans g6

theorem law_InodePuts (k l s b0 b1 b2 b3 o0 o1 o2 o3 o4 o5 o6 o7 : Int) (W : World) :
    Calls Try.prog 3 #[.agg #[.int .i64 k, .int .i64 l, .int .i64 s, .int .i64 b0, .int .i64 b1, .int .i64 b2, .int .i64 b3, .int .i64 o0, .int .i64 o1, .int .i64 o2, .int .i64 o3, .int .i64 o4, .int .i64 o5, .int .i64 o6, .int .i64 o7]] W fun e w' => e = .returned (.bool true) ∧ Below W.heap.size W w' := by
  cases hm : mayI k l s [b0, b1, b2, b3] [o0, o1, o2, o3, o4, o5, o6, o7] with
  | true => exact law_InodePuts_yes k l s b0 b1 b2 b3 o0 o1 o2 o3 o4 o5 o6 o7 W hm
  | false => exact law_InodePuts_no k l s b0 b1 b2 b3 o0 o1 o2 o3 o4 o5 o6 o7 W hm

theorem law_InodeNeeds (n k l s b0 b1 b2 b3 o0 o1 o2 o3 o4 o5 o6 o7 : Int) (h0 : -9223372036854775808 ≤ n) (h1 : n ≤ 9223372036854775807) (W : World) :
    Calls Try.prog 4 #[.int .i64 n, .agg #[.int .i64 k, .int .i64 l, .int .i64 s, .int .i64 b0, .int .i64 b1, .int .i64 b2, .int .i64 b3, .int .i64 o0, .int .i64 o1, .int .i64 o2, .int .i64 o3, .int .i64 o4, .int .i64 o5, .int .i64 o6, .int .i64 o7]] W fun e w' => e = .returned (.bool true) ∧ Below W.heap.size W w' := by
  have K := Blk.new W 25 [.int .i64 k, .int .i64 l, .int .i64 s, .int .i64 b0, .int .i64 b1, .int .i64 b2, .int .i64 b3, .int .i64 o0, .int .i64 o1, .int .i64 o2, .int .i64 o3, .int .i64 o4, .int .i64 o5, .int .i64 o6, .int .i64 o7] _ (0, 0) rfl
  have hle : n ≤ 60000000 ∨ 60000000 < n := by omega
  rcases hle with hle | hle
  all_goals
    go_enter Try.func4, Try.ntmps4
    go_wp2_with fail
    refine (inode_needs n h0 h1 _).mono ?_
    rintro e w1 ⟨rfl, rfl⟩
    go_wp2_with (go_at_call 15; refine (ref11_needs n hle h0 _).mono ?_; rintro e w1 ⟨rfl, rfl⟩)
    go_loop [6, 7] (fun v i => ∃ m : Nat, m ≤ 8 ∧ i = .int .i64 m ∧ v = .int .i64 (sumW [o0, o1, o2, o3, o4, o5, o6, o7] m)) (fun _ i => 8 - (intOf i).toNat)
    case atStart => exact ⟨0, Nat.zero_le _, rfl, rfl⟩
    case round =>
      obtain ⟨m, hm, rfl, rfl⟩ := hrel
      by_cases hlt : m < 8
      · have cn := K.2 _ _ (ino_at7 hlt)
        obtain ⟨z, hz⟩ : ∃ z, z = sumW [o0, o1, o2, o3, o4, o5, o6, o7] m := ⟨_, rfl⟩
        obtain ⟨y, hy⟩ : ∃ y, y = [o0, o1, o2, o3, o4, o5, o6, o7].getD m 0 := ⟨_, rfl⟩
        rw [← hz]
        rw [← hy] at cn
        have HZ := Lib.hid hz
        have HY := Lib.hid hy
        clear hz hy
        go_wp2_with fail
        go_round
        case rel => first | exact ⟨m + 1, by omega, by go_num, by rw [sumW, ← HZ.out, ← HY.out]⟩ | ((repeat apply Exists.intro); exact ⟨⟨m + 1, by omega, by go_num, by rw [sumW, ← HZ.out, ← HY.out]⟩, rfl⟩)
        case measure => simp [intOf]; omega
      · obtain rfl : m = 8 := by omega
        obtain ⟨z, hz⟩ : ∃ z, z = sumW [o0, o1, o2, o3, o4, o5, o6, o7] 8 := ⟨_, rfl⟩
        rw [← hz]
        have HZ := Lib.hid hz
        clear hz
        go_wp2_with fail
        refine (inode_open k l s b0 b1 b2 b3 o0 o1 o2 o3 o4 o5 o6 o7 _).mono ?_
        rintro e w2 ⟨rfl, g2⟩
        rw [← HZ.out]
        go_wp2_with fail
        refine (lives11 _).mono ?_
        rintro e w3 ⟨rfl, g3⟩
        go_wp2_with fail
        go_ret
        exact ⟨rfl, (((Grow.refl _).alloc _).trans g2).trans g3⟩
end Go.Proofs.Ytpmmkchjdhaieaa
