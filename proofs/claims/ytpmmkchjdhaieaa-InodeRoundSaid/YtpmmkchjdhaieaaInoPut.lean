/- inode.Put. -/
import Derived.Test.YtpmmkchjdhaieaaInoMay2
import Derived.Test.YtpmmkchjdhaieaaMake
namespace Go.Proofs.Ytpmmkchjdhaieaa
open Go.RowKit

theorem ones_next {l : List Int} {n : Nat} (h : n < l.length) : ones (l.take (n + 1)) = ones (l.take n) ++ leB (l.getD n 0).toNat 1 := by
  rw [take_next l n h, ones, List.map_append]
  rfl

theorem inode_put_no (k l s b0 b1 b2 b3 o0 o1 o2 o3 o4 o5 o6 o7 : Int) (hm : mayI k l s [b0, b1, b2, b3] [o0, o1, o2, o3, o4, o5, o6, o7] = false) (w : World) : Calls Try.prog 8 #[.agg #[.int .i64 k, .int .i64 l, .int .i64 s, .int .i64 b0, .int .i64 b1, .int .i64 b2, .int .i64 b3, .int .i64 o0, .int .i64 o1, .int .i64 o2, .int .i64 o3, .int .i64 o4, .int .i64 o5, .int .i64 o6, .int .i64 o7]] w fun e w' => e = .returned (.tuple #[.slice none 0 0, .int .i64 1]) ∧ Grow w w' := by
  have HM := Lib.hid hm
  clear hm
  go_enter Try.func8, Try.ntmps8
  go_wp2_with fail
  refine (inode_may k l s b0 b1 b2 b3 o0 o1 o2 o3 o4 o5 o6 o7 _).mono ?_
  rintro e w1 ⟨rfl, g1⟩
  rw [HM.out]
  go_wp2_with fail
  go_ret2
  exact ⟨rfl, ((Grow.refl _).alloc _).trans g1⟩

set_option maxHeartbeats 1000000 in
theorem inode_put_yes (k l s b0 b1 b2 b3 o0 o1 o2 o3 o4 o5 o6 o7 : Int) (hm : mayI k l s [b0, b1, b2, b3] [o0, o1, o2, o3, o4, o5, o6, o7] = true) (w : World) : Calls Try.prog 8 #[.agg #[.int .i64 k, .int .i64 l, .int .i64 s, .int .i64 b0, .int .i64 b1, .int .i64 b2, .int .i64 b3, .int .i64 o0, .int .i64 o1, .int .i64 o2, .int .i64 o3, .int .i64 o4, .int .i64 o5, .int .i64 o6, .int .i64 o7]] w fun e w' => ∃ A c, e = .returned (.tuple #[.slice A 64 c, .int .i64 0]) ∧ Own w' w.heap.size A 64 c (inoB k l s [b0, b1, b2, b3] [o0, o1, o2, o3, o4, o5, o6, o7]) ∧ Grow w w' := by
  obtain ⟨p0, p1, p2, p3, p4, p5, hb, ho⟩ := mayI_fits hm
  have HM := Lib.hid hm
  have HB := Lib.hid hb
  have HO := Lib.hid ho
  clear hm hb ho
  by_cases h0 : k = 0
  · have hk : (k == 0) = true := by rw [beq_iff_eq]; exact h0
    have HZ := Lib.hid h0
    clear h0
    go_enter Try.func8, Try.ntmps8
    go_wp2_with fail
    refine (inode_may k l s b0 b1 b2 b3 o0 o1 o2 o3 o4 o5 o6 o7 _).mono ?_
    rintro e w1 ⟨rfl, g1⟩
    rw [HM.out]
    have K1 := (Blk.new w 25 [.int .i64 k, .int .i64 l, .int .i64 s, .int .i64 b0, .int .i64 b1, .int .i64 b2, .int .i64 b3, .int .i64 o0, .int .i64 o1, .int .i64 o2, .int .i64 o3, .int .i64 o4, .int .i64 o5, .int .i64 o6, .int .i64 o7] _ (0, 0) rfl).keep g1
    replace g1 := ((Grow.refl _).alloc _).trans g1
    have z0 := K1.2 0 _ rfl; have z1 := K1.2 1 _ rfl; have z2 := K1.2 2 _ rfl; have z3 := K1.2 3 _ rfl; have z4 := K1.2 4 _ rfl; have z5 := K1.2 5 _ rfl; have z6 := K1.2 6 _ rfl; have z7 := K1.2 7 _ rfl; have z8 := K1.2 8 _ rfl; have z9 := K1.2 9 _ rfl; have z10 := K1.2 10 _ rfl; have z11 := K1.2 11 _ rfl; have z12 := K1.2 12 _ rfl; have z13 := K1.2 13 _ rfl; have z14 := K1.2 14 _ rfl
    clear K1
    go_wp2_with (refine wpList_makeB rfl _ _ rfl w.heap.size 64 64 64 rfl rfl rfl rfl (by omega) g1.size ?_; intro w2 ho2 hb2 _)
    clear z0 z1 z2 z3 z4 z5 z6 z7 z8 z9 z10 z11 z12 z13 z14
    go_ret2
    refine ⟨_, _, rfl, ⟨?_, by omega, ?_⟩, g1.low hb2⟩
    · rw [inoB, if_pos HZ.out]; simp
    · rw [inoB, if_pos HZ.out]; exact ho2
  · have hk : (k == 0) = false := by rw [beq_eq_false_iff_ne]; exact h0
    have HZ := Lib.hid h0
    clear h0
    go_enter Try.func8, Try.ntmps8
    go_wp2_with fail
    refine (inode_may k l s b0 b1 b2 b3 o0 o1 o2 o3 o4 o5 o6 o7 _).mono ?_
    rintro e w1 ⟨rfl, g1⟩
    rw [HM.out]
    have K := (Blk.new w 25 [.int .i64 k, .int .i64 l, .int .i64 s, .int .i64 b0, .int .i64 b1, .int .i64 b2, .int .i64 b3, .int .i64 o0, .int .i64 o1, .int .i64 o2, .int .i64 o3, .int .i64 o4, .int .i64 o5, .int .i64 o6, .int .i64 o7] _ (0, 0) rfl).keep g1
    replace g1 := ((Grow.refl _).alloc _).trans g1
    have z0 := K.2 0 _ rfl; have z1 := K.2 1 _ rfl; have z2 := K.2 2 _ rfl; have z3 := K.2 3 _ rfl; have z4 := K.2 4 _ rfl; have z5 := K.2 5 _ rfl; have z6 := K.2 6 _ rfl; have z7 := K.2 7 _ rfl; have z8 := K.2 8 _ rfl; have z9 := K.2 9 _ rfl; have z10 := K.2 10 _ rfl; have z11 := K.2 11 _ rfl; have z12 := K.2 12 _ rfl; have z13 := K.2 13 _ rfl; have z14 := K.2 14 _ rfl
    go_wp2_with fail
    refine (put_s 1 Sl.nil (by simp [fitsB]; omega) (by omega) rfl (by omega)).mono ?_
    rintro e w2 ⟨A2, c2, rfl, hw2, g2⟩
    replace K := K.keep g2
    replace g2 := g1.trans g2
    clear z0 z1 z2 z3 z4 z5 z6 z7 z8 z9 z10 z11 z12 z13 z14
    clear g1
    have z0 := K.2 0 _ rfl; have z1 := K.2 1 _ rfl; have z2 := K.2 2 _ rfl; have z3 := K.2 3 _ rfl; have z4 := K.2 4 _ rfl; have z5 := K.2 5 _ rfl; have z6 := K.2 6 _ rfl; have z7 := K.2 7 _ rfl; have z8 := K.2 8 _ rfl; have z9 := K.2 9 _ rfl; have z10 := K.2 10 _ rfl; have z11 := K.2 11 _ rfl; have z12 := K.2 12 _ rfl; have z13 := K.2 13 _ rfl; have z14 := K.2 14 _ rfl
    go_wp2_with fail
    refine (put_s 2 hw2.sl (by simp [fitsB]; omega) (by omega) rfl (by omega)).mono ?_
    rintro e w3 ⟨A3, c3, rfl, hw3, g3⟩
    replace K := K.keep g3
    replace g3 := g2.trans g3
    clear z0 z1 z2 z3 z4 z5 z6 z7 z8 z9 z10 z11 z12 z13 z14
    clear g2 hw2
    have z0 := K.2 0 _ rfl; have z1 := K.2 1 _ rfl; have z2 := K.2 2 _ rfl; have z3 := K.2 3 _ rfl; have z4 := K.2 4 _ rfl; have z5 := K.2 5 _ rfl; have z6 := K.2 6 _ rfl; have z7 := K.2 7 _ rfl; have z8 := K.2 8 _ rfl; have z9 := K.2 9 _ rfl; have z10 := K.2 10 _ rfl; have z11 := K.2 11 _ rfl; have z12 := K.2 12 _ rfl; have z13 := K.2 13 _ rfl; have z14 := K.2 14 _ rfl
    go_wp2_with fail
    refine (put_s 4 hw3.sl (by simp [fitsB]; omega) (by omega) rfl (by omega)).mono ?_
    rintro e w4 ⟨A4, c4, rfl, hw4, g4⟩
    replace K := K.keep g4
    replace hw4 := hw4.low g3.size
    replace g4 := g3.trans g4
    clear z0 z1 z2 z3 z4 z5 z6 z7 z8 z9 z10 z11 z12 z13 z14
    clear g3 hw3
    obtain ⟨pre, hpre⟩ : ∃ pre, pre = [] ++ leB k.toNat (Int.toNat 1) ++ leB l.toNat (Int.toNat 1) ++ leB s.toNat (Int.toNat 2) := ⟨_, rfl⟩
    rw [← hpre] at hw4
    have HP := Lib.hid hpre
    clear hpre
    have z0 := K.2 0 _ rfl; have z1 := K.2 1 _ rfl; have z2 := K.2 2 _ rfl; have z3 := K.2 3 _ rfl; have z4 := K.2 4 _ rfl; have z5 := K.2 5 _ rfl; have z6 := K.2 6 _ rfl; have z7 := K.2 7 _ rfl; have z8 := K.2 8 _ rfl; have z9 := K.2 9 _ rfl; have z10 := K.2 10 _ rfl; have z11 := K.2 11 _ rfl; have z12 := K.2 12 _ rfl; have z13 := K.2 13 _ rfl; have z14 := K.2 14 _ rfl
    go_wp2_with fail
    clear z0 z1 z2 z3 z4 z5 z6 z7 z8 z9 z10 z11 z12 z13 z14
    go_loopw [4, 29] (fun v i wr => ∃ n : Nat, n ≤ 4 ∧ i = .int .i64 n ∧ (∃ A' c' m', m' = 4 + n ∧ v = .slice A' m' c' ∧ Own wr w.heap.size A' m' c' (pre ++ ones ([b0, b1, b2, b3].take n))) ∧ Blk wr w.heap.size [.int .i64 k, .int .i64 l, .int .i64 s, .int .i64 b0, .int .i64 b1, .int .i64 b2, .int .i64 b3, .int .i64 o0, .int .i64 o1, .int .i64 o2, .int .i64 o3, .int .i64 o4, .int .i64 o5, .int .i64 o6, .int .i64 o7] ∧ Grow w wr) (fun _ i _ => 4 - (intOf i).toNat)
    case atStart => exact ⟨0, Nat.zero_le _, rfl, ⟨A4, c4, 4, rfl, rfl, by simpa [ones] using hw4⟩, K, g4⟩
    case round =>
      obtain ⟨n, hn, rfl, ⟨A', c', m', hm', rfl, hw⟩, K, g⟩ := hrel
      have HM' := Lib.hid hm'
      clear hm'
      by_cases hlt : n < 4
      · have hi := idx4 b0 b1 b2 b3 n hlt
        have hr := HB.out n hlt
        have hnx := ones_next (l := [b0, b1, b2, b3]) (n := n) hlt
        obtain ⟨b, hb⟩ : ∃ b, b = [b0, b1, b2, b3].getD n 0 := ⟨_, rfl⟩
        rw [← hb] at hi hr hnx
        have HNX := Lib.hid hnx
        clear hb hnx
        obtain ⟨hr0, hr1⟩ := hr
        go_wp2_with fail
        refine (put_s (m' + 1) hw.sl (by simp [fitsB]; omega) (by omega) rfl (by have := HM'.out; omega)).mono ?_
        rintro e w5 ⟨A5, c5, rfl, hw5, g5⟩
        rw [List.append_assoc, show leB b.toNat (Int.toNat 1) = leB b.toNat 1 from rfl, ← HNX.out] at hw5
        go_wp2_with fail
        go_roundw
        case rel => exact ⟨n + 1, by omega, by go_num, ⟨A5, c5, m' + 1, by rw [HM'.out]; rfl, rfl, hw5.low g.size⟩, K.keep g5, g.trans g5⟩
        case measure => simp [intOf]; omega
      · obtain rfl : n = 4 := by omega
        obtain rfl : m' = 8 := HM'.out
        have z0 := K.2 0 _ rfl; have z1 := K.2 1 _ rfl; have z2 := K.2 2 _ rfl; have z3 := K.2 3 _ rfl; have z4 := K.2 4 _ rfl; have z5 := K.2 5 _ rfl; have z6 := K.2 6 _ rfl; have z7 := K.2 7 _ rfl; have z8 := K.2 8 _ rfl; have z9 := K.2 9 _ rfl; have z10 := K.2 10 _ rfl; have z11 := K.2 11 _ rfl; have z12 := K.2 12 _ rfl; have z13 := K.2 13 _ rfl; have z14 := K.2 14 _ rfl
        go_wp2_with fail
        clear z0 z1 z2 z3 z4 z5 z6 z7 z8 z9 z10 z11 z12 z13 z14
        obtain ⟨pre2, hpre2⟩ : ∃ q, q = pre ++ ones ([b0, b1, b2, b3].take 4) := ⟨_, rfl⟩
        rw [← hpre2] at hw
        have HP2 := Lib.hid hpre2
        clear hpre2 K
        go_loopw [4, 38] (fun v i wr => ∃ n : Nat, n ≤ 8 ∧ i = .int .i64 n ∧ (∃ A' c' m', m' = 8 + n ∧ v = .slice A' m' c' ∧ Own wr w.heap.size A' m' c' (pre2 ++ ones ([o0, o1, o2, o3, o4, o5, o6, o7].take n))) ∧ Grow w wr) (fun _ i _ => 8 - (intOf i).toNat)
        case atStart => exact ⟨0, Nat.zero_le _, rfl, ⟨A', c', 8, rfl, rfl, by simpa [ones] using hw⟩, g⟩
        case round =>
          obtain ⟨n, hn, rfl, ⟨A', c', m', hm', rfl, hw⟩, g⟩ := hrel
          have HM' := Lib.hid hm'
          clear hm'
          by_cases hlt : n < 8
          · have hi := idx8 o0 o1 o2 o3 o4 o5 o6 o7 n hlt
            have hr := HO.out n hlt
            have hnx := ones_next (l := [o0, o1, o2, o3, o4, o5, o6, o7]) (n := n) hlt
            obtain ⟨b, hb⟩ : ∃ b, b = [o0, o1, o2, o3, o4, o5, o6, o7].getD n 0 := ⟨_, rfl⟩
            rw [← hb] at hi hr hnx
            have HNX := Lib.hid hnx
            clear hb hnx
            obtain ⟨hr0, hr1⟩ := hr
            go_wp2_with fail
            refine (put_s (m' + 1) hw.sl (by simp [fitsB]; omega) (by omega) rfl (by have := HM'.out; omega)).mono ?_
            rintro e w5 ⟨A5, c5, rfl, hw5, g5⟩
            rw [List.append_assoc, show leB b.toNat (Int.toNat 1) = leB b.toNat 1 from rfl, ← HNX.out] at hw5
            go_wp2_with fail
            go_roundw
            case rel => exact ⟨n + 1, by omega, by go_num, ⟨A5, c5, m' + 1, by rw [HM'.out]; rfl, rfl, hw5.low g.size⟩, g.trans g5⟩
            case measure => simp [intOf]; omega
          · obtain rfl : n = 8 := by omega
            obtain rfl : m' = 16 := HM'.out
            have e16 : pre2 ++ ones ([o0, o1, o2, o3, o4, o5, o6, o7].take 8) = ino16 k l s [b0, b1, b2, b3] [o0, o1, o2, o3, o4, o5, o6, o7] := by
              rw [HP2.out, HP.out]
              simp [ino16, ones, leB]
            rw [e16] at hw
            have HW := Lib.hid hw
            have hz := g.size
            clear hw e16
            go_wp2_with (at_builtin; refine wpList_appZ rfl (.tmp 45) (.tmp 48) rfl w.heap.size _ _ rfl HW.out.2.2 44 _ (by rfl) rfl (by rw [HW.out.1]; omega) hz ?_; intro v6 w6 hown6 hb6)
            obtain ⟨A6, c6, rfl, hw6⟩ := Own.ofOB hown6 60 (by rw [List.length_append, HW.out.1]; simp) (by omega)
            have e60 : ino16 k l s [b0, b1, b2, b3] [o0, o1, o2, o3, o4, o5, o6, o7] ++ List.replicate 44 0 = fill60 (ino16 k l s [b0, b1, b2, b3] [o0, o1, o2, o3, o4, o5, o6, o7]) := by rw [fill60, HW.out.1]
            rw [e60] at hw6
            replace g6 := g.low hb6
            clear hown6 hb6 e60 g
            refine (sum_s hw6.sl).mono ?_
            rintro e w7 ⟨q, rfl, hq, hq1, g7⟩
            go_wp2_with fail
            refine (put_s 64 (hw6.sl.keep g7) (by simp [fitsB]; omega) (by omega) rfl (by omega)).mono ?_
            rintro e w8 ⟨A8, c8, rfl, hw8, g8⟩
            go_wp2_with fail
            go_ret2
            have h3 : fill60 (ino16 k l s [b0, b1, b2, b3] [o0, o1, o2, o3, o4, o5, o6, o7]) ++ leB ((q : Int).toNat) (Int.toNat 4) = inoB k l s [b0, b1, b2, b3] [o0, o1, o2, o3, o4, o5, o6, o7] := by rw [inoB, if_neg HZ.out, sealB, sumB, ← hq.out]; rfl
            rw [h3] at hw8
            exact ⟨_, _, rfl, hw8.low (Nat.le_trans g6.size g7.size), (g6.trans g7).trans g8⟩
end Go.Proofs.Ytpmmkchjdhaieaa
