/- The reference's Put of inodes. -/
import Derived.Test.YtpmmkchjdhaieaaInoRefMay
import Derived.Test.YtpmmkchjdhaieaaInoPut
namespace Go.Proofs.Ytpmmkchjdhaieaa
open Go.RowKit

theorem ref11_put_no (k l s b0 b1 b2 b3 o0 o1 o2 o3 o4 o5 o6 o7 : Int) (hm : mayI k l s [b0, b1, b2, b3] [o0, o1, o2, o3, o4, o5, o6, o7] = false) (w : World) : Calls Try.prog 9 #[.agg #[.int .i64 k, .int .i64 l, .int .i64 s, .int .i64 b0, .int .i64 b1, .int .i64 b2, .int .i64 b3, .int .i64 o0, .int .i64 o1, .int .i64 o2, .int .i64 o3, .int .i64 o4, .int .i64 o5, .int .i64 o6, .int .i64 o7]] w fun e w' => e = .returned (.tuple #[.slice none 0 0, .int .i64 1]) ∧ Grow w w' := by
  have HM := Lib.hid hm
  clear hm
  go_enter Try.func9, Try.ntmps9
  go_wp2_with fail
  refine (ref11_may k l s b0 b1 b2 b3 o0 o1 o2 o3 o4 o5 o6 o7 _).mono ?_
  rintro e w1 ⟨rfl, g1⟩
  rw [HM.out]
  go_wp2_with fail
  go_ret2
  exact ⟨rfl, ((Grow.refl _).alloc _).trans g1⟩

set_option maxHeartbeats 2000000 in
theorem ref11_put_yes (k l s b0 b1 b2 b3 o0 o1 o2 o3 o4 o5 o6 o7 : Int) (hm : mayI k l s [b0, b1, b2, b3] [o0, o1, o2, o3, o4, o5, o6, o7] = true) (w : World) : Calls Try.prog 9 #[.agg #[.int .i64 k, .int .i64 l, .int .i64 s, .int .i64 b0, .int .i64 b1, .int .i64 b2, .int .i64 b3, .int .i64 o0, .int .i64 o1, .int .i64 o2, .int .i64 o3, .int .i64 o4, .int .i64 o5, .int .i64 o6, .int .i64 o7]] w fun e w' => ∃ A c, e = .returned (.tuple #[.slice A 64 c, .int .i64 0]) ∧ Own w' w.heap.size A 64 c (inoB k l s [b0, b1, b2, b3] [o0, o1, o2, o3, o4, o5, o6, o7]) ∧ Grow w w' := by
  obtain ⟨p0, p1, p2, p3, p4, p5, hb, ho⟩ := mayI_fits hm
  have HM := Lib.hid hm
  have HB := Lib.hid hb
  have HO := Lib.hid ho
  clear hm hb ho
  go_enter Try.func9, Try.ntmps9
  go_wp2_with fail
  refine (ref11_may k l s b0 b1 b2 b3 o0 o1 o2 o3 o4 o5 o6 o7 _).mono ?_
  rintro e w1 ⟨rfl, g1⟩
  rw [HM.out]
  have K := (Blk.new w 25 [.int .i64 k, .int .i64 l, .int .i64 s, .int .i64 b0, .int .i64 b1, .int .i64 b2, .int .i64 b3, .int .i64 o0, .int .i64 o1, .int .i64 o2, .int .i64 o3, .int .i64 o4, .int .i64 o5, .int .i64 o6, .int .i64 o7] _ (0, 0) rfl).keep g1
  replace g1 := ((Grow.refl _).alloc _).trans g1
  have c0 := K.2 0 _ rfl
  have c1 := K.2 1 _ rfl
  have c2 := K.2 2 _ rfl
  have hzz := K.1
  go_wp2_with fail
  clear c0 c1 c2
  obtain ⟨pre, hpre⟩ : ∃ pre, pre = ones [k, l] ++ leB s.toNat 2 := ⟨_, rfl⟩
  have HP := Lib.hid hpre
  have hw : Own (w1.alloc (.cells #[.int .u8 k, .int .u8 l, .int .u8 (s % 256), .int .u8 (s / 256)] 5)) (w.heap.size + 1) (some ⟨w1.heap.size, 0, none⟩) 4 4 pre := by
    refine Own.lit w1 _ pre 4 _ (by rw [hpre]; rfl) ?_ (by omega) hzz
    rw [hpre]
    simp [ones, leB, bvs, bv]
    omega
  replace K := K.keep ((Grow.refl w1).alloc (.cells #[.int .u8 k, .int .u8 l, .int .u8 (s % 256), .int .u8 (s / 256)] 5))
  have hbw : Below (w.heap.size + 1) w1 (w1.alloc (.cells #[.int .u8 k, .int .u8 l, .int .u8 (s % 256), .int .u8 (s / 256)] 5)) := (Below.refl _ _).alloc hzz _
  clear hpre
  go_loopw [5, 6] (fun v i wr => ∃ n : Nat, n ≤ 4 ∧ i = .int .i64 n ∧ (∃ A' c' m', m' = 4 + n ∧ v = .slice A' m' c' ∧ Own wr (w.heap.size + 1) A' m' c' (pre ++ ones ([b0, b1, b2, b3].take n))) ∧ Blk wr w.heap.size [.int .i64 k, .int .i64 l, .int .i64 s, .int .i64 b0, .int .i64 b1, .int .i64 b2, .int .i64 b3, .int .i64 o0, .int .i64 o1, .int .i64 o2, .int .i64 o3, .int .i64 o4, .int .i64 o5, .int .i64 o6, .int .i64 o7] ∧ Below (w.heap.size + 1) w1 wr) (fun _ i _ => 4 - (intOf i).toNat)
  case atStart => exact ⟨0, Nat.zero_le _, rfl, ⟨_, _, 4, rfl, rfl, by simpa [ones] using hw⟩, K, hbw⟩
  case round =>
    clear K hw
    obtain ⟨n, hn, rfl, ⟨A', c', m', hm', rfl, hw⟩, K, hb⟩ := hrel
    have HM' := Lib.hid hm'
    have hz1 := K.1
    clear hm'
    by_cases hlt : n < 4
    · have cn := K.2 _ _ (ino_at3 hlt)
      have hr := HB.out n hlt
      have hnx := ones_next (l := [b0, b1, b2, b3]) (n := n) hlt
      obtain ⟨b, hb1⟩ : ∃ b, b = [b0, b1, b2, b3].getD n 0 := ⟨_, rfl⟩
      rw [← hb1] at cn hr hnx
      have HNX := Lib.hid hnx
      obtain ⟨hr0, hr1⟩ := hr
      have HU := Lib.hid (byte_int b hr0 (by omega))
      have HW := Lib.hid hw
      clear hb1 hnx hw
      go_wp2_with (at_builtin; refine wpList_app1 rfl (.tmp 31) (.tmp 37) rfl (w.heap.size + 1) _ _ rfl _ rfl HW.out.2.2 _ HU.out (by rw [HW.out.1]; have := HM'.out; omega) hz1 ?_; intro v9 w9 hown9 hb9)
      rw [List.append_assoc, show [UInt8.ofNat (b.toNat % 256)] = leB b.toNat 1 from rfl, ← HNX.out] at hown9
      obtain ⟨A9, c9, rfl, hw9⟩ := Own.ofOB hown9 (m' + 1) (by have := HW.out.1; have := HNX.out; rw [HNX.out, ← List.append_assoc, List.length_append, HW.out.1]; rfl) (by have := HM'.out; omega)
      have HK := Lib.hid (K.below hb9 (by omega))
      have HBB := Lib.hid (hb.trans hb9)
      clear K hown9 hb9 hb
      go_roundw
      case rel => exact ⟨n + 1, by omega, by go_num, ⟨A9, c9, m' + 1, by rw [HM'.out]; rfl, rfl, hw9⟩, HK.out, HBB.out⟩
      case measure => simp [intOf]; omega
    · obtain rfl : n = 4 := by omega
      obtain rfl : m' = 8 := HM'.out
      go_wp2_with fail
      obtain ⟨wo1, rfl⟩ : ∃ wo : World, wo = wr := ⟨_, rfl⟩
      go_loopw [5, 7] (fun v i wr => ∃ n : Nat, n ≤ 8 ∧ i = .int .i64 n ∧ (∃ A' c' m', m' = 8 + n ∧ v = .slice A' m' c' ∧ Own wr (w.heap.size + 1) A' m' c' ((pre ++ ones ([b0, b1, b2, b3].take 4)) ++ ones ([o0, o1, o2, o3, o4, o5, o6, o7].take n))) ∧ Blk wr w.heap.size [.int .i64 k, .int .i64 l, .int .i64 s, .int .i64 b0, .int .i64 b1, .int .i64 b2, .int .i64 b3, .int .i64 o0, .int .i64 o1, .int .i64 o2, .int .i64 o3, .int .i64 o4, .int .i64 o5, .int .i64 o6, .int .i64 o7] ∧ Below (w.heap.size + 1) w1 wr) (fun _ i _ => 8 - (intOf i).toNat)
      case atStart => exact ⟨0, Nat.zero_le _, rfl, ⟨_, _, 8, rfl, rfl, by simpa [ones] using hw⟩, K, hb⟩
      case round =>
        clear K hw
        obtain ⟨n, hn, rfl, ⟨A', c', m', hm', rfl, hw⟩, K, hb⟩ := hrel
        have HM' := Lib.hid hm'
        have hz1 := K.1
        clear hm'
        by_cases hlt : n < 8
        · have cn := K.2 _ _ (ino_at7 hlt)
          have hr := HO.out n hlt
          have hnx := ones_next (l := [o0, o1, o2, o3, o4, o5, o6, o7]) (n := n) hlt
          obtain ⟨b, hb1⟩ : ∃ b, b = [o0, o1, o2, o3, o4, o5, o6, o7].getD n 0 := ⟨_, rfl⟩
          rw [← hb1] at cn hr hnx
          have HNX := Lib.hid hnx
          obtain ⟨hr0, hr1⟩ := hr
          have HU := Lib.hid (byte_int b hr0 (by omega))
          have HW := Lib.hid hw
          clear hb1 hnx hw
          go_wp2_with (at_builtin; refine wpList_app1 rfl (.tmp 43) (.tmp 49) rfl (w.heap.size + 1) _ _ rfl _ rfl HW.out.2.2 _ HU.out (by rw [HW.out.1]; have := HM'.out; omega) hz1 ?_; intro v9 w9 hown9 hb9)
          rw [List.append_assoc, show [UInt8.ofNat (b.toNat % 256)] = leB b.toNat 1 from rfl, ← HNX.out] at hown9
          obtain ⟨A9, c9, rfl, hw9⟩ := Own.ofOB hown9 (m' + 1) (by have := HW.out.1; have := HNX.out; rw [HNX.out, ← List.append_assoc, List.length_append, HW.out.1]; rfl) (by have := HM'.out; omega)
          have HK := Lib.hid (K.below hb9 (by omega))
          have HBB := Lib.hid (hb.trans hb9)
          clear K hown9 hb9 hb
          go_roundw
          case rel => exact ⟨n + 1, by omega, by go_num, ⟨A9, c9, m' + 1, by rw [HM'.out]; rfl, rfl, hw9⟩, HK.out, HBB.out⟩
          case measure => simp [intOf]; omega
        · obtain rfl : n = 8 := by omega
          obtain rfl : m' = 16 := HM'.out
          obtain ⟨fb, hfb⟩ : ∃ q, q = pre ++ ones [b0, b1, b2, b3] ++ ones [o0, o1, o2, o3, o4, o5, o6, o7] := ⟨_, rfl⟩
          rw [show pre ++ ones ([b0, b1, b2, b3].take 4) ++ ones ([o0, o1, o2, o3, o4, o5, o6, o7].take 8) = fb from hfb.symm] at hw
          have HFB := Lib.hid (show fb = ino16 k l s [b0, b1, b2, b3] [o0, o1, o2, o3, o4, o5, o6, o7] by rw [hfb, HP.out]; simp [ino16, ones, leB])
          clear hfb
          go_wp2_with fail
          have c0 := K.2 0 _ rfl
          obtain ⟨wo2, rfl⟩ : ∃ wo : World, wo = wr := ⟨_, rfl⟩
          go_loopw [5] (fun v wr => ∃ N : Nat, 16 ≤ N ∧ N ≤ 60 ∧ (∃ A' c', v = .slice A' N c' ∧ Own wr (w.heap.size + 1) A' N c' (fb ++ List.replicate (N - 16) 0)) ∧ Blk wr w.heap.size [.int .i64 k, .int .i64 l, .int .i64 s, .int .i64 b0, .int .i64 b1, .int .i64 b2, .int .i64 b3, .int .i64 o0, .int .i64 o1, .int .i64 o2, .int .i64 o3, .int .i64 o4, .int .i64 o5, .int .i64 o6, .int .i64 o7] ∧ Below (w.heap.size + 1) w1 wr) (fun v _ => 60 - lenV v)
          case atStart => exact ⟨16, by omega, by omega, ⟨_, _, rfl, by simpa using hw⟩, K, hb⟩
          case round =>
            clear K hw hb c0
            obtain ⟨N, hN1, hN2, ⟨A', c', rfl, hw⟩, K, hb⟩ := hrel
            have hz := K.1
            have c0 := K.2 0 _ rfl
            have HW := Lib.hid hw
            clear hw
            by_cases hlt : N < 60
            · go_wp2_with (at_builtin; refine wpList_app1 rfl (.tmp 54) (.tmp 55) rfl (w.heap.size + 1) _ _ rfl _ rfl HW.out.2.2 0 (by rfl) (by rw [HW.out.1]; omega) hz ?_; intro v9 w9 hown9 hb9)
              rw [pad_next] at hown9
              obtain ⟨A9, c9, rfl, hw9⟩ := Own.ofOB hown9 (N + 1) (by have := HW.out.1; simp at this ⊢; omega) (by omega)
              have HK := Lib.hid (K.below hb9 (by omega))
              have HBB := Lib.hid (hb.trans hb9)
              clear K hown9 hb9 hb c0
              go_roundw
              case rel => exact ⟨N + 1, by omega, by omega, ⟨A9, c9, rfl, by rw [show N + 1 - 16 = N - 16 + 1 by omega]; exact hw9⟩, HK.out, HBB.out⟩
              case measure => simp [lenV]; omega
            · obtain rfl : N = 60 := by omega
              have gg := g1.low (hb.mono (by omega))
              by_cases h0 : k = 0
              · have hk : (k == 0) = true := by rw [beq_iff_eq]; exact h0
                have HZ := Lib.hid h0
                clear h0
                go_wp2_with (refine wpList_makeB rfl _ _ rfl w.heap.size 64 64 64 rfl rfl rfl rfl (by omega) gg.size ?_; intro w2 ho2 hb2 _)
                go_ret2
                refine ⟨_, _, rfl, ⟨?_, by omega, ?_⟩, gg.low hb2⟩
                · rw [inoB, if_pos HZ.out]; simp
                · rw [inoB, if_pos HZ.out]; exact ho2
              · have hk : (k == 0) = false := by rw [beq_eq_false_iff_ne]; exact h0
                have HZ := Lib.hid h0
                clear h0
                have hf : fb ++ List.replicate (60 - 16) 0 = fill60 (ino16 k l s [b0, b1, b2, b3] [o0, o1, o2, o3, o4, o5, o6, o7]) := by rw [fill60, HFB.out, ino16_length rfl rfl]
                rw [hf] at HW
                clear hf
                go_wp2_with fail
                refine (rsum_s HW.out.sl).mono ?_
                rintro e w2 ⟨q, rfl, hq, hq1, rfl⟩
                go_wp2_with fail
                refine (rput_s 64 HW.out.sl (by simp [fitsB]; omega) (by omega) rfl (by omega)).mono ?_
                rintro e w3 ⟨A3, c3, rfl, hw3, g3⟩
                go_wp2_with fail
                go_ret2
                have h3 : fill60 (ino16 k l s [b0, b1, b2, b3] [o0, o1, o2, o3, o4, o5, o6, o7]) ++ leB ((q : Int).toNat) (Int.toNat 4) = inoB k l s [b0, b1, b2, b3] [o0, o1, o2, o3, o4, o5, o6, o7] := by rw [inoB, if_neg HZ.out, sealB, sumB, ← hq.out]; rfl
                rw [h3] at hw3
                exact ⟨_, _, rfl, hw3.low gg.size, gg.trans g3⟩
end Go.Proofs.Ytpmmkchjdhaieaa
