/- The reference of layer 13: Seal, right, May, Put, PutHead. -/
import Derived.Test.YtfieenjmpjfbpaaStd
import Derived.Test.YtfieenjmpjfbpaaSlotPure
namespace Go.Proofs.Ytfieenjmpjfbpaa
open Go.RowKit

def lenS : Value → Nat
  | .slice _ n _ => n
  | _ => 0
theorem pad_snoc (bs : List UInt8) (j : Nat) : bs ++ List.replicate j 0 ++ [0] = bs ++ List.replicate (j + 1) 0 := by
  rw [List.append_assoc, List.replicate_succ']

theorem ref13_seal {A : Option Addr} {n c : Nat} {bs : List UInt8} {w : World} (hs : Sl w A n bs) (hn : n ≤ 60) :
    Calls Try.prog 25 #[.slice A n c] w fun e w' => ∃ A' c', e = .returned (.slice A' 64 c') ∧ Own w' w.heap.size A' 64 c' (sealB bs) ∧ Grow w w' := by
  have HL := Lib.hid hs.1
  have HR := Lib.hid hs.2.2
  clear hs
  go_enter Try.func25, Try.ntmps25
  go_wp2_with (at_builtin; refine wpList_appB rfl (.tmp 4) (.tmp 5) rfl w.heap.size _ [] rfl (OB.nil w w.heap.size) w.heap.size A c bs n HL.out.symm rfl HR.out (by have := HL.out; simp; omega) (Nat.le_refl _) ?_; intro v1 w1 hown1 hb1 q1 q2; clear q1 q2)
  rw [List.nil_append] at hown1
  obtain ⟨A1, c1, rfl, hw1⟩ := Own.ofOB hown1 n HL.out (by omega)
  clear hown1
  go_loopw [3] (fun v wr => ∃ N : Nat, n ≤ N ∧ N ≤ 60 ∧ (∃ A' c', v = .slice A' N c' ∧ Own wr w.heap.size A' N c' (bs ++ List.replicate (N - n) 0)) ∧ Grow w wr) (fun v _ => 60 - lenS v)
  case atStart => exact ⟨n, Nat.le_refl _, hn, ⟨A1, c1, rfl, by simpa using hw1⟩, hb1⟩
  case round =>
    obtain ⟨N, hN1, hN2, ⟨A', c', rfl, hw⟩, hb⟩ := hrel
    have hz := hb.size
    by_cases hlt : N < 60
    · have HW := Lib.hid hw
      clear hw
      go_wp2_with (at_builtin; refine wpList_app1 rfl (.tmp 10) (.tmp 11) rfl w.heap.size _ _ rfl _ rfl HW.out.2.2 0 (by rfl) (by rw [HW.out.1]; omega) hz ?_; intro v9 w9 hown9 hb9)
      rw [pad_snoc] at hown9
      obtain ⟨A9, c9, rfl, hw9⟩ := Own.ofOB hown9 (N + 1) (by have := HW.out.1; simp at this ⊢; omega) (by omega)
      go_roundw
      case rel => exact ⟨N + 1, by omega, by omega, ⟨A9, c9, rfl, by rw [show N + 1 - n = N - n + 1 by omega]; exact hw9⟩, hb.low hb9⟩
      case measure => simp [lenS]; omega
    · obtain rfl : N = 60 := by omega
      have hf : bs ++ List.replicate (60 - n) 0 = fill60 bs := by rw [fill60, HL.out]
      rw [hf] at hw
      clear hf
      go_wp2_with fail
      refine (rsum_s hw.sl).mono ?_
      rintro e w2 ⟨q, rfl, hq, hq1, rfl⟩
      go_wp2_with fail
      refine (rput_s 64 hw.sl (by simp [fitsB]; omega) (by omega) rfl (by omega)).mono ?_
      rintro e w3 ⟨A3, c3, rfl, hw3, g3⟩
      go_wp2_with fail
      go_ret
      have h3 : fill60 bs ++ leB ((q : Int).toNat) (Int.toNat 4) = sealB bs := by rw [sealB, sumB, ← hq.out]; rfl
      rw [h3] at hw3
      exact ⟨_, _, rfl, hw3.low hz, hb.trans g3⟩

theorem ref13_right {A : Option Addr} {n c : Nat} {bs : List UInt8} {w : World} (hs : Sl w A n bs) (hc : n ≤ c) :
    Calls Try.prog 29 #[.slice A n c] w fun e w' => e = .returned (.int .i64 (openE bs)) ∧ w = w' := by
  by_cases h64 : n < 64
  · have he : openE bs = 3 := by rw [openE, if_pos (by rw [hs.1]; exact h64)]
    have HE := Lib.hid he
    clear he
    go_enter Try.func29, Try.ntmps29
    go_wp2_with fail
    go_ret
    exact ⟨ret_int HE.out.symm, rfl⟩
  · have he : openE bs = if getN bs 60 4 = (crcN (bs.take 60) : Nat) then 0 else 4 := by rw [openE, if_neg (by rw [hs.1]; exact h64)]
    have HE := Lib.hid he
    clear he
    have h64' : 64 ≤ n := by omega
    go_enter Try.func29, Try.ntmps29
    go_wp2_with fail
    refine (rget_s hs (by omega) (by omega)).mono ?_
    rintro e w1 ⟨rfl, rfl⟩
    go_wp2_with fail
    refine (rsum_s (hs.take (k := 60) (by omega))).mono ?_
    rintro e w2 ⟨q, rfl, hq, hq1, rfl⟩
    by_cases hg : getN bs 60 4 = (q : Int)
    · have hne : (getN bs 60 4 != (q : Int)) = false := by rw [bne_eq_false_iff_eq]; exact hg
      have HG := Lib.hid hg
      clear hg
      go_wp2_with fail
      go_ret
      exact ⟨ret_int (by rw [HE.out, if_pos (by rw [← hq.out]; exact HG.out)]), rfl⟩
    · have hne : (getN bs 60 4 != (q : Int)) = true := by rw [bne_iff_ne]; exact hg
      have HG := Lib.hid hg
      clear hg
      go_wp2_with fail
      go_ret
      exact ⟨ret_int (by rw [HE.out, if_neg (by rw [← hq.out]; exact HG.out)]), rfl⟩

theorem ref13_may (ep hd rp er io wr : Int) (w : World) :
    Calls Try.prog 23 #[.agg #[.int .i64 ep, .int .i64 hd, .int .i64 rp, .int .i64 er, .int .i64 io, .int .i64 wr]] w fun e w' => e = .returned (.bool (mayS ep hd rp er io wr)) ∧ Grow w w' := by
  go_enter Try.func23, Try.ntmps23
  go_wp2
  all_goals (go_ret; refine ⟨ret_bool ?_, (Grow.refl _).alloc _⟩)
  all_goals (rw [Bool.eq_iff_iff, mayS_iff]; simp only [decide_eq_true_iff, Bool.false_eq_true, false_iff])
  all_goals (first | omega | (simp_all; done) | (simp_all; omega))

theorem ref13_put_no (ep hd rp er io wr : Int) (hm : mayS ep hd rp er io wr = false) (w : World) :
    Calls Try.prog 9 #[.agg #[.int .i64 ep, .int .i64 hd, .int .i64 rp, .int .i64 er, .int .i64 io, .int .i64 wr]] w fun e w' => e = .returned (.tuple #[.slice none 0 0, .int .i64 1]) ∧ Grow w w' := by
  have HM := Lib.hid hm
  clear hm
  go_enter Try.func9, Try.ntmps9
  go_wp2_with fail
  refine (ref13_may ep hd rp er io wr _).mono ?_
  rintro e w1 ⟨rfl, g1⟩
  rw [HM.out]
  go_wp2_with fail
  go_ret2
  exact ⟨rfl, ((Grow.refl _).alloc _).trans g1⟩

theorem leB_one (n : Nat) : leB n 1 = [UInt8.ofNat (n % 256)] := rfl
theorem byte_small (n : Int) (h0 : 0 ≤ n) (h : n < 256) : ((UInt8.ofNat (n.toNat % 256)).toNat : Int) = n := by simp; omega

set_option maxHeartbeats 1000000 in
theorem ref13_put_yes (ep hd rp er io wr : Int) (hm : mayS ep hd rp er io wr = true) (w : World) :
    Calls Try.prog 9 #[.agg #[.int .i64 ep, .int .i64 hd, .int .i64 rp, .int .i64 er, .int .i64 io, .int .i64 wr]] w fun e w' => ∃ A c, e = .returned (.tuple #[.slice A 64 c, .int .i64 0]) ∧ Own w' w.heap.size A 64 c (slotB ep hd rp er io wr) ∧ Grow w w' := by
  obtain ⟨a1, a2, b1, b2, c1, c2, d1, d2, e1, e2, f1, f2⟩ := mayS_iff.1 hm
  have HM := Lib.hid hm
  have U1 := Lib.hid (byte_small er e1 (by omega))
  have U2 := Lib.hid (byte_small io f1 (by omega))
  clear hm
  go_enter Try.func9, Try.ntmps9
  go_wp2_with fail
  refine (ref13_may ep hd rp er io wr _).mono ?_
  rintro e w1 ⟨rfl, g1⟩
  rw [HM.out]
  have HK := Lib.hid ((Blk.new w 26 [.int .i64 ep, .int .i64 hd, .int .i64 rp, .int .i64 er, .int .i64 io, .int .i64 wr] _ (0, 0) rfl).keep g1)
  replace g1 := ((Grow.refl _).alloc _).trans g1
  obtain ⟨k0, k1, k2, k3, k4, k5⟩ := HK.out.c6
  go_wp2_with fail
  refine (rput_s 4 Sl.nil (by simp [fitsB]; omega) (by omega) rfl (by omega)).mono ?_
  rintro e w2 ⟨A2, q2, rfl, hw2, g2⟩
  have HK2 := Lib.hid (HK.out.keep g2)
  replace g2 := g1.trans g2
  clear k0 k1 k2 k3 k4 k5 HK g1
  obtain ⟨k0, k1, k2, k3, k4, k5⟩ := HK2.out.c6
  go_wp2_with fail
  refine (rput_s 8 hw2.sl (by simp [fitsB]; omega) (by omega) rfl (by omega)).mono ?_
  rintro e w3 ⟨A3, q3, rfl, hw3, g3⟩
  have HK3 := Lib.hid (HK2.out.keep g3)
  replace g3 := g2.trans g3
  clear k0 k1 k2 k3 k4 k5 HK2 g2 hw2
  obtain ⟨k0, k1, k2, k3, k4, k5⟩ := HK3.out.c6
  go_wp2_with fail
  refine (rput_s 16 hw3.sl (by simp [fitsB]; omega) (by omega) rfl (by omega)).mono ?_
  rintro e w4 ⟨A4, q4, rfl, hw4, g4⟩
  have HK4 := Lib.hid (HK3.out.keep g4)
  have hz3 := HK3.out.1
  have hz4 := HK4.out.1
  replace hw4 := hw4.low (B := w.heap.size + 1) hz3
  replace g4 := g3.trans g4
  clear k0 k1 k2 k3 k4 k5 HK3 g3 hw3 hz3
  obtain ⟨k0, k1, k2, k3, k4, k5⟩ := HK4.out.c6
  have HW := Lib.hid hw4
  clear hw4
  go_wp2_with (at_builtin; refine wpList_app2 rfl (.tmp 21) (.tmp 30) rfl (w.heap.size + 1) _ _ rfl er io rfl HW.out.2.2 _ _ U1.out U2.out (by rw [HW.out.1]; omega) hz4 ?_; intro v5 w5 hown5 hb5; have j5 := (HK4.out.below hb5 (by omega)).2 5 _ rfl)
  obtain ⟨A5, q5, rfl, hw5⟩ := Own.ofOB hown5 18 (by rw [List.length_append, HW.out.1]; rfl) (by omega)
  have hz5 := hb5.size
  replace g5 := g4.low (hb5.mono (by omega))
  clear k0 k1 k2 k3 k4 k5 HK4 g4 hb5 hown5
  refine (rput_s 26 hw5.sl (by simp [fitsB]; omega) (by omega) rfl (by omega)).mono ?_
  rintro e w6 ⟨A6, q6, rfl, hw6, g6⟩
  replace g6 := g5.trans g6
  clear j5
  go_wp2_with fail
  refine (ref13_seal hw6.sl (by omega)).mono ?_
  rintro e w7 ⟨A7, q7, rfl, hw7, g7⟩
  go_wp2_with fail
  go_ret2
  refine ⟨_, _, rfl, ?_, g6.trans g7⟩
  have h := hw7.low g6.size
  rw [show [] ++ leB ep.toNat (Int.toNat 4) ++ leB hd.toNat (Int.toNat 4) ++ leB rp.toNat (Int.toNat 8) ++ [UInt8.ofNat (er.toNat % 256), UInt8.ofNat (io.toNat % 256)] ++ leB wr.toNat (Int.toNat 8) = slot26 ep hd rp er io wr by simp [slot26, leB_one]] at h
  exact h

theorem ref13_puthead_no (k : Int) (hm : mayH k = false) (w : World) :
    Calls Try.prog 14 #[.int .i64 k] w fun e w' => e = .returned (.tuple #[.slice none 0 0, .int .i64 1]) ∧ w = w' := by
  have h : k < 0 ∨ 1152921504606846976 < k := by
    have h : ¬ (0 ≤ k ∧ k ≤ 1152921504606846976) := fun h => Bool.false_ne_true (hm.symm.trans (mayH_iff.2 h))
    omega
  clear hm
  rcases h with h | h
  · go_enter Try.func14, Try.ntmps14
    go_wp2_with fail
    go_ret2
    exact ⟨rfl, rfl⟩
  · have h0 : 0 ≤ k := by omega
    go_enter Try.func14, Try.ntmps14
    go_wp2_with fail
    go_ret2
    exact ⟨rfl, rfl⟩

theorem ref13_puthead_yes (k : Int) (hm : mayH k = true) (w : World) :
    Calls Try.prog 14 #[.int .i64 k] w fun e w' => ∃ A c, e = .returned (.tuple #[.slice A 64 c, .int .i64 0]) ∧ Own w' w.heap.size A 64 c (headS k) ∧ Grow w w' := by
  obtain ⟨h0, h1⟩ := mayH_iff.1 hm
  clear hm
  go_enter Try.func14, Try.ntmps14
  go_wp2_with fail
  refine (rput_s 16 (Sl.lit w _ _ magicB 8 rfl rfl (by omega)) (by simp [fitsB]; omega) (by omega) rfl (by omega)).mono ?_
  rintro e w1 ⟨A1, c1, rfl, hw1, g1⟩
  replace g1 := ((Grow.refl _).alloc _).trans g1
  go_wp2_with fail
  refine (ref13_seal hw1.sl (by omega)).mono ?_
  rintro e w2 ⟨A2, c2, rfl, hw2, g2⟩
  go_wp2_with fail
  go_ret2
  exact ⟨_, _, rfl, hw2.low g1.size, g1.trans g2⟩

theorem ref13_readhead {A : Option Addr} {n c : Nat} {bs : List UInt8} {w : World} (hs : Sl w A n bs) (hc : n ≤ c) :
    Calls Try.prog 16 #[.slice A n c] w fun e w' => e = .returned (.tuple #[.int .i64 (readHN bs), .int .i64 (readHE bs)]) ∧ Grow w w' := by
  by_cases ho : openE bs = 0
  · have hl : 64 ≤ n := by rw [← hs.1]; exact (open_len ho).1
    have hlb : 64 ≤ bs.length := (open_len ho).1
    have HO := Lib.hid ho
    have h64 := hs.take hl
    clear ho
    have HN := Lib.hid (show getN bs 8 8 = hdN bs from rfl)
    cases hk : getK bs 8 8 with
    | false =>
      have hE : readHE bs = 2 := by
        rw [readHE, if_pos HO.out, if_neg]
        intro h
        rw [sameH_K hlb h] at hk
        cases hk
      have HE := Lib.hid hE
      have HK := Lib.hid hk
      clear hE hk hlb
      cases hm : mayH (hdN bs) with
      | true =>
        have HM := Lib.hid hm
        clear hm
        go_enter Try.func16, Try.ntmps16
        go_wp2_with fail
        refine (ref13_right hs hc).mono ?_
        rintro e w1 ⟨rfl, rfl⟩
        rw [HO.out]
        go_wp2_with fail
        refine (rget_s hs (by omega) (by omega)).mono ?_
        rintro e w2 ⟨rfl, rfl⟩
        rw [HN.out, HK.out]
        go_wp2_with fail
        refine (ref13_puthead_yes _ HM.out _).mono ?_
        rintro e w3 ⟨A3, c3, rfl, hw3, g3⟩
        go_wp2_with fail
        go_ret2
        refine ⟨?_, g3⟩
        rw [readHN, HE.out]; rfl
      | false =>
        have HM := Lib.hid hm
        clear hm
        go_enter Try.func16, Try.ntmps16
        go_wp2_with fail
        refine (ref13_right hs hc).mono ?_
        rintro e w1 ⟨rfl, rfl⟩
        rw [HO.out]
        go_wp2_with fail
        refine (rget_s hs (by omega) (by omega)).mono ?_
        rintro e w2 ⟨rfl, rfl⟩
        rw [HN.out, HK.out]
        go_wp2_with fail
        refine (ref13_puthead_no _ HM.out _).mono ?_
        rintro e w3 ⟨rfl, rfl⟩
        go_wp2_with fail
        go_ret2
        refine ⟨?_, Grow.refl _⟩
        rw [readHN, HE.out]; rfl
    | true =>
      have HK := Lib.hid hk
      clear hk hlb
      cases hm : mayH (hdN bs) with
      | true =>
        have hsm : sameH bs = decide (headS (hdN bs) = bs.take 64) := by rw [sameH, hm, Bool.true_and]
        have HS := Lib.hid hsm
        have HM := Lib.hid hm
        clear hm hsm
        go_enter Try.func16, Try.ntmps16
        go_wp2_with fail
        refine (ref13_right hs hc).mono ?_
        rintro e w1 ⟨rfl, rfl⟩
        rw [HO.out]
        go_wp2_with fail
        refine (rget_s hs (by omega) (by omega)).mono ?_
        rintro e w2 ⟨rfl, rfl⟩
        rw [HN.out, HK.out]
        go_wp2_with fail
        refine (ref13_puthead_yes _ HM.out _).mono ?_
        rintro e w3 ⟨A3, c3, rfl, hw3, g3⟩
        go_wp2_with fail
        refine (same_s hw3.sl (h64.keep g3)).mono ?_
        rintro e w4 ⟨s, rfl, hs4, k4, rfl⟩
        have hs5 : sameH bs = s := HS.out.trans hs4.out.symm
        cases s with
        | true =>
          go_wp2_with fail
          go_ret2
          have he : readHE bs = 0 := by rw [readHE, if_pos HO.out, if_pos hs5]
          refine ⟨?_, g3.drewN _⟩
          rw [readHN, he]; rfl
        | false =>
          go_wp2_with fail
          go_ret2
          have he : readHE bs = 2 := by rw [readHE, if_pos HO.out, if_neg (by rw [hs5]; simp)]
          refine ⟨?_, g3.drewN _⟩
          rw [readHN, he]; rfl
      | false =>
        have hE : readHE bs = 2 := by rw [readHE, if_pos HO.out, if_neg (by rw [sameH, hm]; simp)]
        have HE := Lib.hid hE
        have HM := Lib.hid hm
        clear hm hE
        go_enter Try.func16, Try.ntmps16
        go_wp2_with fail
        refine (ref13_right hs hc).mono ?_
        rintro e w1 ⟨rfl, rfl⟩
        rw [HO.out]
        go_wp2_with fail
        refine (rget_s hs (by omega) (by omega)).mono ?_
        rintro e w2 ⟨rfl, rfl⟩
        rw [HN.out, HK.out]
        go_wp2_with fail
        refine (ref13_puthead_no _ HM.out _).mono ?_
        rintro e w3 ⟨rfl, rfl⟩
        go_wp2_with fail
        go_ret2
        refine ⟨?_, Grow.refl _⟩
        rw [readHN, HE.out]; rfl
  · have hne : (openE bs != 0) = true := by rw [bne_iff_ne]; exact ho
    have HO := Lib.hid ho
    clear ho
    go_enter Try.func16, Try.ntmps16
    go_wp2_with fail
    refine (ref13_right hs hc).mono ?_
    rintro e w1 ⟨rfl, rfl⟩
    go_wp2_with fail
    go_ret2
    refine ⟨?_, Grow.refl _⟩
    have he : readHE bs = openE bs := by rw [readHE, if_neg HO.out]
    rw [readHN, okI, he, if_neg HO.out]
    rfl
end Go.Proofs.Ytfieenjmpjfbpaa
