/- inode.Read. -/
import Derived.Test.YtpmmkchjdhaieaaInoPut
import Derived.Test.YtpmmkchjdhaieaaInoVal
import Derived.Test.YtpmmkchjdhaieaaBytesEq
import Derived.RegionTactic
import Derived.ChangeAlike
namespace Go.Proofs.Ytpmmkchjdhaieaa
open Go.RowKit

/-- The cells of an inode while its parts are laid. -/
def vsB (x0 x1 x2 : Int) (bl : List Int) (m : Nat) : List Value := ([x0, x1, x2] ++ ((bl.take m ++ List.replicate (4 - m) 0) ++ List.replicate 8 0)).map (Value.int .i64)
def vsO (x0 x1 x2 : Int) (bl ol : List Int) (m : Nat) : List Value := ([x0, x1, x2] ++ (bl ++ (ol.take m ++ List.replicate (8 - m) 0))).map (Value.int .i64)
theorem vsB_next {x0 x1 x2 y4 y5 y6 y7 : Int} {m : Nat} (h : m < 4) : (vsB x0 x1 x2 [y4, y5, y6, y7] m).set (3 + m) (.int .i64 ([y4, y5, y6, y7].getD m 0)) = vsB x0 x1 x2 [y4, y5, y6, y7] (m + 1) := by
  have : m = 0 ∨ m = 1 ∨ m = 2 ∨ m = 3 := by omega
  rcases this with rfl | rfl | rfl | rfl <;> rfl
theorem vsB_length {x0 x1 x2 y4 y5 y6 y7 : Int} {m : Nat} : (vsB x0 x1 x2 [y4, y5, y6, y7] m).length = 3 + ((min m 4 + (4 - m)) + 8) := by simp [vsB]; omega
theorem vsB_at {x0 x1 x2 y4 y5 y6 y7 : Int} {m : Nat} (h : m < 4) : (vsB x0 x1 x2 [y4, y5, y6, y7] m)[3 + m]? = some (.int .i64 0) := by
  have : m = 0 ∨ m = 1 ∨ m = 2 ∨ m = 3 := by omega
  rcases this with rfl | rfl | rfl | rfl <;> rfl
theorem vsO_next {x0 x1 x2 y8 y9 y10 y11 y12 y13 y14 y15 : Int} {bl : List Int} {m : Nat} (hb : bl.length = 4) (h : m < 8) : (vsO x0 x1 x2 bl [y8, y9, y10, y11, y12, y13, y14, y15] m).set (7 + m) (.int .i64 ([y8, y9, y10, y11, y12, y13, y14, y15].getD m 0)) = vsO x0 x1 x2 bl [y8, y9, y10, y11, y12, y13, y14, y15] (m + 1) := by
  match bl, hb with
  | [a, b, c, d], _ =>
    have : m = 0 ∨ m = 1 ∨ m = 2 ∨ m = 3 ∨ m = 4 ∨ m = 5 ∨ m = 6 ∨ m = 7 := by omega
    rcases this with rfl | rfl | rfl | rfl | rfl | rfl | rfl | rfl <;> rfl
theorem vsO_length {x0 x1 x2 y8 y9 y10 y11 y12 y13 y14 y15 : Int} {bl : List Int} {m : Nat} (hb : bl.length = 4) : (vsO x0 x1 x2 bl [y8, y9, y10, y11, y12, y13, y14, y15] m).length = 7 + (min m 8 + (8 - m)) := by simp [vsO, hb]; omega
theorem vsO_at {x0 x1 x2 y8 y9 y10 y11 y12 y13 y14 y15 : Int} {bl : List Int} {m : Nat} (hb : bl.length = 4) (h : m < 8) : (vsO x0 x1 x2 bl [y8, y9, y10, y11, y12, y13, y14, y15] m)[7 + m]? = some (.int .i64 0) := by
  match bl, hb with
  | [a, b, c, d], _ =>
    have : m = 0 ∨ m = 1 ∨ m = 2 ∨ m = 3 ∨ m = 4 ∨ m = 5 ∨ m = 6 ∨ m = 7 := by omega
    rcases this with rfl | rfl | rfl | rfl | rfl | rfl | rfl | rfl <;> rfl

set_option maxHeartbeats 2000000 in
theorem inode_read_test {A : Option Addr} {n c : Nat} {bs : List UInt8} {w : World} (hs : Sl w A n bs) (hc : n ≤ c) (hl : 64 ≤ n) (hnn : noneB bs = false) (hsum : getN bs 60 4 = (crcN (bs.take 60) : Nat)) :
    Calls Try.prog 17 #[.slice A n c] w fun e w' => e = .returned (.tuple #[inoW bs, .int .i64 (readIE bs)]) ∧ Grow w w' := by
  have HNN := Lib.hid (show ¬ bs.take 64 = List.replicate 64 0 by rw [noneB, decide_eq_false_iff_not] at hnn; exact hnn)
  have HR := Lib.hid (readIE_open (by rw [hs.1]; exact hl) hnn hsum)
  have HS := Lib.hid hsum
  have HL := Lib.hid hs.1
  have h64 := hs.take hl
  obtain ⟨b, o, rfl, hb, hcell⟩ := h64.all (by omega)
  have HC := Lib.hid (show ∀ k, k < 64 → w.cell? ⟨b, o + k, none⟩ = some (.int .u8 (by_ bs k)) by
    intro k hk
    rw [hcell k hk, by_get (by rw [hs.1]; omega)]
    simp)
  clear hcell hnn hsum
  go_enter Try.func17, Try.ntmps17
  go_wp2_with (refine wpList_makeB rfl _ _ rfl (w.heap.size + 1) 64 64 64 rfl rfl rfl rfl (by omega) (by simp) ?_; intro w2 ho2 hb2 _)
  simp only [World.size_alloc] at ho2
  have H2 := Lib.hid (show Own w2 (w.heap.size + 1) (some ⟨w.heap.size + 1, 0, none⟩) 64 64 (List.replicate 64 0) from ⟨by simp, by omega, ho2⟩)
  have g2 : Grow w w2 := ((Grow.refl _).alloc _).low (hb2.mono (by omega))
  clear ho2
  refine (bytes_equal (h64.keep g2) H2.out.sl).mono ?_
  rintro e w3 ⟨q, rfl, hq, rfl⟩
  obtain rfl : q = false := by rw [hq.out]; exact decide_eq_false HNN.out
  obtain ⟨hc2, hf2⟩ := g2.cells
  go_wp2_with fail
  refine (get_s (h64.keep g2) (by omega) (by omega)).mono ?_
  rintro e w3 ⟨rfl, rfl⟩
  go_wp2_with fail
  refine (sum_s ((h64.take (k := 60) (by omega)).keep g2)).mono ?_
  rintro e w3 ⟨q, rfl, hq, hq1, g3⟩
  have hne : (getN (bs.take 64) 60 4 != (q : Int)) = false := by
    rw [bne_eq_false_iff_eq, hq.out, show (bs.take 64).take 60 = bs.take 60 by rw [List.take_take]; rfl, ← HS.out]
    exact getN_take (a := 60) (wd := 4) (by omega) (by rw [HL.out]; exact hl)
  have ZR : Row w3 w.heap.size (List.replicate 15 (Value.int .i64 0)) := ((Row.new w 25 _ _ rfl).keep (Grow.ofBelow hb2 (by simp))).keep g3
  replace g3 := g2.trans g3
  clear hc2 hf2 g2 H2
  have c0 := g3.cell (HC.out 0 (by omega))
  have c1 := g3.cell (HC.out 1 (by omega))
  rw [Nat.add_zero] at c0
  have hb3 : b < w3.heap.size := Nat.lt_of_lt_of_le hb g3.size
  have hb4 : b ≠ w3.heap.size := by omega
  have HB := Lib.hid (by_lt bs)
  obtain ⟨x0, X0⟩ : ∃ x, Hid (x = by_ bs 0) := ⟨_, Lib.hid rfl⟩
  obtain ⟨x1, X1⟩ : ∃ x, Hid (x = by_ bs 1) := ⟨_, Lib.hid rfl⟩
  obtain ⟨x2, X2⟩ : ∃ x, Hid (x = iS bs) := ⟨_, Lib.hid rfl⟩
  rw [← X0.out] at c0
  rw [← X1.out] at c1
  obtain ⟨m00, m01⟩ : 0 ≤ x0 ∧ x0 < 256 := by rw [X0.out]; exact by_lt bs 0
  obtain ⟨m10, m11⟩ : 0 ≤ x1 ∧ x1 < 256 := by rw [X1.out]; exact by_lt bs 1
  go_wp2_with fail
  refine (get_s (h64.keep g3) (by omega) (by omega)).mono ?_
  rintro e w4 ⟨rfl, rfl⟩
  rw [show getN (bs.take 64) 2 2 = x2 from (iS_take (by rw [HL.out]; exact hl)).trans X2.out.symm]
  go_wp2_with fail
  go_region
  obtain ⟨gs, hgs⟩ : ∃ gs, gs = w3.heap.size := ⟨_, rfl⟩
  have hgl : w.heap.size < gs := by have := ZR.1.1; omega
  have hbg : b ≠ gs := by omega
  have hgb : gs ≠ w.heap.size := by omega
  obtain ⟨y4, Y4⟩ : ∃ x, Hid (x = by_ bs 4) := ⟨_, Lib.hid rfl⟩
  obtain ⟨y5, Y5⟩ : ∃ x, Hid (x = by_ bs 5) := ⟨_, Lib.hid rfl⟩
  obtain ⟨y6, Y6⟩ : ∃ x, Hid (x = by_ bs 6) := ⟨_, Lib.hid rfl⟩
  obtain ⟨y7, Y7⟩ : ∃ x, Hid (x = by_ bs 7) := ⟨_, Lib.hid rfl⟩
  obtain ⟨y8, Y8⟩ : ∃ x, Hid (x = by_ bs 8) := ⟨_, Lib.hid rfl⟩
  obtain ⟨y9, Y9⟩ : ∃ x, Hid (x = by_ bs 9) := ⟨_, Lib.hid rfl⟩
  obtain ⟨y10, Y10⟩ : ∃ x, Hid (x = by_ bs 10) := ⟨_, Lib.hid rfl⟩
  obtain ⟨y11, Y11⟩ : ∃ x, Hid (x = by_ bs 11) := ⟨_, Lib.hid rfl⟩
  obtain ⟨y12, Y12⟩ : ∃ x, Hid (x = by_ bs 12) := ⟨_, Lib.hid rfl⟩
  obtain ⟨y13, Y13⟩ : ∃ x, Hid (x = by_ bs 13) := ⟨_, Lib.hid rfl⟩
  obtain ⟨y14, Y14⟩ : ∃ x, Hid (x = by_ bs 14) := ⟨_, Lib.hid rfl⟩
  obtain ⟨y15, Y15⟩ : ∃ x, Hid (x = by_ bs 15) := ⟨_, Lib.hid rfl⟩
  have VR : Row ((w3.alloc (.cells (List.toArray (vsB x0 x1 x2 [y4, y5, y6, y7] 0)) 25)).drew) gs (vsB x0 x1 x2 [y4, y5, y6, y7] 0) := by
    rw [hgs]
    exact (Row.new w3 25 _ _ rfl).keep ((Grow.refl _).drew)
  have ZR1 := ZR.keep (((Grow.refl w3).alloc (.cells (List.toArray (vsB x0 x1 x2 [y4, y5, y6, y7] 0)) 25)).drew)
  have g4 := (g3.alloc (.cells (List.toArray (vsB x0 x1 x2 [y4, y5, y6, y7] 0)) 25)).drew
  rw [← hgs]
  clear hgs ZR c0 c1 hb3 hb4
  go_wp2_with fail
  go_loopw [50] (fun i wr => ∃ m : Nat, m ≤ 4 ∧ i = .int .i64 m ∧ Row wr gs (vsB x0 x1 x2 [y4, y5, y6, y7] m) ∧ Row wr w.heap.size (List.replicate 15 (Value.int .i64 0)) ∧ Grow w wr) (fun i _ => 4 - (intOf i).toNat)
  case atStart => exact ⟨0, Nat.zero_le _, rfl, VR, ZR1, g4⟩
  case round =>
    obtain ⟨m, hm, rfl, VR, ZR, g⟩ := hrel
    by_cases hlt : m < 4
    · have ck := g.cell (HC.out (4 + m) (by omega))
      obtain ⟨y, hy⟩ : ∃ y, y = by_ bs (4 + m) := ⟨_, rfl⟩
      rw [← hy] at ck
      obtain ⟨p0, p1⟩ : 0 ≤ y ∧ y < 256 := by rw [hy]; exact by_lt bs _
      have hyy : y = [y4, y5, y6, y7].getD m 0 := by
        rw [hy]
        have : m = 0 ∨ m = 1 ∨ m = 2 ∨ m = 3 := by omega
        rcases this with rfl | rfl | rfl | rfl
        · exact Y4.out.symm
        · exact Y5.out.symm
        · exact Y6.out.symm
        · exact Y7.out.symm
      have c3 := VR.1.2 (3 + m) _ (vsB_at hlt)
      have f3 := VR.2 (3 + m) (by rw [vsB_length]; omega)
      have HV := Lib.hid (VR.set (v := .int .i64 y) (j := 3 + m) (by rw [vsB_length]; omega))
      rw [hyy, vsB_next hlt, ← hyy] at HV
      have HZ := Lib.hid (ZR.set_ne (p := ⟨gs, 3 + m, none⟩) (v := .int .i64 y) hgb)
      have HG := Lib.hid (g.setCell (p := ⟨gs, 3 + m, none⟩) (by dsimp only; omega) (.int .i64 y))
      clear hy hyy VR ZR
      go_wp2_with fail
      go_roundw
      case rel => exact ⟨m + 1, by omega, by go_num, HV.out, HZ.out, HG.out⟩
      case measure => simp [intOf]; omega
    · obtain rfl : m = 4 := by omega
      have VO : Row _ gs (vsO x0 x1 x2 [y4, y5, y6, y7] [y8, y9, y10, y11, y12, y13, y14, y15] 0) := VR
      clear VR
      go_wp2_with fail
      go_loopw [63] (fun i wr => ∃ m : Nat, m ≤ 8 ∧ i = .int .i64 m ∧ Row wr gs (vsO x0 x1 x2 [y4, y5, y6, y7] [y8, y9, y10, y11, y12, y13, y14, y15] m) ∧ Row wr w.heap.size (List.replicate 15 (Value.int .i64 0)) ∧ Grow w wr) (fun i _ => 8 - (intOf i).toNat)
      case atStart => exact ⟨0, Nat.zero_le _, rfl, VO, ZR, g⟩
      case round =>
        obtain ⟨m, hm, rfl, VR, ZR, g⟩ := hrel
        by_cases hlt : m < 8
        · have ck := g.cell (HC.out (8 + m) (by omega))
          obtain ⟨y, hy⟩ : ∃ y, y = by_ bs (8 + m) := ⟨_, rfl⟩
          rw [← hy] at ck
          obtain ⟨p0, p1⟩ : 0 ≤ y ∧ y < 256 := by rw [hy]; exact by_lt bs _
          have hyy : y = [y8, y9, y10, y11, y12, y13, y14, y15].getD m 0 := by
            rw [hy]
            have : m = 0 ∨ m = 1 ∨ m = 2 ∨ m = 3 ∨ m = 4 ∨ m = 5 ∨ m = 6 ∨ m = 7 := by omega
            rcases this with rfl | rfl | rfl | rfl | rfl | rfl | rfl | rfl
            · exact Y8.out.symm
            · exact Y9.out.symm
            · exact Y10.out.symm
            · exact Y11.out.symm
            · exact Y12.out.symm
            · exact Y13.out.symm
            · exact Y14.out.symm
            · exact Y15.out.symm
          have c3 := VR.1.2 (7 + m) _ (vsO_at rfl hlt)
          have f3 := VR.2 (7 + m) (by rw [vsO_length rfl]; omega)
          have HV := Lib.hid (VR.set (v := .int .i64 y) (j := 7 + m) (by rw [vsO_length rfl]; omega))
          rw [hyy, vsO_next rfl hlt, ← hyy] at HV
          have HZ := Lib.hid (ZR.set_ne (p := ⟨gs, 7 + m, none⟩) (v := .int .i64 y) hgb)
          have HG := Lib.hid (g.setCell (p := ⟨gs, 7 + m, none⟩) (by dsimp only; omega) (.int .i64 y))
          clear hy hyy VR ZR
          go_wp2_with fail
          go_roundw
          case rel => exact ⟨m + 1, by omega, by go_num, HV.out, HZ.out, HG.out⟩
          case measure => simp [intOf]; omega
        · obtain rfl : m = 8 := by omega
          have VE : Row _ gs ([.int .i64 x0, .int .i64 x1, .int .i64 x2, .int .i64 y4, .int .i64 y5, .int .i64 y6, .int .i64 y7, .int .i64 y8, .int .i64 y9, .int .i64 y10, .int .i64 y11, .int .i64 y12, .int .i64 y13, .int .i64 y14, .int .i64 y15]) := VR
          clear VR
          have z0 := VE.1.2 0 _ rfl; have z1 := VE.1.2 1 _ rfl; have z2 := VE.1.2 2 _ rfl; have z3 := VE.1.2 3 _ rfl; have z4 := VE.1.2 4 _ rfl; have z5 := VE.1.2 5 _ rfl; have z6 := VE.1.2 6 _ rfl; have z7 := VE.1.2 7 _ rfl; have z8 := VE.1.2 8 _ rfl; have z9 := VE.1.2 9 _ rfl; have z10 := VE.1.2 10 _ rfl; have z11 := VE.1.2 11 _ rfl; have z12 := VE.1.2 12 _ rfl; have z13 := VE.1.2 13 _ rfl; have z14 := VE.1.2 14 _ rfl
          have HMM := Lib.hid (show mayI x0 x1 x2 [y4, y5, y6, y7] [y8, y9, y10, y11, y12, y13, y14, y15] = mayJ bs by rw [mayJ, iK, iL, iB, iO, X0.out, X1.out, X2.out, Y4.out, Y5.out, Y6.out, Y7.out, Y8.out, Y9.out, Y10.out, Y11.out, Y12.out, Y13.out, Y14.out, Y15.out])
          have HSL := Lib.hid (show inoB x0 x1 x2 [y4, y5, y6, y7] [y8, y9, y10, y11, y12, y13, y14, y15] = inoJ bs by rw [inoJ, iK, iL, iB, iO, X0.out, X1.out, X2.out, Y4.out, Y5.out, Y6.out, Y7.out, Y8.out, Y9.out, Y10.out, Y11.out, Y12.out, Y13.out, Y14.out, Y15.out])
          go_wp2_with fail
          clear z0 z1 z2 z3 z4 z5 z6 z7 z8 z9 z10 z11 z12 z13 z14
          cases hm : mayJ bs with
          | false =>
            have HE := Lib.hid (show readIE bs = 2 ∧ readIP bs = false by rw [HR.out.1, HR.out.2, sameI, hm]; exact ⟨rfl, rfl⟩)
            have HM := Lib.hid (HMM.out.trans hm)
            clear hm
            refine (inode_put_no x0 x1 x2 y4 y5 y6 y7 y8 y9 y10 y11 y12 y13 y14 y15 HM.out _).mono ?_
            rintro e w5 ⟨rfl, g5⟩
            have ZQ := ZR.keep g5
            have q0 := ZQ.1.2 0 _ rfl; have q1 := ZQ.1.2 1 _ rfl; have q2 := ZQ.1.2 2 _ rfl; have q3 := ZQ.1.2 3 _ rfl; have q4 := ZQ.1.2 4 _ rfl; have q5 := ZQ.1.2 5 _ rfl; have q6 := ZQ.1.2 6 _ rfl; have q7 := ZQ.1.2 7 _ rfl; have q8 := ZQ.1.2 8 _ rfl; have q9 := ZQ.1.2 9 _ rfl; have q10 := ZQ.1.2 10 _ rfl; have q11 := ZQ.1.2 11 _ rfl; have q12 := ZQ.1.2 12 _ rfl; have q13 := ZQ.1.2 13 _ rfl; have q14 := ZQ.1.2 14 _ rfl
            have r0 := ZQ.2 0 (by simp); have r1 := ZQ.2 1 (by simp); have r2 := ZQ.2 2 (by simp); have r3 := ZQ.2 3 (by simp); have r4 := ZQ.2 4 (by simp); have r5 := ZQ.2 5 (by simp); have r6 := ZQ.2 6 (by simp); have r7 := ZQ.2 7 (by simp); have r8 := ZQ.2 8 (by simp); have r9 := ZQ.2 9 (by simp); have r10 := ZQ.2 10 (by simp); have r11 := ZQ.2 11 (by simp); have r12 := ZQ.2 12 (by simp); have r13 := ZQ.2 13 (by simp); have r14 := ZQ.2 14 (by simp)
            clear ZQ
            go_wp2_with fail
            rw [inoW_no HE.out.2, HE.out.1]
            refine bodyPost_ret (v := .tuple #[.agg #[.int .i64 0, .int .i64 0, .int .i64 0, .int .i64 0, .int .i64 0, .int .i64 0, .int .i64 0, .int .i64 0, .int .i64 0, .int .i64 0, .int .i64 0, .int .i64 0, .int .i64 0, .int .i64 0, .int .i64 0], .int .i64 2]) (by simp [results, Try.results17, go_sem, q0, q1, q2, q3, q4, q5, q6, q7, q8, q9, q10, q11, q12, q13, q14]) rfl ⟨rfl, ?_⟩
            repeat (refine Grow.setCell ?_ (by simp) _)
            exact g.trans g5
          | true =>
            have HE := Lib.hid (show readIE bs = (if decide (inoJ bs = bs.take 64) then 0 else 2) ∧ readIP bs = decide (inoJ bs = bs.take 64) by rw [HR.out.1, HR.out.2, sameI, hm, Bool.true_and]; exact ⟨rfl, rfl⟩)
            have HM := Lib.hid (HMM.out.trans hm)
            clear hm
            refine (inode_put_yes x0 x1 x2 y4 y5 y6 y7 y8 y9 y10 y11 y12 y13 y14 y15 HM.out _).mono ?_
            rintro e w5 ⟨A5, c5, rfl, hw5, g5⟩
            go_wp2_with fail
            refine (bytes_equal hw5.sl (h64.keep (g.trans g5))).mono ?_
            rintro e w6 ⟨sb, rfl, hs6, rfl⟩
            rw [HSL.out] at hs6
            rw [← hs6.out] at HE
            have ZQ := ZR.keep g5
            have q0 := ZQ.1.2 0 _ rfl; have q1 := ZQ.1.2 1 _ rfl; have q2 := ZQ.1.2 2 _ rfl; have q3 := ZQ.1.2 3 _ rfl; have q4 := ZQ.1.2 4 _ rfl; have q5 := ZQ.1.2 5 _ rfl; have q6 := ZQ.1.2 6 _ rfl; have q7 := ZQ.1.2 7 _ rfl; have q8 := ZQ.1.2 8 _ rfl; have q9 := ZQ.1.2 9 _ rfl; have q10 := ZQ.1.2 10 _ rfl; have q11 := ZQ.1.2 11 _ rfl; have q12 := ZQ.1.2 12 _ rfl; have q13 := ZQ.1.2 13 _ rfl; have q14 := ZQ.1.2 14 _ rfl
            have r0 := ZQ.2 0 (by simp); have r1 := ZQ.2 1 (by simp); have r2 := ZQ.2 2 (by simp); have r3 := ZQ.2 3 (by simp); have r4 := ZQ.2 4 (by simp); have r5 := ZQ.2 5 (by simp); have r6 := ZQ.2 6 (by simp); have r7 := ZQ.2 7 (by simp); have r8 := ZQ.2 8 (by simp); have r9 := ZQ.2 9 (by simp); have r10 := ZQ.2 10 (by simp); have r11 := ZQ.2 11 (by simp); have r12 := ZQ.2 12 (by simp); have r13 := ZQ.2 13 (by simp); have r14 := ZQ.2 14 (by simp)
            have VQ := VE.keep g5
            have z0 := VQ.1.2 0 _ rfl; have z1 := VQ.1.2 1 _ rfl; have z2 := VQ.1.2 2 _ rfl; have z3 := VQ.1.2 3 _ rfl; have z4 := VQ.1.2 4 _ rfl; have z5 := VQ.1.2 5 _ rfl; have z6 := VQ.1.2 6 _ rfl; have z7 := VQ.1.2 7 _ rfl; have z8 := VQ.1.2 8 _ rfl; have z9 := VQ.1.2 9 _ rfl; have z10 := VQ.1.2 10 _ rfl; have z11 := VQ.1.2 11 _ rfl; have z12 := VQ.1.2 12 _ rfl; have z13 := VQ.1.2 13 _ rfl; have z14 := VQ.1.2 14 _ rfl
            clear ZQ VQ
            cases sb with
            | true =>
              have HV := Lib.hid (show inoW bs = .agg #[.int .i64 x0, .int .i64 x1, .int .i64 x2, .int .i64 y4, .int .i64 y5, .int .i64 y6, .int .i64 y7, .int .i64 y8, .int .i64 y9, .int .i64 y10, .int .i64 y11, .int .i64 y12, .int .i64 y13, .int .i64 y14, .int .i64 y15] by rw [inoW_yes HE.out.2, iK, iL, X0.out, X1.out, X2.out, Y4.out, Y5.out, Y6.out, Y7.out, Y8.out, Y9.out, Y10.out, Y11.out, Y12.out, Y13.out, Y14.out, Y15.out])
              have HE1 := Lib.hid HE.out.1
              clear HE
              go_wp2_with fail
              rw [HV.out, HE1.out]
              refine bodyPost_ret (v := .tuple #[.agg #[.int .i64 x0, .int .i64 x1, .int .i64 x2, .int .i64 y4, .int .i64 y5, .int .i64 y6, .int .i64 y7, .int .i64 y8, .int .i64 y9, .int .i64 y10, .int .i64 y11, .int .i64 y12, .int .i64 y13, .int .i64 y14, .int .i64 y15], .int .i64 0]) (by simp [results, Try.results17, go_sem, q0, q1, q2, q3, q4, q5, q6, q7, q8, q9, q10, q11, q12, q13, q14]) rfl ⟨rfl, ?_⟩
              repeat (refine Grow.setCell ?_ (by simp) _)
              exact g.trans g5
            | false =>
              have HE1 := Lib.hid HE.out.1
              have HE2 := Lib.hid HE.out.2
              clear HE
              go_wp2_with fail
              rw [inoW_no HE2.out, HE1.out]
              refine bodyPost_ret (v := .tuple #[.agg #[.int .i64 0, .int .i64 0, .int .i64 0, .int .i64 0, .int .i64 0, .int .i64 0, .int .i64 0, .int .i64 0, .int .i64 0, .int .i64 0, .int .i64 0, .int .i64 0, .int .i64 0, .int .i64 0, .int .i64 0], .int .i64 2]) (by simp [results, Try.results17, go_sem, q0, q1, q2, q3, q4, q5, q6, q7, q8, q9, q10, q11, q12, q13, q14]) rfl ⟨rfl, ?_⟩
              repeat (refine Grow.setCell ?_ (by simp) _)
              exact g.trans g5

theorem inode_read_short {A : Option Addr} {n c : Nat} {bs : List UInt8} {w : World} (hs : Sl w A n bs) (hl : n < 64) :
    Calls Try.prog 17 #[.slice A n c] w fun e w' => e = .returned (.tuple #[inoW bs, .int .i64 (readIE bs)]) ∧ Grow w w' := by
  have HE := Lib.hid (readIE_short (bs := bs) (by rw [hs.1]; exact hl))
  go_enter Try.func17, Try.ntmps17
  go_wp2_with fail
  rw [inoW_no HE.out.2, HE.out.1]
  refine bodyPost_ret (v := .tuple #[.agg #[.int .i64 0, .int .i64 0, .int .i64 0, .int .i64 0, .int .i64 0, .int .i64 0, .int .i64 0, .int .i64 0, .int .i64 0, .int .i64 0, .int .i64 0, .int .i64 0, .int .i64 0, .int .i64 0, .int .i64 0], .int .i64 3]) (by simp [results, Try.results17, go_sem]) rfl ⟨rfl, ?_⟩
  repeat (first | refine Grow.setCell ?_ (by simp) _ | refine Grow.alloc ?_ _)
  exact Grow.refl _

set_option maxHeartbeats 1000000 in
theorem inode_read_early {A : Option Addr} {n c : Nat} {bs : List UInt8} {w : World} (hs : Sl w A n bs) (hc : n ≤ c) (hl : 64 ≤ n) (hnn : noneB bs = true ∨ getN bs 60 4 ≠ (crcN (bs.take 60) : Nat)) :
    Calls Try.prog 17 #[.slice A n c] w fun e w' => e = .returned (.tuple #[inoW bs, .int .i64 (readIE bs)]) ∧ Grow w w' := by
  have h64 := hs.take hl
  have HL := Lib.hid hs.1
  cases hno : noneB bs with
  | true =>
    have HNN := Lib.hid (show bs.take 64 = List.replicate 64 0 by rw [noneB, decide_eq_true_iff] at hno; exact hno)
    have HE := Lib.hid (readIE_none (bs := bs) (by rw [hs.1]; exact hl) hno)
    clear hno hnn
    go_enter Try.func17, Try.ntmps17
    go_wp2_with (refine wpList_makeB rfl _ _ rfl (w.heap.size + 1) 64 64 64 rfl rfl rfl rfl (by omega) (by simp) ?_; intro w2 ho2 hb2 _)
    simp only [World.size_alloc] at ho2
    have H2 := Lib.hid (show Own w2 (w.heap.size + 1) (some ⟨w.heap.size + 1, 0, none⟩) 64 64 (List.replicate 64 0) from ⟨by simp, by omega, ho2⟩)
    have g2 : Grow w w2 := ((Grow.refl _).alloc _).low (hb2.mono (by omega))
    have ZQ := ((Row.new w 25 (List.replicate 15 (Value.int .i64 0)) _ rfl).keep (Grow.ofBelow hb2 (by simp)))
    clear ho2
    refine (bytes_equal (h64.keep g2) H2.out.sl).mono ?_
    rintro e w3 ⟨q, rfl, hq, rfl⟩
    obtain rfl : q = true := by rw [hq.out]; exact decide_eq_true HNN.out
    have q0 := ZQ.1.2 0 _ rfl; have q1 := ZQ.1.2 1 _ rfl; have q2 := ZQ.1.2 2 _ rfl; have q3 := ZQ.1.2 3 _ rfl; have q4 := ZQ.1.2 4 _ rfl; have q5 := ZQ.1.2 5 _ rfl; have q6 := ZQ.1.2 6 _ rfl; have q7 := ZQ.1.2 7 _ rfl; have q8 := ZQ.1.2 8 _ rfl; have q9 := ZQ.1.2 9 _ rfl; have q10 := ZQ.1.2 10 _ rfl; have q11 := ZQ.1.2 11 _ rfl; have q12 := ZQ.1.2 12 _ rfl; have q13 := ZQ.1.2 13 _ rfl; have q14 := ZQ.1.2 14 _ rfl
    have r0 := ZQ.2 0 (by simp); have r1 := ZQ.2 1 (by simp); have r2 := ZQ.2 2 (by simp); have r3 := ZQ.2 3 (by simp); have r4 := ZQ.2 4 (by simp); have r5 := ZQ.2 5 (by simp); have r6 := ZQ.2 6 (by simp); have r7 := ZQ.2 7 (by simp); have r8 := ZQ.2 8 (by simp); have r9 := ZQ.2 9 (by simp); have r10 := ZQ.2 10 (by simp); have r11 := ZQ.2 11 (by simp); have r12 := ZQ.2 12 (by simp); have r13 := ZQ.2 13 (by simp); have r14 := ZQ.2 14 (by simp)
    clear ZQ
    go_wp2_with fail
    rw [inoW_no HE.out.2, HE.out.1]
    refine bodyPost_ret (v := .tuple #[.agg #[.int .i64 0, .int .i64 0, .int .i64 0, .int .i64 0, .int .i64 0, .int .i64 0, .int .i64 0, .int .i64 0, .int .i64 0, .int .i64 0, .int .i64 0, .int .i64 0, .int .i64 0, .int .i64 0, .int .i64 0], .int .i64 0]) (by simp [results, Try.results17, go_sem, q0, q1, q2, q3, q4, q5, q6, q7, q8, q9, q10, q11, q12, q13, q14]) rfl ⟨rfl, ?_⟩
    repeat (refine Grow.setCell ?_ (by simp) _)
    exact g2
  | false =>
    have hnn2 : getN bs 60 4 ≠ (crcN (bs.take 60) : Nat) := by
      rcases hnn with h | h
      · rw [h] at hno; cases hno
      · exact h
    have HNN := Lib.hid (show ¬ bs.take 64 = List.replicate 64 0 by rw [noneB, decide_eq_false_iff_not] at hno; exact hno)
    have HE := Lib.hid (readIE_sum (bs := bs) (by rw [hs.1]; exact hl) hno hnn2)
    have HS := Lib.hid hnn2
    clear hno hnn hnn2
    go_enter Try.func17, Try.ntmps17
    go_wp2_with (refine wpList_makeB rfl _ _ rfl (w.heap.size + 1) 64 64 64 rfl rfl rfl rfl (by omega) (by simp) ?_; intro w2 ho2 hb2 _)
    simp only [World.size_alloc] at ho2
    have H2 := Lib.hid (show Own w2 (w.heap.size + 1) (some ⟨w.heap.size + 1, 0, none⟩) 64 64 (List.replicate 64 0) from ⟨by simp, by omega, ho2⟩)
    have g2 : Grow w w2 := ((Grow.refl _).alloc _).low (hb2.mono (by omega))
    have ZQ := ((Row.new w 25 (List.replicate 15 (Value.int .i64 0)) _ rfl).keep (Grow.ofBelow hb2 (by simp)))
    clear ho2
    refine (bytes_equal (h64.keep g2) H2.out.sl).mono ?_
    rintro e w3 ⟨q, rfl, hq, rfl⟩
    obtain rfl : q = false := by rw [hq.out]; exact decide_eq_false HNN.out
    go_wp2_with fail
    refine (get_s (h64.keep g2) (by omega) (by omega)).mono ?_
    rintro e w3 ⟨rfl, rfl⟩
    go_wp2_with fail
    refine (sum_s ((h64.take (k := 60) (by omega)).keep g2)).mono ?_
    rintro e w3 ⟨q, rfl, hq, hq1, g3⟩
    have hne : (getN (bs.take 64) 60 4 != (q : Int)) = true := by
      rw [bne_iff_ne, hq.out, show (bs.take 64).take 60 = bs.take 60 by rw [List.take_take]; rfl]
      have e60 : getN (bs.take 64) 60 4 = getN bs 60 4 := getN_take (a := 60) (wd := 4) (by omega) (by rw [HL.out]; exact hl)
      rw [e60]
      exact HS.out
    replace ZQ := ZQ.keep g3
    have q0 := ZQ.1.2 0 _ rfl; have q1 := ZQ.1.2 1 _ rfl; have q2 := ZQ.1.2 2 _ rfl; have q3 := ZQ.1.2 3 _ rfl; have q4 := ZQ.1.2 4 _ rfl; have q5 := ZQ.1.2 5 _ rfl; have q6 := ZQ.1.2 6 _ rfl; have q7 := ZQ.1.2 7 _ rfl; have q8 := ZQ.1.2 8 _ rfl; have q9 := ZQ.1.2 9 _ rfl; have q10 := ZQ.1.2 10 _ rfl; have q11 := ZQ.1.2 11 _ rfl; have q12 := ZQ.1.2 12 _ rfl; have q13 := ZQ.1.2 13 _ rfl; have q14 := ZQ.1.2 14 _ rfl
    have r0 := ZQ.2 0 (by simp); have r1 := ZQ.2 1 (by simp); have r2 := ZQ.2 2 (by simp); have r3 := ZQ.2 3 (by simp); have r4 := ZQ.2 4 (by simp); have r5 := ZQ.2 5 (by simp); have r6 := ZQ.2 6 (by simp); have r7 := ZQ.2 7 (by simp); have r8 := ZQ.2 8 (by simp); have r9 := ZQ.2 9 (by simp); have r10 := ZQ.2 10 (by simp); have r11 := ZQ.2 11 (by simp); have r12 := ZQ.2 12 (by simp); have r13 := ZQ.2 13 (by simp); have r14 := ZQ.2 14 (by simp)
    clear ZQ
    go_wp2_with fail
    rw [inoW_no HE.out.2, HE.out.1]
    refine bodyPost_ret (v := .tuple #[.agg #[.int .i64 0, .int .i64 0, .int .i64 0, .int .i64 0, .int .i64 0, .int .i64 0, .int .i64 0, .int .i64 0, .int .i64 0, .int .i64 0, .int .i64 0, .int .i64 0, .int .i64 0, .int .i64 0, .int .i64 0], .int .i64 4]) (by simp [results, Try.results17, go_sem, q0, q1, q2, q3, q4, q5, q6, q7, q8, q9, q10, q11, q12, q13, q14]) rfl ⟨rfl, ?_⟩
    repeat (refine Grow.setCell ?_ (by simp) _)
    exact g2.trans g3

theorem inode_read {A : Option Addr} {n c : Nat} {bs : List UInt8} {w : World} (hs : Sl w A n bs) (hc : n ≤ c) :
    Calls Try.prog 17 #[.slice A n c] w fun e w' => e = .returned (.tuple #[inoW bs, .int .i64 (readIE bs)]) ∧ Grow w w' := by
  by_cases hl : n < 64
  · exact inode_read_short hs hl
  · have hl : 64 ≤ n := by omega
    by_cases h : noneB bs = true ∨ getN bs 60 4 ≠ (crcN (bs.take 60) : Nat)
    · exact inode_read_early hs hc hl h
    · have h1 : noneB bs = false := by
        cases hx : noneB bs with
        | true => exact absurd (.inl hx) h
        | false => rfl
      exact inode_read_test hs hc hl h1 (Decidable.byContradiction fun e => h (.inr e))
end Go.Proofs.Ytpmmkchjdhaieaa
