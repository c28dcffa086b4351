/- The reference's Decode. -/
import Derived.Test.YtnbgkkjhmdfmiaaDec
import Derived.Test.YtnbgkkjhmdfmiaaREnc
namespace Go.Proofs.Ytnbgkkjhmdfmiaa
open Go.RowKit

theorem off_eq {b : List UInt8} (h : 17 ≤ b.length) : dOff b = by_ b 10 + 256 * by_ b 11 := by
  have e : (b.drop 10).take 2 = [b[10], b[11]] := by
    rw [List.drop_eq_getElem_cons (by omega), List.drop_eq_getElem_cons (by omega)]; rfl
  have h2 := (b[10]).toNat_lt
  have h3 := (b[11]).toNat_lt
  have := (get_small (bs := b) (a := 10) (k := 2) (m := leVal [b[10], b[11]]) (by decide) (by omega) (by rw [e]) (by simp [leVal]; omega)).1
  rw [dOff, show getN b 10 2 = getN b ((10 : Nat) : Int) ((2 : Nat) : Int) from rfl, this, by_get (by omega), by_get (by omega)]
  simp [leVal]

theorem ref16_decode_short {A : Option Addr} {n c : Nat} {bs : List UInt8} {w : World} (hs : Sl w A n bs) (hl : n < 13 ∨ n < 17 + dN bs) :
    Calls Try.prog 18 #[.slice A n c] w fun e w' => e = .returned (.tuple #[recW bs, .int .i64 (decL bs : Nat), .int .i64 (decE bs)]) ∧ Grow w w' := by
  have HL := Lib.hid hs.1
  by_cases h13 : n < 13
  · have HE := Lib.hid (show decE bs = 3 by rw [decE, if_pos (by rw [HL.out]; exact h13)])
    clear hl
    go_enter Try.func18, Try.ntmps18
    go_wp2_with fail
    rw [show recW bs = .agg #[.int .i64 0, .int .i64 0, .bool false, .int .i64 0, .string ⟨#[]⟩] by rw [recW, if_neg (by rw [HE.out]; omega)], show decL bs = 0 by rw [decL, if_neg (by rw [HE.out]; omega)], HE.out]
    refine bodyPost_ret (v := .tuple #[.agg #[.int .i64 0, .int .i64 0, .bool false, .int .i64 0, .string ⟨#[]⟩], .int .i64 0, .int .i64 3]) (by simp [results, Try.results18, go_sem]) rfl ⟨rfl, ?_⟩
    repeat (first | refine Grow.setCell ?_ (by simp) _ | refine Grow.alloc ?_ _)
    exact Grow.refl _
  · have h2 : n < 17 + dN bs := by
      rcases hl with h | h
      · exact absurd h h13
      · exact h
    have HE := Lib.hid (show decE bs = 3 by rw [decE, if_neg (by rw [HL.out]; exact h13), if_pos (by rw [HL.out]; exact h2)])
    obtain ⟨b, o, rfl, hb, hcell⟩ := hs.all (by omega)
    obtain ⟨nD, HN⟩ : ∃ nD, Hid (nD = dN bs) := ⟨_, Lib.hid rfl⟩
    have c12 : w.cell? ⟨b, o + 12, none⟩ = some (.int .u8 ((nD : Nat) : Int)) := by
      rw [hcell 12 (by omega), HN.out, ← dN_by, by_get (by rw [hs.1]; omega)]
    have hn1 : nD < 256 := by rw [HN.out]; exact dN_lt bs
    have hbz : b ≠ w.heap.size := by omega
    rw [← HN.out] at h2
    have h13' : 13 ≤ n := by omega
    clear hcell hl h13
    go_enter Try.func18, Try.ntmps18
    go_wp2_with fail
    rw [show recW bs = .agg #[.int .i64 0, .int .i64 0, .bool false, .int .i64 0, .string ⟨#[]⟩] by rw [recW, if_neg (by rw [HE.out]; omega)], show decL bs = 0 by rw [decL, if_neg (by rw [HE.out]; omega)], HE.out]
    refine bodyPost_ret (v := .tuple #[.agg #[.int .i64 0, .int .i64 0, .bool false, .int .i64 0, .string ⟨#[]⟩], .int .i64 0, .int .i64 3]) (by simp [results, Try.results18, go_sem]) rfl ⟨rfl, ?_⟩
    repeat (first | refine Grow.setCell ?_ (by simp) _ | refine Grow.alloc ?_ _)
    exact Grow.refl _

theorem ref16_decode_sum {A : Option Addr} {n c : Nat} {bs : List UInt8} {w : World} (hs : Sl w A n bs) (hc : n ≤ c) (hl : 17 + dN bs ≤ n) (hsum : getN bs ((13 + dN bs : Nat) : Int) 4 ≠ (crcN (bs.take (13 + dN bs)) : Nat)) :
    Calls Try.prog 18 #[.slice A n c] w fun e w' => e = .returned (.tuple #[recW bs, .int .i64 (decL bs : Nat), .int .i64 (decE bs)]) ∧ Grow w w' := by
  have HL := Lib.hid hs.1
  obtain ⟨b, o, rfl, hb, hcell⟩ := hs.all (by omega)
  obtain ⟨nD, HN⟩ : ∃ nD, Hid (nD = dN bs) := ⟨_, Lib.hid rfl⟩
  have c12 : w.cell? ⟨b, o + 12, none⟩ = some (.int .u8 ((nD : Nat) : Int)) := by
    rw [hcell 12 (by omega), HN.out, ← dN_by, by_get (by rw [hs.1]; omega)]
  have hn1 : nD < 256 := by rw [HN.out]; exact dN_lt bs
  have hbz : b ≠ w.heap.size := by omega
  rw [← HN.out] at hsum hl
  have HE := Lib.hid (show decE bs = 4 by rw [decE, if_neg (by rw [HL.out]; omega), if_neg (by rw [HL.out, ← HN.out]; omega), ← HN.out, if_neg hsum])
  have hG := Lib.hid (show getN bs (13 + (nD : Int)) 4 ≠ (crcN (bs.take (13 + nD)) : Nat) from hsum)
  clear hsum hcell
  go_enter Try.func18, Try.ntmps18
  go_wp2_with fail
  refine (rget_s (hs.alloc _) (by omega) (by omega)).mono ?_
  rintro e w1 ⟨rfl, rfl⟩
  obtain ⟨qq, Q0⟩ : ∃ q, Hid (q = getN bs (13 + (nD : Int)) 4) := ⟨_, Lib.hid rfl⟩
  rw [← Q0.out]
  go_wp2_with fail
  refine (rsum_s (bs := bs.take (13 + nD)) ((hs.take (k := 13 + nD) (by omega)).alloc _)).mono ?_
  rintro e w1 ⟨q, rfl, hq, hq1, rfl⟩
  have hne : (qq != (q : Int)) = true := by rw [bne_iff_ne, Q0.out, hq.out]; exact hG.out
  go_wp2_with fail
  rw [show recW bs = .agg #[.int .i64 0, .int .i64 0, .bool false, .int .i64 0, .string ⟨#[]⟩] by rw [recW, if_neg (by rw [HE.out]; omega)], show decL bs = 0 by rw [decL, if_neg (by rw [HE.out]; omega)], HE.out]
  refine bodyPost_ret (v := .tuple #[.agg #[.int .i64 0, .int .i64 0, .bool false, .int .i64 0, .string ⟨#[]⟩], .int .i64 0, .int .i64 4]) (by simp [results, Try.results18, go_sem]) rfl ⟨rfl, ?_⟩
  repeat (first | refine Grow.setCell ?_ (by simp) _ | refine Grow.alloc ?_ _)
  exact Grow.refl _

set_option maxHeartbeats 4000000 in
theorem ref16_decode_may {A : Option Addr} {n c : Nat} {bs : List UInt8} {w : World} (hs : Sl w A n bs) (hc : n ≤ c) (hl : 17 + dN bs ≤ n) (hsum : getN bs ((13 + dN bs : Nat) : Int) 4 = (crcN (bs.take (13 + dN bs)) : Nat)) :
    Calls Try.prog 18 #[.slice A n c] w fun e w' => e = .returned (.tuple #[recW bs, .int .i64 (decL bs : Nat), .int .i64 (decE bs)]) ∧ Grow w w' := by
  have HL := Lib.hid hs.1
  have HPQ := Lib.hid (sameP_eq (by rw [hs.1]; exact hl) hsum)
  have HS := Lib.hid hsum
  obtain ⟨b, o, rfl, hb, hcell⟩ := hs.all (by omega)
  have HC := Lib.hid (show ∀ k, k < n → w.cell? ⟨b, o + k, none⟩ = some (.int .u8 (by_ bs k)) by
    intro k hk
    rw [hcell k (by omega), by_get (by rw [hs.1]; omega)])
  obtain ⟨nD, HN⟩ : ∃ nD, Hid (nD = dN bs) := ⟨_, Lib.hid rfl⟩
  rw [← HN.out] at hl HS
  have c12 := HC.out 12 (by omega)
  rw [dN_by, ← HN.out] at c12
  have hn1 : nD < 256 := by rw [HN.out]; exact dN_lt bs
  have hbz : b ≠ w.heap.size := by omega
  have hbz1 : b ≠ w.heap.size + 1 := by omega
  have hbz2 : w.heap.size ≠ b := by omega
  have hbz3 : w.heap.size + 1 ≠ b := by omega
  have hbl1 : b < w.heap.size + 1 := by omega
  have hbl2 : b < w.heap.size + 1 + 1 := by omega
  have hG := Lib.hid (show getN bs (13 + (nD : Int)) 4 = (crcN (bs.take (13 + nD)) : Nat) from HS.out)
  have HDE := Lib.hid (show decE bs = if sameQ bs then 0 else 2 by rw [← HPQ.out, decE, if_neg (by rw [HL.out]; omega), if_neg (by rw [HL.out, ← HN.out]; omega), ← HN.out, if_pos HS.out])
  obtain ⟨x0, X0⟩ : ∃ x, Hid (x = dCall bs) := ⟨_, Lib.hid rfl⟩
  obtain ⟨x1, X1⟩ : ∃ x, Hid (x = dIno bs) := ⟨_, Lib.hid rfl⟩
  obtain ⟨x2, X2⟩ : ∃ x, Hid (x = by_ bs 9) := ⟨_, Lib.hid rfl⟩
  obtain ⟨x3, X3⟩ : ∃ x, Hid (x = dOff bs) := ⟨_, Lib.hid rfl⟩
  obtain ⟨u2, U2⟩ : ∃ x, Hid (x = by_ bs 10) := ⟨_, Lib.hid rfl⟩
  obtain ⟨u3, U3⟩ : ∃ x, Hid (x = by_ bs 11) := ⟨_, Lib.hid rfl⟩
  obtain ⟨kk, KK⟩ : ∃ x, Hid (x = getK bs 0 8) := ⟨_, Lib.hid rfl⟩
  obtain ⟨tr, TR⟩ : ∃ x, Hid (x = dTr bs) := ⟨_, Lib.hid rfl⟩
  have htr : (x2 == 1) = tr := by rw [TR.out, dTr, X2.out, Bool.eq_iff_iff]; simp
  have c8 := HC.out 8 (by omega)
  have c9 := HC.out 9 (by omega)
  have c10 := HC.out 10 (by omega)
  have c11 := HC.out 11 (by omega)
  rw [show by_ bs 8 = x1 from X1.out.symm] at c8
  rw [← X2.out] at c9
  rw [← U2.out] at c10
  rw [← U3.out] at c11
  obtain ⟨m10, m11⟩ : 0 ≤ x1 ∧ x1 < 256 := by rw [X1.out]; exact by_lt bs 8
  obtain ⟨m20, m21⟩ : 0 ≤ x2 ∧ x2 < 256 := by rw [X2.out]; exact by_lt bs 9
  obtain ⟨m30, m31⟩ : 0 ≤ u2 ∧ u2 < 256 := by rw [U2.out]; exact by_lt bs 10
  obtain ⟨m40, m41⟩ : 0 ≤ u3 ∧ u3 < 256 := by rw [U3.out]; exact by_lt bs 11
  have hsz : u2 + 256 * u3 = x3 := by rw [U2.out, U3.out, X3.out, off_eq (by rw [HL.out]; omega)]
  have hw1 : IntKind.i64.wrap (256 * u3) = 256 * u3 := IntWalk.i64_in _ (by omega)
  have hw2 : IntKind.i64.wrap (u2 + 256 * u3) = x3 := by rw [IntWalk.i64_in _ (by omega)]; exact hsz
  have hw3 : IntKind.i64.wrap u3 = u3 := IntWalk.i64_in _ (by omega)
  have hw4 : IntKind.i64.wrap u2 = u2 := IntWalk.i64_in _ (by omega)
  have hc13 : c ≠ 13 := by omega
  clear hcell hsum hsz
  go_enter Try.func18, Try.ntmps18
  go_wp2_with fail
  refine (rget_s (hs.alloc _) (by omega) (by omega)).mono ?_
  rintro e w1 ⟨rfl, rfl⟩
  obtain ⟨qq, Q0⟩ : ∃ q, Hid (q = getN bs (13 + (nD : Int)) 4) := ⟨_, Lib.hid rfl⟩
  rw [← Q0.out]
  go_wp2_with fail
  refine (rsum_s (bs := bs.take (13 + nD)) ((hs.take (k := 13 + nD) (by omega)).alloc _)).mono ?_
  rintro e w1 ⟨q, rfl, hq, hq1, rfl⟩
  have hne : (qq != (q : Int)) = false := by rw [bne_eq_false_iff_eq, Q0.out, hq.out]; exact hG.out
  go_wp2_with fail
  refine (rget_s ((hs.alloc _).alloc _) (by omega) (by omega)).mono ?_
  rintro e w1 ⟨rfl, rfl⟩
  rw [show getN bs 0 8 = x0 from X0.out.symm, ← KK.out]
  go_wp2_with fail
  go_region
  obtain ⟨sv, SV⟩ : ∃ sv : ByteArray, Hid (sv = ⟨(dDat bs).toArray⟩) := ⟨_, Lib.hid rfl⟩
  have hd : Sl w (some ⟨b, o + 13, none⟩) nD (dDat bs) := by
    have h1 := (hs.drop (k := 13) (c := c) (by omega) hc).take (k := nD) (by omega)
    rw [if_neg hc13, HN.out] at h1
    rw [HN.out]
    exact h1
  have cv1 : (convert 33 9 (.slice (some ⟨b, o + 13, none⟩) nD (c - 13))).run Try.prog (((w.alloc (.cells #[.int .i64 0, .int .i64 0, .bool false, .int .i64 0, .string ⟨#[]⟩] 31)).alloc (.cells #[.int .i64 x0, .int .i64 x1, .bool tr, .int .i64 x3, .string ⟨#[]⟩] 31)).drew) = .ok (.string sv) (((w.alloc (.cells #[.int .i64 0, .int .i64 0, .bool false, .int .i64 0, .string ⟨#[]⟩] 31)).alloc (.cells #[.int .i64 x0, .int .i64 x1, .bool tr, .int .i64 x3, .string ⟨#[]⟩] 31)).drew) := by
    rw [SV.out]; exact conv_s (((hd.alloc _).alloc _).drew)
  have cv2 : (convert 33 9 (.slice (some ⟨b, o + 13, none⟩) (13 + nD - 13) (c - 13))).run Try.prog (((w.alloc (.cells #[.int .i64 0, .int .i64 0, .bool false, .int .i64 0, .string ⟨#[]⟩] 31)).alloc (.cells #[.int .i64 x0, .int .i64 x1, .bool tr, .int .i64 x3, .string ⟨#[]⟩] 31)).drew) = .ok (.string sv) (((w.alloc (.cells #[.int .i64 0, .int .i64 0, .bool false, .int .i64 0, .string ⟨#[]⟩] 31)).alloc (.cells #[.int .i64 x0, .int .i64 x1, .bool tr, .int .i64 x3, .string ⟨#[]⟩] 31)).drew) := by
    rw [SV.out, show 13 + nD - 13 = nD by omega]; exact conv_s (((hd.alloc _).alloc _).drew)
  have ZR : Row (((w.alloc (.cells (List.toArray recZ) 31)).alloc (.cells (List.toArray [.int .i64 x0, .int .i64 x1, .bool tr, .int .i64 x3, .string sv]) 31)).drew) w.heap.size recZ := (Row.new w 31 _ _ rfl).keep (((Grow.refl _).alloc _).drew)
  have VR : Row (((w.alloc (.cells (List.toArray recZ) 31)).alloc (.cells (List.toArray [.int .i64 x0, .int .i64 x1, .bool tr, .int .i64 x3, .string sv]) 31)).drew) (w.heap.size + 1) [.int .i64 x0, .int .i64 x1, .bool tr, .int .i64 x3, .string sv] := by
    have := (Row.new (w.alloc (.cells (List.toArray recZ) 31)) 31 [.int .i64 x0, .int .i64 x1, .bool tr, .int .i64 x3, .string sv] _ rfl).keep ((Grow.refl _).drew)
    simpa using this
  have GV : Grow w (((w.alloc (.cells (List.toArray recZ) 31)).alloc (.cells (List.toArray [.int .i64 x0, .int .i64 x1, .bool tr, .int .i64 x3, .string sv]) 31)).drew) := (((Grow.refl _).alloc _).alloc _).drew
  have HLD := Lib.hid (show (dDat bs).length = nD by rw [dDat_length (by rw [HL.out, ← HN.out]; exact hl), HN.out])
  have HSZ := Lib.hid (show sv.size = nD by rw [← data_length, SV.out]; exact HLD.out)
  have HMM := Lib.hid (show mayR x0 x1 tr x3 sv.size = mayD bs by rw [mayD, HSZ.out, HN.out, X0.out, X1.out, X3.out, TR.out])
  have HZR := Lib.hid ZR
  have HVR := Lib.hid VR
  have HGV := Lib.hid GV
  clear ZR VR GV hw1 hw2 hw3 hw4
  go_wp2_with fail
  refine (ref15_may x0 x1 x3 tr sv _).mono ?_
  rintro e w5 ⟨rfl, g5⟩
  replace g5 : Grow _ w5 := g5
  have ZQ := HZR.out.keep g5
  have VQ := HVR.out.keep g5
  have G5 := HGV.out.trans g5
  have q0 := ZQ.1.2 0 _ rfl; have q1 := ZQ.1.2 1 _ rfl; have q2 := ZQ.1.2 2 _ rfl; have q3 := ZQ.1.2 3 _ rfl; have q4 := ZQ.1.2 4 _ rfl
  have r0 := ZQ.2 0 (by simp [recZ]); have r1 := ZQ.2 1 (by simp [recZ]); have r2 := ZQ.2 2 (by simp [recZ]); have r3 := ZQ.2 3 (by simp [recZ]); have r4 := ZQ.2 4 (by simp [recZ])
  have z0 := VQ.1.2 0 _ rfl; have z1 := VQ.1.2 1 _ rfl; have z2 := VQ.1.2 2 _ rfl; have z3 := VQ.1.2 3 _ rfl; have z4 := VQ.1.2 4 _ rfl
  have e9 := G5.cell (HC.out 9 (by omega))
  rw [← X2.out] at e9
  clear ZQ VQ HZR HVR HGV cv1 cv2 c8 c9 c10 c11 c12 htr g5
  rw [HMM.out]
  obtain ⟨m, MM⟩ : ∃ m, Hid (m = mayD bs) := ⟨_, Lib.hid rfl⟩
  rw [← MM.out]
  obtain ⟨f, hf⟩ : ∃ f, f = fillN (17 + nD) := ⟨_, rfl⟩
  have hf8 : f < 8 ∧ (17 + nD + f) % 8 = 0 ∧ ∀ j, j < f → (17 + nD + j) % 8 ≠ 0 := by
    rw [hf, fillN]
    refine ⟨by omega, by omega, ?_⟩
    intro j hj
    omega
  have HF := Lib.hid (show dAll bs = 17 + nD + f by rw [dAll, ← HN.out, hf])
  have HF8 := Lib.hid hf8
  have hf7 : f < 8 := hf8.1
  clear hf hf8
  go_wp2_with fail
  go_loop [11] (fun v => ∃ j : Nat, j ≤ f ∧ v = .int .i64 (17 + (nD : Int) + (j : Int))) (fun v => 17 + nD + f - (intOf v).toNat)
  case atStart => exact ⟨0, Nat.zero_le _, by simp⟩
  case round =>
    obtain ⟨j, hj, rfl⟩ := hrel
    by_cases hlt : j < f
    · have hne1 : ((17 + (nD : Int) + (j : Int)) % 8 != 0) = true := by
        have := HF8.out.2.2 j hlt
        rw [bne_iff_ne]; omega
      go_wp2_with fail
      go_round
      case rel => exact ⟨j + 1, by omega, by congr 1⟩
      case measure => simp [intOf]; omega
    · obtain rfl : j = f := by omega
      have hne1 : ((17 + (nD : Int) + (j : Int)) % 8 != 0) = false := by
        have := HF8.out.2.1
        rw [bne_eq_false_iff_eq]; omega
      cases kk with
      | false =>
        have HE := Lib.hid (show decE bs = 2 by rw [HDE.out, sameQ, ← KK.out, Bool.false_and]; rfl)
        go_wp2_with fail
        rw [show recW bs = .agg #[.int .i64 0, .int .i64 0, .bool false, .int .i64 0, .string ⟨#[]⟩] by rw [recW, if_neg (by rw [HE.out]; omega)], show decL bs = 0 by rw [decL, if_neg (by rw [HE.out]; omega)], HE.out]
        refine bodyPost_ret (v := .tuple #[.agg #[.int .i64 0, .int .i64 0, .bool false, .int .i64 0, .string ⟨#[]⟩], .int .i64 0, .int .i64 2]) (by simp [results, Try.results18, go_sem, q0, q1, q2, q3, q4]) rfl ⟨rfl, ?_⟩
        repeat (refine Grow.setCell ?_ (by simp) _)
        exact G5
      | true =>
        cases m with
        | false =>
          have HE := Lib.hid (show decE bs = 2 by rw [HDE.out, sameQ, ← KK.out, ← MM.out, Bool.false_and, Bool.and_false]; rfl)
          go_wp2_with fail
          rw [show recW bs = .agg #[.int .i64 0, .int .i64 0, .bool false, .int .i64 0, .string ⟨#[]⟩] by rw [recW, if_neg (by rw [HE.out]; omega)], show decL bs = 0 by rw [decL, if_neg (by rw [HE.out]; omega)], HE.out]
          refine bodyPost_ret (v := .tuple #[.agg #[.int .i64 0, .int .i64 0, .bool false, .int .i64 0, .string ⟨#[]⟩], .int .i64 0, .int .i64 2]) (by simp [results, Try.results18, go_sem, q0, q1, q2, q3, q4]) rfl ⟨rfl, ?_⟩
          repeat (refine Grow.setCell ?_ (by simp) _)
          exact G5
        | true =>
          by_cases h9 : 1 < x2
          · have h9' := Lib.hid (show decide (by_ bs 9 ≤ 1) = false by rw [← X2.out]; exact decide_eq_false (by omega))
            have HE := Lib.hid (show decE bs = 2 by rw [HDE.out, sameQ, h9'.out, Bool.false_and, Bool.and_false, Bool.and_false]; rfl)
            go_wp2_with fail
            rw [show recW bs = .agg #[.int .i64 0, .int .i64 0, .bool false, .int .i64 0, .string ⟨#[]⟩] by rw [recW, if_neg (by rw [HE.out]; omega)], show decL bs = 0 by rw [decL, if_neg (by rw [HE.out]; omega)], HE.out]
            refine bodyPost_ret (v := .tuple #[.agg #[.int .i64 0, .int .i64 0, .bool false, .int .i64 0, .string ⟨#[]⟩], .int .i64 0, .int .i64 2]) (by simp [results, Try.results18, go_sem, q0, q1, q2, q3, q4]) rfl ⟨rfl, ?_⟩
            repeat (refine Grow.setCell ?_ (by simp) _)
            exact G5
          · have h9a : x2 ≤ 1 := by omega
            have h9' := Lib.hid (show decide (by_ bs 9 ≤ 1) = true by rw [← X2.out]; exact decide_eq_true h9a)
            clear h9
            by_cases hal : 17 + nD + j ≤ n
            · have hal' := Lib.hid (show decide (dAll bs ≤ bs.length) = true by rw [HF.out, HL.out]; exact decide_eq_true hal)
              have HQ := Lib.hid (show sameQ bs = zerosB bs (17 + nD) (17 + nD + j) by rw [sameQ, ← KK.out, ← MM.out, h9'.out, hal'.out, HF.out, ← HN.out]; rfl)
              go_wp2_with fail
              go_loop [12] (fun v => ∃ k : Nat, 17 + nD ≤ k ∧ k ≤ 17 + nD + j ∧ v = .int .i64 (k : Int) ∧ Hid (∀ i, 17 + nD ≤ i → i < k → by_ bs i = 0)) (fun v => 17 + nD + j - (intOf v).toNat)
              case atStart => exact ⟨17 + nD, by omega, by omega, by simp, Lib.hid (fun i h1 h2 => by omega)⟩
              case round =>
                obtain ⟨k, hk1, hk2, rfl, hz⟩ := hrel
                by_cases hkl : k < 17 + nD + j
                · have ck := G5.cell (HC.out k (by omega))
                  obtain ⟨y, hy⟩ : ∃ y, y = by_ bs k := ⟨_, rfl⟩
                  rw [← hy] at ck
                  have HY := Lib.hid hy
                  clear hy
                  by_cases hu : y = 0
                  · have hne2 : (y != 0) = false := by rw [bne_eq_false_iff_eq]; exact hu
                    have HU := Lib.hid hu
                    clear hu
                    go_wp2_with fail
                    go_round
                    case rel =>
                      have hzz : Hid (∀ i, 17 + nD ≤ i → i < k + 1 → by_ bs i = 0) := Lib.hid fun i h1 h2 => by
                        by_cases hj2 : i < k
                        · exact hz.out i h1 hj2
                        · obtain rfl : i = k := by omega
                          rw [← HY.out]; exact HU.out
                      first | exact ⟨k + 1, by omega, by omega, by go_num, hzz⟩ | ((repeat apply Exists.intro); exact ⟨⟨k + 1, by omega, by omega, by go_num, hzz⟩, rfl⟩)
                    case measure => simp [intOf]; omega
                  · have hne2 : (y != 0) = true := by rw [bne_iff_ne]; exact hu
                    have hD : sameQ bs = false := by
                      rw [HQ.out]
                      cases hzb : zerosB bs (17 + nD) (17 + nD + j) with
                      | false => rfl
                      | true =>
                        have := (zeros_iff (b := bs) (lo := 17 + nD) (hi := 17 + nD + j) (by rw [HL.out]; exact hal)).1 hzb k hk1 hkl
                        exact absurd (by rw [HY.out, by_get (by rw [HL.out]; omega), this]; rfl) hu
                    have HE := Lib.hid (show decE bs = 2 by rw [HDE.out, hD]; rfl)
                    clear hD hu
                    go_wp2_with fail
                    rw [show recW bs = .agg #[.int .i64 0, .int .i64 0, .bool false, .int .i64 0, .string ⟨#[]⟩] by rw [recW, if_neg (by rw [HE.out]; omega)], show decL bs = 0 by rw [decL, if_neg (by rw [HE.out]; omega)], HE.out]
                    refine bodyPost_ret (v := .tuple #[.agg #[.int .i64 0, .int .i64 0, .bool false, .int .i64 0, .string ⟨#[]⟩], .int .i64 0, .int .i64 2]) (by simp [results, Try.results18, go_sem, q0, q1, q2, q3, q4]) rfl ⟨rfl, ?_⟩
                    repeat (refine Grow.setCell ?_ (by simp) _)
                    exact G5
                · obtain rfl : k = 17 + nD + j := by omega
                  have hD : sameQ bs = true := by
                    rw [HQ.out]
                    refine (zeros_iff (b := bs) (lo := 17 + nD) (hi := 17 + nD + j) (by rw [HL.out]; exact hal)).2 fun i h1 h2 => ?_
                    have := hz.out i h1 h2
                    rw [by_get (by rw [HL.out]; omega)] at this
                    exact UInt8.toNat_inj.1 (by simpa using this)
                  have HE := Lib.hid (show decE bs = 0 by rw [HDE.out, hD]; rfl)
                  have HV := Lib.hid (show recW bs = .agg #[.int .i64 x0, .int .i64 x1, .bool tr, .int .i64 x3, .string sv] by rw [recW, if_pos HE.out, X0.out, X1.out, TR.out, X3.out, SV.out])
                  have HLL := Lib.hid (show ((decL bs : Nat) : Int) = 17 + (nD : Int) + (j : Int) by rw [decL, if_pos HE.out, HF.out]; simp)
                  clear hD
                  go_wp2_with fail
                  rw [HV.out, HE.out, HLL.out]
                  refine bodyPost_ret (v := .tuple #[.agg #[.int .i64 x0, .int .i64 x1, .bool tr, .int .i64 x3, .string sv], .int .i64 (17 + (nD : Int) + (j : Int)), .int .i64 0]) (by simp [results, Try.results18, go_sem, q0, q1, q2, q3, q4]) rfl ⟨rfl, ?_⟩
                  repeat (refine Grow.setCell ?_ (by simp) _)
                  exact G5
            · have hal2 : n < 17 + nD + j := by omega
              have hal' := Lib.hid (show decide (dAll bs ≤ bs.length) = false by rw [HF.out, HL.out]; exact decide_eq_false hal)
              clear hal
              have HE := Lib.hid (show decE bs = 2 by rw [HDE.out, sameQ, hal'.out, Bool.and_false, Bool.and_false, Bool.and_false]; rfl)
              go_wp2_with fail
              rw [show recW bs = .agg #[.int .i64 0, .int .i64 0, .bool false, .int .i64 0, .string ⟨#[]⟩] by rw [recW, if_neg (by rw [HE.out]; omega)], show decL bs = 0 by rw [decL, if_neg (by rw [HE.out]; omega)], HE.out]
              refine bodyPost_ret (v := .tuple #[.agg #[.int .i64 0, .int .i64 0, .bool false, .int .i64 0, .string ⟨#[]⟩], .int .i64 0, .int .i64 2]) (by simp [results, Try.results18, go_sem, q0, q1, q2, q3, q4]) rfl ⟨rfl, ?_⟩
              repeat (refine Grow.setCell ?_ (by simp) _)
              exact G5

theorem ref16_decode {A : Option Addr} {n c : Nat} {bs : List UInt8} {w : World} (hs : Sl w A n bs) (hc : n ≤ c) :
    Calls Try.prog 18 #[.slice A n c] w fun e w' => e = .returned (.tuple #[recW bs, .int .i64 (decL bs : Nat), .int .i64 (decE bs)]) ∧ Grow w w' := by
  by_cases h1 : n < 13 ∨ n < 17 + dN bs
  · exact ref16_decode_short hs h1
  · have hl : 17 + dN bs ≤ n := Nat.le_of_not_lt fun h => h1 (.inr h)
    by_cases h2 : getN bs ((13 + dN bs : Nat) : Int) 4 = (crcN (bs.take (13 + dN bs)) : Nat)
    · exact ref16_decode_may hs hc hl h2
    · exact ref16_decode_sum hs hc hl h2
end Go.Proofs.Ytnbgkkjhmdfmiaa
