/- clog.Decode. -/
import Derived.Test.YtnbgkkjhmdfmiaaEnc
import Derived.Test.YtnbgkkjhmdfmiaaDecPure
import Derived.Test.YtnbgkkjhmdfmiaaBytesEq
import Derived.RegionTactic
import Derived.ChangeAlike
namespace Go.Proofs.Ytnbgkkjhmdfmiaa
open Go.RowKit

theorem has_prefix {A A' : Option Addr} {n n' c c' : Nat} {xs ys : List UInt8} {w : World} (hx : Sl w A n xs) (hc : n ≤ c) (hy : Sl w A' n' ys) :
    Calls Try.prog 35 #[.slice A n c, .slice A' n' c'] w fun e w' => ∃ s, e = .returned (.bool s) ∧ Hid (s = decide (n' ≤ n ∧ xs.take n' = ys)) ∧ w = w' := by
  by_cases h : n' ≤ n
  · go_enter Try.func35, Try.ntmps35
    go_wp2_with fail
    refine (bytes_equal (hx.take h) hy).mono ?_
    rintro e w1 ⟨s, rfl, hs, rfl⟩
    go_wp2_with fail
    go_ret
    exact ⟨_, rfl, Lib.hid (by rw [hs.out]; simp [h]), rfl⟩
  · go_enter Try.func35, Try.ntmps35
    go_wp2_with fail
    go_ret
    exact ⟨_, rfl, Lib.hid (by simp [h]), rfl⟩

/-- What a record's read tells. -/
def recW (bs : List UInt8) : Value := if decE bs = 0 then .agg #[.int .i64 (dCall bs), .int .i64 (dIno bs), .bool (dTr bs), .int .i64 (dOff bs), .string ⟨(dDat bs).toArray⟩] else .agg #[.int .i64 0, .int .i64 0, .bool false, .int .i64 0, .string ⟨#[]⟩]
def recZ : List Value := [.int .i64 0, .int .i64 0, .bool false, .int .i64 0, .string ⟨#[]⟩]

set_option maxHeartbeats 2000000 in
theorem clog_decode_may {A : Option Addr} {n c : Nat} {bs : List UInt8} {w : World} (hs : Sl w A n bs) (hc : n ≤ c) (hl : 17 + dN bs ≤ n) (hsum : getN bs ((13 + dN bs : Nat) : Int) 4 = (crcN (bs.take (13 + dN bs)) : Nat)) :
    Calls Try.prog 17 #[.slice A n c] w fun e w' => e = .returned (.tuple #[recW bs, .int .i64 (decL bs : Nat), .int .i64 (decE bs)]) ∧ Grow w w' := by
  have HL := Lib.hid hs.1
  have HS := Lib.hid hsum
  obtain ⟨b, o, rfl, hb, hcell⟩ := hs.all (by omega)
  have HC := Lib.hid (show ∀ k, k < 17 → w.cell? ⟨b, o + k, none⟩ = some (.int .u8 (by_ bs k)) by
    intro k hk
    rw [hcell k (by omega), by_get (by rw [hs.1]; omega)])
  obtain ⟨nD, HN⟩ : ∃ nD, Hid (nD = dN bs) := ⟨_, Lib.hid rfl⟩
  rw [← HN.out] at hl HS
  have c12 := HC.out 12 (by omega)
  rw [dN_by, ← HN.out] at c12
  have hn1 : nD < 256 := by rw [HN.out]; exact dN_lt bs
  have hbz : b ≠ w.heap.size := by omega
  have hK := Lib.hid (show getK bs (13 + (nD : Int)) 4 = true from getK_small (b := bs) (a := 13 + nD) (wd := 4) (.inr (.inr rfl)) (by rw [HL.out]; omega))
  have hG := Lib.hid (show getN bs (13 + (nD : Int)) 4 = (crcN (bs.take (13 + nD)) : Nat) from HS.out)
  clear hcell hsum
  go_enter Try.func17, Try.ntmps17
  go_wp2_with fail
  refine (get_s (hs.alloc _) (by omega) (by omega)).mono ?_
  rintro e w1 ⟨rfl, rfl⟩
  rw [hK.out]
  obtain ⟨qq, Q0⟩ : ∃ q, Hid (q = getN bs (13 + (nD : Int)) 4) := ⟨_, Lib.hid rfl⟩
  rw [← Q0.out]
  go_wp2_with fail
  refine (sum_s (bs := bs.take (13 + nD)) ((hs.take (k := 13 + nD) (by omega)).alloc _)).mono ?_
  rintro e w1 ⟨q, rfl, hq, hq1, g1⟩
  have hne : (qq != (q : Int)) = false := by rw [bne_eq_false_iff_eq, Q0.out, hq.out, hG.out]
  have ZR : Row w1 w.heap.size recZ := (Row.new w 31 _ _ rfl).keep g1
  replace g1 := ((Grow.refl _).alloc _).trans g1
  go_wp2_with fail
  refine (get_s (hs.keep g1) (by omega) (by omega)).mono ?_
  rintro e w2 ⟨rfl, rfl⟩
  go_wp2_with fail
  refine (get_s (hs.keep g1) (by omega) (by omega)).mono ?_
  rintro e w2 ⟨rfl, rfl⟩
  obtain ⟨x0, X0⟩ : ∃ x, Hid (x = dCall bs) := ⟨_, Lib.hid rfl⟩
  obtain ⟨x1, X1⟩ : ∃ x, Hid (x = dIno bs) := ⟨_, Lib.hid rfl⟩
  obtain ⟨x2, X2⟩ : ∃ x, Hid (x = by_ bs 9) := ⟨_, Lib.hid rfl⟩
  obtain ⟨x3, X3⟩ : ∃ x, Hid (x = dOff bs) := ⟨_, Lib.hid rfl⟩
  rw [show getN bs 0 8 = x0 from X0.out.symm, show getN bs 10 2 = x3 from X3.out.symm]
  have c8 := g1.cell (HC.out 8 (by omega))
  have c9 := g1.cell (HC.out 9 (by omega))
  rw [show by_ bs 8 = x1 from X1.out.symm] at c8
  rw [← X2.out] at c9
  obtain ⟨m10, m11⟩ : 0 ≤ x1 ∧ x1 < 256 := by rw [X1.out]; exact by_lt bs 8
  obtain ⟨m20, m21⟩ : 0 ≤ x2 ∧ x2 < 256 := by rw [X2.out]; exact by_lt bs 9
  have hb3 : b < w1.heap.size := Nat.lt_of_lt_of_le hb g1.size
  have hb4 : b ≠ w1.heap.size := by omega
  have hc13 : c ≠ 13 := by omega
  obtain ⟨sv, SV⟩ : ∃ sv : ByteArray, Hid (sv = ⟨(dDat bs).toArray⟩) := ⟨_, Lib.hid rfl⟩
  have hd : Sl w (some ⟨b, o + 13, none⟩) nD (dDat bs) := by
    have h1 := (hs.drop (k := 13) (c := c) (by omega) hc).take (k := nD) (by omega)
    rw [if_neg hc13, HN.out] at h1
    rw [HN.out]
    exact h1
  have cv0 : (convert 33 9 (.slice (some ⟨b, o + 13, none⟩) nD (c - 13))).run Try.prog w1.drew = .ok (.string sv) w1.drew := by
    rw [SV.out]; exact conv_s ((hd.keep g1).drew)
  have cv1 : (convert 33 9 (.slice (some ⟨b, o + 13, none⟩) nD (c - 13))).run Try.prog (w1.alloc (.cells #[.int .i64 0, .int .i64 0, .bool false, .int .i64 0, .string ⟨#[]⟩] 31)).drew = .ok (.string sv) (w1.alloc (.cells #[.int .i64 0, .int .i64 0, .bool false, .int .i64 0, .string ⟨#[]⟩] 31)).drew := by
    rw [SV.out]; exact conv_s (((hd.keep g1).alloc _).drew)
  obtain ⟨tr, TR⟩ : ∃ x, Hid (x = dTr bs) := ⟨_, Lib.hid rfl⟩
  have htr : (x2 == 1) = tr := by rw [TR.out, dTr, X2.out, Bool.eq_iff_iff]; simp
  go_wp2_with fail
  go_region
  all_goals
    have VR := (Row.new w1 31 [.int .i64 x0, .int .i64 x1, .bool tr, .int .i64 x3, .string sv] _ rfl).keep ((Grow.refl _).drew)
    replace ZR := ZR.keep (((Grow.refl w1).alloc (.cells (List.toArray [.int .i64 x0, .int .i64 x1, .bool tr, .int .i64 x3, .string sv]) 31)).drew)
    have GV := (g1.alloc (.cells (List.toArray [.int .i64 x0, .int .i64 x1, .bool tr, .int .i64 x3, .string sv]) 31)).drew
    have HLD := Lib.hid (show (dDat bs).length = nD by rw [dDat_length (by rw [HL.out, ← HN.out]; exact hl), HN.out])
    have HSZ := Lib.hid (show sv.size = nD by rw [← data_length, SV.out]; exact HLD.out)
    have HSD := Lib.hid (show sv.data.toList = dDat bs by rw [SV.out])
    clear c8 c9 c12 cv0 cv1 hb3 hb4 htr
    have HMM := Lib.hid (show mayR x0 x1 tr x3 sv.size = mayD bs by rw [mayD, HSZ.out, HN.out, X0.out, X1.out, X3.out, TR.out])
    have HEE := Lib.hid (show encB x0 x1 tr x3 sv.data.toList = encD bs by rw [encD, HSD.out, X0.out, X1.out, X3.out, TR.out])
    have HDE := Lib.hid (show decE bs = if sameP bs then 0 else 2 by rw [decE, if_neg (by rw [HL.out]; omega), if_neg (by rw [HL.out, ← HN.out]; omega), ← HN.out, if_pos HS.out])
    go_wp2_with fail
    cases hm : mayD bs with
    | false =>
      have HE := Lib.hid (show decE bs = 2 by rw [HDE.out, sameP, hm]; rfl)
      refine (clog_encode_no x0 x1 x3 tr sv (HMM.out.trans hm) _).mono ?_
      rintro e w5 ⟨rfl, g5⟩
      replace g5 : Grow _ w5 := g5
      have ZQ := ZR.keep g5
      have q0 := ZQ.1.2 0 _ rfl; have q1 := ZQ.1.2 1 _ rfl; have q2 := ZQ.1.2 2 _ rfl; have q3 := ZQ.1.2 3 _ rfl; have q4 := ZQ.1.2 4 _ rfl
      have r0 := ZQ.2 0 (by simp [recZ]); have r1 := ZQ.2 1 (by simp [recZ]); have r2 := ZQ.2 2 (by simp [recZ]); have r3 := ZQ.2 3 (by simp [recZ]); have r4 := ZQ.2 4 (by simp [recZ])
      clear ZQ hm
      go_wp2_with fail
      rw [show recW bs = .agg #[.int .i64 0, .int .i64 0, .bool false, .int .i64 0, .string ⟨#[]⟩] by rw [recW, if_neg (by rw [HE.out]; omega)], show decL bs = 0 by rw [decL, if_neg (by rw [HE.out]; omega)], HE.out]
      refine bodyPost_ret (v := .tuple #[.agg #[.int .i64 0, .int .i64 0, .bool false, .int .i64 0, .string ⟨#[]⟩], .int .i64 0, .int .i64 2]) (by simp [results, Try.results17, go_sem, q0, q1, q2, q3, q4]) rfl ⟨rfl, ?_⟩
      repeat (refine Grow.setCell ?_ (by simp) _)
      exact GV.trans g5
    | true =>
      have HM := Lib.hid (HMM.out.trans hm)
      have HE := Lib.hid (show decE bs = if decide (dAll bs ≤ n ∧ bs.take (dAll bs) = encD bs) then 0 else 2 by rw [HDE.out, sameP, hm, Bool.true_and, HL.out])
      clear hm
      obtain ⟨L, LL⟩ : ∃ L, Hid (L = dAll bs) := ⟨_, Lib.hid rfl⟩
      have hL : L ≤ 300 := by
        rw [LL.out, dAll, ← HN.out]
        have := fill_lt (17 + nD)
        omega
      refine (clog_encode_yes x0 x1 x3 tr sv HM.out _).mono ?_
      rintro e w5 ⟨v5, rfl, hown5, g5⟩
      replace g5 : Grow _ w5 := g5
      rw [HEE.out] at hown5
      obtain ⟨A5, c5, rfl, hw5⟩ := Own.ofOB hown5 L (by rw [encD_length (by rw [HL.out, ← HN.out]; exact hl), LL.out]) (by omega)
      clear hown5
      go_wp2_with fail
      refine (has_prefix (hs.keep (GV.trans g5)) hc hw5.sl).mono ?_
      rintro e w6 ⟨sb, rfl, hs6, rfl⟩
      rw [← LL.out] at HE
      rw [← hs6.out] at HE
      have ZQ := ZR.keep g5
      have q0 := ZQ.1.2 0 _ rfl; have q1 := ZQ.1.2 1 _ rfl; have q2 := ZQ.1.2 2 _ rfl; have q3 := ZQ.1.2 3 _ rfl; have q4 := ZQ.1.2 4 _ rfl
      have r0 := ZQ.2 0 (by simp [recZ]); have r1 := ZQ.2 1 (by simp [recZ]); have r2 := ZQ.2 2 (by simp [recZ]); have r3 := ZQ.2 3 (by simp [recZ]); have r4 := ZQ.2 4 (by simp [recZ])
      have VQ := VR.keep g5
      have z0 := VQ.1.2 0 _ rfl; have z1 := VQ.1.2 1 _ rfl; have z2 := VQ.1.2 2 _ rfl; have z3 := VQ.1.2 3 _ rfl; have z4 := VQ.1.2 4 _ rfl
      clear ZQ VQ
      cases sb with
      | true =>
        have HE1 := Lib.hid (show decE bs = 0 from HE.out)
        have HV := Lib.hid (show recW bs = .agg #[.int .i64 x0, .int .i64 x1, .bool tr, .int .i64 x3, .string sv] by rw [recW, if_pos HE1.out, X0.out, X1.out, TR.out, X3.out, SV.out])
        have HLL := Lib.hid (show decL bs = L by rw [decL, if_pos HE1.out, LL.out])
        clear HE
        go_wp2_with fail
        rw [HV.out, HE1.out, HLL.out]
        refine bodyPost_ret (v := .tuple #[.agg #[.int .i64 x0, .int .i64 x1, .bool tr, .int .i64 x3, .string sv], .int .i64 (L : Nat), .int .i64 0]) (by simp [results, Try.results17, go_sem, q0, q1, q2, q3, q4]) rfl ⟨rfl, ?_⟩
        repeat (refine Grow.setCell ?_ (by simp) _)
        exact GV.trans g5
      | false =>
        have HE1 := Lib.hid (show decE bs = 2 from HE.out)
        clear HE
        go_wp2_with fail
        rw [show recW bs = .agg #[.int .i64 0, .int .i64 0, .bool false, .int .i64 0, .string ⟨#[]⟩] by rw [recW, if_neg (by rw [HE1.out]; omega)], show decL bs = 0 by rw [decL, if_neg (by rw [HE1.out]; omega)], HE1.out]
        refine bodyPost_ret (v := .tuple #[.agg #[.int .i64 0, .int .i64 0, .bool false, .int .i64 0, .string ⟨#[]⟩], .int .i64 0, .int .i64 2]) (by simp [results, Try.results17, go_sem, q0, q1, q2, q3, q4]) rfl ⟨rfl, ?_⟩
        repeat (refine Grow.setCell ?_ (by simp) _)
        exact GV.trans g5

theorem clog_decode_short {A : Option Addr} {n c : Nat} {bs : List UInt8} {w : World} (hs : Sl w A n bs) (hl : n < 13) :
    Calls Try.prog 17 #[.slice A n c] w fun e w' => e = .returned (.tuple #[recW bs, .int .i64 (decL bs : Nat), .int .i64 (decE bs)]) ∧ Grow w w' := by
  have HE := Lib.hid (show decE bs = 3 by rw [decE, if_pos (by rw [hs.1]; exact hl)])
  go_enter Try.func17, Try.ntmps17
  go_wp2_with fail
  rw [show recW bs = .agg #[.int .i64 0, .int .i64 0, .bool false, .int .i64 0, .string ⟨#[]⟩] by rw [recW, if_neg (by rw [HE.out]; omega)], show decL bs = 0 by rw [decL, if_neg (by rw [HE.out]; omega)], HE.out]
  refine bodyPost_ret (v := .tuple #[.agg #[.int .i64 0, .int .i64 0, .bool false, .int .i64 0, .string ⟨#[]⟩], .int .i64 0, .int .i64 3]) (by simp [results, Try.results17, go_sem]) rfl ⟨rfl, ?_⟩
  repeat (first | refine Grow.setCell ?_ (by simp) _ | refine Grow.alloc ?_ _)
  exact Grow.refl _

theorem getK_beyond {bs : List UInt8} {a : Nat} (h : bs.length < a + 4) : getK bs (a : Int) 4 = false := by
  refine (get_none ?_).2
  rintro ⟨-, -, h2⟩
  omega

set_option maxHeartbeats 1000000 in
theorem clog_decode_early {A : Option Addr} {n c : Nat} {bs : List UInt8} {w : World} (hs : Sl w A n bs) (hc : n ≤ c) (hl : 13 ≤ n) (hsum : n < 17 + dN bs ∨ getN bs ((13 + dN bs : Nat) : Int) 4 ≠ (crcN (bs.take (13 + dN bs)) : Nat)) :
    Calls Try.prog 17 #[.slice A n c] w fun e w' => e = .returned (.tuple #[recW bs, .int .i64 (decL bs : Nat), .int .i64 (decE bs)]) ∧ Grow w w' := by
  have HL := Lib.hid hs.1
  obtain ⟨b, o, rfl, hb, hcell⟩ := hs.all (by omega)
  obtain ⟨nD, HN⟩ : ∃ nD, Hid (nD = dN bs) := ⟨_, Lib.hid rfl⟩
  have c12 : w.cell? ⟨b, o + 12, none⟩ = some (.int .u8 ((nD : Nat) : Int)) := by
    rw [hcell 12 (by omega), HN.out, ← dN_by, by_get (by rw [hs.1]; omega)]
  have hn1 : nD < 256 := by rw [HN.out]; exact dN_lt bs
  have hbz : b ≠ w.heap.size := by omega
  rw [← HN.out] at hsum
  clear hcell
  by_cases hsh : n < 17 + nD
  · have HE := Lib.hid (show decE bs = 3 by rw [decE, if_neg (by rw [HL.out]; omega), if_pos (by rw [HL.out, ← HN.out]; exact hsh)])
    have hK := Lib.hid (show getK bs (13 + (nD : Int)) 4 = false from getK_beyond (a := 13 + nD) (by rw [HL.out]; omega))
    clear hsum
    go_enter Try.func17, Try.ntmps17
    go_wp2_with fail
    refine (get_s (hs.alloc _) (by omega) (by omega)).mono ?_
    rintro e w1 ⟨rfl, rfl⟩
    rw [hK.out]
    go_wp2_with fail
    rw [show recW bs = .agg #[.int .i64 0, .int .i64 0, .bool false, .int .i64 0, .string ⟨#[]⟩] by rw [recW, if_neg (by rw [HE.out]; omega)], show decL bs = 0 by rw [decL, if_neg (by rw [HE.out]; omega)], HE.out]
    refine bodyPost_ret (v := .tuple #[.agg #[.int .i64 0, .int .i64 0, .bool false, .int .i64 0, .string ⟨#[]⟩], .int .i64 0, .int .i64 3]) (by simp [results, Try.results17, go_sem]) rfl ⟨rfl, ?_⟩
    repeat (first | refine Grow.setCell ?_ (by simp) _ | refine Grow.alloc ?_ _)
    exact Grow.refl _
  · have hl17 : 17 + nD ≤ n := by omega
    have hsum2 : getN bs ((13 + nD : Nat) : Int) 4 ≠ (crcN (bs.take (13 + nD)) : Nat) := by
      rcases hsum with h | h
      · exact absurd h hsh
      · exact h
    have HE := Lib.hid (show decE bs = 4 by rw [decE, if_neg (by rw [HL.out]; omega), if_neg (by rw [HL.out, ← HN.out]; omega), ← HN.out, if_neg hsum2])
    have hK := Lib.hid (show getK bs (13 + (nD : Int)) 4 = true from getK_small (b := bs) (a := 13 + nD) (wd := 4) (.inr (.inr rfl)) (by rw [HL.out]; omega))
    have hG := Lib.hid (show getN bs (13 + (nD : Int)) 4 ≠ (crcN (bs.take (13 + nD)) : Nat) from hsum2)
    clear hsum hsum2 hsh
    go_enter Try.func17, Try.ntmps17
    go_wp2_with fail
    refine (get_s (hs.alloc _) (by omega) (by omega)).mono ?_
    rintro e w1 ⟨rfl, rfl⟩
    rw [hK.out]
    obtain ⟨qq, Q0⟩ : ∃ q, Hid (q = getN bs (13 + (nD : Int)) 4) := ⟨_, Lib.hid rfl⟩
    rw [← Q0.out]
    go_wp2_with fail
    refine (sum_s (bs := bs.take (13 + nD)) ((hs.take (k := 13 + nD) (by omega)).alloc _)).mono ?_
    rintro e w1 ⟨q, rfl, hq, hq1, g1⟩
    have hne : (qq != (q : Int)) = true := by rw [bne_iff_ne, Q0.out, hq.out]; exact hG.out
    have ZR : Row w1 w.heap.size recZ := (Row.new w 31 _ _ rfl).keep g1
    replace g1 := ((Grow.refl _).alloc _).trans g1
    have q0 := ZR.1.2 0 _ rfl; have q1 := ZR.1.2 1 _ rfl; have q2 := ZR.1.2 2 _ rfl; have q3 := ZR.1.2 3 _ rfl; have q4 := ZR.1.2 4 _ rfl
    have r0 := ZR.2 0 (by simp [recZ]); have r1 := ZR.2 1 (by simp [recZ]); have r2 := ZR.2 2 (by simp [recZ]); have r3 := ZR.2 3 (by simp [recZ]); have r4 := ZR.2 4 (by simp [recZ])
    clear ZR
    go_wp2_with fail
    rw [show recW bs = .agg #[.int .i64 0, .int .i64 0, .bool false, .int .i64 0, .string ⟨#[]⟩] by rw [recW, if_neg (by rw [HE.out]; omega)], show decL bs = 0 by rw [decL, if_neg (by rw [HE.out]; omega)], HE.out]
    refine bodyPost_ret (v := .tuple #[.agg #[.int .i64 0, .int .i64 0, .bool false, .int .i64 0, .string ⟨#[]⟩], .int .i64 0, .int .i64 4]) (by simp [results, Try.results17, go_sem, q0, q1, q2, q3, q4]) rfl ⟨rfl, ?_⟩
    repeat (refine Grow.setCell ?_ (by simp) _)
    exact g1

theorem clog_decode {A : Option Addr} {n c : Nat} {bs : List UInt8} {w : World} (hs : Sl w A n bs) (hc : n ≤ c) :
    Calls Try.prog 17 #[.slice A n c] w fun e w' => e = .returned (.tuple #[recW bs, .int .i64 (decL bs : Nat), .int .i64 (decE bs)]) ∧ Grow w w' := by
  by_cases h1 : n < 13
  · exact clog_decode_short hs h1
  · by_cases h2 : n < 17 + dN bs ∨ getN bs ((13 + dN bs : Nat) : Int) 4 ≠ (crcN (bs.take (13 + dN bs)) : Nat)
    · exact clog_decode_early hs hc (by omega) h2
    · exact clog_decode_may hs hc (Nat.le_of_not_lt fun h => h2 (.inl h)) (Decidable.byContradiction fun e => h2 (.inr e))
end Go.Proofs.Ytnbgkkjhmdfmiaa
