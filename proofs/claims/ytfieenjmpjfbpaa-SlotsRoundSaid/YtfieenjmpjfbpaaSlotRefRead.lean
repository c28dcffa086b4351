/- The reference of layer 13: Read. -/
import Derived.Test.YtfieenjmpjfbpaaSlotRef
import Derived.Test.YtfieenjmpjfbpaaSlotVal
namespace Go.Proofs.Ytfieenjmpjfbpaa
open Go.RowKit

theorem ref13_read_open {A : Option Addr} {n c : Nat} {bs : List UInt8} {w : World} (hs : Sl w A n bs) (hc : n ≤ c) (ho : openE bs ≠ 0) :
    Calls Try.prog 19 #[.slice A n c] w fun e w' => e = .returned (.tuple #[slotV bs, .int .i64 (readE bs)]) ∧ Grow w w' := by
  have he : readE bs = openE bs := by rw [readE, if_neg ho]
  rw [slotV_no (by rw [he]; exact ho), he]
  have hne : (openE bs != 0) = true := by rw [bne_iff_ne]; exact ho
  have HE := Lib.hid hne
  clear ho hne he
  go_enter Try.func19, Try.ntmps19
  go_wp2_with fail
  refine (ref13_right (hs.alloc _) hc).mono ?_
  rintro e w1 ⟨rfl, rfl⟩
  have hne := HE.out
  go_wp2_with fail
  refine bodyPost_ret (v := .tuple #[.agg #[.int .i64 0, .int .i64 0, .int .i64 0, .int .i64 0, .int .i64 0, .int .i64 0], .int .i64 (openE bs)]) (by simp [results, Try.results19, go_sem]) rfl ⟨rfl, ?_⟩
  repeat (refine Grow.setCell ?_ (by simp) _)
  exact (Grow.refl _).alloc _

set_option maxHeartbeats 4000000 in
theorem ref13_read_yes {A : Option Addr} {n c : Nat} {bs : List UInt8} {w : World} (hs : Sl w A n bs) (hc : n ≤ c) (ho : openE bs = 0) :
    Calls Try.prog 19 #[.slice A n c] w fun e w' => e = .returned (.tuple #[slotV bs, .int .i64 (readE bs)]) ∧ Grow w w' := by
  have hl : 64 ≤ n := by rw [← hs.1]; exact (open_len ho).1
  have HO := Lib.hid ho
  have HQ := Lib.hid (sameG_eq ho)
  have hE : readE bs = if sameD bs then 0 else 2 := by rw [readE, if_pos ho, sameG_eq ho]
  have HE := Lib.hid hE
  clear ho hE
  have HL := Lib.hid hs.1
  have HZ := Lib.hid (zeros_iff (b := bs) (lo := 26) (hi := 60) (by rw [hs.1]; omega))
  obtain ⟨b, o, rfl, hb, hcell⟩ := hs.all (by omega)
  have c16 := hcell 16 (by omega)
  have c17 := hcell 17 (by omega)
  have HC := Lib.hid hcell
  clear hcell
  have B3 := Lib.hid (show ((bs[16]'(by rw [hs.1]; omega)).toNat : Int) = sEr bs from (get_byte (b := bs) (a := 16) (by rw [hs.1]; omega)).symm)
  have B4 := Lib.hid (show ((bs[17]'(by rw [hs.1]; omega)).toNat : Int) = sIo bs from (get_byte (b := bs) (a := 17) (by rw [hs.1]; omega)).symm)
  rw [B3.out] at c16
  rw [B4.out] at c17
  have ne1 : b ≠ w.heap.size := by omega
  have ne2 : b ≠ w.heap.size + 1 := by omega
  have ne3 : w.heap.size ≠ b := by omega
  have ne4 : w.heap.size + 1 ≠ b := by omega
  have lt1 : b < w.heap.size + 1 := by omega
  have lt2 : b < w.heap.size + 1 + 1 := by omega
  have R0 := Lib.hid (show getN bs 0 4 = sEp bs from rfl)
  have R1 := Lib.hid (show getN bs 4 4 = sHd bs from rfl)
  have R2 := Lib.hid (show getN bs 8 8 = sRp bs from rfl)
  have R5 := Lib.hid (show getN bs 18 8 = sWr bs from rfl)
  obtain ⟨x0, X0⟩ : ∃ x, Hid (x = sEp bs) := ⟨_, Lib.hid rfl⟩
  obtain ⟨x1, X1⟩ : ∃ x, Hid (x = sHd bs) := ⟨_, Lib.hid rfl⟩
  obtain ⟨x2, X2⟩ : ∃ x, Hid (x = sRp bs) := ⟨_, Lib.hid rfl⟩
  obtain ⟨x3, X3⟩ : ∃ x, Hid (x = sEr bs) := ⟨_, Lib.hid rfl⟩
  obtain ⟨x4, X4⟩ : ∃ x, Hid (x = sIo bs) := ⟨_, Lib.hid rfl⟩
  obtain ⟨x5, X5⟩ : ∃ x, Hid (x = sWr bs) := ⟨_, Lib.hid rfl⟩
  obtain ⟨o1, O1⟩ : ∃ x, Hid (x = getK bs 8 8) := ⟨_, Lib.hid rfl⟩
  obtain ⟨o2, O2⟩ : ∃ x, Hid (x = getK bs 18 8) := ⟨_, Lib.hid rfl⟩
  rw [← X3.out] at c16
  rw [← X4.out] at c17
  have p3 : 0 ≤ x3 ∧ x3 < 256 := by have := (bs[16]'(by rw [hs.1]; omega)).toNat_lt; have := B3.out; have := X3.out; omega
  have p4 : 0 ≤ x4 ∧ x4 < 256 := by have := (bs[17]'(by rw [hs.1]; omega)).toNat_lt; have := B4.out; have := X4.out; omega
  obtain ⟨p30, p31⟩ := p3
  obtain ⟨p40, p41⟩ := p4
  go_enter Try.func19, Try.ntmps19
  go_wp2_with fail
  refine (ref13_right (hs.alloc _) hc).mono ?_
  rintro e w1 ⟨rfl, rfl⟩
  rw [HO.out]
  go_wp2_with fail
  refine (rget_s ((hs.alloc _).alloc _) (by omega) (by omega)).mono ?_
  rintro e w1 ⟨rfl, rfl⟩
  rw [R0.out, ← X0.out]
  go_wp2_with fail
  refine (rget_s ((hs.alloc _).alloc _) (by omega) (by omega)).mono ?_
  rintro e w1 ⟨rfl, rfl⟩
  rw [R1.out, ← X1.out]
  go_wp2_with fail
  refine (rget_s ((hs.alloc _).alloc _) (by omega) (by omega)).mono ?_
  rintro e w1 ⟨rfl, rfl⟩
  rw [R2.out, ← X2.out, ← O1.out]
  go_wp2_with fail
  refine (rget_s ((hs.alloc _).alloc _) (by omega) (by omega)).mono ?_
  rintro e w1 ⟨rfl, rfl⟩
  rw [R5.out, ← X5.out, ← O2.out]
  go_wp2_with fail
  go_loop [8] (fun i => ∃ k : Nat, 26 ≤ k ∧ k ≤ 60 ∧ i = .int .i64 k ∧ Hid (∀ j, 26 ≤ j → (h : j < k) → (h2 : j < bs.length) → bs[j] = 0)) (fun i => 60 - (intOf i).toNat)
  case atStart => exact ⟨26, by omega, by omega, rfl, Lib.hid (fun j h1 h2 => by omega)⟩
  case round =>
    obtain ⟨k, hk1, hk2, rfl, hz⟩ := hrel
    by_cases hlt : k < 60
    · have ck := HC.out k (by omega)
      have hkl : k < bs.length := by rw [HL.out]; omega
      by_cases hu : bs[k] = 0
      · rw [hu] at ck
        have HU := Lib.hid hu
        clear hu
        go_wp2_with fail
        go_round
        case rel =>
          refine ⟨k + 1, by omega, by omega, by go_num, Lib.hid fun j h1 h2 h3 => ?_⟩
          by_cases hj : j < k
          · exact hz.out j h1 hj h3
          · obtain rfl : j = k := by omega
            exact HU.out
        case measure => simp [intOf]; omega
      · have hne : (((bs[k]).toNat : Int) != 0) = true := by
          rw [bne_iff_ne]
          intro e
          apply hu
          apply UInt8.toNat_inj.1
          simpa using e
        have hD : readE bs = 2 := by
          rw [HE.out, if_neg]
          intro h
          simp only [sameD, Bool.and_eq_true] at h
          exact hu (HZ.out.1 h.1 k hk1 hlt)
        have HD := Lib.hid hD
        clear hD hu
        go_wp2_with fail
        rw [slotV_no (by rw [HD.out]; omega), HD.out]
        refine bodyPost_ret (v := .tuple #[.agg #[.int .i64 0, .int .i64 0, .int .i64 0, .int .i64 0, .int .i64 0, .int .i64 0], .int .i64 2]) (by simp [results, Try.results19, go_sem]) rfl ⟨rfl, ?_⟩
        repeat (first | refine Grow.setCell ?_ (by simp) _ | refine Grow.alloc ?_ _)
        exact Grow.refl _
    · obtain rfl : k = 60 := by omega
      have hzz : zerosB bs 26 60 = true := HZ.out.2 fun i h1 h2 => hz.out i h1 h2 (by rw [HL.out]; omega)
      have hmm : mayS x0 x1 x2 x3 x4 x5 = mayG bs := by rw [mayG, X0.out, X1.out, X2.out, X3.out, X4.out, X5.out]
      have hD : sameD bs = (o1 && o2 && mayS x0 x1 x2 x3 x4 x5) := by rw [sameD, hzz, hmm, O1.out, O2.out, Bool.true_and]
      have HD := Lib.hid hD
      clear hD hmm hzz
      go_wp2_with fail
      refine (ref13_may x0 x1 x2 x3 x4 x5 _).mono ?_
      rintro e w3 ⟨rfl, g3⟩
      obtain ⟨m, M⟩ : ∃ m, Hid (m = mayS x0 x1 x2 x3 x4 x5) := ⟨_, Lib.hid rfl⟩
      rw [← M.out] at HD ⊢
      obtain ⟨hc3, hf3⟩ := g3.cells
      have lw : w.heap.size < w.heap.size + 1 + 1 := by omega
      have hall : o1 = true ∧ o2 = true ∧ m = true ∨ (o1 && o2 && m) = false := by cases o1 <;> cases o2 <;> cases m <;> simp
      rcases hall with ⟨rfl, rfl, rfl⟩ | hno
      · have hE2 : readE bs = 0 := by rw [HE.out, HD.out]; rfl
        have HE2 := Lib.hid hE2
        have HV := Lib.hid (show slotV bs = .agg #[.int .i64 x0, .int .i64 x1, .int .i64 x2, .int .i64 x3, .int .i64 x4, .int .i64 x5] by rw [slotV, hE2, X0.out, X1.out, X2.out, X3.out, X4.out, X5.out]; rfl)
        clear hE2
        go_wp2_with fail
        rw [HV.out, HE2.out]
        refine bodyPost_ret (v := .tuple #[.agg #[.int .i64 x0, .int .i64 x1, .int .i64 x2, .int .i64 x3, .int .i64 x4, .int .i64 x5], .int .i64 0]) (by simp [results, Try.results19, go_sem, hc3, lw]) rfl ⟨rfl, ?_⟩
        repeat (refine Grow.setCell ?_ (by simp) _)
        exact Grow.trans (by repeat (first | exact Grow.refl _ | refine Grow.setCell ?_ (by simp) _ | refine Grow.alloc ?_ _)) g3
      · have hE2 : readE bs = 2 := by rw [HE.out, HD.out, hno]; rfl
        have HE2 := Lib.hid hE2
        clear hE2
        cases o1 <;> cases o2 <;> cases m
        all_goals first | (exfalso; revert hno; decide) | skip
        all_goals
          clear hno
          go_wp2_with fail
          rw [slotV_no (by rw [HE2.out]; omega), HE2.out]
          refine bodyPost_ret (v := .tuple #[.agg #[.int .i64 0, .int .i64 0, .int .i64 0, .int .i64 0, .int .i64 0, .int .i64 0], .int .i64 2]) (by simp [results, Try.results19, go_sem, hc3, lw]) rfl ⟨rfl, ?_⟩
          repeat (refine Grow.setCell ?_ (by simp) _)
          exact Grow.trans (by repeat (first | exact Grow.refl _ | refine Grow.setCell ?_ (by simp) _ | refine Grow.alloc ?_ _)) g3
end Go.Proofs.Ytfieenjmpjfbpaa
