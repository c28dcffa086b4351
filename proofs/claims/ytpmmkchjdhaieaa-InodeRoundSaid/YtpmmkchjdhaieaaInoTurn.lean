/- What turning and reading back does to an inode's bytes: plain words. -/
import Derived.Test.YtpmmkchjdhaieaaInoPure
namespace Go.Proofs.Ytpmmkchjdhaieaa

theorem by_set {b : List UInt8} {x : UInt8} {i : Nat} (h : 0 < i) : by_ (b.set 0 x) i = by_ b i := by
  unfold by_
  rw [List.getD_eq_getElem?_getD, List.getD_eq_getElem?_getD, List.getElem?_set_ne (by omega)]
theorem iS_set {b : List UInt8} {x : UInt8} (h : 64 ≤ b.length) : iS (b.set 0 x) = iS b := by
  have : getO (b.set 0 x) ((2 : Nat) : Int) ((2 : Nat) : Int) = getO b ((2 : Nat) : Int) ((2 : Nat) : Int) := by
    refine getO_congr (by simp; omega) (by omega) ?_
    rw [List.drop_set_of_lt (by omega)]
  unfold iS getN
  rw [show getO (b.set 0 x) 2 2 = getO b 2 2 from this]

theorem crc_one : (inoB 1 0 0 [0, 0, 0, 0] [0, 0, 0, 0, 0, 0, 0, 0]).getD 60 0 ≠ 0 ∨ (inoB 1 0 0 [0, 0, 0, 0] [0, 0, 0, 0, 0, 0, 0, 0]).getD 61 0 ≠ 0 ∨ (inoB 1 0 0 [0, 0, 0, 0] [0, 0, 0, 0, 0, 0, 0, 0]).getD 62 0 ≠ 0 := by decide +kernel

theorem none_set {k l s b0 b1 b2 b3 o0 o1 o2 o3 o4 o5 o6 o7 : Int} (hm : mayI k l s [b0, b1, b2, b3] [o0, o1, o2, o3, o4, o5, o6, o7] = true) (hk : k ≠ 0) {i : Nat} (x : UInt8) : noneB ((inoB k l s [b0, b1, b2, b3] [o0, o1, o2, o3, o4, o5, o6, o7]).set i x) = false := by
  have hl : (inoB k l s [b0, b1, b2, b3] [o0, o1, o2, o3, o4, o5, o6, o7]).length = 64 := inoB_length rfl rfl
  have hg := ino_gets hm hk
  obtain ⟨k0, k1, -⟩ := mayI_fits hm
  cases hn : noneB ((inoB k l s [b0, b1, b2, b3] [o0, o1, o2, o3, o4, o5, o6, o7]).set i x) with
  | false => rfl
  | true =>
    exfalso
    rw [noneB, decide_eq_true_iff, List.take_of_length_le (by rw [List.length_set]; omega)] at hn
    have hz : ∀ j, by_ ((inoB k l s [b0, b1, b2, b3] [o0, o1, o2, o3, o4, o5, o6, o7]).set i x) j = 0 := by
      intro j
      rw [hn]
      unfold by_
      rw [List.getD_eq_getElem?_getD, List.getElem?_replicate]
      split <;> rfl
    by_cases hi : i = 0
    · subst hi
      have e1 : l = 0 := by
        rw [← hg.2.1, iL, ← by_set (x := x) (by omega)]; exact hz 1
      have e2 : s = 0 := by
        rw [← hg.2.2.1, ← iS_set (x := x) (by omega), hn]; decide
      have e3 : [b0, b1, b2, b3] = [0, 0, 0, 0] := by
        rw [← hg.2.2.2.1, iB, ← by_set (x := x) (i := 4) (by omega), ← by_set (x := x) (i := 5) (by omega), ← by_set (x := x) (i := 6) (by omega), ← by_set (x := x) (i := 7) (by omega), hz, hz, hz, hz]
      have e4 : [o0, o1, o2, o3, o4, o5, o6, o7] = [0, 0, 0, 0, 0, 0, 0, 0] := by
        rw [← hg.2.2.2.2, iO, ← by_set (x := x) (i := 8) (by omega), ← by_set (x := x) (i := 9) (by omega), ← by_set (x := x) (i := 10) (by omega), ← by_set (x := x) (i := 11) (by omega), ← by_set (x := x) (i := 12) (by omega), ← by_set (x := x) (i := 13) (by omega), ← by_set (x := x) (i := 14) (by omega), ← by_set (x := x) (i := 15) (by omega), hz, hz, hz, hz, hz, hz, hz, hz]
      have hk1 : k = 1 := by
        have h2 : k ≠ 2 := by
          rintro rfl
          rw [mayI, if_neg (by omega), if_neg (by omega), if_pos rfl, e1] at hm
          simp at hm
        omega
      subst hk1 e1 e2
      rw [e3, e4] at hn
      have q : ∀ j, 0 < j → (inoB 1 0 0 [0, 0, 0, 0] [0, 0, 0, 0, 0, 0, 0, 0]).getD j 0 = 0 := by
        intro j hj
        have := congrArg (fun q => q.getD j 0) hn
        simp only [List.getD_eq_getElem?_getD, List.getElem?_set_ne (show 0 ≠ j by omega), List.getElem?_replicate] at this
        rw [List.getD_eq_getElem?_getD, this]
        split <;> rfl
      rcases crc_one with h | h | h
      · exact h (q 60 (by omega))
      · exact h (q 61 (by omega))
      · exact h (q 62 (by omega))
    · have e0 : k = 0 := by
        rw [← hg.1, iK]
        have : by_ ((inoB k l s [b0, b1, b2, b3] [o0, o1, o2, o3, o4, o5, o6, o7]).set i x) 0 = by_ (inoB k l s [b0, b1, b2, b3] [o0, o1, o2, o3, o4, o5, o6, o7]) 0 := by
          unfold by_
          rw [List.getD_eq_getElem?_getD, List.getD_eq_getElem?_getD, List.getElem?_set_ne hi]
        rw [← this]; exact hz 0
      exact hk e0
end Go.Proofs.Ytpmmkchjdhaieaa
