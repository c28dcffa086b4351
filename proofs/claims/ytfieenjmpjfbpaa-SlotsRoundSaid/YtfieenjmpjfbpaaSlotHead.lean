/- slots.PutHead, slots.ReadHead. -/
import Derived.Test.YtfieenjmpjfbpaaSlotPut
import Derived.Test.YtfieenjmpjfbpaaBytesEq
import Derived.Lib.SlBytesConst
namespace Go.Proofs.Ytfieenjmpjfbpaa
open Go.RowKit

theorem slots_puthead_no (k : Int) (hm : mayH k = false) (w : World) :
    Calls Try.prog 13 #[.int .i64 k] w fun e w' => e = .returned (.tuple #[.slice none 0 0, .int .i64 1]) ∧ w = w' := by
  have h : decide (0 ≤ k ∧ k ≤ 1152921504606846976) = false := hm
  have H := Lib.hid h
  clear h hm
  go_enter Try.func13, Try.ntmps13
  go_wp2_with fail
  refine (slots_in _ _ _).mono ?_
  rintro e w' ⟨rfl, rfl⟩
  rw [H.out]
  go_wp2_with fail
  go_ret2
  exact ⟨rfl, rfl⟩

theorem slots_puthead_yes (k : Int) (hm : mayH k = true) (w : World) :
    Calls Try.prog 13 #[.int .i64 k] w fun e w' => ∃ A c, e = .returned (.tuple #[.slice A 64 c, .int .i64 0]) ∧ Own w' w.heap.size A 64 c (headS k) ∧ Grow w w' := by
  obtain ⟨h0, h1⟩ := mayH_iff.1 hm
  clear hm
  have kc := fun (w : World) (C : Array Value) (n c : Nat) => Lib.run_convert_bytes_const (P := Try.prog) w 27 5 C n c Try.underlying27 Try.underlying5
  go_enter Try.func13, Try.ntmps13
  go_wp2_with fail
  refine (slots_in _ _ _).mono ?_
  rintro e w' ⟨rfl, rfl⟩
  go_wp2_with fail
  refine (slots_numbers 8 rfl (w.heap.size + 1) 0 1 1 [k] 16 ((Sl.litf w _ _ (8, 9) magicB 8 rfl rfl (by omega)).alloc _) rfl (by omega) (by simp [fitsB]; omega) (by simp) (by simp) (by omega) (by simp) (by simp) (ints_at _ _ _ [k] _ (by simp) rfl)).mono ?_
  rintro e w1 ⟨A1, k1, rfl, hw1, g1⟩
  replace g1 := (((Grow.refl _).alloc _).alloc _).trans g1
  go_wp2_with fail
  refine (slots_seal (hw1.low (by simp; omega)) g1.size (by omega)).mono ?_
  rintro e w2 ⟨A2, k2, rfl, hw2, g2⟩
  go_wp2_with fail
  go_ret2
  refine ⟨_, _, rfl, ?_, g1.low g2⟩
  have h := hw2.low g1.size
  have e1 : putsF magicB 8 [k] = magicB ++ leB k.toNat 8 := by simp [putsF]
  rw [e1] at h
  exact h

theorem slots_readhead {A : Option Addr} {n c : Nat} {bs : List UInt8} {w : World} (hs : Sl w A n bs) (hc : n ≤ c) :
    Calls Try.prog 15 #[.slice A n c] w fun e w' => e = .returned (.tuple #[.int .i64 (readHN bs), .int .i64 (readHE bs)]) ∧ Grow w w' := by
  by_cases ho : openE bs = 0
  · have hl : 64 ≤ n := by rw [← hs.1]; exact (open_len ho).1
    have hg : getN (bs.take 64) 8 8 = hdN bs := getN_take (a := 8) (wd := 8) (by omega) (by rw [hs.1]; exact hl)
    have HG := Lib.hid hg
    have HO := Lib.hid ho
    have h64 := hs.take hl
    clear hg ho
    cases hm : mayH (hdN bs) with
    | true =>
      have hsm : sameH bs = decide (headS (hdN bs) = bs.take 64) := by rw [sameH, hm, Bool.true_and]
      have HS := Lib.hid hsm
      have HM := Lib.hid hm
      clear hm hsm
      go_enter Try.func15, Try.ntmps15
      go_wp2_with fail
      refine (slots_opened_yes hs hc HO.out).mono ?_
      rintro e w1 ⟨rfl, g1⟩
      go_wp2_with fail
      refine (get_s (h64.keep g1) (by omega) (by omega)).mono ?_
      rintro e w2 ⟨rfl, rfl⟩
      rw [HG.out]
      go_wp2_with fail
      refine (slots_puthead_yes _ HM.out _).mono ?_
      rintro e w3 ⟨A3, c3, rfl, hw3, g3⟩
      go_wp2_with fail
      refine (bytes_equal hw3.sl ((h64.keep g1).keep g3)).mono ?_
      rintro e w4 ⟨s, rfl, hs4, rfl⟩
      have hs5 : sameH bs = s := HS.out.trans hs4.out.symm
      cases s with
      | true =>
        go_wp2_with fail
        go_ret2
        have he : readHE bs = 0 := by rw [readHE, if_pos HO.out, if_pos hs5]
        refine ⟨?_, g1.trans g3⟩
        rw [readHN, he]; rfl
      | false =>
        go_wp2_with fail
        go_ret2
        have he : readHE bs = 2 := by rw [readHE, if_pos HO.out, if_neg (by rw [hs5]; simp)]
        refine ⟨?_, g1.trans g3⟩
        rw [readHN, he]; rfl
    | false =>
      have hsm : sameH bs = false := by rw [sameH, hm, Bool.false_and]
      have HS := Lib.hid hsm
      have HM := Lib.hid hm
      clear hm hsm
      go_enter Try.func15, Try.ntmps15
      go_wp2_with fail
      refine (slots_opened_yes hs hc HO.out).mono ?_
      rintro e w1 ⟨rfl, g1⟩
      go_wp2_with fail
      refine (get_s (h64.keep g1) (by omega) (by omega)).mono ?_
      rintro e w2 ⟨rfl, rfl⟩
      rw [HG.out]
      go_wp2_with fail
      refine (slots_puthead_no _ HM.out _).mono ?_
      rintro e w3 ⟨rfl, rfl⟩
      go_wp2_with fail
      go_ret2
      have he : readHE bs = 2 := by rw [readHE, if_pos HO.out, if_neg (by rw [HS.out]; simp)]
      refine ⟨?_, g1⟩
      rw [readHN, he]; rfl
  · have hne : (openE bs != 0) = true := by rw [bne_iff_ne]; exact ho
    have HO := Lib.hid ho
    have HE := Lib.hid hne
    clear ho hne
    go_enter Try.func15, Try.ntmps15
    go_wp2_with fail
    refine (slots_opened_no hs hc HO.out).mono ?_
    rintro e w1 ⟨rfl, g1⟩
    have hne := HE.out
    go_wp2_with fail
    go_ret2
    refine ⟨?_, g1⟩
    have he : readHE bs = openE bs := by rw [readHE, if_neg HO.out]
    rw [readHN, okI, he, if_neg HO.out]
    rfl
end Go.Proofs.Ytfieenjmpjfbpaa
