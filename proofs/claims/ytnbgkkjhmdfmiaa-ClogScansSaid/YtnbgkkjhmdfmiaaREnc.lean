/- commonsref16.Encode. -/
import Derived.Test.YtnbgkkjhmdfmiaaEnc
import Derived.Test.YtnbgkkjhmdfmiaaRef1
import Derived.Test.YtnbgkkjhmdfmiaaRef2Sum
namespace Go.Proofs.Ytnbgkkjhmdfmiaa
open Go.RowKit

theorem ref16_encode_no (call inode off : Int) (tr : Bool) (s : ByteArray) (hm : mayR call inode tr off s.size = false) (w : World) :
    Calls Try.prog 15 #[.agg #[.int .i64 call, .int .i64 inode, .bool tr, .int .i64 off, .string s]] w fun e w' => e = .returned (.tuple #[.slice none 0 0, .int .i64 1]) ∧ Below w.heap.size w w' := by
  have HM := Lib.hid hm
  clear hm
  go_enter Try.func15, Try.ntmps15
  go_wp2_with fail
  refine (ref15_may call inode off tr s _).mono ?_
  rintro e w1 ⟨rfl, hb1⟩
  rw [HM.out]
  go_wp2_with fail
  go_ret2
  exact ⟨rfl, ((Below.refl _ _).alloc (Nat.le_refl _) _).trans (hb1.mono (by simp))⟩

theorem leB_one (n : Nat) : leB n 1 = [UInt8.ofNat (n % 256)] := rfl
theorem byte_small (n : Nat) (h : n < 256) : ((UInt8.ofNat (n % 256)).toNat : Int) = (n : Int) := by simp; omega

theorem pad_form {w : World} {base : Nat} {v : Value} {bs : List UInt8} {j : Nat} (h : OB w base v (bs ++ List.replicate j 0)) : ∃ A c N, N = bs.length + j ∧ v = .slice A N c ∧ OB w base (.slice A N c) (bs ++ List.replicate j 0) := by
  obtain ⟨A, c, rfl, -, -, -, -⟩ := h.form
  exact ⟨A, c, _, by simp, rfl, h⟩
theorem pad_snoc (bs : List UInt8) (j : Nat) : bs ++ List.replicate j 0 ++ [0] = bs ++ List.replicate (j + 1) 0 := by
  rw [List.append_assoc, List.replicate_succ']
def lenS : Value → Nat
  | .slice _ n _ => n
  | _ => 0

set_option maxHeartbeats 4000000 in
theorem ref16_encode_yes (call inode off : Int) (tr : Bool) (s : ByteArray) (hm : mayR call inode tr off s.size = true) (w : World) :
    Calls Try.prog 15 #[.agg #[.int .i64 call, .int .i64 inode, .bool tr, .int .i64 off, .string s]] w fun e w' => ∃ v, e = .returned (.tuple #[v, .int .i64 0]) ∧ OB w' w.heap.size v (encB call inode tr off s.data.toList) ∧ Below w.heap.size w w' := by
  obtain ⟨m1, m2, m3, m4, m5, m6, m7, m8, -⟩ := mayR_iff.1 hm
  have HM := Lib.hid hm
  clear hm
  have hI : ((UInt8.ofNat (inode.toNat % 256)).toNat : Int) = inode := by rw [byte_small _ (by omega)]; omega
  have hS : ((UInt8.ofNat (s.size % 256)).toNat : Int) = (s.size : Int) := byte_small _ (by omega)
  have HI := Lib.hid hI
  have HS := Lib.hid hS
  clear hI hS
  cases tr
  all_goals
    go_enter Try.func15, Try.ntmps15
    go_wp2_with fail
    refine (ref15_may call inode off _ s _).mono ?_
    rintro e w1 ⟨rfl, hb1⟩
    rw [HM.out]
    obtain ⟨B0, hB0⟩ : ∃ B0, B0 = w.heap.size + 1 := ⟨_, rfl⟩
    have hbW := hb1.mono (B' := B0) (by simp [hB0])
    have hz1 : B0 ≤ w1.heap.size := by have := hb1.size; simp at this; omega
    have hR0 := RecAt.new w 31 call inode off
    have hgB : w.heap.size < B0 := by omega
    have HB0 := Lib.hid hB0
    clear hB0 hb1
    obtain ⟨k0, k1, k2, k3, k4⟩ := (hR0 _ s).below hbW hgB
    have HR0 := Lib.hid hR0
    clear hR0
    go_wp2_with fail
    refine (ref1_put none [] 0 call 8 _ RB.nil_ (by simp) (by omega)).mono ?_
    rintro e w2 ⟨v2, rfl, hown2, hb2⟩
    clear k0 k1 k2 k3 k4
    rw [putB_fits (by simp [fitsB, m1])] at hown2
    replace hown2 := hown2.lower (base := B0) hz1
    replace hbW := hbW.trans (hb2.mono hz1)
    have hz2 : B0 ≤ w2.heap.size := Nat.le_trans hz1 hb2.size
    clear hb2 hz1
    obtain ⟨k0, k1, k2, k3, k4⟩ := (HR0.out _ s).below hbW hgB
    obtain ⟨b2, hd2⟩ : ∃ b2, b2 = [] ++ leB call.toNat (Int.toNat 8) := ⟨_, rfl⟩
    rw [← hd2] at hown2
    have hl2 : b2.length = 8 := by rw [hd2]; simp [leB_length]
    have HD2 := Lib.hid hd2
    have HL2 := Lib.hid hl2
    clear hd2 hl2
    go_wp2_with (at_builtin; (first | (refine wpList_app2 rfl (.tmp 16) (.tmp 21) rfl B0 _ b2 rfl _ 0 rfl hown2 (UInt8.ofNat (inode.toNat % 256)) (0 : UInt8) HI.out (by decide) (by have := HL2.out; omega) hz2 ?_) | (refine wpList_app2 rfl (.tmp 16) (.tmp 21) rfl B0 _ b2 rfl _ 1 rfl hown2 (UInt8.ofNat (inode.toNat % 256)) (1 : UInt8) HI.out (by decide) (by have := HL2.out; omega) hz2 ?_)); intro v3 w3 hown3 hb3; have j3 := ((HR0.out _ s).below (hbW.trans hb3) hgB).c3)
    first | (obtain ⟨b3, hown3, hd3⟩ : ∃ b3, OB w3 B0 v3 b3 ∧ b3 = b2 ++ [UInt8.ofNat (inode.toNat % 256), 0] := ⟨_, hown3, rfl⟩) | (obtain ⟨b3, hown3, hd3⟩ : ∃ b3, OB w3 B0 v3 b3 ∧ b3 = b2 ++ [UInt8.ofNat (inode.toNat % 256), 1] := ⟨_, hown3, rfl⟩)
    clear k0 k1 k2 k3 k4 hown2 j3
    replace hbW := hbW.trans hb3
    have hz3 : B0 ≤ w3.heap.size := Nat.le_trans hz2 hb3.size
    clear hb3 hz2
    obtain ⟨k0, k1, k2, k3, k4⟩ := (HR0.out _ s).below hbW hgB
    have hl3 : b3.length = 10 := by rw [hd3]; simp [HL2.out]
    have HD3 := Lib.hid hd3
    have HL3 := Lib.hid hl3
    clear hd3 hl3
    obtain ⟨A3, c3, rfl, -, -, hrd3, -⟩ := hown3.form
    refine (ref1_put A3 b3 c3 off 2 _ hrd3 (by have := HL3.out; omega) (by omega)).mono ?_
    rintro e w4 ⟨v4, rfl, hown4, hb4⟩
    clear k0 k1 k2 k3 k4
    rw [putB_fits (by simp [fitsB]; omega)] at hown4
    replace hown4 := hown4.lower (base := B0) hz3
    replace hbW := hbW.trans (hb4.mono hz3)
    have hz4 : B0 ≤ w4.heap.size := Nat.le_trans hz3 hb4.size
    clear hb4 hz3 hown3 hrd3
    obtain ⟨k0, k1, k2, k3, k4⟩ := (HR0.out _ s).below hbW hgB
    obtain ⟨b4, hd4⟩ : ∃ b4, b4 = b3 ++ leB off.toNat (Int.toNat 2) := ⟨_, rfl⟩
    rw [← hd4] at hown4
    have hl4 : b4.length = 12 := by rw [hd4]; simp [leB_length, HL3.out]
    have HD4 := Lib.hid hd4
    have HL4 := Lib.hid hl4
    clear hd4 hl4
    go_wp2_with (at_builtin; first | (refine wpList_app1 rfl (.tmp 27) (.tmp 32) rfl B0 _ b4 rfl _ rfl hown4 (UInt8.ofNat (s.size % 256)) HS.out (by have := HL4.out; omega) hz4 ?_; intro v5 w5 hown5 hb5; have hz5 := Nat.le_trans hz4 hb5.size; have j4 := ((HR0.out _ s).below (hbW.trans hb5) hgB).c4) | (refine wpList_appS rfl (.tmp 34) (.tmp 36) rfl B0 _ _ rfl hown5 s rfl (by have := HL4.out; simp; omega) hz5 ?_; intro v6 w6 hown6 hb6))
    clear k0 k1 k2 k3 k4 j4 hown4 hown5
    obtain ⟨A6, c6, rfl, -, -, hrd6, -⟩ := hown6.form
    obtain ⟨b6, hd6⟩ : ∃ b6, b6 = b4 ++ [UInt8.ofNat (s.size % 256)] ++ s.data.toList := ⟨_, rfl⟩
    rw [← hd6] at hown6 hrd6 ⊢
    have hl6 : b6.length = 13 + s.size := by rw [hd6, List.length_append, List.length_append, HL4.out, data_length]; simp
    have HD6 := Lib.hid hd6
    have HL6 := Lib.hid hl6
    clear hd6 hl6
    replace hbW := (hbW.trans hb5).trans hb6
    have hz6 : B0 ≤ w6.heap.size := Nat.le_trans hz5 hb6.size
    clear hb5 hb6 hz4 hz5
    refine (ref2_sum A6 b6 _ c6 rfl _ _ hrd6 (by have := HL6.out; omega)).mono ?_
    rintro e w7 ⟨rfl, rfl⟩
    obtain ⟨q, hq⟩ : ∃ q, q = crcN b6 := ⟨_, rfl⟩
    rw [← hq]
    have hq1 : q < 4294967296 := by rw [hq]; exact crcN_lt b6
    have HQ := Lib.hid hq
    clear hq
    go_wp2_with fail
    refine (ref1_put A6 b6 c6 q 4 _ hrd6 (by have := HL6.out; omega) (by omega)).mono ?_
    rintro e w8 ⟨v8, rfl, hown8, hb8⟩
    rw [putB_fits (by simp [fitsB]; omega)] at hown8
    replace hown8 := hown8.lower (base := B0) hz6
    replace hbW := hbW.trans (hb8.mono hz6)
    clear hb8 hrd6 hown6 hz6
    obtain ⟨b8, hd8⟩ : ∃ b8, b8 = b6 ++ leB (q : Int).toNat (Int.toNat 4) := ⟨_, rfl⟩
    rw [← hd8] at hown8
    have hl8 : b8.length = 17 + s.size := by rw [hd8, List.length_append, HL6.out, leB_length]; simp; omega
    have hz8 : B0 ≤ w8.heap.size := by have := hbW.size; simp at this; have := HB0.out; omega
    obtain ⟨f, hf⟩ : ∃ f, f = fillN b8.length := ⟨_, rfl⟩
    have hf8 : f < 8 ∧ (b8.length + f) % 8 = 0 ∧ ∀ j, j < f → (b8.length + j) % 8 ≠ 0 := by
      rw [hf, fillN]
      refine ⟨by omega, by omega, ?_⟩
      intro j hj
      omega
    have HD8 := Lib.hid hd8
    have HL8 := Lib.hid hl8
    have HF := Lib.hid hf
    have HF8 := Lib.hid hf8
    clear hd8 hl8 hf hf8
    go_wp2_with fail
    go_loopw [5] (fun v wr => ∃ j : Nat, j ≤ f ∧ (∃ A c N, N = b8.length + j ∧ v = .slice A N c ∧ OB wr B0 (.slice A N c) (b8 ++ List.replicate j 0)) ∧ Below B0 w8 wr) (fun v _ => b8.length + f - lenS v)
    case atStart => exact ⟨0, Nat.zero_le _, pad_form (by simpa using hown8), Below.refl _ _⟩
    case round =>
      obtain ⟨j, hj, ⟨A9, c9, N, hN, rfl, hown⟩, hb⟩ := hrel
      have hz9 : B0 ≤ _ := Nat.le_trans hz8 hb.size
      have hNs : N ≤ 1000 := by have := HL8.out; have := HF8.out.1; omega
      by_cases hlt : j < f
      · have hne := HF8.out.2.2 j hlt
        rw [← hN] at hne
        have hne1 : ((N : Int) % 8 != 0) = true := by simp; omega
        have HN := Lib.hid hN
        clear hN hne
        go_wp2_with (at_builtin; refine wpList_app1 rfl (.tmp 46) (.tmp 47) rfl B0 _ _ rfl _ rfl hown 0 (by rfl) (by have := HN.out; simp; omega) hz9 ?_; intro v9 w9 hown9 hb9)
        go_roundw
        case rel =>
          rw [pad_snoc] at hown9
          exact ⟨j + 1, by omega, pad_form hown9, hb.trans hb9⟩
        case measure =>
          rw [pad_snoc] at hown9
          obtain ⟨A1, c1, N1, h1, rfl, -⟩ := pad_form hown9
          have := HN.out
          simp [lenS]
          omega
      · obtain rfl : j = f := by omega
        have he := HF8.out.2.1
        rw [← hN] at he
        have he1 : ((N : Int) % 8 != 0) = false := by simp; omega
        have HN := Lib.hid hN
        clear hN he
        go_wp2
        go_ret2
        refine ⟨_, rfl, ?_, ((Below.refl _ _).alloc (Nat.le_refl _) _).trans ((hbW.trans hb).mono (by have := HB0.out; omega))⟩
        first
        | (
          have hh : b6 = headB call inode false off s.data.toList.length ++ s.data.toList := by
            rw [HD6.out, HD4.out, HD3.out, HD2.out, data_length]
            simp [headB, leB]
          have he : encB call inode false off s.data.toList = b8 ++ List.replicate j 0 := by
            rw [encB, ← hh, HF.out, HL8.out, HD8.out, HQ.out, data_length]
            simp
          rw [he]
          exact hown.lower (by have := HB0.out; omega))
        | (
          have hh : b6 = headB call inode true off s.data.toList.length ++ s.data.toList := by
            rw [HD6.out, HD4.out, HD3.out, HD2.out, data_length]
            simp [headB, leB]
          have he : encB call inode true off s.data.toList = b8 ++ List.replicate j 0 := by
            rw [encB, ← hh, HF.out, HL8.out, HD8.out, HQ.out, data_length]
            simp
          rw [he]
          exact hown.lower (by have := HB0.out; omega))
end Go.Proofs.Ytnbgkkjhmdfmiaa
