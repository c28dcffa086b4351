/- The walks of package slots (layer 13): putting. -/
import Derived.Test.YtfieenjmpjfbpaaStd
import Derived.Test.YtfieenjmpjfbpaaSlotPure
import Derived.Test.YtfieenjmpjfbpaaRecPure
namespace Go.Proofs.Ytfieenjmpjfbpaa
open Go.RowKit

theorem slots_in (n most : Int) (w : World) : Calls Try.prog 20 #[.int .i64 n, .int .i64 most] w fun e w' => e = .returned (.bool (decide (0 ≤ n ∧ n ≤ most))) ∧ w = w' := by
  go_enter Try.func20, Try.ntmps20
  go_wp2
  all_goals (go_ret; refine ⟨ret_bool ?_, rfl⟩)
  all_goals (rw [Bool.eq_iff_iff]; simp)
  all_goals omega

theorem slots_numbers {A : Option Addr} {n c : Nat} {bs : List UInt8} {xi : Int} (x : Nat) (hxi : xi = x) (b o q lc : Nat) (ns : List Int) (m : Nat) {w : World} (hs : Sl w A n bs) (hq : q = ns.length) (hx : x ≤ 8) (hns : ∀ k ∈ ns, fitsB k x = true ∧ k ≤ 9223372036854775807) (hpos : 0 < ns.length) (hsm : ns.length ≤ 8) (hn : n ≤ 1000) (hm : n + x * ns.length = m)
    (hbw : b < w.heap.size) (hL : ∀ j (h : j < ns.length), w.cell? ⟨b, o + j, none⟩ = some (.int .i64 ns[j])) :
    Calls Try.prog 21 #[.slice A n c, .int .i64 xi, .slice (some ⟨b, o, none⟩) q lc] w fun e w' => ∃ A' c', e = .returned (.slice A' m c') ∧ Own w' w.heap.size A' m c' (putsF bs x ns) ∧ Grow w w' := by
  subst hq hxi
  have HL := Lib.hid hL
  have HN := Lib.hid hns
  have HM := Lib.hid hm
  clear hL hns hm
  go_enter Try.func21, Try.ntmps21
  go_wp2_with fail
  go_loopw [0, 11] (fun v i wr => ∃ k : Nat, k ≤ ns.length ∧ i = .int .i64 k ∧ (∃ A' c' nk, v = .slice A' nk c' ∧ Sl wr A' nk (putsF bs x (ns.take k)) ∧ nk ≤ n + 8 * k ∧ (0 < k → Own wr w.heap.size A' nk c' (putsF bs x (ns.take k)))) ∧ Grow w wr) (fun _ i _ => ns.length - (intOf i).toNat)
  case atStart => exact ⟨0, Nat.zero_le _, rfl, ⟨A, c, n, rfl, by simpa [putsF] using hs, by omega, fun h => absurd h (by omega)⟩, Grow.refl _⟩
  case round =>
    obtain ⟨k, hk, rfl, ⟨A', c', nk, rfl, hsk, hnk, hok⟩, hb⟩ := hrel
    by_cases hlt : k < ns.length
    · have hcell := HL.out k hlt
      rw [← Below.cell hb (p := ⟨b, o + k, none⟩) hbw] at hcell
      have hn := HN.out ns[k] (List.getElem_mem hlt)
      have hne := putsF_take bs x ns k hlt
      obtain ⟨n, hn2⟩ : ∃ n, n = ns[k] := ⟨_, rfl⟩
      rw [← hn2] at hcell hn hne
      have HN1 := Lib.hid hn
      have HNE := Lib.hid hne
      have HOK := Lib.hid hok
      clear hn2 hok hs hn hne
      go_wp2_with fail
      refine (put_s (nk + x) hsk HN1.out.1 HN1.out.2 (by simp) (by omega)).mono ?_
      rintro e w2 ⟨A2, c2, rfl, hown2, hb2⟩
      rw [Int.toNat_natCast, ← HNE.out] at hown2
      go_wp2_with fail
      go_roundw
      case rel => exact ⟨k + 1, by omega, by go_num, ⟨A2, c2, _, rfl, hown2.sl, by omega, fun _ => hown2.low (Grow.size hb)⟩, hb.trans hb2⟩
      case measure => simp [intOf]; omega
    · obtain rfl : k = ns.length := by omega
      have hm2 : nk = m := by
        have h1 := (hok hpos).1
        rw [List.take_length] at h1
        have h2 := putsF_length bs x ns
        have h3 := hs.1
        have h4 := HM.out
        omega
      go_wp2
      go_ret
      have h5 := hok hpos
      rw [List.take_length, hm2] at h5
      rw [hm2]
      exact ⟨_, _, rfl, h5, hb⟩

theorem slots_seal {A : Option Addr} {n c base : Nat} {bs : List UInt8} {w : World} (ho : Own w base A n c bs) (hB : base ≤ w.heap.size) (hn : n ≤ 60) :
    Calls Try.prog 22 #[.slice A n c] w fun e w' => ∃ A' c', e = .returned (.slice A' 64 c') ∧ Own w' w.heap.size A' 64 c' (sealB bs) ∧ Below base w w' := by
  have h1 := ho.1
  have HF := Lib.hid (show bs ++ List.replicate (60 - n) 0 = fill60 bs by rw [fill60, h1])
  have HL := Lib.hid h1
  have HO := Lib.hid ho.2.2
  clear h1 ho
  go_enter Try.func22, Try.ntmps22
  go_wp2_with (at_builtin; refine wpList_appZ rfl (.tmp 3) (.tmp 6) rfl base _ bs rfl HO.out (60 - n) _ (by omega) rfl (by have := HL.out; omega) hB ?_; intro v1 w1 hown1 hb1)
  rw [HF.out] at hown1
  obtain ⟨A1, c1, rfl, hw1⟩ := Own.ofOB hown1 60 (fill60_length (by have := HL.out; omega)) (by omega)
  clear hown1
  refine (sum_s hw1.sl).mono ?_
  rintro e w2 ⟨q, rfl, hq, hq1, g2⟩
  go_wp2_with fail
  refine (put_s 64 (hw1.sl.keep g2) (by simp [fitsB]; omega) (by omega) rfl (by omega)).mono ?_
  rintro e w3 ⟨A3, c3, rfl, hw3, g3⟩
  go_wp2_with fail
  go_ret
  have h3 : fill60 bs ++ leB ((q : Int).toNat) (Int.toNat 4) = sealB bs := by rw [sealB, sumB, ← hq.out]; rfl
  rw [h3] at hw3
  have z1 := hb1.size
  exact ⟨_, _, rfl, hw3.low (Nat.le_trans hb1.size g2.size), hb1.trans ((g2.trans g3).mono (by omega))⟩

theorem slots_opened_no {A : Option Addr} {n c : Nat} {bs : List UInt8} {w : World} (hs : Sl w A n bs) (hc : n ≤ c) (ho : openE bs ≠ 0) :
    Calls Try.prog 26 #[.slice A n c] w fun e w' => e = .returned (.tuple #[.slice none 0 0, .int .i64 (openE bs)]) ∧ Grow w w' := by
  by_cases h64 : n < 64
  · have he : openE bs = 3 := by rw [openE, if_pos (by rw [hs.1]; exact h64)]
    rw [he]
    clear he ho
    go_enter Try.func26, Try.ntmps26
    go_wp2_with fail
    go_ret2
    exact ⟨rfl, Grow.refl _⟩
  · have h1 : ¬ bs.length < 64 := by rw [hs.1]; exact h64
    have he : openE bs = 4 ∧ getN bs 60 4 ≠ (crcN (bs.take 60) : Nat) := by
      unfold openE at ho ⊢
      rw [if_neg h1] at ho ⊢
      split at ho
      · exact absurd rfl ho
      · rename_i hne
        exact ⟨if_neg hne, hne⟩
    rw [he.1]
    have HE := Lib.hid he.2
    clear he ho h1
    have h64' : 64 ≤ n := by omega
    go_enter Try.func26, Try.ntmps26
    go_wp2_with fail
    refine (get_s hs (by omega) (by omega)).mono ?_
    rintro e w1 ⟨rfl, rfl⟩
    go_wp2_with fail
    refine (sum_s (hs.take (k := 60) (by omega))).mono ?_
    rintro e w2 ⟨q, rfl, hq, hq1, g2⟩
    have hne : (getN bs 60 4 != (q : Int)) = true := by
      rw [bne_iff_ne, hq.out]; exact HE.out
    go_wp2_with fail
    go_ret2
    exact ⟨rfl, g2⟩

theorem slots_opened_yes {A : Option Addr} {n c : Nat} {bs : List UInt8} {w : World} (hs : Sl w A n bs) (hc : n ≤ c) (ho : openE bs = 0) :
    Calls Try.prog 26 #[.slice A n c] w fun e w' => e = .returned (.tuple #[.slice A 64 c, .int .i64 0]) ∧ Grow w w' := by
  obtain ⟨h1, h2⟩ := open_len ho
  rw [hs.1] at h1
  have HE := Lib.hid h2
  clear h2 ho
  go_enter Try.func26, Try.ntmps26
  go_wp2_with fail
  refine (get_s hs (by omega) (by omega)).mono ?_
  rintro e w1 ⟨rfl, rfl⟩
  go_wp2_with fail
  refine (sum_s (hs.take (k := 60) (by omega))).mono ?_
  rintro e w2 ⟨q, rfl, hq, hq1, g2⟩
  have hne : (getN bs 60 4 != (q : Int)) = false := by
    rw [bne_eq_false_iff_eq, hq.out]; exact HE.out
  go_wp2_with fail
  go_ret2
  exact ⟨rfl, g2⟩
end Go.Proofs.Ytfieenjmpjfbpaa
