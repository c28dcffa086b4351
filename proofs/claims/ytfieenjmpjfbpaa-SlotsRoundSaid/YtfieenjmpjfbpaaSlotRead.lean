/- slots.Read. -/
import Derived.Test.YtfieenjmpjfbpaaSlotPut
import Derived.Test.YtfieenjmpjfbpaaBytesEq
import Derived.Test.YtfieenjmpjfbpaaSlotVal
namespace Go.Proofs.Ytfieenjmpjfbpaa
open Go.RowKit

/-- The closure 'next'. -/
theorem slots_next (gb ga : Nat) (A : Option Addr) (n c : Nat) (a wd : Int) (bs : List UInt8) (w : World) (hb : w.cell? ⟨gb, 0, none⟩ = some (.slice A n c)) (ha : w.cell? ⟨ga, 0, none⟩ = some (.int .i64 a)) (hf : w.frozen? ⟨ga, 0, none⟩ = false) (hs : Sl w A n bs) (h0 : 0 ≤ a) (h1 : 0 ≤ wd) (h : a + wd ≤ 1000) :
    Calls Try.prog 31 #[.int .i64 wd, .pointer (some ⟨gb, 0, none⟩), .pointer (some ⟨ga, 0, none⟩)] w fun e w' => ∃ x, e = .returned (.int .i64 x) ∧ Hid (x = getN bs a wd) ∧ w' = w.setCell ⟨ga, 0, none⟩ (.int .i64 (a + wd)) := by
  go_enter Try.func31, Try.ntmps31
  go_wp2_with fail
  refine (get_s hs (by omega) (by omega)).mono ?_
  rintro e w1 ⟨rfl, rfl⟩
  go_wp2_with fail
  go_ret
  exact ⟨_, rfl, Lib.hid rfl, rfl⟩

theorem slots_read_open {A : Option Addr} {n c : Nat} {bs : List UInt8} {w : World} (hs : Sl w A n bs) (hc : n ≤ c) (ho : openE bs ≠ 0) :
    Calls Try.prog 18 #[.slice A n c] w fun e w' => e = .returned (.tuple #[slotV bs, .int .i64 (readE bs)]) ∧ Grow w w' := by
  have he : readE bs = openE bs := by rw [readE, if_neg ho]
  rw [slotV_no (by rw [he]; exact ho), he]
  have hne : (openE bs != 0) = true := by rw [bne_iff_ne]; exact ho
  have HO := Lib.hid ho
  have HE := Lib.hid hne
  clear ho hne he
  go_enter Try.func18, Try.ntmps18
  go_wp2_with fail
  refine (slots_opened_no ((hs.alloc _).alloc _) hc HO.out).mono ?_
  rintro e w1 ⟨rfl, g1⟩
  have hne := HE.out
  obtain ⟨hc1, hf1⟩ := g1.cells
  have z1 := g1.size
  simp at z1
  go_wp2_with fail
  refine bodyPost_ret (v := .tuple #[.agg #[.int .i64 0, .int .i64 0, .int .i64 0, .int .i64 0, .int .i64 0, .int .i64 0], .int .i64 (openE bs)]) (by simp [results, Try.results18, go_sem, hc1]) rfl ⟨rfl, ?_⟩
  repeat (refine Grow.setCell ?_ (by simp) _)
  exact (((Grow.refl _).alloc _).alloc _).trans g1

set_option maxHeartbeats 2000000 in
theorem slots_read_yes {A : Option Addr} {n c : Nat} {bs : List UInt8} {w : World} (hs : Sl w A n bs) (hc : n ≤ c) (ho : openE bs = 0) :
    Calls Try.prog 18 #[.slice A n c] w fun e w' => e = .returned (.tuple #[slotV bs, .int .i64 (readE bs)]) ∧ Grow w w' := by
  have HO := Lib.hid ho
  have hl : 64 ≤ n := by rw [← hs.1]; exact (open_len ho).1
  have TG := Lib.hid (take_get (open_len ho).1)
  have hs64 := hs.take hl
  clear ho
  go_enter Try.func18, Try.ntmps18
  go_wp2_with fail
  refine (slots_opened_yes ((hs.alloc _).alloc _) hc HO.out).mono ?_
  rintro e w1 ⟨rfl, g1⟩
  obtain ⟨hc1, hf1⟩ := g1.cells
  have z1 := g1.size
  simp at z1
  have l0 : w.heap.size < w1.heap.size := by omega
  have l1 : w.heap.size + 1 < w1.heap.size := by omega
  go_wp2_with fail
  obtain ⟨W2, hW2⟩ : ∃ W2, W2 = (w1.setCell ⟨w.heap.size, 0, none⟩ (.slice A 64 c)).alloc (.cells #[.int .i64 0] 3) := ⟨_, rfl⟩
  have G2 : Grow w W2 := by rw [hW2]; exact ((((Grow.refl _).alloc _).alloc _).trans g1).setCell (Nat.le_refl _) _ |>.alloc _
  have cb : W2.cell? ⟨w.heap.size, 0, none⟩ = some (.slice A 64 c) := by rw [hW2]; exact cell_alloc (cell_set_eq (u := .slice A n c) (by rw [hc1 _ _ (by simp; omega)]; simp))
  have ca : W2.cell? ⟨w1.heap.size, 0, none⟩ = some (.int .i64 0) := by rw [hW2]; go_simp
  have fa : W2.frozen? ⟨w1.heap.size, 0, none⟩ = false := by rw [hW2]; go_simp
  have r0 : W2.cell? ⟨w.heap.size + 1, 0, none⟩ = some (.int .i64 0) := by rw [hW2]; go_simp
  have r1 : W2.cell? ⟨w.heap.size + 1, 1, none⟩ = some (.int .i64 0) := by rw [hW2]; go_simp
  have r2 : W2.cell? ⟨w.heap.size + 1, 2, none⟩ = some (.int .i64 0) := by rw [hW2]; go_simp
  have r3 : W2.cell? ⟨w.heap.size + 1, 3, none⟩ = some (.int .i64 0) := by rw [hW2]; go_simp
  have r4 : W2.cell? ⟨w.heap.size + 1, 4, none⟩ = some (.int .i64 0) := by rw [hW2]; go_simp
  have r5 : W2.cell? ⟨w.heap.size + 1, 5, none⟩ = some (.int .i64 0) := by rw [hW2]; go_simp
  have q0 : W2.frozen? ⟨w.heap.size + 1, 0, none⟩ = false := by rw [hW2]; go_simp
  have q1 : W2.frozen? ⟨w.heap.size + 1, 1, none⟩ = false := by rw [hW2]; go_simp
  have q2 : W2.frozen? ⟨w.heap.size + 1, 2, none⟩ = false := by rw [hW2]; go_simp
  have q3 : W2.frozen? ⟨w.heap.size + 1, 3, none⟩ = false := by rw [hW2]; go_simp
  have q4 : W2.frozen? ⟨w.heap.size + 1, 4, none⟩ = false := by rw [hW2]; go_simp
  have q5 : W2.frozen? ⟨w.heap.size + 1, 5, none⟩ = false := by rw [hW2]; go_simp
  have sz : W2.heap.size = w1.heap.size + 1 := by rw [hW2]; simp
  rw [← hW2]
  clear hW2 hc1 hf1 g1
  obtain ⟨ga, hga⟩ : ∃ ga, ga = w1.heap.size := ⟨_, rfl⟩
  rw [← hga] at ca fa sz z1 l0 l1 ⊢
  clear hga
  have l2 : w.heap.size < ga + 1 := by omega
  have hss : ∀ v v', (W2.setCell ⟨ga, 0, none⟩ v).setCell ⟨ga, 0, none⟩ v' = W2.setCell ⟨ga, 0, none⟩ v' := setCell_again W2 ga 0
  have n1 : ga ≠ w.heap.size := by omega
  have n2 : ga ≠ w.heap.size + 1 := by omega
  have n3 : ga + 1 ≠ w.heap.size := by omega
  have m1 : w.heap.size ≠ ga := by omega
  have m2 : w.heap.size + 1 ≠ ga := by omega
  have m3 : w.heap.size ≠ ga + 1 := by omega
  refine (slots_next w.heap.size ga A 64 c 0 4 (bs.take 64) _ ?_ ?_ ?_ (hs64.keep (by repeat (first | exact G2 | refine Grow.setCell ?_ (by dsimp only; omega) _ | refine Grow.alloc ?_ _))) (by omega) (by omega) (by omega)).mono ?_
  · go_simp
  · go_simp
  · go_simp
  rintro e w' ⟨x0, rfl, X0, rfl⟩
  go_wp2_with fail
  refine (slots_next w.heap.size ga A 64 c 4 4 (bs.take 64) _ ?_ ?_ ?_ (hs64.keep (by repeat (first | exact G2 | refine Grow.setCell ?_ (by dsimp only; omega) _ | refine Grow.alloc ?_ _))) (by omega) (by omega) (by omega)).mono ?_
  · go_simp
  · go_simp
  · go_simp
  rintro e w' ⟨x1, rfl, X1, rfl⟩
  go_wp2_with fail
  refine (slots_next w.heap.size ga A 64 c 8 8 (bs.take 64) _ ?_ ?_ ?_ (hs64.keep (by repeat (first | exact G2 | refine Grow.setCell ?_ (by dsimp only; omega) _ | refine Grow.alloc ?_ _))) (by omega) (by omega) (by omega)).mono ?_
  · go_simp
  · go_simp
  · go_simp
  rintro e w' ⟨x2, rfl, X2, rfl⟩
  go_wp2_with fail
  refine (slots_next w.heap.size ga A 64 c 16 1 (bs.take 64) _ ?_ ?_ ?_ (hs64.keep (by repeat (first | exact G2 | refine Grow.setCell ?_ (by dsimp only; omega) _ | refine Grow.alloc ?_ _))) (by omega) (by omega) (by omega)).mono ?_
  · go_simp
  · go_simp
  · go_simp
  rintro e w' ⟨x3, rfl, X3, rfl⟩
  go_wp2_with fail
  refine (slots_next w.heap.size ga A 64 c 17 1 (bs.take 64) _ ?_ ?_ ?_ (hs64.keep (by repeat (first | exact G2 | refine Grow.setCell ?_ (by dsimp only; omega) _ | refine Grow.alloc ?_ _))) (by omega) (by omega) (by omega)).mono ?_
  · go_simp
  · go_simp
  · go_simp
  rintro e w' ⟨x4, rfl, X4, rfl⟩
  go_wp2_with fail
  refine (slots_next w.heap.size ga A 64 c 18 8 (bs.take 64) _ ?_ ?_ ?_ (hs64.keep (by repeat (first | exact G2 | refine Grow.setCell ?_ (by dsimp only; omega) _ | refine Grow.alloc ?_ _))) (by omega) (by omega) (by omega)).mono ?_
  · go_simp
  · go_simp
  · go_simp
  rintro e w' ⟨x5, rfl, X5, rfl⟩
  go_wp2_with fail
  have l3 : w.heap.size < ga + 1 + 1 := by omega
  have Y0 := Lib.hid (X0.out.trans TG.out.1)
  have Y1 := Lib.hid (X1.out.trans TG.out.2.1)
  have Y2 := Lib.hid (X2.out.trans TG.out.2.2.1)
  have Y3 := Lib.hid (X3.out.trans TG.out.2.2.2.1)
  have Y4 := Lib.hid (X4.out.trans TG.out.2.2.2.2.1)
  have Y5 := Lib.hid (X5.out.trans TG.out.2.2.2.2.2)
  have HMM := Lib.hid (show mayS x0 x1 x2 x3 x4 x5 = mayG bs by rw [mayG, Y0.out, Y1.out, Y2.out, Y3.out, Y4.out, Y5.out])
  have HSL := Lib.hid (show slotB x0 x1 x2 x3 x4 x5 = slotG bs by rw [slotG, Y0.out, Y1.out, Y2.out, Y3.out, Y4.out, Y5.out])
  clear X0 X1 X2 X3 X4 X5 TG ca fa
  cases hm : mayG bs with
  | false =>
    have hE : readE bs = 2 := by rw [readE, if_pos HO.out, if_neg (by rw [sameG, hm]; simp)]
    have HM := Lib.hid (HMM.out.trans hm)
    have HE := Lib.hid hE
    clear hE hm
    refine (slots_put_no x0 x1 x2 x3 x4 x5 HM.out _).mono ?_
    rintro e w3 ⟨rfl, g3⟩
    obtain ⟨hc3, hf3⟩ := g3.cells
    go_wp2_with fail
    rw [slotV_no (by rw [HE.out]; omega), HE.out]
    refine bodyPost_ret (v := .tuple #[.agg #[.int .i64 0, .int .i64 0, .int .i64 0, .int .i64 0, .int .i64 0, .int .i64 0], .int .i64 2]) (by simp [results, Try.results18, go_sem, hc3, sz, l0, l2, r0, r1, r2, r3, r4, r5]) rfl ⟨rfl, ?_⟩
    repeat (refine Grow.setCell ?_ (by simp) _)
    exact Grow.trans (by repeat (first | exact G2 | refine Grow.setCell ?_ (by dsimp only; omega) _ | refine Grow.alloc ?_ _)) g3
  | true =>
    have hE : readE bs = if decide (slotG bs = bs.take 64) then 0 else 2 := by rw [readE, if_pos HO.out, sameG, hm, Bool.true_and]
    have HM := Lib.hid (HMM.out.trans hm)
    have HE := Lib.hid hE
    clear hE hm
    refine (slots_put_yes x0 x1 x2 x3 x4 x5 HM.out _).mono ?_
    rintro e w3 ⟨A3, c3, rfl, hw3, g3⟩
    obtain ⟨hc3, hf3⟩ := g3.cells
    go_wp2_with fail
    refine (bytes_equal hw3.sl (hs64.keep (Grow.trans (by repeat (first | exact G2 | refine Grow.setCell ?_ (by dsimp only; omega) _ | refine Grow.alloc ?_ _)) g3))).mono ?_
    rintro e w4 ⟨s, rfl, hs4, rfl⟩
    rw [HSL.out] at hs4
    rw [← hs4.out] at HE
    cases s with
    | true =>
      have hE : readE bs = 0 := HE.out
      have HE2 := Lib.hid hE
      have HV := Lib.hid (show slotV bs = .agg #[.int .i64 x0, .int .i64 x1, .int .i64 x2, .int .i64 x3, .int .i64 x4, .int .i64 x5] by rw [slotV, hE, Y0.out, Y1.out, Y2.out, Y3.out, Y4.out, Y5.out]; rfl)
      clear hE HE
      go_wp2_with fail
      rw [HV.out, HE2.out]
      refine bodyPost_ret (v := .tuple #[.agg #[.int .i64 x0, .int .i64 x1, .int .i64 x2, .int .i64 x3, .int .i64 x4, .int .i64 x5], .int .i64 0]) (by simp [results, Try.results18, go_sem, hc3, sz, l0, l2, r0, r1, r2, r3, r4, r5]) rfl ⟨rfl, ?_⟩
      repeat (refine Grow.setCell ?_ (by simp) _)
      exact Grow.trans (by repeat (first | exact G2 | refine Grow.setCell ?_ (by dsimp only; omega) _ | refine Grow.alloc ?_ _)) g3
    | false =>
      have hE : readE bs = 2 := HE.out
      have HE2 := Lib.hid hE
      clear hE HE
      go_wp2_with fail
      rw [slotV_no (by rw [HE2.out]; omega), HE2.out]
      refine bodyPost_ret (v := .tuple #[.agg #[.int .i64 0, .int .i64 0, .int .i64 0, .int .i64 0, .int .i64 0, .int .i64 0], .int .i64 2]) (by simp [results, Try.results18, go_sem, hc3, sz, l0, l2, r0, r1, r2, r3, r4, r5]) rfl ⟨rfl, ?_⟩
      repeat (refine Grow.setCell ?_ (by simp) _)
      exact Grow.trans (by repeat (first | exact G2 | refine Grow.setCell ?_ (by dsimp only; omega) _ | refine Grow.alloc ?_ _)) g3
end Go.Proofs.Ytfieenjmpjfbpaa
