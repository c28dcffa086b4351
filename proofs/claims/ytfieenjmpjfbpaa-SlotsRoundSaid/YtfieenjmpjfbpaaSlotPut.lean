/- slots.Put, slots.PutHead. -/
import Derived.Test.YtfieenjmpjfbpaaSlot
namespace Go.Proofs.Ytfieenjmpjfbpaa
open Go.RowKit

theorem slots_put_no (ep hd rp er io wr : Int) (hm : mayS ep hd rp er io wr = false) (w : World) :
    Calls Try.prog 8 #[.agg #[.int .i64 ep, .int .i64 hd, .int .i64 rp, .int .i64 er, .int .i64 io, .int .i64 wr]] w fun e w' => e = .returned (.tuple #[.slice none 0 0, .int .i64 1]) ∧ Grow w w' := by
  have h := fun h => Bool.false_ne_true (hm.symm.trans (mayS_iff.2 h))
  have H := Lib.hid h
  clear h hm
  go_enter Try.func8, Try.ntmps8
  go_wp2_with (go_at_call 20; refine (slots_in _ _ _).mono ?_; rintro e w' ⟨rfl, rfl⟩)
  all_goals first
    | (go_ret2; exact ⟨rfl, (Grow.refl _).alloc _⟩)
    | (exfalso; refine H.out ?_; first | (simp_all; done) | (simp_all; omega))

set_option maxHeartbeats 400000 in
theorem slots_put_yes (ep hd rp er io wr : Int) (hm : mayS ep hd rp er io wr = true) (w : World) :
    Calls Try.prog 8 #[.agg #[.int .i64 ep, .int .i64 hd, .int .i64 rp, .int .i64 er, .int .i64 io, .int .i64 wr]] w fun e w' => ∃ A c, e = .returned (.tuple #[.slice A 64 c, .int .i64 0]) ∧ Own w' w.heap.size A 64 c (slotB ep hd rp er io wr) ∧ Grow w w' := by
  obtain ⟨a1, a2, b1, b2, c1, c2, d1, d2, e1, e2, f1, f2⟩ := mayS_iff.1 hm
  clear hm
  go_enter Try.func8, Try.ntmps8
  go_wp2_with (go_at_call 20; refine (slots_in _ _ _).mono ?_; rintro e w' ⟨rfl, rfl⟩)
  refine (slots_numbers 4 rfl _ 0 2 2 [ep, hd] 8 Sl.nil rfl (by omega) (by simp [fitsB]; omega) (by simp) (by simp) (by omega) (by simp) (by simp) (ints_at _ _ _ [ep, hd] _ (by simp) rfl)).mono ?_
  rintro e w1 ⟨A1, k1, rfl, hw1, g1⟩
  replace g1 := ((Grow.refl _).alloc _).trans g1
  have K := (Blk.new w 26 [.int .i64 ep, .int .i64 hd, .int .i64 rp, .int .i64 er, .int .i64 io, .int .i64 wr] _ (0, 0) rfl).keep g1
  replace g1 := ((Grow.refl _).alloc _).trans g1
  have HK := Lib.hid K
  clear K
  obtain ⟨k0, k1, k2, k3, k4, k5⟩ := HK.out.c6
  go_wp2_with fail
  refine (slots_numbers 8 rfl _ 0 1 1 [rp] 16 (hw1.sl.alloc _) rfl (by omega) (by simp [fitsB]; omega) (by simp) (by simp) (by omega) (by simp) (by simp) (ints_at _ _ _ [rp] _ (by simp) rfl)).mono ?_
  rintro e w2 ⟨A2, k2', rfl, hw2, g2⟩
  replace g2 := ((Grow.refl _).alloc _).trans g2
  have HK2 := Lib.hid (HK.out.keep g2)
  replace g2 := g1.trans g2
  clear k0 k1 k2 k3 k4 k5 HK g1 hw1
  obtain ⟨k0, k1, k2, k3, k4, k5⟩ := HK2.out.c6
  go_wp2_with fail
  refine (slots_numbers 1 rfl _ 0 2 2 [er, io] 18 (hw2.sl.alloc _) rfl (by omega) (by simp [fitsB]; omega) (by simp) (by simp) (by omega) (by simp) (by simp) (ints_at _ _ _ [er, io] _ (by simp) rfl)).mono ?_
  rintro e w3 ⟨A3, k3', rfl, hw3, g3⟩
  replace g3 := ((Grow.refl _).alloc _).trans g3
  have HK3 := Lib.hid (HK2.out.keep g3)
  replace g3 := g2.trans g3
  clear k0 k1 k2 k3 k4 k5 HK2 g2 hw2
  obtain ⟨k0, k1, k2, k3, k4, k5⟩ := HK3.out.c6
  go_wp2_with fail
  refine (slots_numbers 8 rfl _ 0 1 1 [wr] 26 (hw3.sl.alloc _) rfl (by omega) (by simp [fitsB]; omega) (by simp) (by simp) (by omega) (by simp) (by simp) (ints_at _ _ _ [wr] _ (by simp) rfl)).mono ?_
  rintro e w4 ⟨A4, k4', rfl, hw4, g4⟩
  replace g4 := g3.trans (((Grow.refl _).alloc _).trans g4)
  clear k0 k1 k2 k3 k4 k5 HK3 hw3
  have z3 := g3.size
  go_wp2_with fail
  refine (slots_seal (hw4.low (Nat.le_trans z3 (by simp))) g4.size (by omega)).mono ?_
  rintro e w5 ⟨A5, k5', rfl, hw5, g5⟩
  go_wp2_with fail
  go_ret2
  refine ⟨_, _, rfl, ?_, g4.low g5⟩
  have h := hw5.low g4.size
  have e1 : putsF (putsF (putsF (putsF [] 4 [ep, hd]) 8 [rp]) 1 [er, io]) 8 [wr] = slot26 ep hd rp er io wr := by simp [putsF, slot26]
  rw [e1] at h
  exact h
end Go.Proofs.Ytfieenjmpjfbpaa
