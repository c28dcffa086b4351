/- commonslaw03.like. No statement of the seat is proved here. -/
import Derived.Test.YtnhgfkahmflpgaaRm4
import Derived.Test.YtnhgfkahmflpgaaRm3
import Derived.Test.YtnhgfkahmflpgaaLives3
namespace Go.Proofs.Ytnhgfkahmflpgaa
open Go.RowKit

/-- Both memories, alike. -/
def Pair (w : World) (base : Nat) (x y : MB) (N : Nat) (S T : List UInt8) (A : List Bool) : Prop :=
  PM w x N S T A ∧ RM w y N S T A ∧ (∀ k, x.F k → ¬ y.F k) ∧ (∀ k, x.F k → base ≤ k) ∧ (∀ k, y.F k → base ≤ k)
theorem Pair.keep {w w' : World} {base : Nat} {x y : MB} {N : Nat} {S T : List UInt8} {A : List Bool} (h : Pair w base x y N S T A) (g : Grow w w') : Pair w' base x y N S T A := ⟨h.1.keep g, h.2.1.keep g, h.2.2⟩
theorem RM.lastRB {w : World} {x : MB} {N : Nat} {S T : List UInt8} {A : List Bool} (h : RM w x N S T A) : RB w w.heap.size (some ⟨x.gt, 0, none⟩) T := by
  have hl := h.lenT
  obtain ⟨cs, ct, ca, h1, h3, h4, h5, h6, h7⟩ := h
  refine ⟨by rw [bvs_length]; omega, fun _ => ⟨x.gt, 0, rfl, h6.lt, fun j u hu => ?_⟩⟩
  rw [Nat.zero_add]
  exact h6.cell hu

set_option maxHeartbeats 2000000 in
set_option maxRecDepth 8000 in
theorem like3 {w : World} {base : Nat} {x y : MB} {N : Nat} {S T : List UInt8} {A : List Bool} (h : Pair w base x y N S T A) (hN : N ≤ 50000) :
    Calls Try.prog 19 #[.pointer (some ⟨x.p, 0, none⟩), .pointer (some ⟨y.p, 0, none⟩)] w fun e w' => e = .returned (.bool true) ∧ Grow w w' := by
  obtain ⟨hP, hR, -, -, -⟩ := h
  have hlS := hP.lenS
  have hlT := hP.lenT
  obtain ⟨L, cs, ct, ca, HLL, hcs, hct, -, c0, c1, -, l0⟩ := hR.look
  have HP := Lib.hid hP
  have HR := Lib.hid hR
  have HLS := Lib.hid (show (S.drop 0).take L = S by rw [List.drop_zero, List.take_of_length_le (by rw [hlS, HLL.out]; exact Nat.le_refl _)])
  have HLT := Lib.hid (show (T.drop 0).take L = T by rw [List.drop_zero, List.take_of_length_le (by rw [hlT, HLL.out]; exact Nat.le_refl _)])
  have HSL := Lib.hid (show Sl w (some ⟨y.gs, 0, none⟩) L S from ⟨by rw [hlS, HLL.out], by rw [HLL.out]; omega, hR.seenRB⟩)
  have HTL := Lib.hid (show Sl w (some ⟨y.gt, 0, none⟩) L T from ⟨by rw [hlT, HLL.out], by rw [HLL.out]; omega, hR.lastRB⟩)
  have HNN := Lib.hid hN
  have hLN : ((N : Int) * 8 == (L : Int)) = true := by have := HLL.out; rw [beq_iff_eq]; omega
  clear hP hR hlS hlT hN
  go_enter Try.func19, Try.ntmps19
  go_wp2_with fail
  refine (pm_load HP.out 0 L (by rw [HLL.out]; omega)).mono ?_
  rintro e w1 ⟨A1, k1, rfl, o1, g1⟩
  rw [HLS.out] at o1
  have s1 := o1.sl
  clear o1
  go_wp2_with fail
  refine (pm_lasts (HP.out.keep g1) 0 L (by rw [HLL.out]; omega)).mono ?_
  rintro e w2 ⟨A2, k2, rfl, o2, g2⟩
  rw [HLT.out] at o2
  have s2 := o2.sl
  replace s1 := s1.keep g2
  have G := g1.trans g2
  have d0 := G.cell c0
  have d1 := G.cell c1
  have m0 : y.p < w2.heap.size := Nat.lt_of_lt_of_le l0 G.size
  clear o2 g1 g2 c0 c1 l0
  go_wp2_with fail
  refine (same_yes s1 (HSL.out.keep G) rfl).mono ?_
  rintro e w3 ⟨rfl, n3, hw3⟩
  have g3 : Grow w2 w3 := by rw [hw3]; exact (Grow.refl _).drewN n3
  replace s2 := s2.keep g3
  replace G := G.trans g3
  replace d1 := g3.cell d1
  have m1 : y.p < w3.heap.size := Nat.lt_of_lt_of_le m0 g3.size
  clear s1 hw3 g3 d0 m0
  go_wp2_with fail
  refine (same_yes s2 (HTL.out.keep G) rfl).mono ?_
  rintro e w4 ⟨rfl, n4, hw4⟩
  have g4 : Grow w3 w4 := by rw [hw4]; exact (Grow.refl _).drewN n4
  replace G := G.trans g4
  clear s2 hw4 g4 d1 m1
  go_wp2_with fail
  refine (pm_dirty (HP.out.keep G)).mono ?_
  rintro e w5 ⟨v5, rfl, o5, g5⟩
  replace G := G.trans g5
  obtain ⟨A5, k5, rfl, -, r5⟩ := OI.ri o5
  clear o5 g5
  go_wp2_with fail
  refine (rm_dirty (HR.out.keep G)).mono ?_
  rintro e w6 ⟨v6, rfl, o6, g6⟩
  replace r5 := r5.keep g6
  replace G := G.trans g6
  obtain ⟨A6, k6, rfl, -, r6⟩ := OI.ri o6
  have hdl : (dirtyL S T N).length ≤ 60000 := by have := dirtyL_length S T N; have := HNN.out; omega
  have HDL := Lib.hid hdl
  clear o6 g6 hdl
  go_wp2_with fail
  refine (ints_same r5 r6 HDL.out).mono ?_
  rintro e w7 ⟨rfl, n7, hw7⟩
  have g7 : Grow w6 w7 := by rw [hw7]; exact (Grow.refl _).drewN n7
  replace G := G.trans g7
  clear r5 r6 hw7 g7
  go_wp2_with fail
  refine (pm_size (HP.out.keep G)).mono ?_
  rintro e w8 ⟨rfl, rfl⟩
  go_wp2_with fail
  go_ret
  exact ⟨rfl, G⟩
end Go.Proofs.Ytnhgfkahmflpgaa
