/- The document's examples of layer 1 are met. -/
import Derived.Test.YtjbdabjkgpamnaaNum
import Derived.Test.YtjbdabjkgpamnaaRef1
import Derived.Test.YtjbdabjkgpamnaaRot
namespace Go.Proofs.Ytjbdabjkgpamnaa
open Go.RowKit

theorem lives1_any (w : World) : Calls Try.prog 18 #[] w fun e w' => e = .returned (.bool true) ∧ Below w.heap.size w w' := by
  have e1 : putB [] 258 4 = [2, 1, 0, 0] := by decide
  have e2 : getN [2, 1, 0, 0] 0 2 = 258 := by decide
  have e3 : getK [2, 1, 0, 0] 0 2 = true := by decide
  have e4 : upN 65 64 = 128 := by decide
  have e5 : downN 65 64 = 64 := by decide
  have e6 : rotI 2147483648 1 = 1 := by decide
  go_enter Try.func18, Try.ntmps18
  go_wp2_with fail
  refine (num_put none [] 0 258 4 (by omega) (by omega) _ RB.nil_ (by simp)).mono ?_
  rintro e w1 ⟨v, rfl, hown, hb⟩
  rw [e1] at hown
  obtain ⟨A, c, rfl, hlc, hcm, hrd, hbl⟩ := hown.form
  go_wp2_with fail
  refine (num_get A [2, 1, 0, 0] c 0 2 (by omega) (by omega) _ _ hrd (by simp)).mono ?_
  rintro e w2 ⟨rfl, rfl⟩
  rw [e2, e3]
  go_wp2_with fail
  refine (ref1_same A (some ⟨w1.heap.size, 0, none⟩) [2, 1, 0, 0] [2, 1, 0, 0] c 4 _ _ _ (hrd.alloc (Nat.le_refl _) _) (RB.lit w1 _ _ [2, 1, 0, 0] rfl) (by simp) (by simp)).mono ?_
  rintro e w3 ⟨rfl, n, rfl⟩
  go_wp2_with fail
  refine (num_up _ _ _).mono ?_
  rintro e w4 ⟨rfl, rfl⟩
  rw [e4]
  go_wp2_with fail
  refine (num_down _ _ _).mono ?_
  rintro e w5 ⟨rfl, rfl⟩
  rw [e5]
  go_wp2_with fail
  refine (num_rot_nat 2147483648 (by omega) 1 (by omega) _).mono ?_
  rintro e w6 ⟨rfl, rfl⟩
  rw [e6]
  go_wp2_with fail
  go_ret
  exact ⟨rfl, below_drewN (hb.alloc hb.size _) n⟩
end Go.Proofs.Ytjbdabjkgpamnaa
