/- commonsref03: Dirty, Fence, Evict. No statement of the seat is proved here. -/
import Derived.Test.YtnhgfkahmflpgaaRm2
import Derived.Test.YtnhgfkahmflpgaaPm9
namespace Go.Proofs.Ytnhgfkahmflpgaa
open Go.RowKit

theorem rm_dirty {w : World} {x : MB} {N : Nat} {S T : List UInt8} {A : List Bool} (h : RM w x N S T A) :
    Calls Try.prog 38 #[.pointer (some ⟨x.p, 0, none⟩)] w fun e w' => ∃ v, e = .returned v ∧ OI w' w.heap.size v (dirtyL S T N) ∧ Grow w w' := by
  have HB := Lib.hid h.bound.2.2
  have H := Lib.hid h
  clear h
  go_enter Try.func38, Try.ntmps38
  go_wp2_with fail
  go_loopw [3, 4] (fun out t wr => DirtyInv w wr S T N out t) (fun _ t _ => N - (intOf t).toNat)
  case atStart => exact ⟨0, rfl, Nat.zero_le _, OI.nil _ _, Grow.refl _⟩
  case round =>
    obtain ⟨k, rfl, hk, ho, G⟩ := hrel
    obtain ⟨L, cs, ct, ca, HLL, -, -, hca, -, -, c2, l0⟩ := (H.out.keep G).look
    have HO := Lib.hid ho
    clear ho
    by_cases hlt : k < N
    · have HLEN := Lib.hid (show (dirtyL S T k).length + 1 ≤ 1000000 by have := dirtyL_length S T k; have := HB.out; omega)
      have e5 := wrapS hlt (Nat.le_trans HB.out (by decide))
      go_wp2_with fail
      refine (rm_dirty1 (H.out.keep G) k hlt).mono ?_
      rintro e w1 ⟨rfl, g1⟩
      have G1 := G.trans g1
      have hz1 := Below.size G1
      have HO1 := Lib.hid (show OI w1 w.heap.size u3 (dirtyL S T k) from World.ownsRow.kept HO.out g1.grown (own_none _))
      have HSUC := Lib.hid (dirtyL_succ S T k)
      clear HO g1 G c2 l0
      cases hD : dirtyB S T k with
      | true =>
        have HSU := Lib.hid (show dirtyL S T (k + 1) = dirtyL S T k ++ [(k : Int)] by rw [HSUC.out, if_pos hD])
        clear hD
        go_wp2_with (at_builtin; refine wpList_appIone rfl (.tmp 19) (.tmp 21) rfl w.heap.size _ (dirtyL S T k) rfl _ (by rfl) HO1.out HLEN.out hz1 ?_; intro v2 w2 o2 g2)
        have X : DirtyInv w w2 S T N v2 (.int .i64 ((k : Int) + 1)) := ⟨k + 1, by simp, hlt, by rw [HSU.out]; exact o2, G1.low g2⟩
        go_roundw
        case rel => (try rw [e5]); first | exact X | ((repeat apply Exists.intro); exact X) | ((repeat apply Exists.intro); refine ⟨X, ?_⟩; rfl)
        case measure => first | exact meas hlt | exact measW hlt e5
      | false =>
        have X : DirtyInv w w1 S T N u3 (.int .i64 ((k : Int) + 1)) := ⟨k + 1, by simp, hlt, by rw [HSUC.out, if_neg (by rw [hD]; decide)]; exact HO1.out, G1⟩
        clear hD
        go_wp2_with fail
        go_roundw
        case rel => (try rw [e5]); first | exact X | ((repeat apply Exists.intro); exact X) | ((repeat apply Exists.intro); refine ⟨X, ?_⟩; rfl)
        case measure => first | exact meas hlt | exact measW hlt e5
    · obtain rfl : k = N := by omega
      go_wp2_with fail
      go_ret
      exact ⟨_, rfl, HO.out, G⟩

/-! ### Fence -/
def ltA (A : List Bool) (k : Nat) : Nat → Bool := fun j => A.getD j false && decide (j < k)
def geA (A : List Bool) (k : Nat) : List Bool := (List.range A.length).map fun j => A.getD j false && decide (k ≤ j)
theorem geA_length (A : List Bool) (k : Nat) : (geA A k).length = A.length := by simp [geA]
theorem geA_get (A : List Bool) (k j : Nat) (hj : j < A.length) : (geA A k).getD j false = (A.getD j false && decide (k ≤ j)) := by
  simp [geA, List.getD_eq_getElem?_getD, hj]
theorem geA_zero (A : List Bool) : geA A 0 = A := getD_ext (geA_length ..) fun j hj => by rw [geA_length] at hj; rw [geA_get _ _ _ hj]; simp
theorem geA_end (A : List Bool) : geA A A.length = List.replicate A.length false := getD_ext (by simp [geA_length]) fun j hj => by
  rw [geA_length] at hj
  rw [geA_get _ _ _ hj, decide_eq_false (by omega)]
  simp [List.getD_eq_getElem?_getD, hj]
theorem geA_step {A : List Bool} {k : Nat} (hk : k < A.length) (h : A.getD k false = true) : (geA A k).set k false = geA A (k + 1) := getD_ext (by simp [geA_length]) fun j hj => by
  rw [List.length_set, geA_length] at hj
  rw [getD_set _ _ _ _ (by rw [geA_length]; exact hk), geA_get _ _ _ hj, geA_get _ _ _ hj]
  by_cases e : j = k
  · subst e; rw [if_pos rfl, decide_eq_false (by omega)]; simp
  · rw [if_neg e]; congr 1; simp; omega
theorem geA_skip {A : List Bool} {k : Nat} (h : A.getD k false = false) : geA A k = geA A (k + 1) := getD_ext (by simp [geA_length]) fun j hj => by
  rw [geA_length] at hj
  rw [geA_get _ _ _ hj, geA_get _ _ _ hj]
  by_cases e : j = k
  · subst e; rw [h]; rfl
  · congr 1; simp; omega
theorem ltA_step (S T : List UInt8) {A : List Bool} {k : Nat} (h : A.getD k false = true) : keepN S (mixL S T (ltA A k)) (8 * k) 8 = mixL S T (ltA A (k + 1)) := by
  rw [mixL_keep]
  refine mixL_congr S T fun j _ => ?_
  simp only [ltA]
  by_cases e : j = k
  · subst e; rw [h]; simp
  · rw [beq_false_of_ne e, Bool.or_false]; congr 1; simp; omega
theorem ltA_skip (S T : List UInt8) {A : List Bool} {k : Nat} (h : A.getD k false = false) : mixL S T (ltA A k) = mixL S T (ltA A (k + 1)) := by
  refine mixL_congr S T fun j _ => ?_
  simp only [ltA]
  by_cases e : j = k
  · subst e; rw [h]; rfl
  · congr 1; simp; omega
theorem ltA_end (S T : List UInt8) {A : List Bool} (hT : T.length = 8 * A.length) : mixL S T (ltA A A.length) = mixL S T fun k => A.getD k false := by
  refine mixL_congr S T fun j hj => ?_
  simp only [ltA]
  rw [decide_eq_true (by omega), Bool.and_true]

def RFenceInv (w wr : World) (x : MB) (N : Nat) (S T : List UInt8) (A : List Bool) (t : Value) : Prop := ∃ k : Nat, t = .int .i64 (k : Int) ∧ k ≤ N ∧ RM wr x N S (mixL S T (ltA A k)) (geA A k) ∧ Turn x.F w wr

theorem rm_fence {w : World} {x : MB} {N : Nat} {S T : List UInt8} {A : List Bool} (h : RM w x N S T A) :
    Calls Try.prog 26 #[.pointer (some ⟨x.p, 0, none⟩)] w fun e w' => e = .returned (.tuple #[]) ∧ RM w' x N S (mixL S T fun k => A.getD k false) (List.replicate N false) ∧ Turn x.F w w' := by
  have HB := Lib.hid h.bound.2.2
  have HLA := Lib.hid h.lenA
  have HLT := Lib.hid h.lenT
  have H0 := Lib.hid (show RM w x N S (mixL S T (ltA A 0)) (geA A 0) by rw [geA_zero, mixL_none S T (B := ltA A 0) (fun k => by simp [ltA])]; exact h)
  clear h
  go_enter Try.func26, Try.ntmps26
  go_wp2_with fail
  go_loopw [2] (fun t wr => RFenceInv w wr x N S T A t) (fun t _ => N - (intOf t).toNat)
  case atStart => exact ⟨0, rfl, Nat.zero_le _, H0.out, Turn.refl _ _⟩
  case round =>
    obtain ⟨k, rfl, hk, hP, ht⟩ := hrel
    obtain ⟨L, cs, ct, ca, HLL, -, -, hca, -, -, c2, l0⟩ := hP.look
    have HP := Lib.hid hP
    by_cases hlt : k < N
    · have hkA : k < A.length := by rw [HLA.out]; exact hlt
      obtain ⟨cA, -⟩ := hP.awayAt hlt
      rw [geA_get _ _ _ hkA, decide_eq_true (Nat.le_refl k), Bool.and_true] at cA
      have e5 := wrapS hlt (Nat.le_trans HB.out (by decide))
      have HKA := Lib.hid hkA
      clear hP hkA
      cases hv : A.getD k false with
      | true =>
        have HS := Lib.hid (ltA_step S T hv)
        have HG := Lib.hid (geA_step HKA.out hv)
        rw [hv] at cA
        clear hv
        go_wp2_with fail
        refine (rm_keep HP.out k hlt).mono ?_
        rintro e w2 ⟨rfl, hP2, t2⟩
        rw [HS.out, HG.out] at hP2
        have X : RFenceInv w w2 x N S T A (.int .i64 ((k : Int) + 1)) := ⟨k + 1, by simp, hlt, hP2, ht.and t2⟩
        clear hP2 t2
        go_wp2_with fail
        go_roundw
        case rel => (try rw [e5]); first | exact X | ((repeat apply Exists.intro); exact X) | ((repeat apply Exists.intro); refine ⟨X, ?_⟩; rfl)
        case measure => first | exact meas hlt | exact measW hlt e5
      | false =>
        have X : RFenceInv w wr x N S T A (.int .i64 ((k : Int) + 1)) := ⟨k + 1, by simp, hlt, by rw [← ltA_skip S T hv, ← geA_skip hv]; exact HP.out, ht⟩
        rw [hv] at cA
        clear hv
        go_wp2_with fail
        go_roundw
        case rel => (try rw [e5]); first | exact X | ((repeat apply Exists.intro); exact X) | ((repeat apply Exists.intro); refine ⟨X, ?_⟩; rfl)
        case measure => first | exact meas hlt | exact measW hlt e5
    · obtain rfl : k = N := by omega
      have HF := Lib.hid (show RM wr x k S (mixL S T fun k => A.getD k false) (List.replicate k false) by
        have h1 := ltA_end S T (A := A) (by rw [HLT.out, HLA.out])
        have h2 := geA_end A
        rw [HLA.out] at h1 h2
        rw [← h1, ← h2]
        exact hP)
      clear hP HP
      go_wp2_with fail
      go_end0
      exact ⟨rfl, HF.out, ht⟩
end Go.Proofs.Ytnhgfkahmflpgaa
