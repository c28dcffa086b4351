/- commonsref03: Dirty, Fence, Evict. commonsref03: Load, Store. commonslaw03.like. The verbs of both memories, allowed or not, in one word each. No statement of the seat is proved here. -/
import Derived.Test.YtncjfljmnkfghaaZ06
import Derived.Test.YtncjfljmnkfghaaZ05
namespace Go.Proofs.Ytncjfljmnkfghaa
open Go.RowKit

theorem rm_dirty {w : World} {x : MB} {N : Nat} {S T : List UInt8} {A : List Bool} (h : RM w x N S T A) :
    Calls Try.prog 82 #[.pointer (some ⟨x.p, 0, none⟩)] w fun e w' => ∃ v, e = .returned v ∧ OI w' w.heap.size v (dirtyL S T N) ∧ Grow w w' := by
  have HB := Lib.hid h.bound.2.2
  have H := Lib.hid h
  clear h
  go_enter Try.func82, Try.ntmps82
  go_wp2_with fail
  go_loopw [3, 4] (fun out t wr => DirtyInv w wr S T N out t) (fun _ t _ => N - (intOf t).toNat)
  case atStart => exact ⟨0, rfl, Nat.zero_le _, OI.nil _ _, Grow.refl _⟩
  case round =>
    obtain ⟨k, rfl, hk, ho, G⟩ := hrel
    obtain ⟨L, cs, ct, ca, HLL, -, -, hca, -, -, c2, l0⟩ := (H.out.keep G).look
    have HO := Lib.hid ho
    clear ho
    by_cases hlt : k < N
    · have HLEN := Lib.hid (show (dirtyL S T k).length + 1 ≤ 1000000 by have := dirtyL_length S T k; have := HB.out; omega)
      have e5 := wrapS hlt (Nat.le_trans HB.out (by decide))
      go_wp2_with fail
      refine (rm_dirty1 (H.out.keep G) k hlt).mono ?_
      rintro e w1 ⟨rfl, g1⟩
      have G1 := G.trans g1
      have hz1 := Below.size G1
      have HO1 := Lib.hid (show OI w1 w.heap.size u3 (dirtyL S T k) from World.ownsRow.kept HO.out g1.grown (own_none _))
      have HSUC := Lib.hid (dirtyL_succ S T k)
      clear HO g1 G c2 l0
      cases hD : dirtyB S T k with
      | true =>
        have HSU := Lib.hid (show dirtyL S T (k + 1) = dirtyL S T k ++ [(k : Int)] by rw [HSUC.out, if_pos hD])
        clear hD
        go_wp2_with (at_builtin; refine wpList_appIone rfl (.tmp 19) (.tmp 21) rfl w.heap.size _ (dirtyL S T k) rfl _ (by rfl) HO1.out HLEN.out hz1 ?_; intro v2 w2 o2 g2)
        have X : DirtyInv w w2 S T N v2 (.int .i64 ((k : Int) + 1)) := ⟨k + 1, by simp, hlt, by rw [HSU.out]; exact o2, G1.low g2⟩
        go_roundw
        case rel => (try rw [e5]); first | exact X | ((repeat apply Exists.intro); exact X) | ((repeat apply Exists.intro); refine ⟨X, ?_⟩; rfl)
        case measure => first | exact meas hlt | exact measW hlt e5
      | false =>
        have X : DirtyInv w w1 S T N u3 (.int .i64 ((k : Int) + 1)) := ⟨k + 1, by simp, hlt, by rw [HSUC.out, if_neg (by rw [hD]; decide)]; exact HO1.out, G1⟩
        clear hD
        go_wp2_with fail
        go_roundw
        case rel => (try rw [e5]); first | exact X | ((repeat apply Exists.intro); exact X) | ((repeat apply Exists.intro); refine ⟨X, ?_⟩; rfl)
        case measure => first | exact meas hlt | exact measW hlt e5
    · obtain rfl : k = N := by omega
      go_wp2_with fail
      go_ret
      exact ⟨_, rfl, HO.out, G⟩

/-! ### Fence -/
def ltA (A : List Bool) (k : Nat) : Nat → Bool := fun j => A.getD j false && decide (j < k)
def geA (A : List Bool) (k : Nat) : List Bool := (List.range A.length).map fun j => A.getD j false && decide (k ≤ j)
theorem geA_length (A : List Bool) (k : Nat) : (geA A k).length = A.length := by simp [geA]
theorem geA_get (A : List Bool) (k j : Nat) (hj : j < A.length) : (geA A k).getD j false = (A.getD j false && decide (k ≤ j)) := by
  simp [geA, List.getD_eq_getElem?_getD, hj]
theorem geA_zero (A : List Bool) : geA A 0 = A := getD_ext (geA_length ..) fun j hj => by rw [geA_length] at hj; rw [geA_get _ _ _ hj]; simp
theorem geA_end (A : List Bool) : geA A A.length = List.replicate A.length false := getD_ext (by simp [geA_length]) fun j hj => by
  rw [geA_length] at hj
  rw [geA_get _ _ _ hj, decide_eq_false (by omega)]
  simp [List.getD_eq_getElem?_getD, hj]
theorem geA_step {A : List Bool} {k : Nat} (hk : k < A.length) (h : A.getD k false = true) : (geA A k).set k false = geA A (k + 1) := getD_ext (by simp [geA_length]) fun j hj => by
  rw [List.length_set, geA_length] at hj
  rw [getD_set _ _ _ _ (by rw [geA_length]; exact hk), geA_get _ _ _ hj, geA_get _ _ _ hj]
  by_cases e : j = k
  · subst e; rw [if_pos rfl, decide_eq_false (by omega)]; simp
  · rw [if_neg e]; congr 1; simp; omega
theorem geA_skip {A : List Bool} {k : Nat} (h : A.getD k false = false) : geA A k = geA A (k + 1) := getD_ext (by simp [geA_length]) fun j hj => by
  rw [geA_length] at hj
  rw [geA_get _ _ _ hj, geA_get _ _ _ hj]
  by_cases e : j = k
  · subst e; rw [h]; rfl
  · congr 1; simp; omega
theorem ltA_step (S T : List UInt8) {A : List Bool} {k : Nat} (h : A.getD k false = true) : keepN S (mixL S T (ltA A k)) (8 * k) 8 = mixL S T (ltA A (k + 1)) := by
  rw [mixL_keep]
  refine mixL_congr S T fun j _ => ?_
  simp only [ltA]
  by_cases e : j = k
  · subst e; rw [h]; simp
  · rw [beq_false_of_ne e, Bool.or_false]; congr 1; simp; omega
theorem ltA_skip (S T : List UInt8) {A : List Bool} {k : Nat} (h : A.getD k false = false) : mixL S T (ltA A k) = mixL S T (ltA A (k + 1)) := by
  refine mixL_congr S T fun j _ => ?_
  simp only [ltA]
  by_cases e : j = k
  · subst e; rw [h]; rfl
  · congr 1; simp; omega
theorem ltA_end (S T : List UInt8) {A : List Bool} (hT : T.length = 8 * A.length) : mixL S T (ltA A A.length) = mixL S T fun k => A.getD k false := by
  refine mixL_congr S T fun j hj => ?_
  simp only [ltA]
  rw [decide_eq_true (by omega), Bool.and_true]

def RFenceInv (w wr : World) (x : MB) (N : Nat) (S T : List UInt8) (A : List Bool) (t : Value) : Prop := ∃ k : Nat, t = .int .i64 (k : Int) ∧ k ≤ N ∧ RM wr x N S (mixL S T (ltA A k)) (geA A k) ∧ Turn x.F w wr

theorem rm_fence {w : World} {x : MB} {N : Nat} {S T : List UInt8} {A : List Bool} (h : RM w x N S T A) :
    Calls Try.prog 70 #[.pointer (some ⟨x.p, 0, none⟩)] w fun e w' => e = .returned (.tuple #[]) ∧ RM w' x N S (mixL S T fun k => A.getD k false) (List.replicate N false) ∧ Turn x.F w w' := by
  have HB := Lib.hid h.bound.2.2
  have HLA := Lib.hid h.lenA
  have HLT := Lib.hid h.lenT
  have H0 := Lib.hid (show RM w x N S (mixL S T (ltA A 0)) (geA A 0) by rw [geA_zero, mixL_none S T (B := ltA A 0) (fun k => by simp [ltA])]; exact h)
  clear h
  go_enter Try.func70, Try.ntmps70
  go_wp2_with fail
  go_loopw [2] (fun t wr => RFenceInv w wr x N S T A t) (fun t _ => N - (intOf t).toNat)
  case atStart => exact ⟨0, rfl, Nat.zero_le _, H0.out, Turn.refl _ _⟩
  case round =>
    obtain ⟨k, rfl, hk, hP, ht⟩ := hrel
    obtain ⟨L, cs, ct, ca, HLL, -, -, hca, -, -, c2, l0⟩ := hP.look
    have HP := Lib.hid hP
    by_cases hlt : k < N
    · have hkA : k < A.length := by rw [HLA.out]; exact hlt
      obtain ⟨cA, -⟩ := hP.awayAt hlt
      rw [geA_get _ _ _ hkA, decide_eq_true (Nat.le_refl k), Bool.and_true] at cA
      have e5 := wrapS hlt (Nat.le_trans HB.out (by decide))
      have HKA := Lib.hid hkA
      clear hP hkA
      cases hv : A.getD k false with
      | true =>
        have HS := Lib.hid (ltA_step S T hv)
        have HG := Lib.hid (geA_step HKA.out hv)
        rw [hv] at cA
        clear hv
        go_wp2_with fail
        refine (rm_keep HP.out k hlt).mono ?_
        rintro e w2 ⟨rfl, hP2, t2⟩
        rw [HS.out, HG.out] at hP2
        have X : RFenceInv w w2 x N S T A (.int .i64 ((k : Int) + 1)) := ⟨k + 1, by simp, hlt, hP2, ht.and t2⟩
        clear hP2 t2
        go_wp2_with fail
        go_roundw
        case rel => (try rw [e5]); first | exact X | ((repeat apply Exists.intro); exact X) | ((repeat apply Exists.intro); refine ⟨X, ?_⟩; rfl)
        case measure => first | exact meas hlt | exact measW hlt e5
      | false =>
        have X : RFenceInv w wr x N S T A (.int .i64 ((k : Int) + 1)) := ⟨k + 1, by simp, hlt, by rw [← ltA_skip S T hv, ← geA_skip hv]; exact HP.out, ht⟩
        rw [hv] at cA
        clear hv
        go_wp2_with fail
        go_roundw
        case rel => (try rw [e5]); first | exact X | ((repeat apply Exists.intro); exact X) | ((repeat apply Exists.intro); refine ⟨X, ?_⟩; rfl)
        case measure => first | exact meas hlt | exact measW hlt e5
    · obtain rfl : k = N := by omega
      have HF := Lib.hid (show RM wr x k S (mixL S T fun k => A.getD k false) (List.replicate k false) by
        have h1 := ltA_end S T (A := A) (by rw [HLT.out, HLA.out])
        have h2 := geA_end A
        rw [HLA.out] at h1 h2
        rw [← h1, ← h2]
        exact hP)
      clear hP HP
      go_wp2_with fail
      go_end0
      exact ⟨rfl, HF.out, ht⟩
end Go.Proofs.Ytncjfljmnkfghaa

namespace Go.Proofs.Ytncjfljmnkfghaa
open Go.RowKit

theorem RM.seenRB {w : World} {x : MB} {N : Nat} {S T : List UInt8} {A : List Bool} (h : RM w x N S T A) : RB w w.heap.size (some ⟨x.gs, 0, none⟩) S := by
  have hl := h.lenS
  obtain ⟨cs, ct, ca, h1, h3, h4, h5, h6, h7⟩ := h
  refine ⟨by rw [bvs_length]; omega, fun _ => ⟨x.gs, 0, rfl, h5.lt, fun j u hu => ?_⟩⟩
  rw [Nat.zero_add]
  exact h5.cell hu
theorem rm_store_no {w : World} {x : MB} {N : Nat} {S T : List UInt8} {A : List Bool} (h : RM w x N S T A) (B : Option Addr) (m c : Nat) (at_ : Int) (hin : inW (8 * N) at_ m = false) :
    Calls Try.prog 68 #[.pointer (some ⟨x.p, 0, none⟩), .int .i64 at_, .slice B m c] w fun e w' => e = .returned (.int .i64 1) ∧ w = w' := by
  have hw := rm_within h at_ (m : Int)
  rw [hin] at hw
  have HW := Lib.hid hw
  clear hw hin h
  go_enter Try.func68, Try.ntmps68
  go_wp2_with fail
  refine HW.out.mono ?_
  rintro e w1 ⟨rfl, rfl⟩
  go_wp2_with fail
  go_ret
  exact ⟨rfl, rfl⟩

def RStoreInv (w wr : World) (x : MB) (N : Nat) (S T : List UInt8) (A : List Bool) (a m : Nat) (bs : List UInt8) (t : Value) : Prop := ∃ j : Nat, t = .int .i64 (j : Int) ∧ j ≤ m ∧ RM wr x N (putL S a (bs.take j)) T (clrL A a j) ∧ Turn x.F w wr

set_option maxHeartbeats 2000000 in
set_option maxRecDepth 8000 in
theorem rm_store {w : World} {x : MB} {N : Nat} {S T : List UInt8} {A : List Bool} (h : RM w x N S T A) {B : Option Addr} {m c : Nat} {bs : List UInt8} (hs : Sl w B m bs) (hB : 0 < m → ∀ p, B = some p → ¬ x.F p.block) (a : Nat) (hA : a + m ≤ 8 * N) :
    Calls Try.prog 68 #[.pointer (some ⟨x.p, 0, none⟩), .int .i64 (a : Nat), .slice B m c] w fun e w' => e = .returned (.int .i64 0) ∧ RM w' x N (putL S a bs) T (clrL A a m) ∧ Turn x.F w w' := by
  have hw := rm_within h (a : Int) (m : Int)
  rw [inW_iff.2 ⟨by omega, by omega, by omega⟩] at hw
  have HW := Lib.hid hw
  have HB := Lib.hid h.bound.2.2
  have HAM := Lib.hid hA
  have HLEN := Lib.hid hs.1
  have H := Lib.hid h
  have HS := Lib.hid hs
  have HBF := Lib.hid hB
  clear hw hA h hs hB
  go_enter Try.func68, Try.ntmps68
  go_wp2_with fail
  refine HW.out.mono ?_
  rintro e w1 ⟨rfl, rfl⟩
  clear HW
  go_wp2_with fail
  go_loopw [8] (fun t wr => RStoreInv w wr x N S T A a m bs t) (fun t _ => m - (intOf t).toNat)
  case atStart => exact ⟨0, rfl, Nat.zero_le _, H.out, Turn.refl _ _⟩
  case round =>
    obtain ⟨j, rfl, hj, hP, ht⟩ := hrel
    by_cases hlt : j < m
    · obtain ⟨L, cs, ct, ca, HLL, hcs, hct, hca, c0, -, -, l0⟩ := hP.look
      obtain ⟨b0, o0, rfl, hb0, cb⟩ := HS.out.cell hlt
      have hnb := HBF.out (Nat.lt_of_le_of_lt (Nat.zero_le j) hlt) _ rfl
      replace cb := (ht.cell (p := ⟨b0, o0 + j, none⟩) hb0 hnb).trans cb
      obtain ⟨u, hu⟩ : ∃ u, u = bs[j]'(by rw [HLEN.out]; exact hlt) := ⟨_, rfl⟩
      rw [← hu] at cb
      obtain ⟨i, hi⟩ : ∃ i, i = a + j := ⟨_, rfl⟩
      obtain ⟨q, hq⟩ : ∃ q, q = i / 8 := ⟨_, rfl⟩
      have haj : i < 8 * N := by have := HAM.out; omega
      have hqN : q < N := by omega
      have hiL : i < L := by rw [HLL.out]; exact haj
      obtain ⟨cS, fS⟩ := hP.seenAt haj
      obtain ⟨hP1, ht1⟩ := hP.seenSet i u
      have hP1' := hP1.keep ((Grow.refl _).drew)
      obtain ⟨L1, cs1, ct1, ca1, HLL1, -, -, hca1, -, -, d2, -⟩ := hP1'.look
      obtain ⟨cA, fA⟩ := hP1'.awayAt hqN
      obtain ⟨hP2, ht2⟩ := hP1'.awaySet q false
      have X : RStoreInv w ((wr.setCell ⟨x.gs, i, none⟩ (.int .u8 (u.toNat : Int))).drew.setCell ⟨x.b, q, none⟩ (.bool false)) x N S T A a m bs (.int .i64 ((j : Int) + 1)) := by
        refine ⟨j + 1, by simp, hlt, ?_, ((ht.and ht1).andGrow ((Grow.refl _).drew)).and ht2⟩
        rw [putL_take (by rw [HLEN.out]; exact hlt), clrL, ← hu, ← hi, ← hq]
        exact hP2
      have e5 := wrapS (M := 8 * N) (show j < 8 * N by have := HAM.out; omega) (Nat.mul_le_mul_left 8 HB.out)
      have e1 := wrapA (hi ▸ haj) (Nat.mul_le_mul_left 8 HB.out)
      rw [← hi] at e1
      have e2 := tdiv8 hq
      have e4 := wrapN hqN HB.out
      clear hP hP1 hP1' ht ht1 ht2 hu hq haj hi hP2 hb0 hnb
      go_wp2_with fail
      go_region
      go_wp2_with fail
      go_roundw
      case rel => (try rw [e5]); first | exact X | ((repeat apply Exists.intro); exact X) | ((repeat apply Exists.intro); refine ⟨X, ?_⟩; rfl)
      case measure => first | exact meas hlt | exact measW hlt e5
    · obtain rfl : j = m := by omega
      have hbs : bs.take j = bs := List.take_of_length_le (by rw [HLEN.out]; exact Nat.le_refl _)
      rw [hbs] at hP
      have HP := Lib.hid hP
      clear hP
      go_wp2_with fail
      go_ret
      exact ⟨rfl, HP.out, ht⟩
end Go.Proofs.Ytncjfljmnkfghaa

namespace Go.Proofs.Ytncjfljmnkfghaa
open Go.RowKit

/-- Both memories, alike. -/
def Pair (w : World) (base : Nat) (x y : MB) (N : Nat) (S T : List UInt8) (A : List Bool) : Prop :=
  PM w x N S T A ∧ RM w y N S T A ∧ (∀ k, x.F k → ¬ y.F k) ∧ (∀ k, x.F k → base ≤ k) ∧ (∀ k, y.F k → base ≤ k)
theorem Pair.keep {w w' : World} {base : Nat} {x y : MB} {N : Nat} {S T : List UInt8} {A : List Bool} (h : Pair w base x y N S T A) (g : Grow w w') : Pair w' base x y N S T A := ⟨h.1.keep g, h.2.1.keep g, h.2.2⟩
theorem RM.lastRB {w : World} {x : MB} {N : Nat} {S T : List UInt8} {A : List Bool} (h : RM w x N S T A) : RB w w.heap.size (some ⟨x.gt, 0, none⟩) T := by
  have hl := h.lenT
  obtain ⟨cs, ct, ca, h1, h3, h4, h5, h6, h7⟩ := h
  refine ⟨by rw [bvs_length]; omega, fun _ => ⟨x.gt, 0, rfl, h6.lt, fun j u hu => ?_⟩⟩
  rw [Nat.zero_add]
  exact h6.cell hu

end Go.Proofs.Ytncjfljmnkfghaa

namespace Go.Proofs.Ytncjfljmnkfghaa
open Go.RowKit

def errV (b : Bool) : Int := if b then 0 else 1
def storeS (N : Nat) (S : List UInt8) (a : Int) (bs : List UInt8) : List UInt8 := if inW (8 * N) a bs.length then putL S a.toNat bs else S
def storeA (N : Nat) (A : List Bool) (a : Int) (m : Nat) : List Bool := if inW (8 * N) a m then clrL A a.toNat m else A
def flushU (N : Nat) (S T : List UInt8) (A : List Bool) (a n : Int) : List Bool := if inW (8 * N) a n then flushA S T A (lineB a.toNat n.toNat) else A
def evB (N : Nat) (l : Int) : Bool := decide (0 ≤ l ∧ l < ((N / 8 : Nat) : Int))
def evT (N : Nat) (S T : List UInt8) (l : Int) : List UInt8 := if evB N l then mixL S T (inC (8 * l.toNat) 8) else T
def evA (N : Nat) (A : List Bool) (l : Int) : List Bool := if evB N l then clrC A (8 * l.toNat) 8 else A
def loadM (N : Nat) (a n : Int) : Nat := if inW (8 * N) a n then n.toNat else 0
def loadL (N : Nat) (S : List UInt8) (a n : Int) : List UInt8 := if inW (8 * N) a n then (S.drop a.toNat).take n.toNat else []
section
variable {w : World} {x : MB} {N : Nat} {S T : List UInt8} {A : List Bool}
theorem pm_storeU (h : PM w x N S T A) {B : Option Addr} {m c : Nat} {bs : List UInt8} (hs : Sl w B m bs) (hB : 0 < m → ∀ p, B = some p → ¬ x.F p.block) (a : Int) :
    Calls Try.prog 29 #[.pointer (some ⟨x.p, 0, none⟩), .int .i64 a, .slice B m c] w fun e w' => e = .returned (.int .i64 (errV (inW (8 * N) a m))) ∧ PM w' x N (storeS N S a bs) T (storeA N A a m) ∧ Turn x.F w w' := by
  have hl := hs.1
  cases hin : inW (8 * N) a m with
  | true =>
    obtain ⟨h1, h2, h3⟩ := inW_iff.1 hin
    obtain ⟨b, rfl⟩ : ∃ b : Nat, a = (b : Int) := ⟨a.toNat, by omega⟩
    rw [storeS, hl, hin, storeA, hin]
    exact pm_store h hs hB b (by omega)
  | false =>
    rw [storeS, hl, hin, storeA, hin]
    refine (pm_store_no h B m c (by have := hs.2.1; omega) a hin).mono ?_
    rintro e w' ⟨rfl, rfl⟩
    exact ⟨rfl, h, Turn.refl _ _⟩
theorem rm_storeU (h : RM w x N S T A) {B : Option Addr} {m c : Nat} {bs : List UInt8} (hs : Sl w B m bs) (hB : 0 < m → ∀ p, B = some p → ¬ x.F p.block) (a : Int) :
    Calls Try.prog 68 #[.pointer (some ⟨x.p, 0, none⟩), .int .i64 a, .slice B m c] w fun e w' => e = .returned (.int .i64 (errV (inW (8 * N) a m))) ∧ RM w' x N (storeS N S a bs) T (storeA N A a m) ∧ Turn x.F w w' := by
  have hl := hs.1
  cases hin : inW (8 * N) a m with
  | true =>
    obtain ⟨h1, h2, h3⟩ := inW_iff.1 hin
    obtain ⟨b, rfl⟩ : ∃ b : Nat, a = (b : Int) := ⟨a.toNat, by omega⟩
    rw [storeS, hl, hin, storeA, hin]
    exact rm_store h hs hB b (by omega)
  | false =>
    rw [storeS, hl, hin, storeA, hin]
    refine (rm_store_no h B m c a hin).mono ?_
    rintro e w' ⟨rfl, rfl⟩
    exact ⟨rfl, h, Turn.refl _ _⟩
theorem pm_flushU (h : PM w x N S T A) (a n : Int) (hn : -9223372036854775808 ≤ n) (hn' : n ≤ 9223372036854775807) :
    Calls Try.prog 35 #[.pointer (some ⟨x.p, 0, none⟩), .int .i64 a, .int .i64 n] w fun e w' => e = .returned (.int .i64 (errV (inW (8 * N) a n))) ∧ PM w' x N S T (flushU N S T A a n) ∧ Turn x.F w w' := by
  cases hin : inW (8 * N) a n with
  | true =>
    obtain ⟨h1, h2, h3⟩ := inW_iff.1 hin
    obtain ⟨b, rfl⟩ : ∃ b : Nat, a = (b : Int) := ⟨a.toNat, by omega⟩
    obtain ⟨m, rfl⟩ : ∃ m : Nat, n = (m : Int) := ⟨n.toNat, by omega⟩
    rw [flushU, hin]
    exact pm_flush h b m (by omega)
  | false =>
    rw [flushU, hin]
    refine (pm_flush_no h a n hn hn' hin).mono ?_
    rintro e w' ⟨rfl, g⟩
    exact ⟨rfl, h.keep g, Turn.grow g _⟩
theorem rm_flushU (h : RM w x N S T A) (a n : Int) :
    Calls Try.prog 69 #[.pointer (some ⟨x.p, 0, none⟩), .int .i64 a, .int .i64 n] w fun e w' => e = .returned (.int .i64 (errV (inW (8 * N) a n))) ∧ RM w' x N S T (flushU N S T A a n) ∧ Turn x.F w w' := by
  cases hin : inW (8 * N) a n with
  | true =>
    obtain ⟨h1, h2, h3⟩ := inW_iff.1 hin
    obtain ⟨b, rfl⟩ : ∃ b : Nat, a = (b : Int) := ⟨a.toNat, by omega⟩
    obtain ⟨m, rfl⟩ : ∃ m : Nat, n = (m : Int) := ⟨n.toNat, by omega⟩
    rw [flushU, hin]
    exact rm_flush h b m (by omega)
  | false =>
    rw [flushU, hin]
    refine (rm_flush_no h a n hin).mono ?_
    rintro e w' ⟨rfl, rfl⟩
    exact ⟨rfl, h, Turn.refl _ _⟩
theorem pm_loadU (h : PM w x N S T A) (a n : Int) (hn : -9223372036854775808 ≤ n) (hn' : n ≤ 9223372036854775807) :
    Calls Try.prog 56 #[.pointer (some ⟨x.p, 0, none⟩), .int .i64 a, .int .i64 n] w fun e w' => ∃ A' c', e = .returned (.tuple #[.slice A' (loadM N a n) c', .int .i64 (errV (inW (8 * N) a n))]) ∧ Own w' w.heap.size A' (loadM N a n) c' (loadL N S a n) ∧ Grow w w' := by
  cases hin : inW (8 * N) a n with
  | true =>
    obtain ⟨h1, h2, h3⟩ := inW_iff.1 hin
    obtain ⟨b, rfl⟩ : ∃ b : Nat, a = (b : Int) := ⟨a.toNat, by omega⟩
    obtain ⟨m, rfl⟩ : ∃ m : Nat, n = (m : Int) := ⟨n.toNat, by omega⟩
    rw [loadM, loadL, hin]
    exact pm_load h b m (by omega)
  | false =>
    rw [loadM, loadL, hin]
    refine (pm_load_no h a n hn hn' hin).mono ?_
    rintro e w' ⟨rfl, rfl⟩
    exact ⟨none, 0, rfl, Own.nil _ _, Grow.refl _⟩
end
end Go.Proofs.Ytncjfljmnkfghaa
