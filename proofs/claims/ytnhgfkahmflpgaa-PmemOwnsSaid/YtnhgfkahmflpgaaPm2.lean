/- pmem: Store, keep. No statement of the seat is proved here. -/
import Derived.Test.YtnhgfkahmflpgaaPm1
namespace Go.Proofs.Ytnhgfkahmflpgaa
open Go.RowKit
section
variable {w w' : World} {x : MB} {N : Nat} {S T : List UInt8} {A : List Bool}
theorem PM.view (h : PM w x N S T A) : ∃ cs ct, N ≤ cs ∧ N ≤ ct ∧ w.cell? ⟨x.p, 0, none⟩ = some (.slice (some ⟨x.gs, 0, none⟩) N cs) ∧ w.cell? ⟨x.p, 1, none⟩ = some (.slice (some ⟨x.gt, 0, none⟩) N ct) ∧ w.cell? ⟨x.p, 2, none⟩ = some (.map (some x.b)) ∧ x.p < w.heap.size := by
  obtain ⟨cs, ct, h1, h2, h3, h4, h5, h6, h7⟩ := h
  exact ⟨cs, ct, h5.2.1, h6.2.1, h4.cell rfl, h4.cell rfl, h4.cell rfl, h4.lt⟩
theorem PM.isSet (h : PM w x N S T A) : SetIs w x.b A := by obtain ⟨cs, ct, h1, h2, h3, h4, h5, h6, h7⟩ := h; exact h7
theorem PM.apart (h : PM w x N S T A) : x.apart := by obtain ⟨cs, ct, h1, h2, h3, h4, h5, h6, h7⟩ := h; exact h3
theorem PM.seenAt (h : PM w x N S T A) {j : Nat} (hj : j < 8 * N) : w.cell? ⟨x.gs, j, none⟩ = some (.int .u8 ((S.getD j 0).toNat : Int)) ∧ w.frozen? ⟨x.gs, j, none⟩ = false := by
  have hl := h.lenS
  obtain ⟨cs, ct, h1, h2, h3, h4, h5, h6, h7⟩ := h
  exact ⟨h5.cell (bvs_at (by omega)), h5.frozen j⟩
theorem PM.lastAt (h : PM w x N S T A) {j : Nat} (hj : j < 8 * N) : w.cell? ⟨x.gt, j, none⟩ = some (.int .u8 ((T.getD j 0).toNat : Int)) ∧ w.frozen? ⟨x.gt, j, none⟩ = false := by
  have hl := h.lenT
  obtain ⟨cs, ct, h1, h2, h3, h4, h5, h6, h7⟩ := h
  exact ⟨h6.cell (bvs_at (by omega)), h6.frozen j⟩
theorem PM.seenSet (h : PM w x N S T A) (j : Nat) (u : UInt8) : PM (w.setCell ⟨x.gs, j, none⟩ (.int .u8 (u.toNat : Int))) x N (S.set j u) T A ∧ Turn x.F w (w.setCell ⟨x.gs, j, none⟩ (.int .u8 (u.toNat : Int))) := by
  obtain ⟨cs, ct, h1, h2, h3, h4, h5, h6, h7⟩ := h
  have hk : ∀ k, k ≠ x.gs → (w.setCell ⟨x.gs, j, none⟩ (.int .u8 (u.toNat : Int))).heap[k]? = w.heap[k]? := fun k hk => Below.heap_setCell _ _ _ _ hk
  refine ⟨⟨cs, ct, h1, h2, h3, h4.same (hk _ h3.1), ?_, h6.same (hk _ (Ne.symm h3.2.2.2.1)), h7.kept (hk _ (Ne.symm h3.2.2.2.2.1))⟩, Turn.setCell w (.inr (.inl rfl)) _⟩
  have := h5.set j (bv u)
  rwa [bvs_set] at this
theorem PM.lastSet (h : PM w x N S T A) (j : Nat) (u : UInt8) : PM (w.setCell ⟨x.gt, j, none⟩ (.int .u8 (u.toNat : Int))) x N S (T.set j u) A ∧ Turn x.F w (w.setCell ⟨x.gt, j, none⟩ (.int .u8 (u.toNat : Int))) := by
  obtain ⟨cs, ct, h1, h2, h3, h4, h5, h6, h7⟩ := h
  have hk : ∀ k, k ≠ x.gt → (w.setCell ⟨x.gt, j, none⟩ (.int .u8 (u.toNat : Int))).heap[k]? = w.heap[k]? := fun k hk => Below.heap_setCell _ _ _ _ hk
  refine ⟨⟨cs, ct, h1, h2, h3, h4.same (hk _ h3.2.1), h5.same (hk _ h3.2.2.2.1), ?_, h7.kept (hk _ (Ne.symm h3.2.2.2.2.2))⟩, Turn.setCell w (.inr (.inr (.inl rfl))) _⟩
  have := h6.set j (bv u)
  rwa [bvs_set] at this
theorem PM.setTo (h : PM w x N S T A) {A' : List Bool} (hs : SetIs w' x.b A') (hl : A'.length = A.length) (hg : w.grownBy w' (some x.b)) : PM w' x N S T A' ∧ Turn x.F w w' := by
  have ht : Turn x.F w w' := Turn.grown hg (fun j hj => by injection hj with hj; subst hj; exact .inr (.inr (.inr rfl)))
  have ht2 : Turn (fun k => k = x.b) w w' := Turn.grown hg (fun j hj => by injection hj with hj; subst hj; rfl)
  obtain ⟨cs, ct, h1, h2, h3, h4, h5, h6, h7⟩ := h
  exact ⟨⟨cs, ct, h1, by omega, h3, h4.turn ht2 h3.2.2.1, h5.turn ht2 h3.2.2.2.2.1, h6.turn ht2 h3.2.2.2.2.2, hs⟩, ht⟩
end

def StoreInv (w wr : World) (x : MB) (N : Nat) (S T : List UInt8) (A : List Bool) (a m : Nat) (bs : List UInt8) (t : Value) : Prop := ∃ j : Nat, t = .int .i64 (j : Int) ∧ j ≤ m ∧ PM wr x N (putL S a (bs.take j)) T (clrL A a j) ∧ Turn x.F w wr

theorem wrapA {a j M : Nat} (h : a + j < M) (h' : M ≤ 8 * 131072) : wrap64 ((a : Int) + (j : Int)) = ((a + j : Nat) : Int) := by rw [IntWalk.wrap64_in _ (by omega)]; simp

set_option maxHeartbeats 1000000 in
theorem pm_store {w : World} {x : MB} {N : Nat} {S T : List UInt8} {A : List Bool} (h : PM w x N S T A) {B : Option Addr} {m c : Nat} {bs : List UInt8} (hs : Sl w B m bs) (hB : 0 < m → ∀ p, B = some p → ¬ x.F p.block) (a : Nat) (hA : a + m ≤ 8 * N) :
    Calls Try.prog 22 #[.pointer (some ⟨x.p, 0, none⟩), .int .i64 (a : Nat), .slice B m c] w fun e w' => e = .returned (.int .i64 0) ∧ PM w' x N (putL S a bs) T (clrL A a m) ∧ Turn x.F w w' := by
  obtain ⟨hb1, hb2, hb3⟩ := h.bound
  have hw := pm_within h (a : Int) (m : Int) (by omega) (by omega)
  rw [inW_iff.2 ⟨by omega, by omega, by omega⟩] at hw
  have HW := Lib.hid hw
  have HB := Lib.hid hb3
  have HLA := Lib.hid h.lenA
  have hlen := hs.1
  have HLEN := Lib.hid hlen
  clear hw hb1 hb2 hb3 hlen
  go_enter Try.func22, Try.ntmps22
  go_wp2_with fail
  refine HW.out.mono ?_
  rintro e w1 ⟨rfl, rfl⟩
  clear HW
  go_wp2_with fail
  go_loopw [18] (fun t wr => StoreInv w wr x N S T A a m bs t) (fun t _ => m - (intOf t).toNat)
  case atStart => exact ⟨0, rfl, by omega, h, Turn.refl _ _⟩
  case round =>
    obtain ⟨j, rfl, hj, hP, ht⟩ := hrel
    by_cases hlt : j < m
    · obtain ⟨cs, ct, hcs, hct, c0, -, c2, l0⟩ := hP.view
      obtain ⟨b0, o0, rfl, hb0, cb⟩ := hs.cell hlt
      have hnb := hB (Nat.lt_of_le_of_lt (Nat.zero_le j) hlt) _ rfl
      replace cb := (ht.cell (p := ⟨b0, o0 + j, none⟩) hb0 hnb).trans cb
      obtain ⟨u, hu⟩ : ∃ u, u = bs[j]'(by rw [HLEN.out]; exact hlt) := ⟨_, rfl⟩
      rw [← hu] at cb
      obtain ⟨i, hi⟩ : ∃ i, i = a + j := ⟨_, rfl⟩
      obtain ⟨q, hq⟩ : ∃ q, q = i / 8 := ⟨_, rfl⟩
      obtain ⟨r, hr8⟩ : ∃ r, r = i % 8 := ⟨_, rfl⟩
      have haj : i < 8 * N := by omega
      have hqN : q < N := by omega
      have hr8' : r < 8 := by omega
      have hqr : i = q * 8 + r := by omega
      obtain ⟨cS, fS⟩ := hP.seenAt haj
      obtain ⟨hP1, ht1⟩ := hP.seenSet i u
      have HP := Lib.hid hP1
      have HT := Lib.hid (ht.and ht1)
      rw [hqr] at hP1
      obtain ⟨cs1, ct1, -, -, -, -, d2, -⟩ := hP1.view
      have hSet := hP1.isSet
      have HPUT := Lib.hid (putL_take (S := S) (i := a) (bs := bs) (k := j) (by rw [HLEN.out]; exact hlt))
      have HU := Lib.hid hu
      have hlc : (clrL A a j).length = N := by rw [clrL_length, HLA.out]
      have HCL := Lib.hid (show clrL A a (j + 1) = (clrL A a j).set q false by rw [clrL, hq, hi])
      have HQA := Lib.hid (show q < (clrL A a j).length by rw [hlc]; exact hqN)
      have HQM := Lib.hid (show q ≤ 1000000 by have := HB.out; omega)
      rw [hqr] at cS fS
      have HQR := Lib.hid hqr
      have HI := Lib.hid hi
      have e5 := wrapS (M := 8 * N) (show j < 8 * N by omega) (Nat.mul_le_mul_left 8 HB.out)
      have e1 := wrapA (hi ▸ haj) (Nat.mul_le_mul_left 8 HB.out)
      rw [← hi] at e1
      have e2 := tdiv8 hq
      have e3 := tmod8 hr8
      have e4 := wrapN hqN HB.out
      clear hP hP1 ht ht1 hu hq hr8 hqr hlc haj hi
      go_wp2_with (at_delete; refine wpList_setDel rfl (.tmp 42) (.tmp 43) rfl rfl hSet q HQA.out HQM.out (congrArg (Value.int .i64) e4) ?_; intro w2 hS2 hg2 hz2)
      have X : StoreInv w w2 x N S T A a m bs (.int .i64 ((j : Int) + 1)) := by
        have hP1 := HP.out
        rw [HI.out] at hP1
        have hh := hP1.setTo (w' := w2) (A' := clrL A a (j + 1)) (by rw [HCL.out]; exact hS2) (by rw [clrL_length, clrL_length]) (by rw [← HI.out, HQR.out]; exact hg2)
        refine ⟨j + 1, by simp, hlt, ?_, ?_⟩
        · rw [HPUT.out, ← HU.out]; exact hh.1
        · have := HT.out; rw [HI.out] at this; exact this.and hh.2
      go_roundw
      case rel => (try rw [e5]); first | exact X | ((repeat apply Exists.intro); exact X) | ((repeat apply Exists.intro); refine ⟨X, ?_⟩; rfl)
      case measure => first | exact meas hlt | exact measW hlt e5
    · obtain rfl : j = m := by omega
      have hbs : bs.take j = bs := List.take_of_length_le (by rw [HLEN.out]; omega)
      rw [hbs] at hP
      clear hs hB
      go_wp2_with fail
      go_ret
      exact ⟨rfl, hP, ht⟩
end Go.Proofs.Ytnhgfkahmflpgaa
