/- pmem: keep. No statement of the seat is proved here. -/
import Derived.Test.YtnhgfkahmflpgaaPm2
import Derived.RegionTactic
import Derived.Deep.RegionWith
import Derived.Deep.DeepCutAuto
namespace Go.Proofs.Ytnhgfkahmflpgaa
open Go.RowKit

theorem pm_store_no {w : World} {x : MB} {N : Nat} {S T : List UInt8} {A : List Bool} (h : PM w x N S T A) (B : Option Addr) (m c : Nat) (hm : m ≤ 1073741824) (at_ : Int) (hin : inW (8 * N) at_ m = false) :
    Calls Try.prog 22 #[.pointer (some ⟨x.p, 0, none⟩), .int .i64 at_, .slice B m c] w fun e w' => e = .returned (.int .i64 1) ∧ w = w' := by
  have hw := pm_within h at_ (m : Int) (by omega) (by omega)
  rw [hin] at hw
  have HW := Lib.hid hw
  clear hw hin h hm
  go_enter Try.func22, Try.ntmps22
  go_wp2_with fail
  refine HW.out.mono ?_
  rintro e w1 ⟨rfl, rfl⟩
  go_wp2_with fail
  go_ret
  exact ⟨rfl, rfl⟩

set_option maxHeartbeats 2000000 in
theorem pm_keep {w : World} {x : MB} {N : Nat} {S T : List UInt8} {A : List Bool} (h : PM w x N S T A) (k : Nat) (hk : k < N) :
    Calls Try.prog 34 #[.pointer (some ⟨x.p, 0, none⟩), .int .i64 (k : Nat)] w fun e w' => e = .returned (.tuple #[]) ∧ PM w' x N S (keepN S T (8 * k) 8) (A.set k false) ∧ Turn x.F w w' := by
  obtain ⟨cs, ct, hcs, hct, c0, c1, c2, l0⟩ := h.view
  have H := Lib.hid h
  have hb := h.bound
  have HB := Lib.hid hb.2.2
  obtain ⟨s0, -⟩ := h.seenAt (j := k * 8) (by omega)
  obtain ⟨s1, -⟩ := h.seenAt (j := k * 8 + 1) (by omega)
  obtain ⟨s2, -⟩ := h.seenAt (j := k * 8 + 2) (by omega)
  obtain ⟨s3, -⟩ := h.seenAt (j := k * 8 + 3) (by omega)
  obtain ⟨s4, -⟩ := h.seenAt (j := k * 8 + 4) (by omega)
  obtain ⟨s5, -⟩ := h.seenAt (j := k * 8 + 5) (by omega)
  obtain ⟨s6, -⟩ := h.seenAt (j := k * 8 + 6) (by omega)
  obtain ⟨s7, -⟩ := h.seenAt (j := k * 8 + 7) (by omega)
  obtain ⟨t0, f0⟩ := h.lastAt (j := k * 8) (by omega)
  obtain ⟨t1, f1⟩ := h.lastAt (j := k * 8 + 1) (by omega)
  obtain ⟨t2, f2⟩ := h.lastAt (j := k * 8 + 2) (by omega)
  obtain ⟨t3, f3⟩ := h.lastAt (j := k * 8 + 3) (by omega)
  obtain ⟨t4, f4⟩ := h.lastAt (j := k * 8 + 4) (by omega)
  obtain ⟨t5, f5⟩ := h.lastAt (j := k * 8 + 5) (by omega)
  obtain ⟨t6, f6⟩ := h.lastAt (j := k * 8 + 6) (by omega)
  obtain ⟨t7, f7⟩ := h.lastAt (j := k * 8 + 7) (by omega)
  clear h hb
  go_enter Try.func34, Try.ntmps34
  go_upto_region 0 with (fail)
  go_cut [] (fun wx => PM wx x N S (keepN S T (8 * k) 8) A ∧ Turn x.F w wx)
  case first =>
    go_region
    go_wp2_with fail
    go_meet
    have e : keepN S T (8 * k) 8 = (((((((T.set (k * 8) (S.getD (k * 8) 0)).set (k * 8 + 1) (S.getD (k * 8 + 1) 0)).set (k * 8 + 2) (S.getD (k * 8 + 2) 0)).set (k * 8 + 3) (S.getD (k * 8 + 3) 0)).set (k * 8 + 4) (S.getD (k * 8 + 4) 0)).set (k * 8 + 5) (S.getD (k * 8 + 5) 0)).set (k * 8 + 6) (S.getD (k * 8 + 6) 0)).set (k * 8 + 7) (S.getD (k * 8 + 7) 0) := by
      rw [Nat.mul_comm 8 k]; rfl
    rw [e]
    have h0 := H.out.lastSet (k * 8) (S.getD (k * 8) 0)
    have h1 := h0.1.lastSet (k * 8 + 1) (S.getD (k * 8 + 1) 0)
    have h2 := h1.1.lastSet (k * 8 + 2) (S.getD (k * 8 + 2) 0)
    have h3 := h2.1.lastSet (k * 8 + 3) (S.getD (k * 8 + 3) 0)
    have h4 := h3.1.lastSet (k * 8 + 4) (S.getD (k * 8 + 4) 0)
    have h5 := h4.1.lastSet (k * 8 + 5) (S.getD (k * 8 + 5) 0)
    have h6 := h5.1.lastSet (k * 8 + 6) (S.getD (k * 8 + 6) 0)
    have h7 := h6.1.lastSet (k * 8 + 7) (S.getD (k * 8 + 7) 0)
    exact ⟨h7.1.keep ((Grow.refl _).drew), (((((((h0.2.and h1.2).and h2.2).and h3.2).and h4.2).and h5.2).and h6.2).and h7.2).andGrow ((Grow.refl _).drew)⟩
  case rest =>
    obtain ⟨h1, r1⟩ := hcut
    clear c0 c1 c2 l0 s0 s1 s2 s3 s4 s5 s6 s7 t0 t1 t2 t3 t4 t5 t6 t7 f0 f1 f2 f3 f4 f5 f6 f7
    obtain ⟨cs', ct', -, -, -, -, d2, l1⟩ := h1.view
    have hSet := h1.isSet
    have H1 := Lib.hid h1
    have HL := Lib.hid h1.lenA
    have HK := Lib.hid (show k < A.length by rw [h1.lenA]; exact hk)
    have HM := Lib.hid (show k ≤ 1000000 by have := HB.out; omega)
    clear h1
    go_wp2_with (at_delete; refine wpList_setDel rfl (.tmp 20) (.tmp 21) rfl rfl hSet k HK.out HM.out rfl ?_; intro w2 hS2 hg2 hz2)
    have h2 := H1.out.setTo hS2 (by rw [List.length_set]) hg2
    go_end0
    exact ⟨rfl, h2.1, r1.and h2.2⟩
end Go.Proofs.Ytnhgfkahmflpgaa
