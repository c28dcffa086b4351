/- commonsref03: Load, Store. No statement of the seat is proved here. -/
import Derived.Test.YtnhgfkahmflpgaaRm1
namespace Go.Proofs.Ytnhgfkahmflpgaa
open Go.RowKit

theorem RM.seenRB {w : World} {x : MB} {N : Nat} {S T : List UInt8} {A : List Bool} (h : RM w x N S T A) : RB w w.heap.size (some ⟨x.gs, 0, none⟩) S := by
  have hl := h.lenS
  obtain ⟨cs, ct, ca, h1, h3, h4, h5, h6, h7⟩ := h
  refine ⟨by rw [bvs_length]; omega, fun _ => ⟨x.gs, 0, rfl, h5.lt, fun j u hu => ?_⟩⟩
  rw [Nat.zero_add]
  exact h5.cell hu
theorem rm_load_no {w : World} {x : MB} {N : Nat} {S T : List UInt8} {A : List Bool} (h : RM w x N S T A) (at_ n : Int) (hin : inW (8 * N) at_ n = false) :
    Calls Try.prog 30 #[.pointer (some ⟨x.p, 0, none⟩), .int .i64 at_, .int .i64 n, .bool false] w fun e w' => e = .returned (.tuple #[.slice none 0 0, .int .i64 1]) ∧ w = w' := by
  have hw := rm_within h at_ n
  rw [hin] at hw
  have HW := Lib.hid hw
  clear hw hin h
  go_enter Try.func30, Try.ntmps30
  go_wp2_with fail
  refine HW.out.mono ?_
  rintro e w1 ⟨rfl, rfl⟩
  go_wp2_with fail
  go_ret2
  exact ⟨rfl, rfl⟩
theorem rm_load {w : World} {x : MB} {N : Nat} {S T : List UInt8} {A : List Bool} (h : RM w x N S T A) (a m : Nat) (hA : a + m ≤ 8 * N) :
    Calls Try.prog 30 #[.pointer (some ⟨x.p, 0, none⟩), .int .i64 (a : Nat), .int .i64 (m : Nat), .bool false] w fun e w' =>
      ∃ A' c', e = .returned (.tuple #[.slice A' m c', .int .i64 0]) ∧ Own w' w.heap.size A' m c' ((S.drop a).take m) ∧ Grow w w' := by
  have hlS := h.lenS
  have HB := Lib.hid h.bound.2.2
  have hw := rm_within h (a : Int) (m : Int)
  rw [inW_iff.2 ⟨by omega, by omega, by omega⟩] at hw
  have HW := Lib.hid hw
  obtain ⟨L, cs, ct, ca, HLL, hcs, hct, -, c0, -, -, l0⟩ := h.look
  have hlen : ((S.drop a).take m).length = m := by rw [List.length_take, List.length_drop, hlS]; omega
  have hrb := ((h.seenRB.drop (k := a) (cap := cs) (by omega) (by rw [hlS, ← HLL.out]; exact hcs)).take (k := m) (by rw [List.length_drop]; omega))
  have e1 : wrap64 ((a : Int) + (m : Int)) = ((a + m : Nat) : Int) := by rw [IntWalk.wrap64_in _ (by have := HB.out; omega)]; simp
  have haL : a + m ≤ L := by rw [HLL.out]; exact hA
  have hac : a + m ≤ cs := Nat.le_trans haL hcs
  have HL := Lib.hid hlen
  have HM := Lib.hid (show m ≤ 1073741000 by have := HB.out; clear e1; omega)
  clear h hw hlS hlen hA
  by_cases hcas : cs = a
  · subst hcas
    rw [if_pos rfl] at hrb
    have HR := Lib.hid hrb
    clear hrb
    obtain rfl : m = 0 := by clear e1; omega
    have e1' : wrap64 (cs : Int) = (cs : Int) := by simpa using e1
    clear e1 haL hac
    go_enter Try.func30, Try.ntmps30
    go_wp2_with fail
    refine HW.out.mono ?_
    rintro e w1 ⟨rfl, rfl⟩
    go_wp2_with (at_builtin; refine wpList_appB rfl (.tmp 30) (.tmp 39) rfl w.heap.size _ [] rfl (OB.nil _ _) w.heap.size (some ⟨x.gs, 0, none⟩) _ ((S.drop cs).take 0) 0 HL.out.symm rfl HR.out (by simp) (Nat.le_refl _) ?_; intro v2 w2 q1 q2 q3 q4; clear q3 q4)
    obtain ⟨A2, c2, rfl, o2⟩ := Own.ofOB q1 0 (by simp) (by omega)
    go_ret2
    exact ⟨_, _, rfl, o2, q2⟩
  · rw [if_neg hcas, show (some (⟨x.gs, 0, none⟩ : Addr)).map (·.add a) = some ⟨x.gs, a, none⟩ by simp [Addr.add_lit]] at hrb
    have HR := Lib.hid hrb
    obtain ⟨d, hd⟩ : ∃ d, d = a + m := ⟨_, rfl⟩
    rw [← hd] at e1 hac haL
    have hda : d - a = m := by clear e1; omega
    have had : a ≤ d := by clear e1; omega
    clear hrb hd haL
    go_enter Try.func30, Try.ntmps30
    go_wp2_with fail
    refine HW.out.mono ?_
    rintro e w1 ⟨rfl, rfl⟩
    go_wp2_with (at_builtin; refine wpList_appB rfl (.tmp 30) (.tmp 39) rfl w.heap.size _ [] rfl (OB.nil _ _) w.heap.size _ _ ((S.drop a).take m) m HL.out.symm rfl HR.out (by rw [HL.out]; have := HM.out; simp; omega) (Nat.le_refl _) ?_; intro v2 w2 q1 q2 q3 q4; clear q3 q4)
    obtain ⟨A2, c2, rfl, o2⟩ := Own.ofOB q1 m (by rw [List.nil_append]; exact HL.out) HM.out
    go_ret2
    exact ⟨_, _, rfl, by simpa using o2, q2⟩

theorem rm_store_no {w : World} {x : MB} {N : Nat} {S T : List UInt8} {A : List Bool} (h : RM w x N S T A) (B : Option Addr) (m c : Nat) (at_ : Int) (hin : inW (8 * N) at_ m = false) :
    Calls Try.prog 24 #[.pointer (some ⟨x.p, 0, none⟩), .int .i64 at_, .slice B m c] w fun e w' => e = .returned (.int .i64 1) ∧ w = w' := by
  have hw := rm_within h at_ (m : Int)
  rw [hin] at hw
  have HW := Lib.hid hw
  clear hw hin h
  go_enter Try.func24, Try.ntmps24
  go_wp2_with fail
  refine HW.out.mono ?_
  rintro e w1 ⟨rfl, rfl⟩
  go_wp2_with fail
  go_ret
  exact ⟨rfl, rfl⟩

def RStoreInv (w wr : World) (x : MB) (N : Nat) (S T : List UInt8) (A : List Bool) (a m : Nat) (bs : List UInt8) (t : Value) : Prop := ∃ j : Nat, t = .int .i64 (j : Int) ∧ j ≤ m ∧ RM wr x N (putL S a (bs.take j)) T (clrL A a j) ∧ Turn x.F w wr

set_option maxHeartbeats 2000000 in
set_option maxRecDepth 8000 in
theorem rm_store {w : World} {x : MB} {N : Nat} {S T : List UInt8} {A : List Bool} (h : RM w x N S T A) {B : Option Addr} {m c : Nat} {bs : List UInt8} (hs : Sl w B m bs) (hB : 0 < m → ∀ p, B = some p → ¬ x.F p.block) (a : Nat) (hA : a + m ≤ 8 * N) :
    Calls Try.prog 24 #[.pointer (some ⟨x.p, 0, none⟩), .int .i64 (a : Nat), .slice B m c] w fun e w' => e = .returned (.int .i64 0) ∧ RM w' x N (putL S a bs) T (clrL A a m) ∧ Turn x.F w w' := by
  have hw := rm_within h (a : Int) (m : Int)
  rw [inW_iff.2 ⟨by omega, by omega, by omega⟩] at hw
  have HW := Lib.hid hw
  have HB := Lib.hid h.bound.2.2
  have HAM := Lib.hid hA
  have HLEN := Lib.hid hs.1
  have H := Lib.hid h
  have HS := Lib.hid hs
  have HBF := Lib.hid hB
  clear hw hA h hs hB
  go_enter Try.func24, Try.ntmps24
  go_wp2_with fail
  refine HW.out.mono ?_
  rintro e w1 ⟨rfl, rfl⟩
  clear HW
  go_wp2_with fail
  go_loopw [8] (fun t wr => RStoreInv w wr x N S T A a m bs t) (fun t _ => m - (intOf t).toNat)
  case atStart => exact ⟨0, rfl, Nat.zero_le _, H.out, Turn.refl _ _⟩
  case round =>
    obtain ⟨j, rfl, hj, hP, ht⟩ := hrel
    by_cases hlt : j < m
    · obtain ⟨L, cs, ct, ca, HLL, hcs, hct, hca, c0, -, -, l0⟩ := hP.look
      obtain ⟨b0, o0, rfl, hb0, cb⟩ := HS.out.cell hlt
      have hnb := HBF.out (Nat.lt_of_le_of_lt (Nat.zero_le j) hlt) _ rfl
      replace cb := (ht.cell (p := ⟨b0, o0 + j, none⟩) hb0 hnb).trans cb
      obtain ⟨u, hu⟩ : ∃ u, u = bs[j]'(by rw [HLEN.out]; exact hlt) := ⟨_, rfl⟩
      rw [← hu] at cb
      obtain ⟨i, hi⟩ : ∃ i, i = a + j := ⟨_, rfl⟩
      obtain ⟨q, hq⟩ : ∃ q, q = i / 8 := ⟨_, rfl⟩
      have haj : i < 8 * N := by have := HAM.out; omega
      have hqN : q < N := by omega
      have hiL : i < L := by rw [HLL.out]; exact haj
      obtain ⟨cS, fS⟩ := hP.seenAt haj
      obtain ⟨hP1, ht1⟩ := hP.seenSet i u
      have hP1' := hP1.keep ((Grow.refl _).drew)
      obtain ⟨L1, cs1, ct1, ca1, HLL1, -, -, hca1, -, -, d2, -⟩ := hP1'.look
      obtain ⟨cA, fA⟩ := hP1'.awayAt hqN
      obtain ⟨hP2, ht2⟩ := hP1'.awaySet q false
      have X : RStoreInv w ((wr.setCell ⟨x.gs, i, none⟩ (.int .u8 (u.toNat : Int))).drew.setCell ⟨x.b, q, none⟩ (.bool false)) x N S T A a m bs (.int .i64 ((j : Int) + 1)) := by
        refine ⟨j + 1, by simp, hlt, ?_, ((ht.and ht1).andGrow ((Grow.refl _).drew)).and ht2⟩
        rw [putL_take (by rw [HLEN.out]; exact hlt), clrL, ← hu, ← hi, ← hq]
        exact hP2
      have e5 := wrapS (M := 8 * N) (show j < 8 * N by have := HAM.out; omega) (Nat.mul_le_mul_left 8 HB.out)
      have e1 := wrapA (hi ▸ haj) (Nat.mul_le_mul_left 8 HB.out)
      rw [← hi] at e1
      have e2 := tdiv8 hq
      have e4 := wrapN hqN HB.out
      clear hP hP1 hP1' ht ht1 ht2 hu hq haj hi hP2 hb0 hnb
      go_wp2_with fail
      go_region
      go_wp2_with fail
      go_roundw
      case rel => (try rw [e5]); first | exact X | ((repeat apply Exists.intro); exact X) | ((repeat apply Exists.intro); refine ⟨X, ?_⟩; rfl)
      case measure => first | exact meas hlt | exact measW hlt e5
    · obtain rfl : j = m := by omega
      have hbs : bs.take j = bs := List.take_of_length_le (by rw [HLEN.out]; exact Nat.le_refl _)
      rw [hbs] at hP
      have HP := Lib.hid hP
      clear hP
      go_wp2_with fail
      go_ret
      exact ⟨rfl, HP.out, ht⟩
end Go.Proofs.Ytnhgfkahmflpgaa
