/- The reference's Read of inodes. -/
import Derived.Test.YtpmmkchjdhaieaaInoRefMay
import Derived.Test.YtpmmkchjdhaieaaInoVal
import Derived.Test.YtpmmkchjdhaieaaInoRead
import Derived.RegionTactic
import Derived.ChangeAlike
import Derived.Deep.RegionWith
import Derived.Deep.DeepCutAuto
namespace Go.Proofs.Ytpmmkchjdhaieaa
open Go.RowKit

theorem same_g {A A' : Option Addr} {n n' c c' : Nat} {xs ys : List UInt8} {w : World} (hx : Sl w A n xs) (hy : Sl w A' n' ys) :
    Calls Try.prog 10 #[.slice A n c, .slice A' n' c'] w fun e w' => ∃ s, e = .returned (.bool s) ∧ Hid (s = decide (xs = ys)) ∧ Grow w w' := by
  refine (same_s hx hy).mono ?_
  rintro e w' ⟨s, he, hs, k, rfl⟩
  exact ⟨s, he, hs, (Grow.refl _).drewN k⟩
theorem Sl.litAt (w : World) (g : Nat) (t : TypeId) (cs : Array Value) (bs : List UInt8) (n : Nat) (hg : g = w.heap.size) (hn : bs.length = n) (h : cs = (bvs bs).toArray) (hl : n ≤ 1073741000) : Sl (w.alloc (.cells cs t)) (some ⟨g, 0, none⟩) n bs := by
  subst hg
  exact Sl.lit w t cs bs n hn h hl
def zero64 : List UInt8 := List.replicate 64 0
def zc64 : Array Value := (bvs zero64).toArray
theorem make64 (w : World) : (Instr.makeSlice 26 (.int .i64 64) (.int .i64 64)).run Try.prog w = .ok (.slice (some ⟨w.heap.size, 0, none⟩) 64 64) (w.alloc (.cells zc64 5)) := by kernel_rfl

theorem iS_eq {b : List UInt8} (h : 64 ≤ b.length) : iS b = by_ b 2 + 256 * by_ b 3 := by
  have e : (b.drop 2).take 2 = [b[2], b[3]] := by
    rw [List.drop_eq_getElem_cons (by omega), List.drop_eq_getElem_cons (by omega)]; rfl
  have h2 := (b[2]).toNat_lt
  have h3 := (b[3]).toNat_lt
  have := (get_small (bs := b) (a := 2) (k := 2) (m := leVal [b[2], b[3]]) (by decide) (by omega) (by rw [e]) (by simp [leVal]; omega)).1
  rw [iS, show getN b 2 2 = getN b ((2 : Nat) : Int) ((2 : Nat) : Int) from rfl, this, by_get (by omega), by_get (by omega)]
  simp [leVal]

set_option maxRecDepth 100000 in
set_option maxHeartbeats 4000000 in
theorem ref11_read_A {A : Option Addr} {n c : Nat} {bs : List UInt8} {w : World} (hs : Sl w A n bs) (hc : n ≤ c) (hl : 64 ≤ n) (hx0 : noneB bs = true) :
    Calls Try.prog 18 #[.slice A n c] w fun e w' => e = .returned (.tuple #[inoW bs, .int .i64 (readIE bs)]) ∧ Grow w w' := by
  have h64 := hs.take hl
  have HL := Lib.hid hs.1
  replace hx0 := Lib.hid hx0
  obtain ⟨b, o, rfl, hb, hcell⟩ := hs.all (by omega)
  have HC := Lib.hid (show ∀ k, k < 64 → w.cell? ⟨b, o + k, none⟩ = some (.int .u8 (by_ bs k)) by
    intro k hk
    rw [hcell k (by omega), by_get (by rw [hs.1]; omega)])
  clear hcell
  have hmk := make64
  go_enter Try.func18, Try.ntmps18
  go_upto_region 3 with (fail)
  go_cut [4] (fun s wx => ∃ sb : Bool, s = .bool sb ∧ Hid (sb = decide (bs.take 64 = zero64)) ∧ Grow w wx ∧ Row wx w.heap.size (List.replicate 15 (Value.int .i64 0)))
  case first =>
    go_region_with (go_at_call 10; refine (same_g (xs := bs.take 64) (ys := zero64) (h64.keep ?_) ?_).mono ?_; (repeat (first | exact Grow.refl _ | refine Grow.drew ?_ | refine Grow.drewN ?_ _ | refine Grow.alloc ?_ _)); (refine Sl.drew ?_; exact Sl.litAt _ _ _ _ zero64 64 (by simp) (by simp [zero64]) rfl (by omega)); rintro e w4 ⟨sb, rfl, hsb, g4⟩)
    all_goals
      have G4 : Grow w w4 := (((Grow.refl _).alloc _).alloc _).drew.trans g4
      have ZR : Row w4 w.heap.size (List.replicate 15 (Value.int .i64 0)) := (Row.new w 25 (List.replicate 15 (Value.int .i64 0)) _ rfl).keep ((((Grow.refl _).alloc _).drew).trans g4)
      clear g4 hmk
      go_wp2_with fail
      go_meet
      exact ⟨sb, rfl, hsb, G4, ZR⟩
  case rest =>
    obtain ⟨sb, rfl, hsb, G4, ZR⟩ := hcut
    clear hmk
    obtain ⟨w4, rfl⟩ : ∃ w4, w4 = wc := ⟨_, rfl⟩
    cases sb with
    | true =>
      have HE := Lib.hid (readIE_none (bs := bs) (by rw [HL.out]; exact hl) (by rw [noneB]; exact hsb.out.symm))
      have q0 := ZR.1.2 0 _ rfl; have q1 := ZR.1.2 1 _ rfl; have q2 := ZR.1.2 2 _ rfl; have q3 := ZR.1.2 3 _ rfl; have q4 := ZR.1.2 4 _ rfl; have q5 := ZR.1.2 5 _ rfl; have q6 := ZR.1.2 6 _ rfl; have q7 := ZR.1.2 7 _ rfl; have q8 := ZR.1.2 8 _ rfl; have q9 := ZR.1.2 9 _ rfl; have q10 := ZR.1.2 10 _ rfl; have q11 := ZR.1.2 11 _ rfl; have q12 := ZR.1.2 12 _ rfl; have q13 := ZR.1.2 13 _ rfl; have q14 := ZR.1.2 14 _ rfl
      have r0 := ZR.2 0 (by simp); have r1 := ZR.2 1 (by simp); have r2 := ZR.2 2 (by simp); have r3 := ZR.2 3 (by simp); have r4 := ZR.2 4 (by simp); have r5 := ZR.2 5 (by simp); have r6 := ZR.2 6 (by simp); have r7 := ZR.2 7 (by simp); have r8 := ZR.2 8 (by simp); have r9 := ZR.2 9 (by simp); have r10 := ZR.2 10 (by simp); have r11 := ZR.2 11 (by simp); have r12 := ZR.2 12 (by simp); have r13 := ZR.2 13 (by simp); have r14 := ZR.2 14 (by simp)
      clear ZR
      go_wp2_with fail
      rw [inoW_no HE.out.2, HE.out.1]
      refine bodyPost_ret (v := .tuple #[.agg #[.int .i64 0, .int .i64 0, .int .i64 0, .int .i64 0, .int .i64 0, .int .i64 0, .int .i64 0, .int .i64 0, .int .i64 0, .int .i64 0, .int .i64 0, .int .i64 0, .int .i64 0, .int .i64 0, .int .i64 0], .int .i64 0]) (by simp [results, Try.results18, go_sem, q0, q1, q2, q3, q4, q5, q6, q7, q8, q9, q10, q11, q12, q13, q14]) rfl ⟨rfl, ?_⟩
      repeat (refine Grow.setCell ?_ (by simp) _)
      exact G4
    | false =>
      have := hsb.out
      have hx := hx0.out
      rw [noneB] at hx
      rw [show decide (bs.take 64 = zero64) = _ from hx] at this
      cases this

set_option maxRecDepth 100000 in
set_option maxHeartbeats 4000000 in
theorem ref11_read_B {A : Option Addr} {n c : Nat} {bs : List UInt8} {w : World} (hs : Sl w A n bs) (hc : n ≤ c) (hl : 64 ≤ n) (hx0 : noneB bs = false) (hx1 : getN bs 60 4 ≠ (crcN (bs.take 60) : Nat)) :
    Calls Try.prog 18 #[.slice A n c] w fun e w' => e = .returned (.tuple #[inoW bs, .int .i64 (readIE bs)]) ∧ Grow w w' := by
  have h64 := hs.take hl
  have HL := Lib.hid hs.1
  replace hx0 := Lib.hid hx0
  replace hx1 := Lib.hid hx1
  obtain ⟨b, o, rfl, hb, hcell⟩ := hs.all (by omega)
  have HC := Lib.hid (show ∀ k, k < 64 → w.cell? ⟨b, o + k, none⟩ = some (.int .u8 (by_ bs k)) by
    intro k hk
    rw [hcell k (by omega), by_get (by rw [hs.1]; omega)])
  clear hcell
  have hmk := make64
  go_enter Try.func18, Try.ntmps18
  go_upto_region 3 with (fail)
  go_cut [4] (fun s wx => ∃ sb : Bool, s = .bool sb ∧ Hid (sb = decide (bs.take 64 = zero64)) ∧ Grow w wx ∧ Row wx w.heap.size (List.replicate 15 (Value.int .i64 0)))
  case first =>
    go_region_with (go_at_call 10; refine (same_g (xs := bs.take 64) (ys := zero64) (h64.keep ?_) ?_).mono ?_; (repeat (first | exact Grow.refl _ | refine Grow.drew ?_ | refine Grow.drewN ?_ _ | refine Grow.alloc ?_ _)); (refine Sl.drew ?_; exact Sl.litAt _ _ _ _ zero64 64 (by simp) (by simp [zero64]) rfl (by omega)); rintro e w4 ⟨sb, rfl, hsb, g4⟩)
    all_goals
      have G4 : Grow w w4 := (((Grow.refl _).alloc _).alloc _).drew.trans g4
      have ZR : Row w4 w.heap.size (List.replicate 15 (Value.int .i64 0)) := (Row.new w 25 (List.replicate 15 (Value.int .i64 0)) _ rfl).keep ((((Grow.refl _).alloc _).drew).trans g4)
      clear g4 hmk
      go_wp2_with fail
      go_meet
      exact ⟨sb, rfl, hsb, G4, ZR⟩
  case rest =>
    obtain ⟨sb, rfl, hsb, G4, ZR⟩ := hcut
    clear hmk
    obtain ⟨w4, rfl⟩ : ∃ w4, w4 = wc := ⟨_, rfl⟩
    cases sb with
    | true =>
      have := hsb.out
      have hx := hx0.out
      rw [noneB] at hx
      rw [show decide (bs.take 64 = zero64) = _ from hx] at this
      cases this
    | false =>
      have hnn : noneB bs = false := by rw [noneB]; exact hsb.out.symm
      have HNN := Lib.hid hnn
      clear hnn
      go_wp2_with fail
      refine (rget_s (hs.keep G4) (by omega) (by omega)).mono ?_
      rintro e w5 ⟨rfl, rfl⟩
      go_wp2_with fail
      refine (rsum_s ((hs.take (k := 60) (by omega)).keep G4)).mono ?_
      rintro e w5 ⟨q, rfl, hq, hq1, rfl⟩
      by_cases hsum : getN bs 60 4 = (q : Int)
      · exact absurd (by rw [hsum, hq.out]) hx1.out
      · have hne : (getN bs 60 4 != (q : Int)) = true := by rw [bne_iff_ne]; exact hsum
        have HE := Lib.hid (readIE_sum (bs := bs) (by rw [HL.out]; exact hl) HNN.out (by rw [← hq.out]; exact hsum))
        clear hsum
        have q0 := ZR.1.2 0 _ rfl; have q1 := ZR.1.2 1 _ rfl; have q2 := ZR.1.2 2 _ rfl; have q3 := ZR.1.2 3 _ rfl; have q4 := ZR.1.2 4 _ rfl; have q5 := ZR.1.2 5 _ rfl; have q6 := ZR.1.2 6 _ rfl; have q7 := ZR.1.2 7 _ rfl; have q8 := ZR.1.2 8 _ rfl; have q9 := ZR.1.2 9 _ rfl; have q10 := ZR.1.2 10 _ rfl; have q11 := ZR.1.2 11 _ rfl; have q12 := ZR.1.2 12 _ rfl; have q13 := ZR.1.2 13 _ rfl; have q14 := ZR.1.2 14 _ rfl
        have r0 := ZR.2 0 (by simp); have r1 := ZR.2 1 (by simp); have r2 := ZR.2 2 (by simp); have r3 := ZR.2 3 (by simp); have r4 := ZR.2 4 (by simp); have r5 := ZR.2 5 (by simp); have r6 := ZR.2 6 (by simp); have r7 := ZR.2 7 (by simp); have r8 := ZR.2 8 (by simp); have r9 := ZR.2 9 (by simp); have r10 := ZR.2 10 (by simp); have r11 := ZR.2 11 (by simp); have r12 := ZR.2 12 (by simp); have r13 := ZR.2 13 (by simp); have r14 := ZR.2 14 (by simp)
        clear ZR
        go_wp2_with fail
        rw [inoW_no HE.out.2, HE.out.1]
        refine bodyPost_ret (v := .tuple #[.agg #[.int .i64 0, .int .i64 0, .int .i64 0, .int .i64 0, .int .i64 0, .int .i64 0, .int .i64 0, .int .i64 0, .int .i64 0, .int .i64 0, .int .i64 0, .int .i64 0, .int .i64 0, .int .i64 0, .int .i64 0], .int .i64 4]) (by simp [results, Try.results18, go_sem, q0, q1, q2, q3, q4, q5, q6, q7, q8, q9, q10, q11, q12, q13, q14]) rfl ⟨rfl, ?_⟩
        repeat (refine Grow.setCell ?_ (by simp) _)
        exact G4

set_option maxRecDepth 100000 in
set_option maxHeartbeats 4000000 in
theorem ref11_read_C {A : Option Addr} {n c : Nat} {bs : List UInt8} {w : World} (hs : Sl w A n bs) (hc : n ≤ c) (hl : 64 ≤ n) (hx0 : noneB bs = false) (hx1 : getN bs 60 4 = (crcN (bs.take 60) : Nat)) (hx2 : zerosB bs 16 60 = false) :
    Calls Try.prog 18 #[.slice A n c] w fun e w' => e = .returned (.tuple #[inoW bs, .int .i64 (readIE bs)]) ∧ Grow w w' := by
  have h64 := hs.take hl
  have HL := Lib.hid hs.1
  replace hx0 := Lib.hid hx0
  replace hx1 := Lib.hid hx1
  replace hx2 := Lib.hid hx2
  obtain ⟨b, o, rfl, hb, hcell⟩ := hs.all (by omega)
  have HC := Lib.hid (show ∀ k, k < 64 → w.cell? ⟨b, o + k, none⟩ = some (.int .u8 (by_ bs k)) by
    intro k hk
    rw [hcell k (by omega), by_get (by rw [hs.1]; omega)])
  clear hcell
  have hmk := make64
  go_enter Try.func18, Try.ntmps18
  go_upto_region 3 with (fail)
  go_cut [4] (fun s wx => ∃ sb : Bool, s = .bool sb ∧ Hid (sb = decide (bs.take 64 = zero64)) ∧ Grow w wx ∧ Row wx w.heap.size (List.replicate 15 (Value.int .i64 0)))
  case first =>
    go_region_with (go_at_call 10; refine (same_g (xs := bs.take 64) (ys := zero64) (h64.keep ?_) ?_).mono ?_; (repeat (first | exact Grow.refl _ | refine Grow.drew ?_ | refine Grow.drewN ?_ _ | refine Grow.alloc ?_ _)); (refine Sl.drew ?_; exact Sl.litAt _ _ _ _ zero64 64 (by simp) (by simp [zero64]) rfl (by omega)); rintro e w4 ⟨sb, rfl, hsb, g4⟩)
    all_goals
      have G4 : Grow w w4 := (((Grow.refl _).alloc _).alloc _).drew.trans g4
      have ZR : Row w4 w.heap.size (List.replicate 15 (Value.int .i64 0)) := (Row.new w 25 (List.replicate 15 (Value.int .i64 0)) _ rfl).keep ((((Grow.refl _).alloc _).drew).trans g4)
      clear g4 hmk
      go_wp2_with fail
      go_meet
      exact ⟨sb, rfl, hsb, G4, ZR⟩
  case rest =>
    obtain ⟨sb, rfl, hsb, G4, ZR⟩ := hcut
    clear hmk
    obtain ⟨w4, rfl⟩ : ∃ w4, w4 = wc := ⟨_, rfl⟩
    cases sb with
    | true =>
      have := hsb.out
      have hx := hx0.out
      rw [noneB] at hx
      rw [show decide (bs.take 64 = zero64) = _ from hx] at this
      cases this
    | false =>
      have hnn : noneB bs = false := by rw [noneB]; exact hsb.out.symm
      have HNN := Lib.hid hnn
      clear hnn
      go_wp2_with fail
      refine (rget_s (hs.keep G4) (by omega) (by omega)).mono ?_
      rintro e w5 ⟨rfl, rfl⟩
      go_wp2_with fail
      refine (rsum_s ((hs.take (k := 60) (by omega)).keep G4)).mono ?_
      rintro e w5 ⟨q, rfl, hq, hq1, rfl⟩
      by_cases hsum : getN bs 60 4 = (q : Int)
      · have hne : (getN bs 60 4 != (q : Int)) = false := by rw [bne_eq_false_iff_eq]; exact hsum
        have HO := Lib.hid (show openE bs = 0 by rw [openE, if_neg (by rw [HL.out]; omega), if_pos (by rw [← hq.out]; exact hsum)])
        have HR := Lib.hid (readIE_open (bs := bs) (by rw [HL.out]; exact hl) HNN.out (by rw [← hq.out]; exact hsum))
        have HK := Lib.hid (sameI_eq HO.out HNN.out)
        clear hsum
        have c0 := G4.cell (HC.out 0 (by omega))
        have c1 := G4.cell (HC.out 1 (by omega))
        have c2 := G4.cell (HC.out 2 (by omega))
        have c3 := G4.cell (HC.out 3 (by omega))
        rw [Nat.add_zero] at c0
        have hb3 : b < w4.heap.size := Nat.lt_of_lt_of_le hb G4.size
        have hb4 : b ≠ w4.heap.size := by omega
        have hb5 : w4.heap.size ≠ b := by omega
        obtain ⟨x0, X0⟩ : ∃ x, Hid (x = by_ bs 0) := ⟨_, Lib.hid rfl⟩
        obtain ⟨x1, X1⟩ : ∃ x, Hid (x = by_ bs 1) := ⟨_, Lib.hid rfl⟩
        obtain ⟨x2, X2⟩ : ∃ x, Hid (x = iS bs) := ⟨_, Lib.hid rfl⟩
        obtain ⟨u2, U2⟩ : ∃ x, Hid (x = by_ bs 2) := ⟨_, Lib.hid rfl⟩
        obtain ⟨u3, U3⟩ : ∃ x, Hid (x = by_ bs 3) := ⟨_, Lib.hid rfl⟩
        rw [← X0.out] at c0
        rw [← X1.out] at c1
        rw [← U2.out] at c2
        rw [← U3.out] at c3
        obtain ⟨m00, m01⟩ : 0 ≤ x0 ∧ x0 < 256 := by rw [X0.out]; exact by_lt bs 0
        obtain ⟨m10, m11⟩ : 0 ≤ x1 ∧ x1 < 256 := by rw [X1.out]; exact by_lt bs 1
        obtain ⟨m20, m21⟩ : 0 ≤ u2 ∧ u2 < 256 := by rw [U2.out]; exact by_lt bs 2
        obtain ⟨m30, m31⟩ : 0 ≤ u3 ∧ u3 < 256 := by rw [U3.out]; exact by_lt bs 3
        have hsz : u2 + 256 * u3 = x2 := by rw [U2.out, U3.out, X2.out, iS_eq (by rw [HL.out]; exact hl)]
        have hw1 : IntKind.i64.wrap (256 * u3) = 256 * u3 := IntWalk.i64_in _ (by omega)
        have hw2 : IntKind.i64.wrap (u2 + 256 * u3) = x2 := by rw [IntWalk.i64_in _ (by omega)]; exact hsz
        have hw3 : IntKind.i64.wrap u3 = u3 := IntWalk.i64_in _ (by omega)
        have hw4 : IntKind.i64.wrap u2 = u2 := IntWalk.i64_in _ (by omega)
        clear hsz
        go_wp2_with fail
        go_region
        obtain ⟨gs, hgs⟩ : ∃ gs, gs = w4.heap.size := ⟨_, rfl⟩
        have hgl : w.heap.size < gs := by have := ZR.1.1; omega
        have hbg : b ≠ gs := by omega
        have hgb : gs ≠ w.heap.size := by omega
        obtain ⟨y4, Y4⟩ : ∃ x, Hid (x = by_ bs 4) := ⟨_, Lib.hid rfl⟩
        obtain ⟨y5, Y5⟩ : ∃ x, Hid (x = by_ bs 5) := ⟨_, Lib.hid rfl⟩
        obtain ⟨y6, Y6⟩ : ∃ x, Hid (x = by_ bs 6) := ⟨_, Lib.hid rfl⟩
        obtain ⟨y7, Y7⟩ : ∃ x, Hid (x = by_ bs 7) := ⟨_, Lib.hid rfl⟩
        obtain ⟨y8, Y8⟩ : ∃ x, Hid (x = by_ bs 8) := ⟨_, Lib.hid rfl⟩
        obtain ⟨y9, Y9⟩ : ∃ x, Hid (x = by_ bs 9) := ⟨_, Lib.hid rfl⟩
        obtain ⟨y10, Y10⟩ : ∃ x, Hid (x = by_ bs 10) := ⟨_, Lib.hid rfl⟩
        obtain ⟨y11, Y11⟩ : ∃ x, Hid (x = by_ bs 11) := ⟨_, Lib.hid rfl⟩
        obtain ⟨y12, Y12⟩ : ∃ x, Hid (x = by_ bs 12) := ⟨_, Lib.hid rfl⟩
        obtain ⟨y13, Y13⟩ : ∃ x, Hid (x = by_ bs 13) := ⟨_, Lib.hid rfl⟩
        obtain ⟨y14, Y14⟩ : ∃ x, Hid (x = by_ bs 14) := ⟨_, Lib.hid rfl⟩
        obtain ⟨y15, Y15⟩ : ∃ x, Hid (x = by_ bs 15) := ⟨_, Lib.hid rfl⟩
        have VR : Row ((w4.alloc (.cells (List.toArray (vsB x0 x1 x2 [y4, y5, y6, y7] 0)) 25)).drew) gs (vsB x0 x1 x2 [y4, y5, y6, y7] 0) := by
          rw [hgs]
          exact (Row.new w4 25 _ _ rfl).keep ((Grow.refl _).drew)
        have ZR1 := ZR.keep (((Grow.refl w4).alloc (.cells (List.toArray (vsB x0 x1 x2 [y4, y5, y6, y7] 0)) 25)).drew)
        have g4 := (G4.alloc (.cells (List.toArray (vsB x0 x1 x2 [y4, y5, y6, y7] 0)) 25)).drew
        rw [← hgs]
        clear hgs ZR c0 c1 c2 c3 hb3 hb4 hb5 G4 hw1 hw2 hw3 hw4
        go_wp2_with fail
        go_loopw [8] (fun i wr => ∃ m : Nat, m ≤ 4 ∧ i = .int .i64 m ∧ Row wr gs (vsB x0 x1 x2 [y4, y5, y6, y7] m) ∧ Row wr w.heap.size (List.replicate 15 (Value.int .i64 0)) ∧ Grow w wr) (fun i _ => 4 - (intOf i).toNat)
        case atStart => exact ⟨0, Nat.zero_le _, rfl, VR, ZR1, g4⟩
        case round =>
          clear VR ZR1 g4
          obtain ⟨m, hm, rfl, VR, ZR, g⟩ := hrel
          by_cases hlt : m < 4
          · have ck := g.cell (HC.out (4 + m) (by omega))
            obtain ⟨y, hy⟩ : ∃ y, y = by_ bs (4 + m) := ⟨_, rfl⟩
            rw [← hy] at ck
            obtain ⟨p0, p1⟩ : 0 ≤ y ∧ y < 256 := by rw [hy]; exact by_lt bs _
            have hyy : y = [y4, y5, y6, y7].getD m 0 := by
              rw [hy]
              have : m = 0 ∨ m = 1 ∨ m = 2 ∨ m = 3 := by omega
              rcases this with rfl | rfl | rfl | rfl
              · exact Y4.out.symm
              · exact Y5.out.symm
              · exact Y6.out.symm
              · exact Y7.out.symm
            have c3 := VR.1.2 (3 + m) _ (vsB_at hlt)
            have f3 := VR.2 (3 + m) (by rw [vsB_length]; omega)
            have HV := Lib.hid (VR.set (v := .int .i64 y) (j := 3 + m) (by rw [vsB_length]; omega))
            rw [hyy, vsB_next hlt, ← hyy] at HV
            have HZ := Lib.hid (ZR.set_ne (p := ⟨gs, 3 + m, none⟩) (v := .int .i64 y) hgb)
            have HG := Lib.hid (g.setCell (p := ⟨gs, 3 + m, none⟩) (by dsimp only; omega) (.int .i64 y))
            clear hy hyy VR ZR
            go_wp2_with fail
            go_roundw
            case rel => exact ⟨m + 1, by omega, by go_num, HV.out, HZ.out, HG.out⟩
            case measure => simp [intOf]; omega
          · obtain rfl : m = 4 := by omega
            have VO : Row _ gs (vsO x0 x1 x2 [y4, y5, y6, y7] [y8, y9, y10, y11, y12, y13, y14, y15] 0) := VR
            clear VR
            go_wp2_with fail
            go_loopw [9] (fun i wr => ∃ m : Nat, m ≤ 8 ∧ i = .int .i64 m ∧ Row wr gs (vsO x0 x1 x2 [y4, y5, y6, y7] [y8, y9, y10, y11, y12, y13, y14, y15] m) ∧ Row wr w.heap.size (List.replicate 15 (Value.int .i64 0)) ∧ Grow w wr) (fun i _ => 8 - (intOf i).toNat)
            case atStart => exact ⟨0, Nat.zero_le _, rfl, VO, ZR, g⟩
            case round =>
              clear VO ZR g
              obtain ⟨m, hm, rfl, VR, ZR, g⟩ := hrel
              by_cases hlt : m < 8
              · have ck := g.cell (HC.out (8 + m) (by omega))
                obtain ⟨y, hy⟩ : ∃ y, y = by_ bs (8 + m) := ⟨_, rfl⟩
                rw [← hy] at ck
                obtain ⟨p0, p1⟩ : 0 ≤ y ∧ y < 256 := by rw [hy]; exact by_lt bs _
                have hyy : y = [y8, y9, y10, y11, y12, y13, y14, y15].getD m 0 := by
                  rw [hy]
                  have : m = 0 ∨ m = 1 ∨ m = 2 ∨ m = 3 ∨ m = 4 ∨ m = 5 ∨ m = 6 ∨ m = 7 := by omega
                  rcases this with rfl | rfl | rfl | rfl | rfl | rfl | rfl | rfl
                  · exact Y8.out.symm
                  · exact Y9.out.symm
                  · exact Y10.out.symm
                  · exact Y11.out.symm
                  · exact Y12.out.symm
                  · exact Y13.out.symm
                  · exact Y14.out.symm
                  · exact Y15.out.symm
                have c3 := VR.1.2 (7 + m) _ (vsO_at rfl hlt)
                have f3 := VR.2 (7 + m) (by rw [vsO_length rfl]; omega)
                have HV := Lib.hid (VR.set (v := .int .i64 y) (j := 7 + m) (by rw [vsO_length rfl]; omega))
                rw [hyy, vsO_next rfl hlt, ← hyy] at HV
                have HZ := Lib.hid (ZR.set_ne (p := ⟨gs, 7 + m, none⟩) (v := .int .i64 y) hgb)
                have HG := Lib.hid (g.setCell (p := ⟨gs, 7 + m, none⟩) (by dsimp only; omega) (.int .i64 y))
                clear hy hyy VR ZR
                go_wp2_with fail
                go_roundw
                case rel => exact ⟨m + 1, by omega, by go_num, HV.out, HZ.out, HG.out⟩
                case measure => simp [intOf]; omega
              · obtain rfl : m = 8 := by omega
                have VE : Row _ gs [.int .i64 x0, .int .i64 x1, .int .i64 x2, .int .i64 y4, .int .i64 y5, .int .i64 y6, .int .i64 y7, .int .i64 y8, .int .i64 y9, .int .i64 y10, .int .i64 y11, .int .i64 y12, .int .i64 y13, .int .i64 y14, .int .i64 y15] := VR
                clear VR
                obtain ⟨wo, rfl⟩ : ∃ wo : World, wo = wr := ⟨_, rfl⟩
                go_wp2_with fail
                go_loop [10] (fun i => ∃ m : Nat, 16 ≤ m ∧ m ≤ 60 ∧ i = .int .i64 m ∧ Hid (∀ j, 16 ≤ j → j < m → by_ bs j = 0)) (fun i => 60 - (intOf i).toNat)
                case atStart => exact ⟨16, by omega, by omega, rfl, Lib.hid (fun j h1 h2 => by omega)⟩
                case round =>
                  obtain ⟨m, hm1, hm2, rfl, hz⟩ := hrel
                  by_cases hlt : m < 60
                  · have ck := g.cell (HC.out m (by omega))
                    obtain ⟨y, hy⟩ : ∃ y, y = by_ bs m := ⟨_, rfl⟩
                    rw [← hy] at ck
                    have HY := Lib.hid hy
                    clear hy
                    by_cases hu : y = 0
                    · have hne : (y != 0) = false := by rw [bne_eq_false_iff_eq]; exact hu
                      have HU := Lib.hid hu
                      clear hu
                      go_wp2_with fail
                      go_round
                      case rel =>
                        refine ⟨m + 1, by omega, by omega, by go_num, Lib.hid fun j h1 h2 => ?_⟩
                        by_cases hj : j < m
                        · exact hz.out j h1 hj
                        · obtain rfl : j = m := by omega
                          rw [← HY.out]; exact HU.out
                      case measure => simp [intOf]; omega
                    · have hne : (y != 0) = true := by rw [bne_iff_ne]; exact hu
                      have hD : sameI bs = false := by
                        rw [HK.out, sameK]
                        cases hzb : zerosB bs 16 60 with
                        | false => rfl
                        | true =>
                          have := (zeros_iff (b := bs) (lo := 16) (hi := 60) (by rw [HL.out]; omega)).1 hzb m hm1 hlt
                          exact absurd (by rw [HY.out, by_get (by rw [HL.out]; omega), this]; rfl) hu
                      have HE := Lib.hid (show readIE bs = 2 ∧ readIP bs = false by rw [HR.out.1, HR.out.2, hD]; exact ⟨rfl, rfl⟩)
                      clear hD hu
                      have q0 := ZR.1.2 0 _ rfl; have q1 := ZR.1.2 1 _ rfl; have q2 := ZR.1.2 2 _ rfl; have q3 := ZR.1.2 3 _ rfl; have q4 := ZR.1.2 4 _ rfl; have q5 := ZR.1.2 5 _ rfl; have q6 := ZR.1.2 6 _ rfl; have q7 := ZR.1.2 7 _ rfl; have q8 := ZR.1.2 8 _ rfl; have q9 := ZR.1.2 9 _ rfl; have q10 := ZR.1.2 10 _ rfl; have q11 := ZR.1.2 11 _ rfl; have q12 := ZR.1.2 12 _ rfl; have q13 := ZR.1.2 13 _ rfl; have q14 := ZR.1.2 14 _ rfl
                      have r0 := ZR.2 0 (by simp); have r1 := ZR.2 1 (by simp); have r2 := ZR.2 2 (by simp); have r3 := ZR.2 3 (by simp); have r4 := ZR.2 4 (by simp); have r5 := ZR.2 5 (by simp); have r6 := ZR.2 6 (by simp); have r7 := ZR.2 7 (by simp); have r8 := ZR.2 8 (by simp); have r9 := ZR.2 9 (by simp); have r10 := ZR.2 10 (by simp); have r11 := ZR.2 11 (by simp); have r12 := ZR.2 12 (by simp); have r13 := ZR.2 13 (by simp); have r14 := ZR.2 14 (by simp)
                      go_wp2_with fail
                      rw [inoW_no HE.out.2, HE.out.1]
                      refine bodyPost_ret (v := .tuple #[.agg #[.int .i64 0, .int .i64 0, .int .i64 0, .int .i64 0, .int .i64 0, .int .i64 0, .int .i64 0, .int .i64 0, .int .i64 0, .int .i64 0, .int .i64 0, .int .i64 0, .int .i64 0, .int .i64 0, .int .i64 0], .int .i64 2]) (by simp [results, Try.results18, go_sem, q0, q1, q2, q3, q4, q5, q6, q7, q8, q9, q10, q11, q12, q13, q14]) rfl ⟨rfl, ?_⟩
                      repeat (refine Grow.setCell ?_ (by simp) _)
                      exact g
                  · obtain rfl : m = 60 := by omega
                    exfalso
                    have hx9 := hx2.out
                    rw [(zeros_iff (b := bs) (lo := 16) (hi := 60) (by rw [HL.out]; omega)).2 fun i h1 h2 => by
                      have := hz.out i h1 h2
                      rw [by_get (by rw [HL.out]; omega)] at this
                      exact UInt8.toNat_inj.1 (by simpa using this)] at hx9
                    cases hx9
      · exact absurd (hx1.out.trans (by rw [hq.out])) hsum

set_option maxRecDepth 100000 in
set_option maxHeartbeats 4000000 in
theorem ref11_read_D {A : Option Addr} {n c : Nat} {bs : List UInt8} {w : World} (hs : Sl w A n bs) (hc : n ≤ c) (hl : 64 ≤ n) (hx0 : noneB bs = false) (hx1 : getN bs 60 4 = (crcN (bs.take 60) : Nat)) (hx2 : Hid (zerosB bs 16 60 = true)) :
    Calls Try.prog 18 #[.slice A n c] w fun e w' => e = .returned (.tuple #[inoW bs, .int .i64 (readIE bs)]) ∧ Grow w w' := by
  have h64 := hs.take hl
  have HL := Lib.hid hs.1
  replace hx0 := Lib.hid hx0
  replace hx1 := Lib.hid hx1
  obtain ⟨b, o, rfl, hb, hcell⟩ := hs.all (by omega)
  have HC := Lib.hid (show ∀ k, k < 64 → w.cell? ⟨b, o + k, none⟩ = some (.int .u8 (by_ bs k)) by
    intro k hk
    rw [hcell k (by omega), by_get (by rw [hs.1]; omega)])
  clear hcell
  have hmk := make64
  go_enter Try.func18, Try.ntmps18
  go_upto_region 3 with (fail)
  go_cut [4] (fun s wx => ∃ sb : Bool, s = .bool sb ∧ Hid (sb = decide (bs.take 64 = zero64)) ∧ Grow w wx ∧ Row wx w.heap.size (List.replicate 15 (Value.int .i64 0)))
  case first =>
    go_region_with (go_at_call 10; refine (same_g (xs := bs.take 64) (ys := zero64) (h64.keep ?_) ?_).mono ?_; (repeat (first | exact Grow.refl _ | refine Grow.drew ?_ | refine Grow.drewN ?_ _ | refine Grow.alloc ?_ _)); (refine Sl.drew ?_; exact Sl.litAt _ _ _ _ zero64 64 (by simp) (by simp [zero64]) rfl (by omega)); rintro e w4 ⟨sb, rfl, hsb, g4⟩)
    all_goals
      have G4 : Grow w w4 := (((Grow.refl _).alloc _).alloc _).drew.trans g4
      have ZR : Row w4 w.heap.size (List.replicate 15 (Value.int .i64 0)) := (Row.new w 25 (List.replicate 15 (Value.int .i64 0)) _ rfl).keep ((((Grow.refl _).alloc _).drew).trans g4)
      clear g4 hmk
      go_wp2_with fail
      go_meet
      exact ⟨sb, rfl, hsb, G4, ZR⟩
  case rest =>
    obtain ⟨sb, rfl, hsb, G4, ZR⟩ := hcut
    clear hmk
    obtain ⟨w4, rfl⟩ : ∃ w4, w4 = wc := ⟨_, rfl⟩
    cases sb with
    | true =>
      have := hsb.out
      have hx := hx0.out
      rw [noneB] at hx
      rw [show decide (bs.take 64 = zero64) = _ from hx] at this
      cases this
    | false =>
      have hnn : noneB bs = false := by rw [noneB]; exact hsb.out.symm
      have HNN := Lib.hid hnn
      clear hnn
      go_wp2_with fail
      refine (rget_s (hs.keep G4) (by omega) (by omega)).mono ?_
      rintro e w5 ⟨rfl, rfl⟩
      go_wp2_with fail
      refine (rsum_s ((hs.take (k := 60) (by omega)).keep G4)).mono ?_
      rintro e w5 ⟨q, rfl, hq, hq1, rfl⟩
      by_cases hsum : getN bs 60 4 = (q : Int)
      · have hne : (getN bs 60 4 != (q : Int)) = false := by rw [bne_eq_false_iff_eq]; exact hsum
        have HO := Lib.hid (show openE bs = 0 by rw [openE, if_neg (by rw [HL.out]; omega), if_pos (by rw [← hq.out]; exact hsum)])
        have HR := Lib.hid (readIE_open (bs := bs) (by rw [HL.out]; exact hl) HNN.out (by rw [← hq.out]; exact hsum))
        have HK := Lib.hid (sameI_eq HO.out HNN.out)
        clear hsum
        have c0 := G4.cell (HC.out 0 (by omega))
        have c1 := G4.cell (HC.out 1 (by omega))
        have c2 := G4.cell (HC.out 2 (by omega))
        have c3 := G4.cell (HC.out 3 (by omega))
        rw [Nat.add_zero] at c0
        have hb3 : b < w4.heap.size := Nat.lt_of_lt_of_le hb G4.size
        have hb4 : b ≠ w4.heap.size := by omega
        have hb5 : w4.heap.size ≠ b := by omega
        obtain ⟨x0, X0⟩ : ∃ x, Hid (x = by_ bs 0) := ⟨_, Lib.hid rfl⟩
        obtain ⟨x1, X1⟩ : ∃ x, Hid (x = by_ bs 1) := ⟨_, Lib.hid rfl⟩
        obtain ⟨x2, X2⟩ : ∃ x, Hid (x = iS bs) := ⟨_, Lib.hid rfl⟩
        obtain ⟨u2, U2⟩ : ∃ x, Hid (x = by_ bs 2) := ⟨_, Lib.hid rfl⟩
        obtain ⟨u3, U3⟩ : ∃ x, Hid (x = by_ bs 3) := ⟨_, Lib.hid rfl⟩
        rw [← X0.out] at c0
        rw [← X1.out] at c1
        rw [← U2.out] at c2
        rw [← U3.out] at c3
        obtain ⟨m00, m01⟩ : 0 ≤ x0 ∧ x0 < 256 := by rw [X0.out]; exact by_lt bs 0
        obtain ⟨m10, m11⟩ : 0 ≤ x1 ∧ x1 < 256 := by rw [X1.out]; exact by_lt bs 1
        obtain ⟨m20, m21⟩ : 0 ≤ u2 ∧ u2 < 256 := by rw [U2.out]; exact by_lt bs 2
        obtain ⟨m30, m31⟩ : 0 ≤ u3 ∧ u3 < 256 := by rw [U3.out]; exact by_lt bs 3
        have hsz : u2 + 256 * u3 = x2 := by rw [U2.out, U3.out, X2.out, iS_eq (by rw [HL.out]; exact hl)]
        have hw1 : IntKind.i64.wrap (256 * u3) = 256 * u3 := IntWalk.i64_in _ (by omega)
        have hw2 : IntKind.i64.wrap (u2 + 256 * u3) = x2 := by rw [IntWalk.i64_in _ (by omega)]; exact hsz
        have hw3 : IntKind.i64.wrap u3 = u3 := IntWalk.i64_in _ (by omega)
        have hw4 : IntKind.i64.wrap u2 = u2 := IntWalk.i64_in _ (by omega)
        clear hsz
        go_wp2_with fail
        go_region
        obtain ⟨gs, hgs⟩ : ∃ gs, gs = w4.heap.size := ⟨_, rfl⟩
        have hgl : w.heap.size < gs := by have := ZR.1.1; omega
        have hbg : b ≠ gs := by omega
        have hgb : gs ≠ w.heap.size := by omega
        obtain ⟨y4, Y4⟩ : ∃ x, Hid (x = by_ bs 4) := ⟨_, Lib.hid rfl⟩
        obtain ⟨y5, Y5⟩ : ∃ x, Hid (x = by_ bs 5) := ⟨_, Lib.hid rfl⟩
        obtain ⟨y6, Y6⟩ : ∃ x, Hid (x = by_ bs 6) := ⟨_, Lib.hid rfl⟩
        obtain ⟨y7, Y7⟩ : ∃ x, Hid (x = by_ bs 7) := ⟨_, Lib.hid rfl⟩
        obtain ⟨y8, Y8⟩ : ∃ x, Hid (x = by_ bs 8) := ⟨_, Lib.hid rfl⟩
        obtain ⟨y9, Y9⟩ : ∃ x, Hid (x = by_ bs 9) := ⟨_, Lib.hid rfl⟩
        obtain ⟨y10, Y10⟩ : ∃ x, Hid (x = by_ bs 10) := ⟨_, Lib.hid rfl⟩
        obtain ⟨y11, Y11⟩ : ∃ x, Hid (x = by_ bs 11) := ⟨_, Lib.hid rfl⟩
        obtain ⟨y12, Y12⟩ : ∃ x, Hid (x = by_ bs 12) := ⟨_, Lib.hid rfl⟩
        obtain ⟨y13, Y13⟩ : ∃ x, Hid (x = by_ bs 13) := ⟨_, Lib.hid rfl⟩
        obtain ⟨y14, Y14⟩ : ∃ x, Hid (x = by_ bs 14) := ⟨_, Lib.hid rfl⟩
        obtain ⟨y15, Y15⟩ : ∃ x, Hid (x = by_ bs 15) := ⟨_, Lib.hid rfl⟩
        have VR : Row ((w4.alloc (.cells (List.toArray (vsB x0 x1 x2 [y4, y5, y6, y7] 0)) 25)).drew) gs (vsB x0 x1 x2 [y4, y5, y6, y7] 0) := by
          rw [hgs]
          exact (Row.new w4 25 _ _ rfl).keep ((Grow.refl _).drew)
        have ZR1 := ZR.keep (((Grow.refl w4).alloc (.cells (List.toArray (vsB x0 x1 x2 [y4, y5, y6, y7] 0)) 25)).drew)
        have g4 := (G4.alloc (.cells (List.toArray (vsB x0 x1 x2 [y4, y5, y6, y7] 0)) 25)).drew
        rw [← hgs]
        clear hgs ZR c0 c1 c2 c3 hb3 hb4 hb5 G4 hw1 hw2 hw3 hw4
        go_wp2_with fail
        go_loopw [8] (fun i wr => ∃ m : Nat, m ≤ 4 ∧ i = .int .i64 m ∧ Row wr gs (vsB x0 x1 x2 [y4, y5, y6, y7] m) ∧ Row wr w.heap.size (List.replicate 15 (Value.int .i64 0)) ∧ Grow w wr) (fun i _ => 4 - (intOf i).toNat)
        case atStart => exact ⟨0, Nat.zero_le _, rfl, VR, ZR1, g4⟩
        case round =>
          clear VR ZR1 g4
          obtain ⟨m, hm, rfl, VR, ZR, g⟩ := hrel
          by_cases hlt : m < 4
          · have ck := g.cell (HC.out (4 + m) (by omega))
            obtain ⟨y, hy⟩ : ∃ y, y = by_ bs (4 + m) := ⟨_, rfl⟩
            rw [← hy] at ck
            obtain ⟨p0, p1⟩ : 0 ≤ y ∧ y < 256 := by rw [hy]; exact by_lt bs _
            have hyy : y = [y4, y5, y6, y7].getD m 0 := by
              rw [hy]
              have : m = 0 ∨ m = 1 ∨ m = 2 ∨ m = 3 := by omega
              rcases this with rfl | rfl | rfl | rfl
              · exact Y4.out.symm
              · exact Y5.out.symm
              · exact Y6.out.symm
              · exact Y7.out.symm
            have c3 := VR.1.2 (3 + m) _ (vsB_at hlt)
            have f3 := VR.2 (3 + m) (by rw [vsB_length]; omega)
            have HV := Lib.hid (VR.set (v := .int .i64 y) (j := 3 + m) (by rw [vsB_length]; omega))
            rw [hyy, vsB_next hlt, ← hyy] at HV
            have HZ := Lib.hid (ZR.set_ne (p := ⟨gs, 3 + m, none⟩) (v := .int .i64 y) hgb)
            have HG := Lib.hid (g.setCell (p := ⟨gs, 3 + m, none⟩) (by dsimp only; omega) (.int .i64 y))
            clear hy hyy VR ZR
            go_wp2_with fail
            go_roundw
            case rel => exact ⟨m + 1, by omega, by go_num, HV.out, HZ.out, HG.out⟩
            case measure => simp [intOf]; omega
          · obtain rfl : m = 4 := by omega
            have VO : Row _ gs (vsO x0 x1 x2 [y4, y5, y6, y7] [y8, y9, y10, y11, y12, y13, y14, y15] 0) := VR
            clear VR
            go_wp2_with fail
            go_loopw [9] (fun i wr => ∃ m : Nat, m ≤ 8 ∧ i = .int .i64 m ∧ Row wr gs (vsO x0 x1 x2 [y4, y5, y6, y7] [y8, y9, y10, y11, y12, y13, y14, y15] m) ∧ Row wr w.heap.size (List.replicate 15 (Value.int .i64 0)) ∧ Grow w wr) (fun i _ => 8 - (intOf i).toNat)
            case atStart => exact ⟨0, Nat.zero_le _, rfl, VO, ZR, g⟩
            case round =>
              clear VO ZR g
              obtain ⟨m, hm, rfl, VR, ZR, g⟩ := hrel
              by_cases hlt : m < 8
              · have ck := g.cell (HC.out (8 + m) (by omega))
                obtain ⟨y, hy⟩ : ∃ y, y = by_ bs (8 + m) := ⟨_, rfl⟩
                rw [← hy] at ck
                obtain ⟨p0, p1⟩ : 0 ≤ y ∧ y < 256 := by rw [hy]; exact by_lt bs _
                have hyy : y = [y8, y9, y10, y11, y12, y13, y14, y15].getD m 0 := by
                  rw [hy]
                  have : m = 0 ∨ m = 1 ∨ m = 2 ∨ m = 3 ∨ m = 4 ∨ m = 5 ∨ m = 6 ∨ m = 7 := by omega
                  rcases this with rfl | rfl | rfl | rfl | rfl | rfl | rfl | rfl
                  · exact Y8.out.symm
                  · exact Y9.out.symm
                  · exact Y10.out.symm
                  · exact Y11.out.symm
                  · exact Y12.out.symm
                  · exact Y13.out.symm
                  · exact Y14.out.symm
                  · exact Y15.out.symm
                have c3 := VR.1.2 (7 + m) _ (vsO_at rfl hlt)
                have f3 := VR.2 (7 + m) (by rw [vsO_length rfl]; omega)
                have HV := Lib.hid (VR.set (v := .int .i64 y) (j := 7 + m) (by rw [vsO_length rfl]; omega))
                rw [hyy, vsO_next rfl hlt, ← hyy] at HV
                have HZ := Lib.hid (ZR.set_ne (p := ⟨gs, 7 + m, none⟩) (v := .int .i64 y) hgb)
                have HG := Lib.hid (g.setCell (p := ⟨gs, 7 + m, none⟩) (by dsimp only; omega) (.int .i64 y))
                clear hy hyy VR ZR
                go_wp2_with fail
                go_roundw
                case rel => exact ⟨m + 1, by omega, by go_num, HV.out, HZ.out, HG.out⟩
                case measure => simp [intOf]; omega
              · obtain rfl : m = 8 := by omega
                have VE : Row _ gs [.int .i64 x0, .int .i64 x1, .int .i64 x2, .int .i64 y4, .int .i64 y5, .int .i64 y6, .int .i64 y7, .int .i64 y8, .int .i64 y9, .int .i64 y10, .int .i64 y11, .int .i64 y12, .int .i64 y13, .int .i64 y14, .int .i64 y15] := VR
                clear VR
                obtain ⟨wo, rfl⟩ : ∃ wo : World, wo = wr := ⟨_, rfl⟩
                go_wp2_with fail
                go_loop [10] (fun i => ∃ m : Nat, 16 ≤ m ∧ m ≤ 60 ∧ i = .int .i64 m ∧ Hid (∀ j, 16 ≤ j → j < m → by_ bs j = 0)) (fun i => 60 - (intOf i).toNat)
                case atStart => exact ⟨16, by omega, by omega, rfl, Lib.hid (fun j h1 h2 => by omega)⟩
                case round =>
                  obtain ⟨m, hm1, hm2, rfl, hz⟩ := hrel
                  by_cases hlt : m < 60
                  · have ck := g.cell (HC.out m (by omega))
                    obtain ⟨y, hy⟩ : ∃ y, y = by_ bs m := ⟨_, rfl⟩
                    rw [← hy] at ck
                    have HY := Lib.hid hy
                    clear hy
                    by_cases hu : y = 0
                    · have hne : (y != 0) = false := by rw [bne_eq_false_iff_eq]; exact hu
                      have HU := Lib.hid hu
                      clear hu
                      go_wp2_with fail
                      go_round
                      case rel =>
                        refine ⟨m + 1, by omega, by omega, by go_num, Lib.hid fun j h1 h2 => ?_⟩
                        by_cases hj : j < m
                        · exact hz.out j h1 hj
                        · obtain rfl : j = m := by omega
                          rw [← HY.out]; exact HU.out
                      case measure => simp [intOf]; omega
                    · exfalso
                      have := (zeros_iff (b := bs) (lo := 16) (hi := 60) (by rw [HL.out]; omega)).1 hx2.out m hm1 hlt
                      exact absurd (by rw [HY.out, by_get (by rw [HL.out]; omega), this]; rfl) hu
                  · obtain rfl : m = 60 := by omega
                    have hzz : zerosB bs 16 60 = true := (zeros_iff (b := bs) (lo := 16) (hi := 60) (by rw [HL.out]; omega)).2 fun i h1 h2 => by
                      have := hz.out i h1 h2
                      rw [by_get (by rw [HL.out]; omega)] at this
                      exact UInt8.toNat_inj.1 (by simpa using this)
                    have HMM := Lib.hid (show mayI x0 x1 x2 [y4, y5, y6, y7] [y8, y9, y10, y11, y12, y13, y14, y15] = mayJ bs by rw [mayJ, iK, iL, iB, iO, X0.out, X1.out, X2.out, Y4.out, Y5.out, Y6.out, Y7.out, Y8.out, Y9.out, Y10.out, Y11.out, Y12.out, Y13.out, Y14.out, Y15.out])
                    have HD := Lib.hid (show sameI bs = (mayI x0 x1 x2 [y4, y5, y6, y7] [y8, y9, y10, y11, y12, y13, y14, y15] && !decide (x0 = 0)) by rw [HK.out, sameK, hzz, HMM.out, Bool.true_and, iK, ← X0.out])
                    have z0 := VE.1.2 0 _ rfl; have z1 := VE.1.2 1 _ rfl; have z2 := VE.1.2 2 _ rfl; have z3 := VE.1.2 3 _ rfl; have z4 := VE.1.2 4 _ rfl; have z5 := VE.1.2 5 _ rfl; have z6 := VE.1.2 6 _ rfl; have z7 := VE.1.2 7 _ rfl; have z8 := VE.1.2 8 _ rfl; have z9 := VE.1.2 9 _ rfl; have z10 := VE.1.2 10 _ rfl; have z11 := VE.1.2 11 _ rfl; have z12 := VE.1.2 12 _ rfl; have z13 := VE.1.2 13 _ rfl; have z14 := VE.1.2 14 _ rfl
                    clear hzz hz
                    go_wp2_with fail
                    clear z0 z1 z2 z3 z4 z5 z6 z7 z8 z9 z10 z11 z12 z13 z14
                    refine (ref11_may x0 x1 x2 y4 y5 y6 y7 y8 y9 y10 y11 y12 y13 y14 y15 _).mono ?_
                    rintro e w6 ⟨rfl, g6⟩
                    have ZQ := ZR.keep g6
                    have VQ := VE.keep g6
                    have q0 := ZQ.1.2 0 _ rfl; have q1 := ZQ.1.2 1 _ rfl; have q2 := ZQ.1.2 2 _ rfl; have q3 := ZQ.1.2 3 _ rfl; have q4 := ZQ.1.2 4 _ rfl; have q5 := ZQ.1.2 5 _ rfl; have q6 := ZQ.1.2 6 _ rfl; have q7 := ZQ.1.2 7 _ rfl; have q8 := ZQ.1.2 8 _ rfl; have q9 := ZQ.1.2 9 _ rfl; have q10 := ZQ.1.2 10 _ rfl; have q11 := ZQ.1.2 11 _ rfl; have q12 := ZQ.1.2 12 _ rfl; have q13 := ZQ.1.2 13 _ rfl; have q14 := ZQ.1.2 14 _ rfl
                    have r0 := ZQ.2 0 (by simp); have r1 := ZQ.2 1 (by simp); have r2 := ZQ.2 2 (by simp); have r3 := ZQ.2 3 (by simp); have r4 := ZQ.2 4 (by simp); have r5 := ZQ.2 5 (by simp); have r6 := ZQ.2 6 (by simp); have r7 := ZQ.2 7 (by simp); have r8 := ZQ.2 8 (by simp); have r9 := ZQ.2 9 (by simp); have r10 := ZQ.2 10 (by simp); have r11 := ZQ.2 11 (by simp); have r12 := ZQ.2 12 (by simp); have r13 := ZQ.2 13 (by simp); have r14 := ZQ.2 14 (by simp)
                    have z0 := VQ.1.2 0 _ rfl; have z1 := VQ.1.2 1 _ rfl; have z2 := VQ.1.2 2 _ rfl; have z3 := VQ.1.2 3 _ rfl; have z4 := VQ.1.2 4 _ rfl; have z5 := VQ.1.2 5 _ rfl; have z6 := VQ.1.2 6 _ rfl; have z7 := VQ.1.2 7 _ rfl; have z8 := VQ.1.2 8 _ rfl; have z9 := VQ.1.2 9 _ rfl; have z10 := VQ.1.2 10 _ rfl; have z11 := VQ.1.2 11 _ rfl; have z12 := VQ.1.2 12 _ rfl; have z13 := VQ.1.2 13 _ rfl; have z14 := VQ.1.2 14 _ rfl
                    clear ZQ VQ ZR VE
                    cases hm : mayI x0 x1 x2 [y4, y5, y6, y7] [y8, y9, y10, y11, y12, y13, y14, y15] with
                    | false =>
                      have HE := Lib.hid (show readIE bs = 2 ∧ readIP bs = false by rw [HR.out.1, HR.out.2, HD.out, hm]; exact ⟨rfl, rfl⟩)
                      go_wp2_with fail
                      rw [inoW_no HE.out.2, HE.out.1]
                      refine bodyPost_ret (v := .tuple #[.agg #[.int .i64 0, .int .i64 0, .int .i64 0, .int .i64 0, .int .i64 0, .int .i64 0, .int .i64 0, .int .i64 0, .int .i64 0, .int .i64 0, .int .i64 0, .int .i64 0, .int .i64 0, .int .i64 0, .int .i64 0], .int .i64 2]) (by simp [results, Try.results18, go_sem, q0, q1, q2, q3, q4, q5, q6, q7, q8, q9, q10, q11, q12, q13, q14]) rfl ⟨rfl, ?_⟩
                      repeat (refine Grow.setCell ?_ (by simp) _)
                      exact g.trans g6
                    | true =>
                      by_cases hx : x0 = 0
                      · have hx1 : (x0 == 0) = true := by rw [beq_iff_eq]; exact hx
                        have HE := Lib.hid (show readIE bs = 2 ∧ readIP bs = false by rw [HR.out.1, HR.out.2, HD.out, hm, decide_eq_true hx]; exact ⟨rfl, rfl⟩)
                        clear hx
                        go_wp2_with fail
                        rw [inoW_no HE.out.2, HE.out.1]
                        refine bodyPost_ret (v := .tuple #[.agg #[.int .i64 0, .int .i64 0, .int .i64 0, .int .i64 0, .int .i64 0, .int .i64 0, .int .i64 0, .int .i64 0, .int .i64 0, .int .i64 0, .int .i64 0, .int .i64 0, .int .i64 0, .int .i64 0, .int .i64 0], .int .i64 2]) (by simp [results, Try.results18, go_sem, q0, q1, q2, q3, q4, q5, q6, q7, q8, q9, q10, q11, q12, q13, q14]) rfl ⟨rfl, ?_⟩
                        repeat (refine Grow.setCell ?_ (by simp) _)
                        exact g.trans g6
                      · have hx1 : (x0 == 0) = false := by rw [beq_eq_false_iff_ne]; exact hx
                        have HE := Lib.hid (show readIE bs = 0 ∧ readIP bs = true by rw [HR.out.1, HR.out.2, HD.out, hm, decide_eq_false hx]; exact ⟨rfl, rfl⟩)
                        have HV := Lib.hid (show inoW bs = .agg #[.int .i64 x0, .int .i64 x1, .int .i64 x2, .int .i64 y4, .int .i64 y5, .int .i64 y6, .int .i64 y7, .int .i64 y8, .int .i64 y9, .int .i64 y10, .int .i64 y11, .int .i64 y12, .int .i64 y13, .int .i64 y14, .int .i64 y15] by rw [inoW_yes HE.out.2, iK, iL, X0.out, X1.out, X2.out, Y4.out, Y5.out, Y6.out, Y7.out, Y8.out, Y9.out, Y10.out, Y11.out, Y12.out, Y13.out, Y14.out, Y15.out])
                        clear hx
                        go_wp2_with fail
                        rw [HV.out, HE.out.1]
                        refine bodyPost_ret (v := .tuple #[.agg #[.int .i64 x0, .int .i64 x1, .int .i64 x2, .int .i64 y4, .int .i64 y5, .int .i64 y6, .int .i64 y7, .int .i64 y8, .int .i64 y9, .int .i64 y10, .int .i64 y11, .int .i64 y12, .int .i64 y13, .int .i64 y14, .int .i64 y15], .int .i64 0]) (by simp [results, Try.results18, go_sem, q0, q1, q2, q3, q4, q5, q6, q7, q8, q9, q10, q11, q12, q13, q14]) rfl ⟨rfl, ?_⟩
                        repeat (refine Grow.setCell ?_ (by simp) _)
                        exact g.trans g6
      · exact absurd (hx1.out.trans (by rw [hq.out])) hsum

theorem ref11_read {A : Option Addr} {n c : Nat} {bs : List UInt8} {w : World} (hs : Sl w A n bs) (hc : n ≤ c) :
    Calls Try.prog 18 #[.slice A n c] w fun e w' => e = .returned (.tuple #[inoW bs, .int .i64 (readIE bs)]) ∧ Grow w w' := by
  by_cases hl : n < 64
  · have HE := Lib.hid (readIE_short (bs := bs) (by rw [hs.1]; exact hl))
    go_enter Try.func18, Try.ntmps18
    go_wp2_with fail
    rw [inoW_no HE.out.2, HE.out.1]
    refine bodyPost_ret (v := .tuple #[.agg #[.int .i64 0, .int .i64 0, .int .i64 0, .int .i64 0, .int .i64 0, .int .i64 0, .int .i64 0, .int .i64 0, .int .i64 0, .int .i64 0, .int .i64 0, .int .i64 0, .int .i64 0, .int .i64 0, .int .i64 0], .int .i64 3]) (by simp [results, Try.results18, go_sem]) rfl ⟨rfl, ?_⟩
    repeat (first | refine Grow.setCell ?_ (by simp) _ | refine Grow.alloc ?_ _)
    exact Grow.refl _
  · have hl : 64 ≤ n := by omega
    cases h0 : noneB bs with
    | true => exact ref11_read_A hs hc hl h0
    | false =>
      by_cases h1 : getN bs 60 4 = (crcN (bs.take 60) : Nat)
      · cases h2 : zerosB bs 16 60 with
        | true => exact ref11_read_D hs hc hl h0 h1 (Lib.hid h2)
        | false => exact ref11_read_C hs hc hl h0 h1 h2
      · exact ref11_read_B hs hc hl h0 h1
end Go.Proofs.Ytpmmkchjdhaieaa
