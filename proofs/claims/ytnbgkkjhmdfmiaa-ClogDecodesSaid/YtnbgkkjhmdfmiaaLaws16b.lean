/- The walk of the statement ClogDecodes. -/
import Derived.Test.YtnbgkkjhmdfmiaaRDec
import Derived.Test.YtnbgkkjhmdfmiaaLawEnc
import Derived.Deep.RegionWith
namespace Go.Proofs.Ytnbgkkjhmdfmiaa
open Go.RowKit

theorem recW_form (bs : List UInt8) : ∃ x0 x1 x3 : Int, ∃ tr : Bool, ∃ sv : ByteArray, recW bs = .agg #[.int .i64 x0, .int .i64 x1, .bool tr, .int .i64 x3, .string sv] := by
  unfold recW
  split
  · exact ⟨_, _, _, _, _, rfl⟩
  · exact ⟨_, _, _, _, _, rfl⟩
theorem clog_decode5 {A : Option Addr} {n c : Nat} {bs : List UInt8} {w : World} (hs : Sl w A n bs) (hc : n ≤ c) :
    Calls Try.prog 17 #[.slice A n c] w fun e w' => ∃ x0 x1 x3 tr sv L y, e = .returned (.tuple #[.agg #[.int .i64 x0, .int .i64 x1, .bool tr, .int .i64 x3, .string sv], .int .i64 L, .int .i64 y]) ∧ Hid (L = ((decL bs : Nat) : Int) ∧ y = decE bs ∧ recW bs = .agg #[.int .i64 x0, .int .i64 x1, .bool tr, .int .i64 x3, .string sv]) ∧ Grow w w' := by
  obtain ⟨x0, x1, x3, tr, sv, h⟩ := recW_form bs
  refine (clog_decode hs hc).mono ?_
  rintro e w' ⟨rfl, g⟩
  exact ⟨x0, x1, x3, tr, sv, _, _, by rw [h], Lib.hid ⟨rfl, rfl, h⟩, g⟩
theorem ref16_decode5 {A : Option Addr} {n c : Nat} {bs : List UInt8} {w : World} (hs : Sl w A n bs) (hc : n ≤ c) {x0 x1 x3 L y : Int} {tr : Bool} {sv : ByteArray} (h : L = ((decL bs : Nat) : Int) ∧ y = decE bs ∧ recW bs = .agg #[.int .i64 x0, .int .i64 x1, .bool tr, .int .i64 x3, .string sv]) :
    Calls Try.prog 18 #[.slice A n c] w fun e w' => e = .returned (.tuple #[.agg #[.int .i64 x0, .int .i64 x1, .bool tr, .int .i64 x3, .string sv], .int .i64 L, .int .i64 y]) ∧ Grow w w' := by
  rw [h.1, h.2.1, ← h.2.2]
  exact ref16_decode hs hc

def sealD (bs : List UInt8) : List UInt8 := if bs.length < 13 ∨ bs.length < 13 + dN bs then bs else sumB (bs.take (13 + dN bs)) ++ bs.drop (13 + dN bs)

set_option maxHeartbeats 1000000 in
theorem sealed16 {A : Option Addr} {n c : Nat} {bs : List UInt8} {w : World} (hs : Sl w A n bs) (hc : n ≤ c) (hn : n ≤ 1000) :
    Calls Try.prog 19 #[.slice A n c] w fun e w' => ∃ A' m c' zs, e = .returned (.slice A' m c') ∧ Sl w' A' m zs ∧ m ≤ c' ∧ Hid (zs = sealD bs) ∧ Grow w w' := by
  have HL := Lib.hid hs.1
  by_cases h13 : n < 13
  · have HE := Lib.hid (show bs = sealD bs by rw [sealD, if_pos (by rw [HL.out]; exact .inl h13)])
    go_enter Try.func19, Try.ntmps19
    go_wp2_with fail
    go_ret
    first | exact ⟨_, _, _, _, rfl, hs, hc, HE, Grow.refl _⟩ | exact ⟨_, _, _, rfl, _, hs, hc, HE, Grow.refl _⟩
  · have h13' : 13 ≤ n := by omega
    obtain ⟨b, o, rfl, hb, hcell⟩ := hs.all (by omega)
    obtain ⟨nD, HN⟩ : ∃ nD, Hid (nD = dN bs) := ⟨_, Lib.hid rfl⟩
    have c12 : w.cell? ⟨b, o + 12, none⟩ = some (.int .u8 ((nD : Nat) : Int)) := by
      rw [hcell 12 (by omega), HN.out, ← dN_by, by_get (by rw [hs.1]; omega)]
    have hn1 : nD < 256 := by rw [HN.out]; exact dN_lt bs
    clear hcell h13
    by_cases h2 : n < 13 + nD
    · have HE := Lib.hid (show bs = sealD bs by rw [sealD, if_pos (by rw [HL.out, ← HN.out]; exact .inr h2)])
      go_enter Try.func19, Try.ntmps19
      go_wp2_with fail
      go_ret
      first | exact ⟨_, _, _, _, rfl, hs, hc, HE, Grow.refl _⟩ | exact ⟨_, _, _, rfl, _, hs, hc, HE, Grow.refl _⟩
    · have h2' : 13 + nD ≤ n := by omega
      have hst := hs.take h2'
      have hdr := hs.drop h2' hc
      have i1 : 0 ≤ 13 + (nD : Int) := by omega
      have i2 : (13 + (nD : Int)).toNat = 13 + nD := by omega
      have i3 : 13 + nD ≤ c := by omega
      have i4 : 13 + (nD : Int) ≤ (c : Int) := by omega
      clear h2
      by_cases hck : c = 13 + nD
      · clear hdr
        obtain rfl : n = 13 + nD := by omega
        have hdn : bs.drop (13 + nD) = [] := List.drop_eq_nil_of_le (by rw [HL.out]; exact Nat.le_refl _)
        subst hck
        go_enter Try.func19, Try.ntmps19
        go_wp2_with fail
        go_region_with (first
          | (go_at_call 33; refine (rsum_s (bs := bs.take (13 + nD)) ?_).mono ?_; (first | exact hst | exact hst.drew); rintro e w1 ⟨q, rfl, hq, hq1, rfl⟩)
          | (go_at_call 32; refine (rput_s (bs := bs.take (13 + nD)) (17 + nD) ?_ ?_ ?_ ?_ ?_).mono ?_; (first | exact hst | exact hst.drew); (simp [fitsB]; omega); omega; (simp; omega); omega; rintro e w2 ⟨A2, c2, rfl, hw2, g2⟩))
        all_goals
          replace g2 : Grow w w2 := (Grow.refl w).drew.trans g2
          rw [show bs.take (13 + nD) ++ leB (q : Int).toNat (Int.toNat 4) = sumB (bs.take (13 + nD)) by rw [sumB, ← hq.out]; rfl] at hw2
          have HW := Lib.hid (hw2.low (show w.heap.size ≤ w.drew.heap.size from Nat.le_refl _))
          have hz := g2.size
          clear hw2 hq
          go_wp2_with (at_builtin; (refine wpList_appB rfl (.tmp 32) (.tmp 35) rfl w.heap.size _ _ rfl HW.out.2.2 w2.heap.size _ _ [] 0 rfl rfl RB.nil_ ?_ hz ?_; (rw [HW.out.1]; simp; omega); intro v3 w3 hown3 hb3 p1 p2; clear p1 p2))
          rw [List.append_nil] at hown3
          obtain ⟨A3, c3, rfl, hw3⟩ := Own.ofOB hown3 (17 + nD) HW.out.1 (by omega)
          go_ret
          exact ⟨_, _, _, _, rfl, hw3.sl, hw3.cap, Lib.hid (by rw [sealD, if_neg (by rw [HL.out, ← HN.out]; omega), ← HN.out, hdn, List.append_nil]), g2.low hb3⟩
      · rw [if_neg hck, show (some (⟨b, o, none⟩ : Addr)).map (·.add (13 + nD)) = some ⟨b, o + (13 + nD), none⟩ by simp [Addr.add_lit]] at hdr
        go_enter Try.func19, Try.ntmps19
        go_wp2_with fail
        go_region_with (first
          | (go_at_call 33; refine (rsum_s (bs := bs.take (13 + nD)) ?_).mono ?_; (first | exact hst | exact hst.drew); rintro e w1 ⟨q, rfl, hq, hq1, rfl⟩)
          | (go_at_call 32; refine (rput_s (bs := bs.take (13 + nD)) (17 + nD) ?_ ?_ ?_ ?_ ?_).mono ?_; (first | exact hst | exact hst.drew); (simp [fitsB]; omega); omega; (simp; omega); omega; rintro e w2 ⟨A2, c2, rfl, hw2, g2⟩))
        all_goals
          replace g2 : Grow w w2 := (Grow.refl w).drew.trans g2
          rw [show bs.take (13 + nD) ++ leB (q : Int).toNat (Int.toNat 4) = sumB (bs.take (13 + nD)) by rw [sumB, ← hq.out]; rfl] at hw2
          have HW := Lib.hid (hw2.low (show w.heap.size ≤ w.drew.heap.size from Nat.le_refl _))
          have HD := Lib.hid (hdr.keep g2)
          have hz := g2.size
          clear hw2 hq
          go_wp2_with (at_builtin; refine wpList_appB rfl (.tmp 32) (.tmp 35) rfl w.heap.size _ _ rfl HW.out.2.2 w2.heap.size _ _ (bs.drop (13 + nD)) _ ?_ rfl HD.out.2.2 ?_ hz ?_; (exact HD.out.1.symm); (rw [HW.out.1, HD.out.1]; omega); intro v3 w3 hown3 hb3 p1 p2; clear p1 p2)
          obtain ⟨A3, c3, rfl, hw3⟩ := Own.ofOB hown3 (n + 4) (by rw [List.length_append, HW.out.1, HD.out.1]; omega) (by omega)
          go_ret
          exact ⟨_, _, _, _, rfl, hw3.sl, hw3.cap, Lib.hid (by rw [sealD, if_neg (by rw [HL.out, ← HN.out]; omega), ← HN.out]), g2.low hb3⟩

set_option maxHeartbeats 1000000 in
theorem law_ClogDecodes (A : Option Addr) (n c : Nat) (bs : List UInt8) (W : World) (hn0 : bs.length = n) (hr0 : RB W W.heap.size A bs) (hc0 : n ≤ c) :
    Calls Try.prog 5 #[.slice A n c] W fun e w' => e = .returned (.bool true) ∧ Below W.heap.size W w' := by
  have HN0 := Lib.hid hn0
  clear hn0
  by_cases h120 : 120 < n
  · obtain ⟨b1, hb1⟩ : ∃ b, b = bs.take 120 := ⟨_, rfl⟩
    have hs : Sl W A 120 b1 := by rw [hb1]; exact Sl.ofTake hr0 (n := 120) (by rw [HN0.out]; omega) (by omega)
    have hc : 120 ≤ c := by omega
    clear hb1 hr0
    go_enter Try.func5, Try.ntmps5
    go_wp2_with fail
    refine (clog_decode5 hs hc).mono ?_
    rintro e w1 ⟨x0, x1, x3, tr, sv, L, y, rfl, X, g1⟩
    go_wp2_with fail
    refine (ref16_decode5 ((hs.keep g1).alloc _) hc X.out).mono ?_
    rintro e w2 ⟨rfl, g2⟩
    have K1 := (Blk.new w1 31 [.int .i64 x0, .int .i64 x1, .bool tr, .int .i64 x3, .string sv] _ (0, 0) rfl).keep g2
    replace g2 := g1.trans (((Grow.refl _).alloc _).trans g2)
    go_wp2_with fail
    refine (sealed16 ((hs.keep g2).alloc _) hc (by omega)).mono ?_
    rintro e w3 ⟨A3, m3, c3, zs, rfl, hw3, hc3, Z3, g3⟩
    replace K1 := K1.keep (((Grow.refl _).alloc _).trans g3)
    have K2 := (Blk.new w2 31 [.int .i64 x0, .int .i64 x1, .bool tr, .int .i64 x3, .string sv] _ (0, 0) rfl).keep g3
    replace g3 := g2.trans (((Grow.refl _).alloc _).trans g3)
    go_wp2_with fail
    refine (clog_decode5 hw3 hc3).mono ?_
    rintro e w4 ⟨u0, u1, u3, ur, us, M, v, rfl, Z, g4⟩
    replace K1 := K1.keep g4
    replace K2 := K2.keep g4
    replace g4 := g3.trans g4
    go_wp2_with fail
    refine (sealed16 ((hs.keep g4).alloc _) hc (by omega)).mono ?_
    rintro e w5 ⟨A5, m5, c5, zs5, rfl, hw5, hc5, Z5, g5⟩
    obtain rfl : zs5 = zs := by rw [Z5.out, Z3.out]
    replace K1 := K1.keep (((Grow.refl _).alloc _).trans g5)
    replace K2 := K2.keep (((Grow.refl _).alloc _).trans g5)
    have K3 := (Blk.new w4 31 [.int .i64 u0, .int .i64 u1, .bool ur, .int .i64 u3, .string us] _ (0, 0) rfl).keep g5
    replace g5 := g4.trans (((Grow.refl _).alloc _).trans g5)
    go_wp2_with fail
    refine (ref16_decode5 hw5 hc5 Z.out).mono ?_
    rintro e w6 ⟨rfl, g6⟩
    have gx := (Grow.refl w6).alloc (.cells (List.toArray [.int .i64 u0, .int .i64 u1, .bool ur, .int .i64 u3, .string us]) 31 (0, 0))
    replace K1 := (K1.keep g6).keep gx
    replace K2 := (K2.keep g6).keep gx
    replace K3 := (K3.keep g6).keep gx
    replace g6 := g5.trans g6
    have K4 := Blk.new w6 31 [.int .i64 u0, .int .i64 u1, .bool ur, .int .i64 u3, .string us] _ (0, 0) rfl
    have p0 := K1.2 0 _ rfl; have p1 := K1.2 1 _ rfl; have p2 := K1.2 2 _ rfl; have p3 := K1.2 3 _ rfl; have p4 := K1.2 4 _ rfl
    have q0 := K2.2 0 _ rfl; have q1 := K2.2 1 _ rfl; have q2 := K2.2 2 _ rfl; have q3 := K2.2 3 _ rfl; have q4 := K2.2 4 _ rfl
    have r0 := K3.2 0 _ rfl; have r1 := K3.2 1 _ rfl; have r2 := K3.2 2 _ rfl; have r3 := K3.2 3 _ rfl; have r4 := K3.2 4 _ rfl
    have t0 := K4.2 0 _ rfl; have t1 := K4.2 1 _ rfl; have t2 := K4.2 2 _ rfl; have t3 := K4.2 3 _ rfl; have t4 := K4.2 4 _ rfl
    clear K1 K2 K3 K4
    go_wp2_with fail
    refine (lives16_any _).mono ?_
    rintro e w7 ⟨rfl, rfl⟩
    clear p0 p1 p2 p3 p4; clear q0 q1 q2 q3 q4; clear r0 r1 r2 r3 r4; clear t0 t1 t2 t3 t4
    go_wp2_with fail
    go_ret
    exact ⟨rfl, g6.alloc _⟩
  · have hs : Sl W A n bs := Sl.ofRB hr0 HN0.out (by omega)
    have hc : n ≤ c := hc0
    have hn120 : n ≤ 120 := by omega
    clear hr0 hc0
    go_enter Try.func5, Try.ntmps5
    go_wp2_with fail
    refine (clog_decode5 hs hc).mono ?_
    rintro e w1 ⟨x0, x1, x3, tr, sv, L, y, rfl, X, g1⟩
    go_wp2_with fail
    refine (ref16_decode5 ((hs.keep g1).alloc _) hc X.out).mono ?_
    rintro e w2 ⟨rfl, g2⟩
    have K1 := (Blk.new w1 31 [.int .i64 x0, .int .i64 x1, .bool tr, .int .i64 x3, .string sv] _ (0, 0) rfl).keep g2
    replace g2 := g1.trans (((Grow.refl _).alloc _).trans g2)
    go_wp2_with fail
    refine (sealed16 ((hs.keep g2).alloc _) hc (by omega)).mono ?_
    rintro e w3 ⟨A3, m3, c3, zs, rfl, hw3, hc3, Z3, g3⟩
    replace K1 := K1.keep (((Grow.refl _).alloc _).trans g3)
    have K2 := (Blk.new w2 31 [.int .i64 x0, .int .i64 x1, .bool tr, .int .i64 x3, .string sv] _ (0, 0) rfl).keep g3
    replace g3 := g2.trans (((Grow.refl _).alloc _).trans g3)
    go_wp2_with fail
    refine (clog_decode5 hw3 hc3).mono ?_
    rintro e w4 ⟨u0, u1, u3, ur, us, M, v, rfl, Z, g4⟩
    replace K1 := K1.keep g4
    replace K2 := K2.keep g4
    replace g4 := g3.trans g4
    go_wp2_with fail
    refine (sealed16 ((hs.keep g4).alloc _) hc (by omega)).mono ?_
    rintro e w5 ⟨A5, m5, c5, zs5, rfl, hw5, hc5, Z5, g5⟩
    obtain rfl : zs5 = zs := by rw [Z5.out, Z3.out]
    replace K1 := K1.keep (((Grow.refl _).alloc _).trans g5)
    replace K2 := K2.keep (((Grow.refl _).alloc _).trans g5)
    have K3 := (Blk.new w4 31 [.int .i64 u0, .int .i64 u1, .bool ur, .int .i64 u3, .string us] _ (0, 0) rfl).keep g5
    replace g5 := g4.trans (((Grow.refl _).alloc _).trans g5)
    go_wp2_with fail
    refine (ref16_decode5 hw5 hc5 Z.out).mono ?_
    rintro e w6 ⟨rfl, g6⟩
    have gx := (Grow.refl w6).alloc (.cells (List.toArray [.int .i64 u0, .int .i64 u1, .bool ur, .int .i64 u3, .string us]) 31 (0, 0))
    replace K1 := (K1.keep g6).keep gx
    replace K2 := (K2.keep g6).keep gx
    replace K3 := (K3.keep g6).keep gx
    replace g6 := g5.trans g6
    have K4 := Blk.new w6 31 [.int .i64 u0, .int .i64 u1, .bool ur, .int .i64 u3, .string us] _ (0, 0) rfl
    have p0 := K1.2 0 _ rfl; have p1 := K1.2 1 _ rfl; have p2 := K1.2 2 _ rfl; have p3 := K1.2 3 _ rfl; have p4 := K1.2 4 _ rfl
    have q0 := K2.2 0 _ rfl; have q1 := K2.2 1 _ rfl; have q2 := K2.2 2 _ rfl; have q3 := K2.2 3 _ rfl; have q4 := K2.2 4 _ rfl
    have r0 := K3.2 0 _ rfl; have r1 := K3.2 1 _ rfl; have r2 := K3.2 2 _ rfl; have r3 := K3.2 3 _ rfl; have r4 := K3.2 4 _ rfl
    have t0 := K4.2 0 _ rfl; have t1 := K4.2 1 _ rfl; have t2 := K4.2 2 _ rfl; have t3 := K4.2 3 _ rfl; have t4 := K4.2 4 _ rfl
    clear K1 K2 K3 K4
    go_wp2_with fail
    refine (lives16_any _).mono ?_
    rintro e w7 ⟨rfl, rfl⟩
    clear p0 p1 p2 p3 p4; clear q0 q1 q2 q3 q4; clear r0 r1 r2 r3 r4; clear t0 t1 t2 t3 t4
    go_wp2_with fail
    go_ret
    exact ⟨rfl, g6.alloc _⟩
end Go.Proofs.Ytnbgkkjhmdfmiaa
