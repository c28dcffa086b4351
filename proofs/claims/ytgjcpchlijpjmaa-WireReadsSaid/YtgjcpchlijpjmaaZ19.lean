/- The walk of the statement WireReads. No statement of the seat is proved here. -/
import Derived.Test.YtgjcpchlijpjmaaZ16
namespace Go.Proofs.Ytgjcpchlijpjmaa
open Go.RowKit Go.Great

set_option maxHeartbeats 16000000 in
set_option maxRecDepth 8000 in
theorem law_WireReads (A : Option Addr) (n cc : Nat) (bs : List UInt8) (W : World) (hn : bs.length = n) (hr : RB W W.heap.size A bs) (hc : n ≤ cc) :
    Calls Try.prog 4 #[.slice A n cc] W fun e w' => e = .returned (.bool true) ∧ Below W.heap.size W w' := by
  have HN := Lib.hid hn
  have HR := Lib.hid hr
  clear hn hr
  go_enter Try.func4, Try.ntmps4
  go_upto_if 16 with (fail)
  go_cut [0] (fun v wx => ∃ m, v = .slice A m cc ∧ Sl wx A m (bs.take 400) ∧ m ≤ cc ∧ m ≤ 400 ∧ W = wx)
  case first =>
    by_cases h : 400 < n
    · have z1 : decide (400 < n) = true := decide_eq_true h
      have z2 : decide ((400 : Int) < (n : Int)) = true := decide_eq_true (by omega)
      have HS := Lib.hid (Sl.ofTake HR.out (n := 400) (by rw [HN.out]; omega) (by omega))
      go_wp2_with fail
      go_meet
      exact ⟨400, rfl, HS.out, by omega, Nat.le_refl _, rfl⟩
    · have z1 : decide (400 < n) = false := decide_eq_false h
      have z2 : decide ((400 : Int) < (n : Int)) = false := decide_eq_false (by omega)
      have HS := Lib.hid (show Sl W A n (bs.take 400) by rw [List.take_of_length_le (by rw [HN.out]; omega)]; exact Sl.ofRB HR.out HN.out (by omega))
      go_wp2_with fail
      go_meet
      exact ⟨n, rfl, HS.out, hc, by omega, rfl⟩
  case rest =>
    obtain ⟨m, rfl, hs, hmc, hm4, rfl⟩ := hcut
    obtain ⟨b0, hb0⟩ : ∃ z, z = bs.take 400 := ⟨_, rfl⟩
    rw [← hb0] at hs
    have HS := Lib.hid hs
    clear hs hb0 hc HN HR
    go_upto_region 3 with (fail)
    have hread := w_read HS.out hmc (by omega) HS.out.blk
    obtain ⟨V1, hV1⟩ : ∃ z, z = rdV b0 := ⟨_, rfl⟩
    obtain ⟨E1, hE1⟩ : ∃ z, z = rdE b0 := ⟨_, rfl⟩
    rw [← hV1, ← hE1] at hread
    have HV1 := Lib.hid hV1
    have HE1 := Lib.hid hE1
    clear hV1 hE1
    refine wp_region_list ?_
    refine wpList_runTo rfl (some 20) rfl (.slice A m cc) W (by first | rfl | go_simp) ?_
    refine wpList_callC rfl (some 21) rfl 14 #[.slice A m cc] (by first | rfl | go_simp) _ hread (fun e w' h => by rcases h with ⟨nv, h, -⟩; exact ⟨_, h⟩) ?_
    rintro v wr1 ⟨nv, he, g6, os6⟩
    obtain rfl : v = .tuple #[.agg (V1.cells nv).toArray, .int .i64 E1] := by injection he
    clear he hread
    go_simp
    refine wpList_runTo rfl (some 19) rfl (.tuple #[.agg (V1.cells nv).toArray, .int .i64 E1]) wr1 (by first | rfl | go_simp) ?_
    refine wpList_runTo rfl (some 22) rfl (.agg (V1.cells nv).toArray) wr1 (by go_simp) ?_
    go_simp
    refine wpList_runTo rfl (some 23) rfl (.int .i64 E1) wr1 (by go_simp) ?_
    have hy0 := Row.new wr1 35 zP #[.int .i64 0, .int .i64 0, .int .i64 0, .int .i64 0, .int .i64 0, .int .i64 0, .int .i64 0, .string ⟨#[]⟩, .int .i64 0, .int .i64 0, .int .i64 0, .string ⟨#[]⟩, .string ⟨#[]⟩, .int .i64 0, .int .i64 0, .int .i64 0, .int .i64 0, .string ⟨#[]⟩, .int .i64 0, .int .i64 0, .int .i64 0, .int .i64 0, .string ⟨#[]⟩, .slice none 0 0, .int .i64 0, .int .i64 0, .int .i64 0, .int .i64 0, .int .i64 0, .int .i64 0, .int .i64 0, .int .i64 0, .int .i64 0, .int .i64 0, .int .i64 0, .int .i64 0, .int .i64 0, .int .i64 0, .int .i64 0, .int .i64 0, .int .i64 0, .int .i64 0, .int .i64 0] rfl
    have ga := (Grow.refl wr1).alloc (.cells #[.int .i64 0, .int .i64 0, .int .i64 0, .int .i64 0, .int .i64 0, .int .i64 0, .int .i64 0, .string ⟨#[]⟩, .int .i64 0, .int .i64 0, .int .i64 0, .string ⟨#[]⟩, .string ⟨#[]⟩, .int .i64 0, .int .i64 0, .int .i64 0, .int .i64 0, .string ⟨#[]⟩, .int .i64 0, .int .i64 0, .int .i64 0, .int .i64 0, .string ⟨#[]⟩, .slice none 0 0, .int .i64 0, .int .i64 0, .int .i64 0, .int .i64 0, .int .i64 0, .int .i64 0, .int .i64 0, .int .i64 0, .int .i64 0, .int .i64 0, .int .i64 0, .int .i64 0, .int .i64 0, .int .i64 0, .int .i64 0, .int .i64 0, .int .i64 0, .int .i64 0, .int .i64 0] 35)
    refine wpList_allocTo rfl (some 3) rfl (.pointer (some ⟨wr1.heap.size, 0, none⟩)) (.cells #[.int .i64 0, .int .i64 0, .int .i64 0, .int .i64 0, .int .i64 0, .int .i64 0, .int .i64 0, .string ⟨#[]⟩, .int .i64 0, .int .i64 0, .int .i64 0, .string ⟨#[]⟩, .string ⟨#[]⟩, .int .i64 0, .int .i64 0, .int .i64 0, .int .i64 0, .string ⟨#[]⟩, .int .i64 0, .int .i64 0, .int .i64 0, .int .i64 0, .string ⟨#[]⟩, .slice none 0 0, .int .i64 0, .int .i64 0, .int .i64 0, .int .i64 0, .int .i64 0, .int .i64 0, .int .i64 0, .int .i64 0, .int .i64 0, .int .i64 0, .int .i64 0, .int .i64 0, .int .i64 0, .int .i64 0, .int .i64 0, .int .i64 0, .int .i64 0, .int .i64 0, .int .i64 0] 35) (by kernel_rfl) ?_
    go_simp
    obtain ⟨wa1, hwa⟩ : ∃ z, z = wr1.alloc (.cells #[.int .i64 0, .int .i64 0, .int .i64 0, .int .i64 0, .int .i64 0, .int .i64 0, .int .i64 0, .string ⟨#[]⟩, .int .i64 0, .int .i64 0, .int .i64 0, .string ⟨#[]⟩, .string ⟨#[]⟩, .int .i64 0, .int .i64 0, .int .i64 0, .int .i64 0, .string ⟨#[]⟩, .int .i64 0, .int .i64 0, .int .i64 0, .int .i64 0, .string ⟨#[]⟩, .slice none 0 0, .int .i64 0, .int .i64 0, .int .i64 0, .int .i64 0, .int .i64 0, .int .i64 0, .int .i64 0, .int .i64 0, .int .i64 0, .int .i64 0, .int .i64 0, .int .i64 0, .int .i64 0, .int .i64 0, .int .i64 0, .int .i64 0, .int .i64 0, .int .i64 0, .int .i64 0] 35) := ⟨_, rfl⟩
    obtain ⟨y1, hy⟩ : ∃ z, z = wr1.heap.size := ⟨_, rfl⟩
    rw [← hwa] at hy0 ga ⊢
    rw [← hy] at hy0 ⊢
    refine wpList_storeRow rfl 35 (.tmp 3) (.tmp 22) rfl rfl y1 rfl (V1.cells nv) zP rfl hy0 rfl pk_size (PK.one _ os6.one) ?_
    intro w1 r8 t8 z8
    have G1 : Grow W w1 := (g6.trans ga).low (t8.low (B := W.heap.size) (fun i e => by have := g6.size; have e' : i = y1 := e; omega) (g6.trans ga).size)
    have OS8 : OS w1 W.heap.size nv V1.names := row_turnW (os6.keep ga) t8 (fun k e q => by have := (World.ownsRow.lt os6 k e).2; have q' : k = y1 := q; omega)
    obtain ⟨AN1, cN1, rfl, hrs⟩ := RS.of_OS OS8
    have HNB1 := Lib.hid (show ∀ z, AN1 = some z → W.heap.size ≤ z.block ∧ z.block < y1 from fun z hz => by
      subst hz
      rw [hy]
      exact World.ownsRow.lt os6 z.block rfl)
    have HOS1 := Lib.hid OS8
    obtain ⟨k1, hk1⟩ : ∃ z, z = V1.names.length := ⟨_, rfl⟩
    rw [← hk1] at hrs r8
    have HK1 := Lib.hid hk1
    have HY1 := Lib.hid r8
    have HN1 := Lib.hid hrs
    have hyl1 : y1 < w1.heap.size := r8.1.1
    have hyw1 : W.heap.size ≤ y1 := by rw [hy]; exact g6.size
    replace HS := Lib.hid (HS.out.keep G1)
    clear g6 ga hy0 hy hwa os6 OS8 hrs r8 t8 z8 hk1
    go_upto_region 4 with (fail)
    have hread := m_read HS.out hmc (by omega) HS.out.blk
    obtain ⟨V2, hV2⟩ : ∃ z, z = rdV b0 := ⟨_, rfl⟩
    obtain ⟨E2, hE2⟩ : ∃ z, z = rdE b0 := ⟨_, rfl⟩
    rw [← hV2, ← hE2] at hread
    have HV2 := Lib.hid hV2
    have HE2 := Lib.hid hE2
    clear hV2 hE2
    refine wp_region_list ?_
    refine wpList_runTo rfl (some 25) rfl (.slice A m cc) w1 (by first | rfl | go_simp) ?_
    refine wpList_callC rfl (some 26) rfl 15 #[.slice A m cc] (by first | rfl | go_simp) _ hread (fun e w' h => by rcases h with ⟨nv, h, -⟩; exact ⟨_, h⟩) ?_
    rintro v wr2 ⟨nv, he, g6, os6⟩
    obtain rfl : v = .tuple #[.agg (V2.cells nv).toArray, .int .i64 E2] := by injection he
    clear he hread
    go_simp
    refine wpList_runTo rfl (some 24) rfl (.tuple #[.agg (V2.cells nv).toArray, .int .i64 E2]) wr2 (by first | rfl | go_simp) ?_
    refine wpList_runTo rfl (some 27) rfl (.agg (V2.cells nv).toArray) wr2 (by go_simp) ?_
    go_simp
    refine wpList_runTo rfl (some 28) rfl (.int .i64 E2) wr2 (by go_simp) ?_
    have hy0 := Row.new wr2 35 zP #[.int .i64 0, .int .i64 0, .int .i64 0, .int .i64 0, .int .i64 0, .int .i64 0, .int .i64 0, .string ⟨#[]⟩, .int .i64 0, .int .i64 0, .int .i64 0, .string ⟨#[]⟩, .string ⟨#[]⟩, .int .i64 0, .int .i64 0, .int .i64 0, .int .i64 0, .string ⟨#[]⟩, .int .i64 0, .int .i64 0, .int .i64 0, .int .i64 0, .string ⟨#[]⟩, .slice none 0 0, .int .i64 0, .int .i64 0, .int .i64 0, .int .i64 0, .int .i64 0, .int .i64 0, .int .i64 0, .int .i64 0, .int .i64 0, .int .i64 0, .int .i64 0, .int .i64 0, .int .i64 0, .int .i64 0, .int .i64 0, .int .i64 0, .int .i64 0, .int .i64 0, .int .i64 0] rfl
    have ga := (Grow.refl wr2).alloc (.cells #[.int .i64 0, .int .i64 0, .int .i64 0, .int .i64 0, .int .i64 0, .int .i64 0, .int .i64 0, .string ⟨#[]⟩, .int .i64 0, .int .i64 0, .int .i64 0, .string ⟨#[]⟩, .string ⟨#[]⟩, .int .i64 0, .int .i64 0, .int .i64 0, .int .i64 0, .string ⟨#[]⟩, .int .i64 0, .int .i64 0, .int .i64 0, .int .i64 0, .string ⟨#[]⟩, .slice none 0 0, .int .i64 0, .int .i64 0, .int .i64 0, .int .i64 0, .int .i64 0, .int .i64 0, .int .i64 0, .int .i64 0, .int .i64 0, .int .i64 0, .int .i64 0, .int .i64 0, .int .i64 0, .int .i64 0, .int .i64 0, .int .i64 0, .int .i64 0, .int .i64 0, .int .i64 0] 35)
    refine wpList_allocTo rfl (some 5) rfl (.pointer (some ⟨wr2.heap.size, 0, none⟩)) (.cells #[.int .i64 0, .int .i64 0, .int .i64 0, .int .i64 0, .int .i64 0, .int .i64 0, .int .i64 0, .string ⟨#[]⟩, .int .i64 0, .int .i64 0, .int .i64 0, .string ⟨#[]⟩, .string ⟨#[]⟩, .int .i64 0, .int .i64 0, .int .i64 0, .int .i64 0, .string ⟨#[]⟩, .int .i64 0, .int .i64 0, .int .i64 0, .int .i64 0, .string ⟨#[]⟩, .slice none 0 0, .int .i64 0, .int .i64 0, .int .i64 0, .int .i64 0, .int .i64 0, .int .i64 0, .int .i64 0, .int .i64 0, .int .i64 0, .int .i64 0, .int .i64 0, .int .i64 0, .int .i64 0, .int .i64 0, .int .i64 0, .int .i64 0, .int .i64 0, .int .i64 0, .int .i64 0] 35) (by kernel_rfl) ?_
    go_simp
    obtain ⟨wa2, hwa⟩ : ∃ z, z = wr2.alloc (.cells #[.int .i64 0, .int .i64 0, .int .i64 0, .int .i64 0, .int .i64 0, .int .i64 0, .int .i64 0, .string ⟨#[]⟩, .int .i64 0, .int .i64 0, .int .i64 0, .string ⟨#[]⟩, .string ⟨#[]⟩, .int .i64 0, .int .i64 0, .int .i64 0, .int .i64 0, .string ⟨#[]⟩, .int .i64 0, .int .i64 0, .int .i64 0, .int .i64 0, .string ⟨#[]⟩, .slice none 0 0, .int .i64 0, .int .i64 0, .int .i64 0, .int .i64 0, .int .i64 0, .int .i64 0, .int .i64 0, .int .i64 0, .int .i64 0, .int .i64 0, .int .i64 0, .int .i64 0, .int .i64 0, .int .i64 0, .int .i64 0, .int .i64 0, .int .i64 0, .int .i64 0, .int .i64 0] 35) := ⟨_, rfl⟩
    obtain ⟨y2, hy⟩ : ∃ z, z = wr2.heap.size := ⟨_, rfl⟩
    rw [← hwa] at hy0 ga ⊢
    rw [← hy] at hy0 ⊢
    refine wpList_storeRow rfl 35 (.tmp 5) (.tmp 27) rfl rfl y2 rfl (V2.cells nv) zP rfl hy0 rfl pk_size (PK.one _ os6.one) ?_
    intro w2 r8 t8 z8
    have G2 : Grow w1 w2 := (g6.trans ga).low (t8.low (B := w1.heap.size) (fun i e => by have := g6.size; have e' : i = y2 := e; omega) (g6.trans ga).size)
    have OS8 : OS w2 w1.heap.size nv V2.names := row_turnW (os6.keep ga) t8 (fun k e q => by have := (World.ownsRow.lt os6 k e).2; have q' : k = y2 := q; omega)
    obtain ⟨AN2, cN2, rfl, hrs⟩ := RS.of_OS OS8
    have HNB2 := Lib.hid (show ∀ z, AN2 = some z → w1.heap.size ≤ z.block ∧ z.block < y2 from fun z hz => by
      subst hz
      rw [hy]
      exact World.ownsRow.lt os6 z.block rfl)
    have HOS2 := Lib.hid OS8
    obtain ⟨k2, hk2⟩ : ∃ z, z = V2.names.length := ⟨_, rfl⟩
    rw [← hk2] at hrs r8
    have HK2 := Lib.hid hk2
    have HY2 := Lib.hid r8
    have HN2 := Lib.hid hrs
    have hyl2 : y2 < w2.heap.size := r8.1.1
    have hyw2 : w1.heap.size ≤ y2 := by rw [hy]; exact g6.size
    replace HS := Lib.hid (HS.out.keep G2)
    replace HY1 := Lib.hid (HY1.out.keep G2)
    replace HN1 := Lib.hid (HN1.out.grow G2)
    clear g6 ga hy0 hy hwa os6 OS8 hrs r8 t8 z8 hk2
    go_upto_region 5 with (fail)
    have hsame := m_sameK (c := cN1) (c' := cN2) V1 V2 HK1.out HK2.out HN1.out HN2.out (HV1.out ▸ rdV_ok b0) (HV2.out ▸ rdV_ok b0)
    refine wp_region_list ?_
    refine wpList_loadRow rfl 35 (.tmp 3) rfl (some 29) rfl y1 rfl (V1.cells (.slice AN1 k1 cN1)) _ HY1.out.1 Try.underlying35 rfl pk_size ?_
    go_simp
    refine wpList_loadRow rfl 35 (.tmp 5) rfl (some 30) rfl y2 rfl (V2.cells (.slice AN2 k2 cN2)) _ HY2.out.1 Try.underlying35 rfl pk_size ?_
    go_simp
    refine wpList_callC rfl (some 31) rfl 16 #[.agg (V1.cells (.slice AN1 k1 cN1)).toArray, .agg (V2.cells (.slice AN2 k2 cN2)).toArray] (by first | rfl | go_simp) _ hsame (fun e w' h => by obtain ⟨_, h, -⟩ := h; exact ⟨_, h⟩) ?_
    rintro v w3 ⟨b3, he, HB3, G3⟩
    obtain rfl : v = .bool b3 := by injection he
    replace HS := Lib.hid (HS.out.keep G3)
    clear he hsame
    have HBG := Lib.hid (show Grow W w3 from Grow.trans (Grow.trans G1 G2) G3)
    obtain rfl : b3 = true := by rw [HB3.out, decide_eq_true]; rw [HV1.out, HV2.out]
    have HEE := Lib.hid (show E1 = E2 from HE1.out.trans HE2.out.symm)
    clear G1 G2 G3 HY1 HN1 HY2 HN2 HOS1 HOS2
    go_wp2_with fail
    refine (m_sealed HS.out (by omega)).mono ?_
    rintro e w4 ⟨A4, c4, rfl, ho4, g4⟩
    have HO4 := Lib.hid ho4
    have HB4 := Lib.hid (Grow.trans HBG.out g4)
    obtain ⟨z0, hz0⟩ : ∃ z, z = sumB b0 := ⟨_, rfl⟩
    rw [← hz0] at HO4
    clear ho4 g4 hz0
    go_upto_region 7 with (fail)
    have hread := w_read HO4.out.sl HO4.out.cap (by omega) HO4.out.sl.blk
    obtain ⟨V5, hV5⟩ : ∃ z, z = rdV z0 := ⟨_, rfl⟩
    obtain ⟨E5, hE5⟩ : ∃ z, z = rdE z0 := ⟨_, rfl⟩
    rw [← hV5, ← hE5] at hread
    have HV5 := Lib.hid hV5
    have HE5 := Lib.hid hE5
    clear hV5 hE5
    refine wp_region_list ?_
    refine wpList_runTo rfl (some 35) rfl (.slice A4 (m + 4) c4) w4 (by first | rfl | go_simp) ?_
    refine wpList_callC rfl (some 36) rfl 14 #[.slice A4 (m + 4) c4] (by first | rfl | go_simp) _ hread (fun e w' h => by rcases h with ⟨nv, h, -⟩; exact ⟨_, h⟩) ?_
    rintro v wr5 ⟨nv, he, g6, os6⟩
    obtain rfl : v = .tuple #[.agg (V5.cells nv).toArray, .int .i64 E5] := by injection he
    clear he hread
    go_simp
    refine wpList_runTo rfl (some 34) rfl (.tuple #[.agg (V5.cells nv).toArray, .int .i64 E5]) wr5 (by first | rfl | go_simp) ?_
    refine wpList_runTo rfl (some 37) rfl (.agg (V5.cells nv).toArray) wr5 (by go_simp) ?_
    go_simp
    refine wpList_runTo rfl (some 38) rfl (.int .i64 E5) wr5 (by go_simp) ?_
    have hy0 := Row.new wr5 35 zP #[.int .i64 0, .int .i64 0, .int .i64 0, .int .i64 0, .int .i64 0, .int .i64 0, .int .i64 0, .string ⟨#[]⟩, .int .i64 0, .int .i64 0, .int .i64 0, .string ⟨#[]⟩, .string ⟨#[]⟩, .int .i64 0, .int .i64 0, .int .i64 0, .int .i64 0, .string ⟨#[]⟩, .int .i64 0, .int .i64 0, .int .i64 0, .int .i64 0, .string ⟨#[]⟩, .slice none 0 0, .int .i64 0, .int .i64 0, .int .i64 0, .int .i64 0, .int .i64 0, .int .i64 0, .int .i64 0, .int .i64 0, .int .i64 0, .int .i64 0, .int .i64 0, .int .i64 0, .int .i64 0, .int .i64 0, .int .i64 0, .int .i64 0, .int .i64 0, .int .i64 0, .int .i64 0] rfl
    have ga := (Grow.refl wr5).alloc (.cells #[.int .i64 0, .int .i64 0, .int .i64 0, .int .i64 0, .int .i64 0, .int .i64 0, .int .i64 0, .string ⟨#[]⟩, .int .i64 0, .int .i64 0, .int .i64 0, .string ⟨#[]⟩, .string ⟨#[]⟩, .int .i64 0, .int .i64 0, .int .i64 0, .int .i64 0, .string ⟨#[]⟩, .int .i64 0, .int .i64 0, .int .i64 0, .int .i64 0, .string ⟨#[]⟩, .slice none 0 0, .int .i64 0, .int .i64 0, .int .i64 0, .int .i64 0, .int .i64 0, .int .i64 0, .int .i64 0, .int .i64 0, .int .i64 0, .int .i64 0, .int .i64 0, .int .i64 0, .int .i64 0, .int .i64 0, .int .i64 0, .int .i64 0, .int .i64 0, .int .i64 0, .int .i64 0] 35)
    refine wpList_allocTo rfl (some 9) rfl (.pointer (some ⟨wr5.heap.size, 0, none⟩)) (.cells #[.int .i64 0, .int .i64 0, .int .i64 0, .int .i64 0, .int .i64 0, .int .i64 0, .int .i64 0, .string ⟨#[]⟩, .int .i64 0, .int .i64 0, .int .i64 0, .string ⟨#[]⟩, .string ⟨#[]⟩, .int .i64 0, .int .i64 0, .int .i64 0, .int .i64 0, .string ⟨#[]⟩, .int .i64 0, .int .i64 0, .int .i64 0, .int .i64 0, .string ⟨#[]⟩, .slice none 0 0, .int .i64 0, .int .i64 0, .int .i64 0, .int .i64 0, .int .i64 0, .int .i64 0, .int .i64 0, .int .i64 0, .int .i64 0, .int .i64 0, .int .i64 0, .int .i64 0, .int .i64 0, .int .i64 0, .int .i64 0, .int .i64 0, .int .i64 0, .int .i64 0, .int .i64 0] 35) (by kernel_rfl) ?_
    go_simp
    obtain ⟨wa5, hwa⟩ : ∃ z, z = wr5.alloc (.cells #[.int .i64 0, .int .i64 0, .int .i64 0, .int .i64 0, .int .i64 0, .int .i64 0, .int .i64 0, .string ⟨#[]⟩, .int .i64 0, .int .i64 0, .int .i64 0, .string ⟨#[]⟩, .string ⟨#[]⟩, .int .i64 0, .int .i64 0, .int .i64 0, .int .i64 0, .string ⟨#[]⟩, .int .i64 0, .int .i64 0, .int .i64 0, .int .i64 0, .string ⟨#[]⟩, .slice none 0 0, .int .i64 0, .int .i64 0, .int .i64 0, .int .i64 0, .int .i64 0, .int .i64 0, .int .i64 0, .int .i64 0, .int .i64 0, .int .i64 0, .int .i64 0, .int .i64 0, .int .i64 0, .int .i64 0, .int .i64 0, .int .i64 0, .int .i64 0, .int .i64 0, .int .i64 0] 35) := ⟨_, rfl⟩
    obtain ⟨y5, hy⟩ : ∃ z, z = wr5.heap.size := ⟨_, rfl⟩
    rw [← hwa] at hy0 ga ⊢
    rw [← hy] at hy0 ⊢
    refine wpList_storeRow rfl 35 (.tmp 9) (.tmp 37) rfl rfl y5 rfl (V5.cells nv) zP rfl hy0 rfl pk_size (PK.one _ os6.one) ?_
    intro w5 r8 t8 z8
    have G5 : Grow w4 w5 := (g6.trans ga).low (t8.low (B := w4.heap.size) (fun i e => by have := g6.size; have e' : i = y5 := e; omega) (g6.trans ga).size)
    have OS8 : OS w5 w4.heap.size nv V5.names := row_turnW (os6.keep ga) t8 (fun k e q => by have := (World.ownsRow.lt os6 k e).2; have q' : k = y5 := q; omega)
    obtain ⟨AN5, cN5, rfl, hrs⟩ := RS.of_OS OS8
    have HNB5 := Lib.hid (show ∀ z, AN5 = some z → w4.heap.size ≤ z.block ∧ z.block < y5 from fun z hz => by
      subst hz
      rw [hy]
      exact World.ownsRow.lt os6 z.block rfl)
    have HOS5 := Lib.hid OS8
    obtain ⟨k5, hk5⟩ : ∃ z, z = V5.names.length := ⟨_, rfl⟩
    rw [← hk5] at hrs r8
    have HK5 := Lib.hid hk5
    have HY5 := Lib.hid r8
    have HN5 := Lib.hid hrs
    have hyl5 : y5 < w5.heap.size := r8.1.1
    have hyw5 : w4.heap.size ≤ y5 := by rw [hy]; exact g6.size
    replace HO4 := Lib.hid (HO4.out.keepW G5)
    clear g6 ga hy0 hy hwa os6 OS8 hrs r8 t8 z8 hk5
    go_upto_region 8 with (fail)
    have hread := m_read HO4.out.sl HO4.out.cap (by omega) HO4.out.sl.blk
    obtain ⟨V6, hV6⟩ : ∃ z, z = rdV z0 := ⟨_, rfl⟩
    obtain ⟨E6, hE6⟩ : ∃ z, z = rdE z0 := ⟨_, rfl⟩
    rw [← hV6, ← hE6] at hread
    have HV6 := Lib.hid hV6
    have HE6 := Lib.hid hE6
    clear hV6 hE6
    refine wp_region_list ?_
    refine wpList_runTo rfl (some 40) rfl (.slice A4 (m + 4) c4) w5 (by first | rfl | go_simp) ?_
    refine wpList_callC rfl (some 41) rfl 15 #[.slice A4 (m + 4) c4] (by first | rfl | go_simp) _ hread (fun e w' h => by rcases h with ⟨nv, h, -⟩; exact ⟨_, h⟩) ?_
    rintro v wr6 ⟨nv, he, g6, os6⟩
    obtain rfl : v = .tuple #[.agg (V6.cells nv).toArray, .int .i64 E6] := by injection he
    clear he hread
    go_simp
    refine wpList_runTo rfl (some 39) rfl (.tuple #[.agg (V6.cells nv).toArray, .int .i64 E6]) wr6 (by first | rfl | go_simp) ?_
    refine wpList_runTo rfl (some 42) rfl (.agg (V6.cells nv).toArray) wr6 (by go_simp) ?_
    go_simp
    refine wpList_runTo rfl (some 43) rfl (.int .i64 E6) wr6 (by go_simp) ?_
    have hy0 := Row.new wr6 35 zP #[.int .i64 0, .int .i64 0, .int .i64 0, .int .i64 0, .int .i64 0, .int .i64 0, .int .i64 0, .string ⟨#[]⟩, .int .i64 0, .int .i64 0, .int .i64 0, .string ⟨#[]⟩, .string ⟨#[]⟩, .int .i64 0, .int .i64 0, .int .i64 0, .int .i64 0, .string ⟨#[]⟩, .int .i64 0, .int .i64 0, .int .i64 0, .int .i64 0, .string ⟨#[]⟩, .slice none 0 0, .int .i64 0, .int .i64 0, .int .i64 0, .int .i64 0, .int .i64 0, .int .i64 0, .int .i64 0, .int .i64 0, .int .i64 0, .int .i64 0, .int .i64 0, .int .i64 0, .int .i64 0, .int .i64 0, .int .i64 0, .int .i64 0, .int .i64 0, .int .i64 0, .int .i64 0] rfl
    have ga := (Grow.refl wr6).alloc (.cells #[.int .i64 0, .int .i64 0, .int .i64 0, .int .i64 0, .int .i64 0, .int .i64 0, .int .i64 0, .string ⟨#[]⟩, .int .i64 0, .int .i64 0, .int .i64 0, .string ⟨#[]⟩, .string ⟨#[]⟩, .int .i64 0, .int .i64 0, .int .i64 0, .int .i64 0, .string ⟨#[]⟩, .int .i64 0, .int .i64 0, .int .i64 0, .int .i64 0, .string ⟨#[]⟩, .slice none 0 0, .int .i64 0, .int .i64 0, .int .i64 0, .int .i64 0, .int .i64 0, .int .i64 0, .int .i64 0, .int .i64 0, .int .i64 0, .int .i64 0, .int .i64 0, .int .i64 0, .int .i64 0, .int .i64 0, .int .i64 0, .int .i64 0, .int .i64 0, .int .i64 0, .int .i64 0] 35)
    refine wpList_allocTo rfl (some 11) rfl (.pointer (some ⟨wr6.heap.size, 0, none⟩)) (.cells #[.int .i64 0, .int .i64 0, .int .i64 0, .int .i64 0, .int .i64 0, .int .i64 0, .int .i64 0, .string ⟨#[]⟩, .int .i64 0, .int .i64 0, .int .i64 0, .string ⟨#[]⟩, .string ⟨#[]⟩, .int .i64 0, .int .i64 0, .int .i64 0, .int .i64 0, .string ⟨#[]⟩, .int .i64 0, .int .i64 0, .int .i64 0, .int .i64 0, .string ⟨#[]⟩, .slice none 0 0, .int .i64 0, .int .i64 0, .int .i64 0, .int .i64 0, .int .i64 0, .int .i64 0, .int .i64 0, .int .i64 0, .int .i64 0, .int .i64 0, .int .i64 0, .int .i64 0, .int .i64 0, .int .i64 0, .int .i64 0, .int .i64 0, .int .i64 0, .int .i64 0, .int .i64 0] 35) (by kernel_rfl) ?_
    go_simp
    obtain ⟨wa6, hwa⟩ : ∃ z, z = wr6.alloc (.cells #[.int .i64 0, .int .i64 0, .int .i64 0, .int .i64 0, .int .i64 0, .int .i64 0, .int .i64 0, .string ⟨#[]⟩, .int .i64 0, .int .i64 0, .int .i64 0, .string ⟨#[]⟩, .string ⟨#[]⟩, .int .i64 0, .int .i64 0, .int .i64 0, .int .i64 0, .string ⟨#[]⟩, .int .i64 0, .int .i64 0, .int .i64 0, .int .i64 0, .string ⟨#[]⟩, .slice none 0 0, .int .i64 0, .int .i64 0, .int .i64 0, .int .i64 0, .int .i64 0, .int .i64 0, .int .i64 0, .int .i64 0, .int .i64 0, .int .i64 0, .int .i64 0, .int .i64 0, .int .i64 0, .int .i64 0, .int .i64 0, .int .i64 0, .int .i64 0, .int .i64 0, .int .i64 0] 35) := ⟨_, rfl⟩
    obtain ⟨y6, hy⟩ : ∃ z, z = wr6.heap.size := ⟨_, rfl⟩
    rw [← hwa] at hy0 ga ⊢
    rw [← hy] at hy0 ⊢
    refine wpList_storeRow rfl 35 (.tmp 11) (.tmp 42) rfl rfl y6 rfl (V6.cells nv) zP rfl hy0 rfl pk_size (PK.one _ os6.one) ?_
    intro w6 r8 t8 z8
    have G6 : Grow w5 w6 := (g6.trans ga).low (t8.low (B := w5.heap.size) (fun i e => by have := g6.size; have e' : i = y6 := e; omega) (g6.trans ga).size)
    have OS8 : OS w6 w5.heap.size nv V6.names := row_turnW (os6.keep ga) t8 (fun k e q => by have := (World.ownsRow.lt os6 k e).2; have q' : k = y6 := q; omega)
    obtain ⟨AN6, cN6, rfl, hrs⟩ := RS.of_OS OS8
    have HNB6 := Lib.hid (show ∀ z, AN6 = some z → w5.heap.size ≤ z.block ∧ z.block < y6 from fun z hz => by
      subst hz
      rw [hy]
      exact World.ownsRow.lt os6 z.block rfl)
    have HOS6 := Lib.hid OS8
    obtain ⟨k6, hk6⟩ : ∃ z, z = V6.names.length := ⟨_, rfl⟩
    rw [← hk6] at hrs r8
    have HK6 := Lib.hid hk6
    have HY6 := Lib.hid r8
    have HN6 := Lib.hid hrs
    have hyl6 : y6 < w6.heap.size := r8.1.1
    have hyw6 : w5.heap.size ≤ y6 := by rw [hy]; exact g6.size
    replace HO4 := Lib.hid (HO4.out.keepW G6)
    replace HY5 := Lib.hid (HY5.out.keep G6)
    replace HN5 := Lib.hid (HN5.out.grow G6)
    clear g6 ga hy0 hy hwa os6 OS8 hrs r8 t8 z8 hk6
    go_upto_region 9 with (fail)
    have hsame := m_sameK (c := cN5) (c' := cN6) V5 V6 HK5.out HK6.out HN5.out HN6.out (HV5.out ▸ rdV_ok z0) (HV6.out ▸ rdV_ok z0)
    refine wp_region_list ?_
    refine wpList_loadRow rfl 35 (.tmp 9) rfl (some 44) rfl y5 rfl (V5.cells (.slice AN5 k5 cN5)) _ HY5.out.1 Try.underlying35 rfl pk_size ?_
    go_simp
    refine wpList_loadRow rfl 35 (.tmp 11) rfl (some 45) rfl y6 rfl (V6.cells (.slice AN6 k6 cN6)) _ HY6.out.1 Try.underlying35 rfl pk_size ?_
    go_simp
    refine wpList_callC rfl (some 46) rfl 16 #[.agg (V5.cells (.slice AN5 k5 cN5)).toArray, .agg (V6.cells (.slice AN6 k6 cN6)).toArray] (by first | rfl | go_simp) _ hsame (fun e w' h => by obtain ⟨_, h, -⟩ := h; exact ⟨_, h⟩) ?_
    rintro v w7 ⟨b7, he, HB7, G7⟩
    obtain rfl : v = .bool b7 := by injection he

    clear he hsame
    have HB7' := Lib.hid (show Grow W w7 from Grow.trans HB4.out (Grow.trans (Grow.trans G5 G6) G7))
    obtain rfl : b7 = true := by rw [HB7.out, decide_eq_true]; rw [HV5.out, HV6.out]
    have HEF := Lib.hid (show E5 = E6 from HE5.out.trans HE6.out.symm)
    clear G5 G6 G7 HY5 HN5 HY6 HN6 HOS5 HOS6 HE5 HE6 HE1 HE2
    have z1 : (E1 == E2) = true := by rw [HEE.out]; exact beq_self_eq_true _
    have z2 : (E5 == E6) = true := by rw [HEF.out]; exact beq_self_eq_true _
    go_wp2_with fail
    refine (lives7 _).mono ?_
    rintro e w8 ⟨rfl, g8⟩
    have HB8 := Lib.hid (Grow.trans HB7'.out g8)
    clear g8
    go_wp2_with fail
    go_ret
    exact ⟨rfl, HB8.out⟩
end Go.Proofs.Ytgjcpchlijpjmaa
